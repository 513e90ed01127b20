/- Lemmas that the claim needs, in order. Conditions: those of each lemma. -/
import Derived.Test.YtjmdoiakcakfoaaWd
set_option maxRecDepth 100000
namespace Go.Ax
def WrL (H:Heap) (a:Addr) (vs:List Value) (Q:Heap → Prop):Prop :=
  ∃ (cur:Array Value) (T:TypeId),H a.block = some (.cells cur T (0,0)) ∧ a.spot = none ∧ a.off + vs.length ≤ cur.size ∧ ∀ H1,H1 = H.upd a.block (.cells (splice cur a.off vs) T (0,0)) → Q H1
theorem zip_set {α β:Type}:∀ (l:List α) (k:List β) (i:Nat) (x:α) (y:β),(l.set i x).zip (k.set i y) = (l.zip k).set i (x,y)
  | [],_,_,_,_=>by simp
  | _ :: _,[],_,_,_=>by simp
  | a :: l,b :: k,0,x,y=>rfl
  | a :: l,b :: k,i + 1,x,y=>by rw [List.set_cons_succ,List.set_cons_succ,List.zip_cons_cons,List.zip_cons_cons,List.set_cons_succ,zip_set l k i x y]
theorem flat_setL {α:Type} {cells:α → List Value} {sz:Nat} (hsz:∀ x,(cells x).length = sz):∀ (l:List α) (i:Nat) (y:α),i < l.length → (l.set i y).flatMap cells = (l.flatMap cells).take (i * sz) ++ cells y ++ (l.flatMap cells).drop (i * sz + sz)
  | [],i,y,h=>by simp at h
  | z :: l,0,y,_=>by
    rw [List.set_cons_zero,List.flatMap_cons,List.flatMap_cons,Nat.zero_mul,Nat.zero_add,List.take_zero,List.nil_append]
    congr 1
    rw [← hsz z,List.drop_left]
  | z :: l,i + 1,y,h=>by
    rw [List.set_cons_succ,List.flatMap_cons,List.flatMap_cons,flat_setL hsz l i y (by simpa using h)]
    have e:(i + 1) * sz = (cells z).length + i * sz:=by rw [hsz,Nat.add_mul]; omega
    rw [e,Nat.add_assoc,List.take_length_add_append,List.drop_length_add_append]
    simp [List.append_assoc]
end Go.Ax
namespace Go.Proofs.Ytjmdoiakcakfoaa
open Go.Ax
section
variable {G H:Heap} {m:Nat} {pf po:SlH} {sl:Nat → SlH} {F:Heap} {ex:Value} {st:List SlH} {s:VS}
theorem VMX.putL (h : VMX G H m pf po sl F ex st s) {c : Nat} (hc : c < 14) {a : Addr} (ha : (sl c).A = some a) {k : Nat} {vs : List Value} (hk : k + vs.length ≤ (contC sl st s c).length) (s' : VS) (st' : List SlH)
    (e0:contC sl st' s' c = (contC sl st s c).take k ++ vs ++ (contC sl st s c).drop (k + vs.length)) (ec:∀ c',c' < 14 → c' ≠ c → contC sl st' s' c' = contC sl st s c') (em:mCells pf po sl ex s' = mCells pf po sl ex s) (e7:s'.expect = s.expect) (e8:s'.vars.length = 16) (e9:s'.attrs.length = 4) (e10:s'.signals.length = 8)
    (e11:st'.length = s'.threads.length) (e12:∀ (j:Nat) (t:Thr) (q:SlH),s'.threads[j]? = some t → st'[j]? = some q → HasL (dif F G) q t.stack)
    {Q:Heap → Prop} (q:∀ H',VMX G H' m pf po sl F ex st' s' → Q H'):WrL H (a.add k) vs Q:=by
  have ok:=h.ok c hc
  have hlen:=ok.len
  rcases ok.at_ with ⟨a1,_⟩ | ⟨b,off,cur,T,a1,a2,a3,a4⟩
  · rw [a1] at ha; cases ha
  · rw [a1] at ha; cases ha
    have b0:((⟨b,off,none⟩:Addr).add k).block = b:=by unfold Addr.add; split <;> rfl
    have o0:((⟨b,off,none⟩:Addr).add k).off = off + k:=by unfold Addr.add; split <;> simp_all
    have s0:((⟨b,off,none⟩:Addr).add k).spot = none:=by unfold Addr.add; split <;> rfl
    unfold WrL
    rw [b0,o0,s0]
    have hcap:(sl c).n * szC c ≤ (sl c).c * szC c:=Nat.mul_le_mul_right _ ok.cap
    have hsz:off + k + vs.length ≤ cur.size:=by omega
    have hblk:(sl c).blk = some b:=by unfold SlH.blk; rw [a1]; rfl
    have fr:=h.free_own hc hblk
    refine ⟨cur,T,a2,rfl,hsz,fun H1 e=>q H1 ?_⟩
    subst e
    refine ⟨h.gf,⟨fun i o ho=>?_⟩,h.fm,by rw [Heap.upd_other (fun e=>fr.m e.symm),em]; exact h.hm,h.own,h.inj,fun c' hc'=>?_,e11,e12,e8,e9,e10,⟨fun q=>h.exp.none_ (by rw [← e7]; exact q),fun l hl=>?_⟩⟩
    · rw [Heap.upd_other (fun e=>by subst e; rw [fr.f] at ho; cases ho)]; exact h.fh.sub _ _ ho
    · by_cases hcc:c' = c
      · subst hcc
        rw [e0]
        refine ⟨by simp only [List.length_append,List.length_take,List.length_drop]; omega,ok.cap,.inr ⟨b,off,_,T,a1,Heap.upd_same,by rw [splice_size hsz]; exact a3,fun j u hu=>?_⟩⟩
        rw [splice_get hsz]
        by_cases h1:j < k
        · rw [if_pos (by omega)]
          rw [List.append_assoc,List.getElem?_append_left (by rw [List.length_take]; omega),List.getElem?_take,if_pos h1] at hu
          exact a4 j u hu
        · rw [if_neg (by omega)]
          by_cases h2:j < k + vs.length
          · rw [if_pos (by omega)]
            rw [List.append_assoc,List.getElem?_append_right (by rw [List.length_take]; omega),List.getElem?_append_left (by rw [List.length_take]; omega),List.length_take] at hu
            rw [← hu]; congr 1; omega
          · rw [if_neg (by omega)]
            have hlt:=get_lt hu
            rw [List.getElem?_append_right (by simp only [List.length_append,List.length_take]; omega),List.getElem?_drop] at hu
            simp only [List.length_append,List.length_take] at hu
            have:=a4 j u (by rw [← hu]; congr 1; omega)
            exact this
      · rw [ec c' hc' hcc]
        exact (h.ok c' hc').mono fun b' hb'=>Heap.upd_other fun e=>by subst e; exact hcc (fr.sl c' hc' hb')
    · rw [e7] at hl
      obtain ⟨xb,A,n,c2,T2,q1,q2,q3,q4,q5,q6,q7⟩:=h.exp.some_ l hl
      exact ⟨xb,A,n,c2,T2,q1,by rw [Heap.upd_other (fr.x xb q1)]; exact q2,q3,q4,q5,q6,q7⟩
theorem VMX.wrThr (h : VMX G H m pf po sl F ex st s) {i : Nat} (hi : i < s.threads.length) {a : Addr} (ha : (sl 0).A = some a) (t : Thr) (q : SlH) (hq : HasL (dif F G) q t.stack)
    {Q:Heap → Prop} (k:∀ H',VMX G H' m pf po sl F ex (st.set i q) { s with threads:=s.threads.set i t } → Q H'):WrL H (a.add (i * 9)) (thrC (t,q)) Q:=by
  have hcl:(contC sl st s 0).length = s.threads.length * 9:=by
    show ((s.threads.zip st).flatMap thrC).length = _
    rw [flat_size (cells:=thrC) (sz:=9) (fun _=>rfl),List.length_zip,h.stl,Nat.min_self]
  refine h.putL (c:=0) (by decide) ha (k:=i * 9) (vs:=thrC (t,q)) (by rw [hcl]; show i * 9 + 9 ≤ _; omega) { s with threads:=s.threads.set i t } (st.set i q) ?_ (fun c' _ hne=>?_) rfl rfl h.vars h.attrs h.sigs ?_ (fun j u z hu hz=>?_) k
  · show ((s.threads.set i t).zip (st.set i q)).flatMap thrC = _
    rw [zip_set,flat_setL (cells:=thrC) (sz:=9) (fun _=>rfl) _ i (t,q) (by rw [List.length_zip,h.stl,Nat.min_self]; exact hi)]
    rfl
  · unfold contC; rw [if_neg hne,if_neg hne]
  · show (st.set i q).length = (s.threads.set i t).length
    rw [List.length_set,List.length_set]; exact h.stl
  · have hu:(s.threads.set i t)[j]? = some u:=hu
    rw [List.getElem?_set] at hu hz
    by_cases hj:i = j
    · subst hj
      rw [if_pos rfl,if_pos hi] at hu
      rw [if_pos rfl,if_pos (by rw [h.stl]; exact hi)] at hz
      cases hu; cases hz; exact hq
    · rw [if_neg hj] at hu hz
      exact h.stk j u z hu hz
end
end Go.Proofs.Ytjmdoiakcakfoaa
set_option maxRecDepth 100000
namespace Go.Proofs.Ytjmdoiakcakfoaa
open Go.Ax
theorem dif_low {F G G':Heap} (h:Sub G' G):Sub (dif F G) (dif F G'):=⟨fun i o k=>by
  unfold dif at k ⊢
  split at k
  · cases k
  · rename_i e
    have:G' i = none:=by
      cases h2:G' i with
      | none=>rfl
      | some x=>rw [h.sub _ _ h2] at e; exact absurd rfl e
    rw [this]; simpa using k⟩
theorem dif_at {F G:Heap} {b:Nat} {o:Obj} (h1:F b = some o) (h2:G b = none):dif F G b = some o:=by
  unfold dif; rw [h2]; simpa using h1
structure VMP (p:Prg) (G H:Heap) (m:Nat) (pf po:SlH) (ex:Value) (s:VS):Prop where
  out:∃ sl F st,VMX G H m pf po sl F ex st s ∧ HasP (dif F G) pf.A pf.n po.A po.n p
section
variable {p:Prg} {G0 G H:Heap} {m rb tb:Nat} {q:SlH} {pf po:SlH} {sl:Nat → SlH} {F:Heap} {ex:Value} {st:List SlH} {r:Rn} {s:VS}
theorem _root_.Go.Ax.SlOk.has {H:Heap} {q:SlH} {l:List Int} (k:SlOk H q 1 (intsC l)):HasL H q l:=⟨by have:=k.len; unfold intsC at this; rw [List.length_map] at this; omega,k.src⟩
theorem RX.low_stack (h:RX p G0 G0 G H m rb tb q pf po sl F ex st r):HasL (dif F G0) q r.t.stack:=by
  refine (h.sq.mono (H':=dif F G0) fun b hb=>?_).has
  have hb0:=(h.oq b hb).1
  rcases h.sq.at_ with ⟨a1,_⟩ | ⟨b',off,cur,T,a1,a2,_⟩
  · unfold SlH.blk at hb; rw [a1] at hb; cases hb
  · unfold SlH.blk at hb; rw [a1] at hb; cases hb
    rw [a2]; exact dif_at (h.vm.gf.sub _ _ a2) hb0
theorem RZ.fin (z : RZ p G0 m rb tb pf po ex r H) {i : Nat} (hi : i < r.s.threads.length) (hc : 0 ≤ r.s.count) (hc2 : r.s.count ≤ 100000) (hm : r.s.made.length ≤ 100000) {K : Int → Heap → Prop} {x : Int}
    (kf:r.fault = true → ∀ H',VMP p G0 H' m pf po ex (r.s.fails (-2)) → K 1 H') (kn:r.fault = false → ∀ H',VMP p G0 H' m pf po ex { r.s with threads:=r.s.threads.set i r.t } → K x H') :
    ∃ a9:Addr,some (⟨rb,0,none⟩:Addr) = some a9 ∧ ∃ b4:Bool,At H (a9.add 2) [.bool b4] ∧
      (b4 = true → Tr Try.prog 70 #[.pointer (some ⟨m,0,none⟩),.int .i64 (-2)] H fun v4 H'5=>v4 = .tuple #[] ∧ K 1 H'5) ∧
      (b4 = false → ∃ a10:Addr,some (⟨m,0,none⟩:Addr) = some a10 ∧
        (∃ (A9:Option Addr) (n9 c15:Nat),At H ((a10.add 2).add 21) [.slice A9 n9 c15] ∧ ∃ (x29 x30 x31:Int) (A10:Option Addr) (n10 c16:Nat) (x32 x33 x34 x35 x36:Int),At H (⟨tb,0,none⟩:Addr) [.int .i64 x29,.int .i64 x30,.int .i64 x31,.slice A10 n10 c16,.int .i64 x32,.int .i64 x33,.int .i64 x34,.int .i64 x35,.int .i64 x36] ∧
          ∃ a11:Addr,(A9 = some a11 ∧ 0 ≤ (i:Int) ∧ (i:Int) < (n9:Int)) ∧ WrL H (a11.add ((i:Int).toNat * 9)) [.int .i64 x29,.int .i64 x30,.int .i64 x31,.slice A10 n10 c16,.int .i64 x32,.int .i64 x33,.int .i64 x34,.int .i64 x35,.int .i64 x36] fun H18=>K x H18) ∧
        ∃ (x37 x38 x39:Int) (A11:Option Addr) (n11 c18:Nat) (x40 x41 x42 x43 x44:Int),At H (⟨tb,0,none⟩:Addr) [.int .i64 x37,.int .i64 x38,.int .i64 x39,.slice A11 n11 c18,.int .i64 x40,.int .i64 x41,.int .i64 x42,.int .i64 x43,.int .i64 x44] ∧
          ∃ (A12:Option Addr) (n12 c19:Nat),At H ((a10.add 2).add 21) [.slice A12 n12 c19] ∧ ∃ a12:Addr,(A12 = some a12 ∧ 0 ≤ (i:Int) ∧ (i:Int) < (n12:Int)) ∧ WrL H (a12.add ((i:Int).toNat * 9)) [.int .i64 x37,.int .i64 x38,.int .i64 x39,.slice A11 n11 c18,.int .i64 x40,.int .i64 x41,.int .i64 x42,.int .i64 x43,.int .i64 x44] fun H19=>K x H19):=by
  obtain ⟨G,F,q,sl,st,h⟩:=z.out
  refine ⟨_,rfl,_,h.r2,fun e=>?_,fun e=>?_⟩
  · refine (t70 h.vm (-2) hc hc2 hm).mono fun v H1 ⟨hv,sl1,v1⟩=>⟨hv,kf e H1 ⟨sl1,F,st,v1.weaken h.base,h.pr.sub (dif_low h.base)⟩⟩
  · have w:=h.vm.weaken h.base
    obtain ⟨t,ht⟩:=get_some hi
    obtain ⟨a,_,ha,-⟩:=w.thr ht
    have tc:At H (⟨tb,0,none⟩:Addr) (thrC (r.t,q)):=⟨⟨_,_,_,h.ht,rfl,fun j v hv=>by simpa using hv⟩⟩
    have key:WrL H (a.add (i * 9)) (thrC (r.t,q)) fun H'=>K x H':=w.wrThr hi ha r.t q h.low_stack fun H' v'=>kn e H' ⟨sl,F,_,v',h.pr.sub (dif_low h.base)⟩
    have hn:=w.thrLen
    exact ⟨_,rfl,⟨_,_,_,w.c23,_,_,_,_,_,_,_,_,_,_,_,tc,a,⟨ha,by omega,by omega⟩,key⟩,_,_,_,_,_,_,_,_,_,_,_,tc,_,_,_,w.c23,a,⟨ha,by omega,by omega⟩,key⟩
structure Pre (p:Prg) (G G' H':Heap) (m:Nat) (pf po:SlH) (sl:Nat → SlH) (F':Heap) (ex:Value) (st:List SlH) (s:VS) (b:Nat) (cs:List Value) (q:SlH) (l:List Int):Prop where
  v:VMX G' H' m pf po sl F' ex st s
  gb:G' b = some (.cells ⟨cs⟩ 60 (0,0))
  gn:G b = none
  sub:Sub G G'
  pr:HasP (dif F' G') pf.A pf.n po.A po.n p
  sq:SlOk G' q 1 (intsC l)
  nb:∀ b',q.blk = some b' → G b' = none ∧ b' ≠ b
theorem Pre.wr {G' H' F':Heap} {b:Nat} {cs:List Value} {l:List Int} (h:Pre p G G' H' m pf po sl F' ex st s b cs q l) {k:Nat} (hk:k < cs.length) {v:Value} {Q:Heap → Prop} (r:∀ G'' F'' H'',Pre p G G'' H'' m pf po sl F'' ex st s b (cs.set k v) q l → Q H''):Wr H' ((⟨b,0,none⟩:Addr).add k) v Q :=
  wr_cells ((h.v.gf.trans h.v.fh).sub _ _ h.gb) hk (r _ _ _ ⟨h.v.turn h.gb _,Heap.upd_same,h.gn,base_upd h.sub h.gn _,h.pr.sub (dif_turn h.gb _),h.sq.mono fun b' hb'=>Heap.upd_other (h.nb b' hb').2,h.nb⟩)
theorem Pre.run {G' H' F':Heap} {b:Nat} {t:Thr} (h:Pre p G G' H' m pf po sl F' ex st s b (thrC (t,q)) q t.stack) {b1:Nat} (hb1:H' b1 = none):∃ G'' F'',RX p G G G'' (H'.upd b1 (.cells ⟨runC m b false⟩ 131 (0,0))) m b1 b q pf po sl F'' ex st ⟨s,t,false⟩:=by
  have v7:=h.v.ext hb1 (.cells ⟨runC m b false⟩ 131 (0,0))
  have hF6:=none_below h.v.fh hb1
  have hG6:=none_below h.v.gf hF6
  have hne:b1 ≠ b:=fun e=>by rw [e,h.gb] at hG6; cases hG6
  have s7:=base_upd h.sub (none_below h.sub hG6) (.cells ⟨runC m b false⟩ 131 (0,0))
  refine ⟨_,_,⟨v7,h.pr.sub (dif_ext hF6 _),s7,s7.trans (v7.gf.trans v7.fh),Sub.refl _,Heap.upd_same,by rw [Heap.upd_other hne.symm]; exact h.gb,none_below h.sub hG6,h.gn,hne,h.sq.sub (Sub.upd_new hG6),fun b' hb'=>⟨(h.nb b' hb').1,fun e=>?_,(h.nb b' hb').2⟩⟩⟩
  rcases h.sq.at_ with ⟨a1,_⟩ | ⟨b2',off,cur,T,a1,a2,_⟩
  · unfold SlH.blk at hb'; rw [a1] at hb'; cases hb'
  · unfold SlH.blk at hb'; rw [a1] at hb'; cases hb'
    have e:b2' = b1:=e
    rw [← e] at hG6
    rw [hG6] at a2; cases a2
theorem t71 (okp : Okp p) (h : VMX G H m pf po sl F ex st s) (pr : HasP (dif F G) pf.A pf.n po.A po.n p) (iv : Inv p s) (rm : Room s) (ho : s.over = false) (sk : (s.futures.length : Int) + s.fuel + 1 ≤ 1000 * s.count) {i : Nat} {t : Thr} (ht : s.threads[i]? = some t) :
    Tr Try.prog 71 #[.pointer (some ⟨m,0,none⟩),.int .i64 i] H fun v H'=>v = .int .i64 (s.instruction p i).1 ∧ VMP p G H' m pf po ex (s.instruction p i).2:=by
  obtain ⟨a,q,ha,hst,hq,hat⟩:=h.thr ht
  have hil:=get_lt ht
  have hT:=iv.thr t (List.mem_of_getElem? ht)
  have haf:=run_after okp ht iv rm ho sk
  have hiv:=haf.steps.inv iv rm
  obtain ⟨j,k,f,c,op,S⟩:=stands hT
  have hpk:=okp.len S.fn
  have hkl:=get_lt S.o
  have hn:=h.thrLen
  have hlen:=hq.len
  have hstk:=hT.stack
  have hrun:=run_eq_ (p:=p) ht
  rw [S.op] at hrun
  simp only at hrun
  have hins:s.instruction p i = if (s.run p i).2.fault = true then (1,(s.run p i).2.s.fails (-2)) else ((s.run p i).1,{ (s.run p i).2.s with threads:=(s.run p i).2.s.threads.set i (s.run p i).2.t }):=rfl
  have hi2:i < (s.run p i).2.s.threads.length:=by
    obtain ⟨l,hl⟩:=haf.steps.threads
    rw [hl,List.length_append]
    show i < s.threads.length + _
    omega
  apply v71; unfold F71
  refine ⟨_,rfl,_,_,_,h.c23,a,⟨ha,by omega,by omega⟩,_,_,_,_,_,_,_,_,_,_,_,hat,fun b hb H1 e1=>?_⟩
  subst e1
  have hF:=none_below h.fh hb
  have hG:=none_below h.gf hF
  refine ⟨_,_,Heap.upd_same,rfl,Nat.le_refl _,fun H2 e2=>?_⟩
  have e2':H2 = H.upd b (.cells ⟨thrC (t,q)⟩ 60 (0,0)):=by
    rw [e2]
    funext i
    by_cases hi:i = b
    · rw [hi,Heap.upd_same,Heap.upd_same]; rfl
    · rw [Heap.upd_other hi,Heap.upd_other hi,Heap.upd_other hi]
  have v2:=h.ext hb (.cells ⟨thrC (t,q)⟩ 60 (0,0))
  rw [← e2'] at v2
  have b2:H2 b = some (.cells ⟨thrC (t,q)⟩ 60 (0,0)):=by rw [e2']; exact Heap.upd_same
  have d2:=dif_ext (G:=G) hF (.cells ⟨thrC (t,q)⟩ 60 (0,0))
  have hq2:=hq.sub d2
  refine ⟨q.A,q.n,q.c,at_cells b2 rfl,⟨⟨intsC t.stack,src_sub hq2.src (dif_sub.trans v2.fh),by unfold intsC; rw [List.length_map,hlen,Nat.mul_one],?_⟩⟩⟩
  refine v2.side (q:=⟨none,0,0⟩) (Side.nil v2.gf 1) (new:=intsC t.stack) (k:=q.n) (by unfold intsC; rw [List.length_map,hlen,Nat.mul_one]) (intsC_one _) (by show (0 + q.n) * 8 ≤ _; omega) (by show 0 + q.n ≤ _; omega) fun A' c' G3 F3 H3 v3 sd=>?_
  have g2:(G.upd b (.cells ⟨thrC (t,q)⟩ 60 (0,0))) b = some (.cells ⟨thrC (t,q)⟩ 60 (0,0)):=Heap.upd_same
  have p3:Pre p G G3 H3 m pf po sl F3 ex st s b (thrC (t,q)) ⟨A',0 + q.n,c'⟩ t.stack :=
    ⟨v3,sd.g.sub _ _ g2,hG,(Sub.upd_new hG).trans sd.g,(pr.sub d2).sub sd.d,sd.sl,fun b' hb'=>⟨none_below (Sub.upd_new hG) (none_below v2.gf (sd.free b' hb')),fun e=>by have:=sd.free b' hb'; rw [e,v2.gf.sub _ _ g2] at this; cases this⟩⟩
  -- the copy's header,and that it waits for nothing
  refine p3.wr (k:=3) (by decide:3 < 9) fun G4 F4 H4 p4=>?_
  refine p4.wr (k:=7) (by show 7 < 9; decide) fun G5 F5 H5 p5=>?_
  refine p5.wr (k:=8) (by show 8 < 9; decide) fun G6 F6 H6 p6=>?_
  have p6:Pre p G G6 H6 m pf po sl F6 ex st s b (thrC (t.wake,⟨A',0 + q.n,c'⟩)) ⟨A',0 + q.n,c'⟩ t.wake.stack:=p6
  intro b1 hb1 H7 e7
  obtain ⟨G7,F7,rx⟩:=p6.run hb1
  rw [show H6.upd b1 (.cells ⟨runC m b false⟩ 131 (0,0)) = H7 from e7.symm] at rx
  have rin:RnOk p ⟨s,t.wake,false⟩:=⟨iv,rm,ho,wake_thr hT⟩
  have hc0:=hiv.1.c0
  have hmd:=hiv.1.made
  have hpc:=S.pc
  have hfun:=S.func
  have pH:=(rx.pr.sub dif_sub).sub rx.vm.fh
  obtain ⟨a1,B,mm,d,ha1,hat1,hops⟩:=pH.fns.at_ j f S.fn
  obtain ⟨a2,ha2,hat2⟩:=hops.at_ k c op S.o
  have hfn:=pH.fns.len
  have hol:=hops.len
  have hjl:=get_lt S.fn
  have t0:At H7 ((⟨b,0,none⟩:Addr).add 0) [.int .i64 (j:Int)]:=by rw [← hfun]; exact at_cells rx.ht rfl
  have t1:At H7 ((⟨b,0,none⟩:Addr).add 1) [.int .i64 (k:Int)]:=by rw [← hpc]; exact at_cells rx.ht rfl
  refine ⟨H7,Sub.refl _,_,rfl,_,_,_,rx.vm.c0,(j:Int),t0,a1,⟨ha1,by omega,by omega⟩,B,mm,d,at_one 2 hat1 rfl,(k:Int),t1,a2,⟨ha2,by omega,by omega⟩,c,op,hat2,Sub.refl _,Sub.refl _,pureB c,t77 _ _,fun e=>?_,fun e=>?_⟩
  · rw [if_pos e] at hrun
    rw [hrun] at hins haf hi2 hiv hc0 hmd
    simp only at hc0 hmd
    refine (t53 rx (by show t.stack.length ≤ 1000; omega) ⟨hT.pc0,by show t.pc ≤ 1000; omega⟩ c op (opOk okp S.fn S.o).o15 (opOk okp S.fn S.o).o26).mono fun v H8 ⟨hv,G8,F8,q8,h8⟩=>⟨hv,?_⟩
    refine h8.z.fin (i:=i) (x:=0) hi2 hc0.1 (by omega) (by omega) (K:=fun y H'=>Value.int .i64 y = .int .i64 (s.instruction p i).1 ∧ VMP p G H' m pf po ex (s.instruction p i).2) (fun ef H' w=>?_) (fun ef H' w=>?_)
    · rw [hins,if_pos ef]; exact ⟨rfl,w⟩
    · rw [hins,if_neg (by rw [ef]; simp)]; exact ⟨rfl,w⟩
  · rw [if_neg (by rw [e]; simp)] at hrun
    rw [hrun] at hins haf hi2 hiv hc0 hmd
    refine (t80 rx rin (by show t.pc ≤ 1000; omega) c op (opOk okp S.fn S.o)).mono fun v H8 ⟨hv,z⟩=>⟨_,hv,?_⟩
    refine z.fin (i:=i) (x:=((⟨s,t.wake,false⟩:Rn).does c op).1) hi2 hc0.1 (by omega) (by omega) (K:=fun y H'=>Value.int .i64 y = .int .i64 (s.instruction p i).1 ∧ VMP p G H' m pf po ex (s.instruction p i).2) (fun ef H' w=>?_) (fun ef H' w=>?_)
    · rw [hins,if_pos ef]; exact ⟨rfl,w⟩
    · rw [hins,if_neg (by rw [ef]; simp)]; exact ⟨rfl,w⟩
end
end Go.Proofs.Ytjmdoiakcakfoaa
set_option maxRecDepth 100000
namespace Go.Proofs.Ytjmdoiakcakfoaa
open Go.Ax
theorem instr_threads {p:Prg} (ok:Okp p) {s:VS} {i:Nat} {t:Thr} (ht:s.threads[i]? = some t) (iv:Inv p s) (rm:Room s) (ho:s.over = false) (sk:(s.futures.length:Int) + s.fuel + 1 ≤ 1000 * s.count):s.threads.length ≤ (s.instruction p i).2.threads.length:=by
  obtain ⟨l,hl⟩:=(run_after ok ht iv rm ho sk).steps.threads
  have hl:(s.run p i).2.s.threads = s.threads ++ l:=hl
  unfold VS.instruction
  split
  · rw [(keepF _ _).threads,hl]; simp
  · show s.threads.length ≤ ((s.run p i).2.s.threads.set i (s.run p i).2.t).length
    rw [List.length_set,hl]; simp
def VS.fuelAt (s:VS) (n:Int):VS:={ s with fuel:=n }
theorem fuel_step {p:Prg} {s:VS} {n:Nat} (iv:Inv p s) (rm:Room s) (hn:s.fuel = ((n + 1:Nat):Int)):FStep p true s (s.fuelAt n) ∧ Inv p (s.fuelAt n) ∧ Room (s.fuelAt n) ∧ ((s.fuelAt n).futures.length:Int) + (s.fuelAt n).fuel + 1 ≤ 1000 * (s.fuelAt n).count:=by
  have st:FStep p true s (s.fuelAt n):=.fuel s n rfl ⟨by omega,by omega⟩
  have h:=st.inv iv rm
  have:=iv.many
  exact ⟨st,h.1,h.2,by show (s.futures.length:Int) + (n:Int) + 1 ≤ 1000 * s.count; omega⟩
theorem stepsG_eq (p : Prg) (i n : Nat) (s : VS) : VS.stepsG p i n s = if s.over = true then (1, s) else match n with
    | 0=>(1,s.fails (-1))
    | n + 1=>if (((s.fuelAt n).instruction p i).1 != 0) = true then (s.fuelAt n).instruction p i else VS.stepsG p i n ((s.fuelAt n).instruction p i).2:=by
  cases n <;> rfl
theorem instr_fuel {p:Prg} {s:VS} {i:Nat} {t:Thr} (ok:Okp p) (ht:s.threads[i]? = some t) (iv:Inv p s) (rm:Room s) (ho:s.over = false) (sk:(s.futures.length:Int) + s.fuel + 1 ≤ 1000 * s.count):(s.instruction p i).2.fuel = s.fuel:=by
  have h:(s.run p i).2.s.fuel = s.fuel:=(run_after ok ht iv rm ho sk).steps.fuel_eq
  unfold VS.instruction
  split
  · rw [(keepF _ _).fuel,h]
  · exact h
theorem stepsG_steps {p:Prg} (ok:Okp p) (i:Nat):∀ (n:Nat) (s:VS),s.fuel = n → Inv p s → Room s → i < s.threads.length → FSteps p true s (VS.stepsG p i n s).2 ∧ i < (VS.stepsG p i n s).2.threads.length ∧ ((VS.stepsG p i n s).1 ≠ 1 → (VS.stepsG p i n s).2.fuel < s.fuel)
  | 0,s,hf,iv,rm,hi=>by
    rw [stepsG_eq]
    split
    · exact ⟨.refl s,hi,fun h=>absurd rfl h⟩
    · rename_i ho
      exact ⟨(FStep.fails s (-1) (by simpa using ho)).one,by rw [show ((1,s.fails (-1)):Int × VS).2 = s.fails (-1) from rfl,(keepF _ _).threads]; exact hi,fun h=>absurd rfl h⟩
  | n + 1,s,hf,iv,rm,hi=>by
    rw [stepsG_eq]
    split
    · exact ⟨.refl s,hi,fun h=>absurd rfl h⟩
    · rename_i ho
      have ho:s.over = false:=by simpa using ho
      obtain ⟨st,iv1,rm1,sk⟩:=fuel_step iv rm hf
      obtain ⟨t,ht⟩:=get_some hi
      have ht1:(s.fuelAt n).threads[i]? = some t:=ht
      have st2:=st.one.trans (instr_steps ok ht1 iv1 rm1 ho sk)
      have tl:=instr_threads ok ht1 iv1 rm1 ho sk
      have tl:s.threads.length ≤ ((s.fuelAt n).instruction p i).2.threads.length:=tl
      have fl:=instr_fuel ok ht1 iv1 rm1 ho sk
      have fl:((s.fuelAt n).instruction p i).2.fuel = n:=fl
      simp only
      split
      · exact ⟨st2,by omega,fun _=>by omega⟩
      · have iv2:=st2.inv iv rm
        obtain ⟨h1,h2,h3⟩:=stepsG_steps ok i n _ fl iv2.1 iv2.2 (by omega)
        exact ⟨st2.trans h1,h2,fun h=>by have:=h3 h; omega⟩
theorem steps_steps {p:Prg} (ok:Okp p) {i:Nat} {s:VS} (iv:Inv p s) (rm:Room s) (hi:i < s.threads.length):FSteps p true s (s.steps p i).2 ∧ i < (s.steps p i).2.threads.length ∧ ((s.steps p i).1 ≠ 1 → (s.steps p i).2.fuel < s.fuel) :=
  stepsG_steps ok i _ s (by have:=iv.fuel; omega) iv rm hi
def fuelIn (m:Nat) (H:Heap):Nat:=match H m with
  | some (.cells c _ _)=>(match c[31]? with | some (Value.int _ v)=>v.toNat | _=>0)
  | _=>0
section
variable {p:Prg} {G H:Heap} {m:Nat} {pf po:SlH} {sl:Nat → SlH} {F:Heap} {ex:Value} {st:List SlH} {s:VS}
theorem VMX.fuelIn (h:VMX G H m pf po sl F ex st s):fuelIn m H = s.fuel.toNat:=by
  unfold Go.Proofs.Ytjmdoiakcakfoaa.fuelIn; rw [h.hm]; rfl
theorem VMX.c31 (h:VMX G H m pf po sl F ex st s):At H ((⟨m,0,none⟩:Addr).add 31) [.int .i64 s.fuel]:=h.cell rfl
structure RStp (p:Prg) (G:Heap) (m:Nat) (pf po:SlH) (ex:Value) (i:Nat) (s0:VS) (H1:Heap):Prop where
  out:∃ s n,VMP p G H1 m pf po ex s ∧ Inv p s ∧ Room s ∧ s.fuel = (n:Nat) ∧ i < s.threads.length ∧ VS.stepsG p i n s = s0.steps p i
theorem t51 (okp : Okp p) (h : VMP p G H m pf po ex s) (iv : Inv p s) (rm : Room s) {i : Nat} (hi : i < s.threads.length) :
    Tr Try.prog 51 #[.pointer (some ⟨m,0,none⟩),.int .i64 i] H fun v H'=>v = .int .i64 (s.steps p i).1 ∧ VMP p G H' m pf po ex (s.steps p i).2:=by
  apply v51; unfold F51
  refine ⟨RStp p G m pf po ex i s,fun H1=>fuelIn m H1,⟨s,s.fuel.toNat,h,iv,rm,by have:=iv.fuel; omega,hi,rfl⟩,fun H1 r=>?_⟩
  obtain ⟨s1,n,h1,iv1,rm1,hn,hi1,he⟩:=r.out
  obtain ⟨sl1,F1,st1,v1,pr1⟩:=h1.out
  have hc:=iv1.c0
  have hmd:=iv1.made
  have hfu:=iv1.fuel
  rw [← he,stepsG_eq]
  refine ⟨_,rfl,_,v1.c27,fun ho=>⟨_,rfl,_,v1.c31,fun e=>?_,fun e=>⟨_,rfl,_,v1.c31,_,rfl,?_⟩⟩,fun ho=>?_⟩
  · have ho:s1.over = false:=by simpa using ho
    have e:s1.fuel = 0:=by simpa using e
    have hn0:n = 0:=by omega
    subst hn0
    rw [if_neg (by rw [ho]; simp)]
    exact (t70 v1 (-1) hc.1 (by omega) (by omega)).mono fun v H2 ⟨hv,sl2,v2⟩=>⟨hv,rfl,sl2,F1,st1,v2,pr1⟩
  · have ho:s1.over = false:=by simpa using ho
    have e:s1.fuel ≠ 0:=by simpa using e
    obtain ⟨k,rfl⟩:∃ k,n = k + 1:=⟨n - 1,by omega⟩
    rw [if_neg (by rw [ho]; simp)]
    have hw:IntKind.i64.wrap (s1.fuel - 1) = (k:Int):=by rw [wrapi (by omega) (by omega)]; omega
    rw [hw]
    obtain ⟨fs,iv2,rm2,sk⟩:=fuel_step iv1 rm1 hn
    obtain ⟨t,ht⟩:=get_some hi1
    refine v1.wr (k:=31) (by decide) (s1.fuelAt k) rfl rfl rfl rfl rfl rfl rfl rfl v1.vars v1.attrs fun H2 v2=>?_
    have ht2:(s1.fuelAt k).threads[i]? = some t:=ht
    have is:=instr_steps okp ht2 iv2 rm2 ho sk
    have iv3:=is.inv iv2 rm2
    have tl:=instr_threads okp ht2 iv2 rm2 ho sk
    have tl:s1.threads.length ≤ ((s1.fuelAt k).instruction p i).2.threads.length:=tl
    have fl:=instr_fuel okp ht2 iv2 rm2 ho sk
    have fl:((s1.fuelAt k).instruction p i).2.fuel = k:=fl
    refine (t71 okp v2 pr1 iv2 rm2 ho sk ht2).mono fun v H3 ⟨hv,h3⟩=>⟨_,hv,fun e2=>?_,fun e2=>⟨⟨_,k,h3,iv3.1,iv3.2,fl,by omega,?_⟩,?_⟩⟩
    · simp only; rw [if_pos e2]; exact ⟨rfl,h3⟩
    · rw [← he,stepsG_eq p i (k + 1) s1,if_neg (by rw [ho]; simp)]
      simp only
      rw [if_neg (by rw [e2]; simp)]
    · obtain ⟨sl3,F3,st3,v3,-⟩:=h3.out
      show Go.Proofs.Ytjmdoiakcakfoaa.fuelIn m H3 < Go.Proofs.Ytjmdoiakcakfoaa.fuelIn m H1
      rw [v3.fuelIn,v1.fuelIn,fl]; omega
  · have ho:s1.over = true:=by simpa using ho
    rw [if_pos ho]
    exact ⟨rfl,h1⟩
end
end Go.Proofs.Ytjmdoiakcakfoaa
set_option maxRecDepth 100000
namespace Go.Proofs.Ytjmdoiakcakfoaa
open Go.Ax
theorem purelyG_left (p:Prg) (fn:Int):∀ (n:Nat) (r:Rn),(purelyG p fn n r).2.2 ≤ n
  | 0,_=>Nat.le_refl _
  | n + 1,r=>by
    rw [purelyG]
    split
    · split
      · exact Nat.le_succ _
      · split <;> exact Nat.le_succ _
    · split
      · exact Nat.le_succ _
      · exact Nat.le_trans (purelyG_left p fn n _) (Nat.le_succ _)
theorem find_at {p:Prg} (ok:Okp p) {kind name:Int} (h:¬ p.find kind name < 0):(∃ f,p.funcs[(p.find kind name).toNat]? = some f ∧ (0:Int) < f.ops.length) ∧ 0 ≤ p.find kind name:=by
  obtain ⟨i,f,hi,hf,-,-⟩:=find_found h
  rw [hi]
  exact ⟨⟨f,hf,by have:=(ok.len hf).1; omega⟩,by omega⟩
theorem admit2_steps {p:Prg} (ok:Okp p) {s:VS} (iv:Inv p s) (ho:s.over = false) {e:Ev} (he:0 ≤ e.id) (hf:¬ p.find 3 e.a < 0):FSteps p true s (s.admit2 (p.find 3 e.a) e):=by
  obtain ⟨f1,f2⟩:=find_at ok hf
  have st:=(FStep.emit (p:=p) (b:=true) s (evM 12 e.id 0 0) ho rfl).one
  unfold VS.admit2
  split
  · exact (FStep.fails s _ ho).one
  · rename_i h16
    simp at h16
    split
    · have k:=keepE s (evM 12 e.id 0 0)
      have hn:=iv.scn
      refine st.tail (.thr _ _ ⟨f1,f2,Int.le_refl _,Nat.zero_le _,⟨Int.le_refl _,by rw [k.scopes]; show (0:Int) < _; omega⟩,⟨Int.le_refl _,by show (-1:Int) < _; omega⟩,he,by show (-1:Int) < _; omega,by show (-1:Int) < 8; decide⟩ (by rw [k.threads]; omega))
    · exact st
theorem ite_V {P:VS → Prop} {c:Prop} [Decidable c] {x y:VS} (h1:P x) (h2:P y):P (if c then x else y):=by split; exact h1; exact h2
theorem admits_steps {p:Prg} (ok:Okp p) {s:VS} (iv:Inv p s) (rm:Room s) (ho:s.over = false) {e:Ev} (he:0 ≤ e.id):FSteps p true s (s.admits p e):=by
  unfold VS.admits
  split
  · exact (FStep.emit s _ ho rfl).one
  · rename_i hf
    have hf:¬ p.find 3 e.a < 0:=by simpa using hf
    split
    · have hfu:=iv.fuel
      have hl:=purelyG_left p (p.find 4 e.a) s.fuel.toNat ⟨s,⟨p.find 4 e.a,0,0,[],e.b,0,0,0,0⟩,false⟩
      have hl:(s.purely p (p.find 4 e.a) e.b s.fuel.toNat).2.2 ≤ s.fuel.toNat:=hl
      have st:FStep p true s { s with fuel:=((s.purely p (p.find 4 e.a) e.b s.fuel.toNat).2.2:Int) }:=.fuel s _ rfl ⟨by omega,by omega⟩
      have iv1:=st.inv iv rm
      exact ite_V (P:=FSteps p true s) (st.one.tail (.fails _ _ ho)) (ite_V (P:=FSteps p true s) (st.one.tail (.emit _ _ ho rfl)) (st.one.trans (admit2_steps ok iv1.1 ho he hf)))
    · exact admit2_steps ok iv ho he hf
section
variable {p:Prg} {G H:Heap} {m:Nat} {pf po:SlH} {sl:Nat → SlH} {F:Heap} {ex:Value} {st:List SlH} {s:VS}
def Admit2P (m:Nat) (fn id arg:Int) (H:Heap) (K:Heap → Prop):Prop :=
  ∃ a4:Addr,some (⟨m,0,none⟩:Addr) = some a4 ∧ ∃ (A:Option Addr) (n c:Nat),At H ((a4.add 2).add 21) [.slice A n c] ∧
    (decide ((n:Int) ≥ 16) = true → Tr Try.prog 70 #[.pointer (some ⟨m,0,none⟩),.int .i64 (-3)] H fun v H'=>v = .tuple #[] ∧ K H') ∧
    (decide ((n:Int) ≥ 16) = false → Tr Try.prog 69 #[.pointer (some ⟨m,0,none⟩),(evM 12 id 0 0).val] H fun v H'=>∃ (x:Int) (b:Bool),v = .tuple #[.int .i64 x,.bool b] ∧
      (b = true → ∃ a5:Addr,some (⟨m,0,none⟩:Addr) = some a5 ∧
        (∃ (A:Option Addr) (n c:Nat),At H' ((a5.add 2).add 21) [.slice A n c] ∧ appC 60 9 88 H' A n c (thrC (Thr.new fn 0 arg (-1) id,⟨none,0,0⟩)) 1 fun A' n' c' H4=>∃ a9:Addr,some (⟨m,0,none⟩:Addr) = some a9 ∧ Wr H4 ((a9.add 2).add 21) (.slice A' n' c') K) ∧
        (∃ (A:Option Addr) (n c:Nat),At H' ((a5.add 2).add 21) [.slice A n c] ∧ appC 60 9 88 H' A n c (thrC (Thr.new fn 0 arg (-1) id,⟨none,0,0⟩)) 1 fun A' n' c' H4=>∃ a9:Addr,some (⟨m,0,none⟩:Addr) = some a9 ∧ Wr H4 ((a9.add 2).add 21) (.slice A' n' c') K)) ∧
      (b = false → K H'))
theorem VMX.admit2 (h:VMX G H m pf po sl F ex st s) (pr:HasP (dif F G) pf.A pf.n po.A po.n p) (iv:Inv p s) (fn:Int) (e:Ev) {K:Heap → Prop} (k:∀ H',VMP p G H' m pf po ex (s.admit2 fn e) → K H'):Admit2P m fn e.id e.b H K:=by
  have hc:=iv.c0
  have hmd:=iv.made
  have ht:=iv.t16
  refine ⟨_,rfl,_,_,_,h.c23,fun e1=>?_,fun e1=>?_⟩
  · rw [h.thrLen] at e1
    refine (t70 h (-3) hc.1 (by omega) (by omega)).mono fun v H2 ⟨hv,sl2,v2⟩=>⟨hv,k H2 ⟨sl2,F,st,?_,pr⟩⟩
    unfold VS.admit2; rw [if_pos e1]; exact v2
  · rw [h.thrLen] at e1
    refine (t69 h (evM 12 e.id 0 0) hc.1 (by omega) (by omega)).mono fun v H2 ⟨hv,sl2,v2⟩=>⟨_,_,hv,fun eb=>?_,fun eb=>k H2 ⟨sl2,F,st,?_,pr⟩⟩
    · have key : ThrP m 88 (Thr.new fn 0 e.b (-1) e.id) H2 K := v2.addThr (Thr.new fn 0 e.b (-1) e.id) rfl (by decide) (by rw [(keepE s _).threads]; omega) fun H3 sl3 v3 => k H3 ⟨sl3, F, _, (by
        unfold VS.admit2; rw [if_neg (by rw [e1]; simp),if_pos eb]; exact v3),pr⟩
      exact ⟨_,rfl,key,key⟩
    · unfold VS.admit2; rw [if_neg (by rw [e1]; simp),if_neg (by rw [eb]; simp)]; exact v2
theorem t49 (okp : Okp p) (h : VMX G H m pf po sl F ex st s) (pr : HasP (dif F G) pf.A pf.n po.A po.n p) (iv : Inv p s) (rm : Room s) (e : Ev) :
    Tr Try.prog 49 #[.pointer (some ⟨m,0,none⟩),e.val] H fun v H'=>v = .tuple #[] ∧ VMP p G H' m pf po ex (s.admits p e):=by
  have hc:=iv.c0
  have hmd:=iv.made
  have hfu:=iv.fuel
  have pH:=(pr.sub dif_sub).sub h.fh
  have em : ∀ {s : VS} {H : Heap} {sl : Nat → SlH} (h : VMX G H m pf po sl F ex st s) (iv : Inv p s) (ev : Ev) {Q : Heap → Prop}, (∀ H', VMP p G H' m pf po ex (s.emit ev).2 → Q H') →
      Tr Try.prog 69 #[.pointer (some ⟨m,0,none⟩),ev.val] H fun v H'=>∃ (x:Int) (b:Bool),v = .tuple #[.int .i64 x,.bool b] ∧ Q H':=fun h iv ev Q k=>by
    have hc:=iv.c0
    have hmd:=iv.made
    exact (t69 h ev hc.1 (by omega) (by omega)).mono fun v H2 ⟨hv,sl2,v2⟩=>⟨_,_,hv,k H2 ⟨sl2,F,st,v2,pr⟩⟩
  apply v49; unfold F49
  refine ⟨_,rfl,_,_,_,_,_,_,h.c01,_,t32 pH 3 e.a,fun e1=>?_,fun e1=>⟨_,rfl,_,_,_,_,_,_,h.c01,_,t32 pH 4 e.a,fun e2=>?_,fun e2=>?_⟩⟩
  · have hd:s.admits p e = (s.emit (evM 13 e.id 50 0)).2:=by unfold VS.admits; rw [if_pos e1]
    rw [hd]
    exact em h iv (evM 13 e.id 50 0) fun H' w=>⟨rfl,w⟩
  · obtain ⟨j,f,hj,hf,hk,-⟩:=find_found (p:=p) (kind:=4) (name:=e.a) (by have:=of_decide_eq_true e2; omega)
    have hfl:s.fuel = (s.fuel.toNat:Int):=by omega
    have hl:=purelyG_left p (p.find 4 e.a) s.fuel.toNat ⟨s,⟨p.find 4 e.a,0,0,[],e.b,0,0,0,0⟩,false⟩
    have hl:(s.purely p (p.find 4 e.a) e.b s.fuel.toNat).2.2 ≤ s.fuel.toNat:=hl
    have hd : s.admits p e = (let q := s.purely p (p.find 4 e.a) e.b s.fuel.toNat
       let s1:VS:={ s with fuel:=(q.2.2:Int) }
       if (q.2.1 == 3) = true then s1.fails (-1) else
       if (q.2.1 != 0 || (if (q.2.1 == 2) = true then (-2:Int) else q.1) != 0) = true then (s1.emit (evM 13 e.id (if (q.2.1 == 2) = true then (-2:Int) else q.1) 0)).2 else s1.admit2 (p.find 3 e.a) e):=by
      unfold VS.admits; rw [if_neg (by rw [e1]; simp),if_pos e2]
    simp only at hd
    have pu:=t33 h pr okp hf (.inr hk) e.b s.fuel.toNat (by omega)
    rw [hj] at hd hl ⊢
    rw [hfl.symm] at pu
    have st1:FStep p true s { s with fuel:=((s.purely p j e.b s.fuel.toNat).2.2:Int) }:=.fuel s _ rfl ⟨by omega,by omega⟩
    have iv1:=st1.inv iv rm
    have hc1:=iv1.1.c0
    have hmd1:=iv1.1.made
    refine ⟨_,rfl,_,h.c31,_,_,_,pu,_,rfl,?_⟩
    refine h.wr (k:=31) (by decide) { s with fuel:=((s.purely p j e.b s.fuel.toNat).2.2:Int) } rfl rfl rfl rfl rfl rfl rfl rfl h.vars h.attrs fun H2 v2=>?_
    refine ⟨fun e3=>?_,fun e3=>⟨fun e4=>⟨fun e5=>?_,fun e5=>?_⟩,fun e4=>⟨fun e5=>?_,fun e5=>?_⟩⟩⟩
    · rw [hd,if_pos e3]
      exact (t70 v2 (-1) hc1.1 (by omega) (by omega)).mono fun v H3 ⟨hv,sl3,v3⟩=>⟨hv,rfl,sl3,F,st,v3,pr⟩
    · have hd2 : s.admits p e = (({ s with fuel := ((s.purely p j e.b s.fuel.toNat).2.2 : Int) } : VS).emit (evM 13 e.id (-2) 0)).2 := by
        rw [hd]; simp only [e3,e4,if_true,if_false,Bool.false_eq_true]; rw [if_pos e5]
      rw [hd2]
      exact em v2 iv1.1 (evM 13 e.id (-2) 0) fun H' w=>⟨rfl,w⟩
    · exact absurd e5 (by simp)
    · have hd2 : s.admits p e = (({ s with fuel := ((s.purely p j e.b s.fuel.toNat).2.2 : Int) } : VS).emit (evM 13 e.id (s.purely p j e.b s.fuel.toNat).1 0)).2 := by
        rw [hd]; simp only [e3,e4,if_false,Bool.false_eq_true]; rw [if_pos e5]
      rw [hd2]
      exact em v2 iv1.1 (evM 13 e.id (s.purely p j e.b s.fuel.toNat).1 0) fun H' w=>⟨rfl,w⟩
    · have hd2 : s.admits p e = ({ s with fuel := ((s.purely p j e.b s.fuel.toNat).2.2 : Int) } : VS).admit2 (p.find 3 e.a) e := by
        rw [hd]; simp only [e3,e4,if_false,Bool.false_eq_true]; rw [if_neg (by rw [e5]; simp)]
      rw [hd2]
      exact v2.admit2 pr iv1.1 (p.find 3 e.a) e (K:=fun H'=>Value.tuple #[] = .tuple #[] ∧ VMP p G H' m pf po ex (({ s with fuel:=((s.purely p j e.b s.fuel.toNat).2.2:Int) }:VS).admit2 (p.find 3 e.a) e)) fun H' w=>⟨rfl,w⟩
  · have hd:s.admits p e = s.admit2 (p.find 3 e.a) e:=by unfold VS.admits; rw [if_neg (by rw [e1]; simp),if_neg (by rw [e2]; simp)]
    rw [hd]
    exact h.admit2 pr iv (p.find 3 e.a) e (K:=fun H'=>Value.tuple #[] = .tuple #[] ∧ VMP p G H' m pf po ex (s.admit2 (p.find 3 e.a) e)) fun H' w=>⟨rfl,w⟩
end
end Go.Proofs.Ytjmdoiakcakfoaa
set_option maxRecDepth 100000
set_option linter.unusedVariables false
namespace Go.Proofs.Ytjmdoiakcakfoaa
open Go.Ax
def LoopsP (m:Option Addr) (A:Option Addr) (n:Nat) (H:Heap) (K:Value → Heap → Prop):Prop :=
 ∃ (Rel:Int → Heap → Prop),
 ∃ (mu:Int → Heap → Nat),
 Rel (0:Int) H ∧
 ∀ (x3:Int) (H1:Heap),
 Rel x3 H1 →
 (decide (x3 < (↑n:Int)) = true →
 ∃ (a11:Addr),
 (A = some a11 ∧ (0:Int) ≤ x3 ∧ x3 < (↑n:Int)) ∧
 ∃ (x4:Int),
 ∃ (x5:Int),
 ∃ (x6:Int),
 ∃ (x7:Int),
 ∃ (x8:Int),
 ∃ (x9:Int),
 ∃ (x10:Int),
 ∃ (x11:Int),
 ∃ (x12:Int),
 At H1 (a11.add (x3.toNat * 9)) [Value.int IntKind.i64 x4,Value.int IntKind.i64 x5,Value.int IntKind.i64 x6,Value.int IntKind.i64 x7,Value.int IntKind.i64 x8,Value.int IntKind.i64 x9,Value.int IntKind.i64 x10,Value.int IntKind.i64 x11,Value.int IntKind.i64 x12] ∧
 ∃ (a12:Addr),
 m = some a12 ∧
 ∃ (b2:Bool),
 At H1 ((a12.add 2).add 25) [Value.bool b2] ∧
 ((!b2) = true →
 Tr Try.prog 49 #[Value.pointer m,Value.agg #[Value.int IntKind.i64 x4,Value.int IntKind.i64 x5,Value.int IntKind.i64 x6,Value.int IntKind.i64 x7,Value.int IntKind.i64 x8,Value.int IntKind.i64 x9,Value.int IntKind.i64 x10,Value.int IntKind.i64 x11,Value.int IntKind.i64 x12]] H1 fun (v1:Value) (H_1:Heap) =>
 v1 = Value.tuple #[] ∧ Rel (IntKind.i64.wrap (x3 + (1:Int))) H_1 ∧ mu (IntKind.i64.wrap (x3 + (1:Int))) H_1 < mu x3 H1) ∧
 ((!b2) = false → Rel (IntKind.i64.wrap (x3 + (1:Int))) H1 ∧ mu (IntKind.i64.wrap (x3 + (1:Int))) H1 < mu x3 H1)) ∧
 (decide (x3 < (↑n:Int)) = false →
 ∃ (Rel1:Heap → Prop),
 ∃ (mu1:Heap → Nat),
 Rel1 H1 ∧
 ∀ (H2:Heap),
 Rel1 H2 →
 ∃ (Rel2:Bool → Int → Heap → Prop),
 ∃ (mu2:Bool → Int → Heap → Nat),
 Rel2 false (0:Int) H2 ∧
 ∀ (b3:Bool) (x13:Int) (H3:Heap),
 Rel2 b3 x13 H3 →
 ∃ (a13:Addr),
 m = some a13 ∧
 ∃ (A1:Option Addr),
 ∃ (n1:Nat),
 ∃ (c7:Nat),
 At H3 ((a13.add 2).add 21) [Value.slice A1 n1 c7] ∧
 (decide (x13 < (↑n1:Int)) = true →
 ∃ (a14:Addr),
 m = some a14 ∧
 ∃ (b4:Bool),
 At H3 ((a14.add 2).add 25) [Value.bool b4] ∧
 (b4 = true → K (Value.tuple #[]) H3) ∧
 (b4 = false →
 ∃ (a15:Addr),
 m = some a15 ∧
 ∃ (A2:Option Addr),
 ∃ (n2:Nat),
 ∃ (c8:Nat),
 At H3 ((a15.add 2).add 21) [Value.slice A2 n2 c8] ∧
 ∃ (a16:Addr),
 (A2 = some a16 ∧ (0:Int) ≤ x13 ∧ x13 < (↑n2:Int)) ∧
 ∃ (x14:Int),
 ∃ (x15:Int),
 ∃ (x16:Int),
 ∃ (A3:Option Addr),
 ∃ (n3:Nat),
 ∃ (c9:Nat),
 ∃ (x17:Int),
 ∃ (x18:Int),
 ∃ (x19:Int),
 ∃ (x20:Int),
 ∃ (x21:Int),
 At H3 (a16.add (x13.toNat * 9)) [Value.int IntKind.i64 x14,Value.int IntKind.i64 x15,Value.int IntKind.i64 x16,Value.slice A3 n3 c9,Value.int IntKind.i64 x17,Value.int IntKind.i64 x18,Value.int IntKind.i64 x19,Value.int IntKind.i64 x20,Value.int IntKind.i64 x21] ∧
 ∃ (b5:Bool),
 (Tr Try.prog 50 #[Value.pointer m,Value.agg #[Value.int IntKind.i64 x14,Value.int IntKind.i64 x15,Value.int IntKind.i64 x16,Value.slice A3 n3 c9,Value.int IntKind.i64 x17,Value.int IntKind.i64 x18,Value.int IntKind.i64 x19,Value.int IntKind.i64 x20,Value.int IntKind.i64 x21]] H3
 fun (v2:Value) (H_2:Heap)=>v2 = Value.bool b5 ∧ Ax.Sub H3 H_2) ∧
 ((!b5) = true → Rel2 b3 (IntKind.i64.wrap (x13 + (1:Int))) H3 ∧ mu2 b3 (IntKind.i64.wrap (x13 + (1:Int))) H3 < mu2 b3 x13 H3) ∧
 ((!b5) = false →
 Tr Try.prog 51 #[Value.pointer m,Value.int IntKind.i64 x13] H3 fun (v3:Value) (H_3:Heap) =>
 ∃ (x22:Int),
 v3 = Value.int IntKind.i64 x22 ∧
 ∃ (a17:Addr),
 ((x22 == (2:Int)) = true → m = some a17) ∧
 ∃ (b6:Bool),
 ((x22 == (2:Int)) = true → At H_3 ((a17.add 2).add 25) [Value.bool b6]) ∧
 ((x22 == (2:Int) && !b6) = true →
 ∃ (a18:Addr),
 m = some a18 ∧
 ∃ (a19:Addr),
 m = some a19 ∧
 (∃ (A4:Option Addr),
 ∃ (n4:Nat),
 ∃ (c10:Nat),
 At H_3 ((a18.add 2).add 21) [Value.slice A4 n4 c10] ∧
 ((0:Int) ≤ x13 ∧ x13 ≤ (↑c10:Int) ∧ (0:Int) ≤ x13 ∧ x13 ≤ x13) ∧
 ∃ (A5:Option Addr),
 ∃ (n5:Nat),
 ∃ (c11:Nat),
 At H_3 ((a19.add 2).add 21) [Value.slice A5 n5 c11] ∧
 ((0:Int) ≤ IntKind.i64.wrap (x13 + (1:Int)) ∧ IntKind.i64.wrap (x13 + (1:Int)) ≤ (↑n5:Int)) ∧
 appS 60 9 88 H_3 (if x13.toNat = (0:Nat) then A4 else Option.map (fun (x:Addr)=>x.add ((0:Nat) * 9)) A4) (x13.toNat - (0:Nat)) (x13.toNat - (0:Nat))
 (if c11 = (IntKind.i64.wrap (x13 + (1:Int))).toNat then A5 else Option.map (fun (x:Addr)=>x.add ((IntKind.i64.wrap (x13 + (1:Int))).toNat * 9)) A5) (n5 - (IntKind.i64.wrap (x13 + (1:Int))).toNat) fun (A':Option Addr) (n' c':Nat) (H_4:Heap) =>
 ∃ (a20:Addr),
 m = some a20 ∧
 ∃ (c12:Array Value),
 ∃ (T6:TypeId),
 H_4 ((a20.add 2).add 21).block = some (Obj.cells c12 T6) ∧
 ((a20.add 2).add 21).spot = none ∧
 ((a20.add 2).add 21).off + [Value.slice A' n' c'].length ≤ c12.size ∧
 ∀ (H17:Heap),
 H17 = H_4.upd ((a20.add 2).add 21).block (Obj.cells (splice c12 ((a20.add 2).add 21).off [Value.slice A' n' c']) T6) →
 Rel2 true (IntKind.i64.wrap (IntKind.i64.wrap (x13 - (1:Int)) + (1:Int))) H17 ∧ mu2 true (IntKind.i64.wrap (IntKind.i64.wrap (x13 - (1:Int)) + (1:Int))) H17 < mu2 b3 x13 H3) ∧
 ∃ (A6:Option Addr),
 ∃ (n6:Nat),
 ∃ (c13:Nat),
 At H_3 ((a19.add 2).add 21) [Value.slice A6 n6 c13] ∧
 ((0:Int) ≤ IntKind.i64.wrap (x13 + (1:Int)) ∧ IntKind.i64.wrap (x13 + (1:Int)) ≤ (↑n6:Int)) ∧
 ∃ (A7:Option Addr),
 ∃ (n7:Nat),
 ∃ (c14:Nat),
 At H_3 ((a18.add 2).add 21) [Value.slice A7 n7 c14] ∧
 ((0:Int) ≤ x13 ∧ x13 ≤ (↑c14:Int) ∧ (0:Int) ≤ x13 ∧ x13 ≤ x13) ∧
 appS 60 9 88 H_3 (if x13.toNat = (0:Nat) then A7 else Option.map (fun (x:Addr)=>x.add ((0:Nat) * 9)) A7) (x13.toNat - (0:Nat)) (x13.toNat - (0:Nat))
 (if c13 = (IntKind.i64.wrap (x13 + (1:Int))).toNat then A6 else Option.map (fun (x:Addr)=>x.add ((IntKind.i64.wrap (x13 + (1:Int))).toNat * 9)) A6) (n6 - (IntKind.i64.wrap (x13 + (1:Int))).toNat) fun (A'1:Option Addr) (n'1 c'1:Nat) (H_5:Heap) =>
 ∃ (a21:Addr),
 m = some a21 ∧
 ∃ (c15:Array Value),
 ∃ (T7:TypeId),
 H_5 ((a21.add 2).add 21).block = some (Obj.cells c15 T7) ∧
 ((a21.add 2).add 21).spot = none ∧
 ((a21.add 2).add 21).off + [Value.slice A'1 n'1 c'1].length ≤ c15.size ∧
 ∀ (H18:Heap),
 H18 = H_5.upd ((a21.add 2).add 21).block (Obj.cells (splice c15 ((a21.add 2).add 21).off [Value.slice A'1 n'1 c'1]) T7) →
 Rel2 true (IntKind.i64.wrap (IntKind.i64.wrap (x13 - (1:Int)) + (1:Int))) H18 ∧ mu2 true (IntKind.i64.wrap (IntKind.i64.wrap (x13 - (1:Int)) + (1:Int))) H18 < mu2 b3 x13 H3) ∧
 ((x22 == (2:Int) && !b6) = false → Rel2 true (IntKind.i64.wrap (x13 + (1:Int))) H_3 ∧ mu2 true (IntKind.i64.wrap (x13 + (1:Int))) H_3 < mu2 b3 x13 H3)))) ∧
 (decide (x13 < (↑n1:Int)) = false → ((!b3) = true → K (Value.tuple #[]) H3) ∧ ((!b3) = false → Rel1 H3 ∧ mu1 H3 < mu1 H2)))
section
variable {p:Prg} {G H:Heap} {m:Nat} {pf po:SlH} {sl:Nat → SlH} {F:Heap} {ex:Value} {st:List SlH} {s:VS}
theorem zip_erase {α β:Type}:∀ (l:List α) (k:List β) (i:Nat),l.length = k.length → i < l.length → (l.eraseIdx i).zip (k.eraseIdx i) = (l.zip k).take i ++ (l.zip k).drop (i + 1)
  | [],_,_,_,h=>by simp at h
  | _ :: _,[],_,h,_=>by simp at h
  | a :: l,b :: k,0,_,_=>by simp
  | a :: l,b :: k,i + 1,h,hi=>by
    simp only [List.eraseIdx_cons_succ,List.zip_cons_cons,List.take_succ_cons,List.drop_succ_cons,List.cons_append]
    rw [zip_erase l k i (by simpa using h) (by simpa using hi)]
theorem flat_take {α:Type} {cells:α → List Value} {sz:Nat} (hsz:∀ x,(cells x).length = sz):∀ (l:List α) (i:Nat),(l.take i).flatMap cells = (l.flatMap cells).take (i * sz)
  | [],i=>by simp
  | x :: l,0=>by simp
  | x :: l,i + 1=>by
    rw [List.take_succ_cons,List.flatMap_cons,List.flatMap_cons,flat_take hsz l i]
    have:(i + 1) * sz = (cells x).length + i * sz:=by rw [hsz,Nat.add_mul]; omega
    rw [this,List.take_length_add_append]
theorem flat_drop {α:Type} {cells:α → List Value} {sz:Nat} (hsz:∀ x,(cells x).length = sz):∀ (l:List α) (i:Nat),(l.drop i).flatMap cells = (l.flatMap cells).drop (i * sz)
  | [],i=>by simp
  | x :: l,0=>by simp
  | x :: l,i + 1=>by
    rw [List.drop_succ_cons,List.flatMap_cons,flat_drop hsz l i]
    have:(i + 1) * sz = (cells x).length + i * sz:=by rw [hsz,Nat.add_mul]; omega
    rw [this,List.drop_length_add_append]
theorem add_nil (a:Addr):a.add (0 * 9) = a:=by unfold Addr.add; cases a with | mk b o s=>cases s <;> simp
theorem VMX.erase (h : VMX G H m pf po sl F ex st s) {i : Nat} (hi : i < s.threads.length) (h16 : s.threads.length ≤ 1000) {A1 A2 : Option Addr} (e1 : A1 = if (i : Int).toNat = 0 then (sl 0).A else Option.map (fun x : Addr => x.add (0 * 9)) (sl 0).A)
    (e2:A2 = if (sl 0).c = i + 1 then (sl 0).A else Option.map (fun x:Addr=>x.add ((i + 1) * 9)) (sl 0).A) {K:Option Addr → Nat → Nat → Heap → Prop}
    (k:∀ A' n' c' H',VMX G H' m pf po sl F ex st s → Ready F H' m sl ex 0 ⟨A',n',c'⟩ (((s.threads.eraseIdx i).zip (st.eraseIdx i)).flatMap thrC) → K A' n' c' H') :
    appS 60 9 88 H A1 (i - 0) (i - 0) A2 ((sl 0).n - (i + 1)) K:=by
  have ok:=h.ok 0 (by decide)
  have hc0:contC sl st s 0 = (s.threads.zip st).flatMap thrC:=rfl
  have hn:=h.thrLen
  have hlen:=ok.len
  have z9:szC 0 = 9:=rfl
  rw [hc0,z9,hn] at hlen
  have eA1:A1 = (sl 0).A:=by
    rw [e1]; split
    · rfl
    · cases (sl 0).A with
      | none=>rfl
      | some a=>rw [Option.map_some,add_nil]
  have hcells:((s.threads.eraseIdx i).zip (st.eraseIdx i)).flatMap thrC = ((s.threads.zip st).flatMap thrC).take (i * 9) ++ ((s.threads.zip st).flatMap thrC).drop ((i + 1) * 9):=by
    rw [zip_erase _ _ _ h.stl.symm hi,List.flatMap_append,flat_take (cells:=thrC) (sz:=9) (fun _=>rfl),flat_drop (cells:=thrC) (sz:=9) (fun _=>rfl)]
  rw [hcells] at k
  rcases ok.at_ with ⟨a1,a2,a3⟩ | ⟨b,off,cur,T,a1,a2,a3,a4⟩
  · omega
  · rw [z9] at a3
    have hcap:=ok.cap
    have hsrc:At H ⟨b,off,none⟩ ((s.threads.zip st).flatMap thrC):=⟨⟨cur,T,(0,0),a2,rfl,fun j v hv=>a4 j v (by rw [hc0]; exact hv)⟩⟩
    have hB:Src H A2 (((s.threads.zip st).flatMap thrC).drop ((i + 1) * 9)):=by
      by_cases hl:(sl 0).c = i + 1
      · left
        rw [List.drop_eq_nil_iff,hlen]; omega
      · right
        rw [e2,if_neg hl,a1]
        exact ⟨_,rfl,at_drop _ hsrc⟩
    have hsz2:(i * 9) ≤ s.threads.length * 9:=Nat.mul_le_mul_right _ (by omega)
    have hnl:(((s.threads.zip st).flatMap thrC).drop ((i + 1) * 9)).length = ((sl 0).n - (i + 1)) * 9:=by rw [List.length_drop,hlen,hn,Nat.sub_mul]
    have htl:(((s.threads.zip st).flatMap thrC).take (i * 9)).length = i * 9:=by rw [List.length_take,hlen]; omega
    refine ⟨⟨_,hB,hnl,⟨⟨((s.threads.zip st).flatMap thrC).take (i * 9),?_,by rw [htl]; rfl,hnl,?_,?_,by omega,fun hcap2=>.inl ⟨?_,?_⟩,fun hcap2 b' cap rest hbn hle hr=>?_⟩⟩⟩⟩
    · rw [eA1,a1]; exact .inr ⟨_,rfl,at_take _ hsrc⟩
    · have : ∀ (l : List (Thr × SlH)), allOne (l.flatMap thrC) = true := fun l => by
        induction l with
        | nil=>rfl
        | cons x l ih=>rw [List.flatMap_cons]; exact ih
      rw [← flat_drop (cells:=thrC) (sz:=9) (fun _=>rfl)]
      exact this _
    · exact Nat.le_trans (Nat.mul_le_mul_right 88 (show i - 0 + ((sl 0).n - (i + 1)) ≤ 1000 by omega)) (by decide)
    · rw [List.drop_eq_nil_iff,hlen]; omega
    · have hz:(sl 0).n - (i + 1) = 0:=by omega
      have hd:((s.threads.zip st).flatMap thrC).drop ((i + 1) * 9) = []:=by rw [List.drop_eq_nil_iff,hlen]; omega
      refine k _ _ _ _ h ⟨⟨?_,by omega,.inr ⟨b,off,cur,T,by rw [eA1]; exact a1,a2,?_,fun j v hv=>?_⟩⟩,fun b' hb'=>?_⟩
      · rw [hd,List.append_nil,htl,z9]; show i * 9 = (i - 0 + ((sl 0).n - (i + 1))) * 9; rw [hz]; rfl
      · rw [z9]; show off + (i - 0) * 9 ≤ cur.size
        have:i * 9 ≤ (sl 0).c * 9:=Nat.mul_le_mul_right _ (by omega)
        show off + i * 9 ≤ cur.size
        omega
      · rw [hd,List.append_nil,List.getElem?_take] at hv
        split at hv
        · exact a4 j v (by rw [hc0]; exact hv)
        · cases hv
      · refine h.free_own (by decide) ?_
        unfold SlH.blk at hb' ⊢
        simp only at hb'
        rw [eA1] at hb'; exact hb'
    · refine k _ _ _ _ (h.grow (Sub.upd_new hbn)) ⟨⟨?_,hle,.inr ⟨b',0,_,60,rfl,Heap.upd_same,?_,fun j v hv=>?_⟩⟩,fun b2 hb2=>?_⟩
      · rw [List.length_append,htl,hnl,z9]; show i * 9 + ((sl 0).n - (i + 1)) * 9 = (i - 0 + ((sl 0).n - (i + 1))) * 9; rw [Nat.add_mul]; rfl
      · rw [z9]
        simp only [List.size_toArray,List.length_append,htl,hnl,hr,Nat.zero_add]
        rw [← Nat.add_mul,← Nat.add_mul]
        have:i + ((sl 0).n - (i + 1)) + (cap - (i - 0 + ((sl 0).n - (i + 1)))) = cap:=by omega
        rw [this]; exact Nat.le_refl _
      · have hj:=get_lt hv
        simp only [List.getElem?_toArray,Nat.zero_add]
        rw [List.getElem?_append_left hj]; exact hv
      · unfold SlH.blk at hb2; simp only at hb2; cases hb2
        have fr:=h.free_new (c:=0) hbn
        exact ⟨fr.f,fr.m,fr.sl,fr.x⟩
theorem VMX.adopt (h : VMX G H m pf po sl F ex st s) {b : Nat} {o : Obj} (hb : H b = some o) (hF : F b = none) (hm : b ≠ m) (hs : ∀ c, c < 14 → (sl c).blk ≠ some b) (hx : ∀ xb : Nat, ex = .func (.func 60) #[] #[.pointer (some ⟨xb, 0, none⟩)] → xb ≠ b) :
    VMX (G.upd b o) H m pf po sl (F.upd b o) ex st s:=by
  have d:=dif_ext (G:=G) hF o
  refine ⟨⟨fun i x hi=>?_⟩,⟨fun i x hi=>?_⟩,by rw [Heap.upd_other (Ne.symm hm)]; exact h.fm,h.hm,fun c hc b' hb'=>⟨by rw [Heap.upd_other (fun e=>hs c hc (by rw [← e]; exact hb'))]; exact (h.own c hc b' hb').1,(h.own c hc b' hb').2⟩,h.inj,h.ok,h.stl,fun j t q h1 h2=>(h.stk j t q h1 h2).sub d,h.vars,h.attrs,h.sigs,h.exp.none_,fun l hl=>?_⟩
  · by_cases e:i = b
    · subst e; rw [Heap.upd_same] at hi ⊢; exact hi
    · rw [Heap.upd_other e] at hi ⊢; exact h.gf.sub i x hi
  · by_cases e:i = b
    · subst e; rw [Heap.upd_same] at hi; cases hi; exact hb
    · rw [Heap.upd_other e] at hi; exact h.fh.sub i x hi
  · obtain ⟨xb,A,n,c,T,q1,q2,q3,q4,q5,q6,q7⟩:=h.exp.some_ l hl
    exact ⟨xb,A,n,c,T,q1,q2,by rw [Heap.upd_other (hx xb q1)]; exact q3,q4,q5,q6,src_sub q7 d⟩
end
end Go.Proofs.Ytjmdoiakcakfoaa
set_option maxRecDepth 100000
namespace Go.Proofs.Ytjmdoiakcakfoaa
open Go.Ax
theorem FStep.fuel_le {p:Prg} {b:Bool} {s s':VS} (q:FStep p b s s'):s'.fuel ≤ s.fuel:=by
  cases q with
  | emit e ho hc=>rw [(keepE s e).fuel]; exact Int.le_refl _
  | fails c ho=>rw [(keepF s c).fuel]; exact Int.le_refl _
  | done i v k=>rcases setDone_cases s i v k with e | ⟨f,_,_,_,e⟩ <;> rw [e] <;> exact Int.le_refl _
  | mark i=>rcases mark_cases s i with e | ⟨c,hc,e⟩ <;> rw [e] <;> exact Int.le_refl _
  | fuel n hb h=>exact h.2
  | _=>exact Int.le_refl _
theorem FSteps.fuel_le {p:Prg} {b:Bool} {s s':VS} (q:FSteps p b s s'):s'.fuel ≤ s.fuel:=by
  induction q with
  | refl=>exact Int.le_refl _
  | tail _ k ih=>exact Int.le_trans k.fuel_le ih
def VS.left (s:VS):Nat:=s.fuel.toNat + if s.over = true then 0 else 1
theorem stepsG_left {p:Prg} (ok:Okp p) (i:Nat):∀ (n:Nat) (s:VS),s.fuel = n → Inv p s → Room s → i < s.threads.length → s.over = false → (VS.stepsG p i n s).2.fuel < s.fuel ∨ (VS.stepsG p i n s).2.over = true
  | 0,s,hf,iv,rm,hi,ho=>by
    rw [stepsG_eq,if_neg (by rw [ho]; simp)]
    exact .inr (overF s (-1))
  | n + 1,s,hf,iv,rm,hi,ho=>by
    left
    rw [stepsG_eq,if_neg (by rw [ho]; simp)]
    obtain ⟨st,iv1,rm1,sk⟩:=fuel_step iv rm hf
    obtain ⟨t,ht⟩:=get_some hi
    have ht1:(s.fuelAt n).threads[i]? = some t:=ht
    have fl:=instr_fuel ok ht1 iv1 rm1 ho sk
    have fl:((s.fuelAt n).instruction p i).2.fuel = n:=fl
    have iv2:=(instr_steps ok ht1 iv1 rm1 ho sk).inv iv1 rm1
    have tl:=instr_threads ok ht1 iv1 rm1 ho sk
    have tl:s.threads.length ≤ ((s.fuelAt n).instruction p i).2.threads.length:=tl
    simp only
    split
    · omega
    · have:=(stepsG_steps ok i n _ fl iv2.1 iv2.2 (by omega)).1.fuel_le
      omega
theorem steps_left {p:Prg} (ok:Okp p) {i:Nat} {s:VS} (iv:Inv p s) (rm:Room s) (hi:i < s.threads.length) (ho:s.over = false):(s.steps p i).2.left < s.left:=by
  have hf:=iv.fuel
  have st:=steps_steps ok iv rm hi
  have h1:=st.1.fuel_le
  have hf2:=(st.1.inv iv rm).1.fuel
  have h2:(s.steps p i).2.fuel < s.fuel ∨ (s.steps p i).2.over = true:=stepsG_left ok i s.fuel.toNat s (by omega) iv rm hi ho
  have e1:s.left = s.fuel.toNat + 1:=by unfold VS.left; rw [ho]; rfl
  rw [e1]
  unfold VS.left
  rcases h2 with h | h
  · split <;> omega
  · rw [if_pos h]; omega
def passM (s:VS) (k:Nat) (went:Bool):Nat:=40 * s.left + (if went = true then 20 else 0) + (17 - k)
def leftAt (m:Nat) (H:Heap):Nat:=fuelIn m H + match H m with
  | some (.cells c _ _)=>(match c[27]? with | some (Value.bool true)=>0 | _=>1)
  | _=>0
section
variable {p:Prg} {G H:Heap} {m:Nat} {pf po:SlH} {sl:Nat → SlH} {F:Heap} {ex:Value} {st:List SlH} {s:VS}
theorem VMX.leftAt (h:VMX G H m pf po sl F ex st s):Go.Proofs.Ytjmdoiakcakfoaa.leftAt m H = s.left:=by
  have e:Go.Proofs.Ytjmdoiakcakfoaa.leftAt m H = s.fuel.toNat + (match some (Value.bool s.over) with | some (Value.bool true)=>0 | _=>1):=by
    unfold Go.Proofs.Ytjmdoiakcakfoaa.leftAt; rw [h.fuelIn,h.hm]; rfl
  rw [e]; unfold VS.left
  cases s.over <;> rfl
structure RAdm (p:Prg) (G:Heap) (m:Nat) (pf po:SlH) (ex:Value) (ups:List Ev) (s1:VS) (x:Int) (H1:Heap):Prop where
  out:∃ (k:Nat) (s:VS),x = k ∧ k ≤ ups.length ∧ VMP p G H1 m pf po ex s ∧ Inv p s ∧ Room s ∧ admitAll p (ups.drop k) s = admitAll p ups s1
structure RPass (p:Prg) (G:Heap) (m:Nat) (pf po:SlH) (ex:Value) (tgt:VS) (H1:Heap):Prop where
  out:∃ (g:Nat) (s:VS),VMP p G H1 m pf po ex s ∧ Inv p s ∧ Room s ∧ passG p g s 0 false = tgt ∧ passM s 0 false < g
structure RIn (p:Prg) (G:Heap) (m:Nat) (pf po:SlH) (ex:Value) (tgt:VS) (H2:Heap) (went:Bool) (x:Int) (H1:Heap):Prop where
  out:∃ (g k:Nat) (s:VS),x = k ∧ k ≤ s.threads.length ∧ VMP p G H1 m pf po ex s ∧ Inv p s ∧ Room s ∧ passG p g s k went = tgt ∧ passM s k went < g ∧ s.left + (if went = true then 1 else 0) ≤ leftAt m H2
theorem pass_some {p : Prg} {g : Nat} {s : VS} {i : Nat} {went : Bool} {t : Thr} (ht : s.threads[i]? = some t) : passG p (g + 1) s i went = if s.over = true then s else
        if (!s.ready t) = true then passG p g s (i + 1) went else
        if ((s.steps p i).1 == 2 && !(s.steps p i).2.over) = true then passG p g { (s.steps p i).2 with threads:=(s.steps p i).2.threads.eraseIdx i } i true else passG p g (s.steps p i).2 (i + 1) true:=by
  rw [passG,ht]
theorem pass_none {p:Prg} {g:Nat} {s:VS} {i:Nat} {went:Bool} (ht:s.threads[i]? = none):passG p (g + 1) s i went = if (!went) = true then s else passG p g s 0 false:=by
  rw [passG,ht]
theorem loops {A : Option Addr} {n : Nat} {ups : List Ev} (okp : Okp p) (h : VMP p G H m pf po ex s) (iv : Inv p s) (rm : Room s) (hs : Src G A (ups.flatMap Ev.cells)) (hn : n = ups.length) (hid : ∀ u ∈ ups, 0 ≤ u.id) (hlen : ups.length ≤ 1000) {K : Value → Heap → Prop}
    (k:∀ H',VMP p G H' m pf po ex (passG p passGas (admitAll p ups s) 0 false) → K (.tuple #[]) H'):LoopsP (some ⟨m,0,none⟩) A n H K:=by
  subst hn
  refine ⟨RAdm p G m pf po ex ups s,fun x _=>((ups.length:Int) - x).toNat,⟨0,s,rfl,Nat.zero_le _,h,iv,rm,rfl⟩,fun x H1 r=>?_⟩
  obtain ⟨j,s1,rfl,hj,h1,iv1,rm1,he1⟩:=r.out
  obtain ⟨sl1,F1,st1,v1,pr1⟩:=h1.out
  have hw1:IntKind.i64.wrap ((j:Int) + 1) = ((j + 1:Nat):Int):=by rw [wrapi (by omega) (by omega)]; rfl
  rw [hw1]
  refine ⟨fun hlt=>?_,fun hge=>?_⟩
  · have hlt:(j:Int) < (ups.length:Int):=of_decide_eq_true hlt
    obtain ⟨e,he⟩:=get_some (l:=ups) (i:=j) (by omega)
    obtain ⟨a,ha,hat⟩:=src_elem (cells:=Ev.cells) (sz:=9) (fun _=>rfl) (by decide) (src_sub hs (v1.gf.trans v1.fh)) j e he
    have hdrop:ups.drop j = e :: ups.drop (j + 1):=(List.drop_eq_getElem_cons (get_lt he)).trans (by rw [List.getElem?_eq_getElem (get_lt he)] at he; injection he with he; rw [he])
    have dec:((ups.length:Int) - ((j + 1:Nat):Int)).toNat < ((ups.length:Int) - (j:Int)).toNat:=by omega
    rw [hdrop,admitAll] at he1
    refine ⟨a,⟨ha,by omega,hlt⟩,_,_,_,_,_,_,_,_,_,hat,_,rfl,_,v1.c27,fun ho=>?_,fun ho=>⟨⟨j + 1,s1,rfl,by omega,h1,iv1,rm1,?_⟩,dec⟩⟩
    · rw [if_pos ho] at he1
      have ho:s1.over = false:=by simpa using ho
      have iv2:=(admits_steps okp iv1 rm1 ho (hid e (List.mem_of_getElem? he))).inv iv1 rm1
      exact (t49 okp v1 pr1 iv1 rm1 e).mono fun v H2 ⟨hv,h2⟩=>⟨hv,⟨j + 1,_,rfl,by omega,h2,iv2.1,iv2.2,he1⟩,dec⟩
    · rw [if_neg (by rw [ho]; simp)] at he1; exact he1
  · have hge:¬ (j:Int) < (ups.length:Int):=of_decide_eq_false hge
    have hd:ups.drop j = []:=List.drop_eq_nil_of_le (by omega)
    rw [hd] at he1
    have he1:s1 = admitAll p ups s:=he1
    rw [← he1] at k
    have hf1:=iv1.fuel
    refine ⟨RPass p G m pf po ex (passG p passGas s1 0 false),fun H'=>leftAt m H',⟨passGas,s1,h1,iv1,rm1,rfl,?_⟩,fun H2 r2=>?_⟩
    · have hg:passGas = 100000:=rfl
      have hl1:s1.left ≤ 1001:=by unfold VS.left; split <;> omega
      rw [hg]
      show 40 * s1.left + 0 + 17 < 100000
      omega
    obtain ⟨g0,s2,h2,iv2,rm2,he2,hm2⟩:=r2.out
    have hl2:s2.left = leftAt m H2:=by obtain ⟨_,_,_,v2,_⟩:=h2.out; exact v2.leftAt.symm
    refine ⟨RIn p G m pf po ex (passG p passGas s1 0 false) H2,fun went x H'=>40 * leftAt m H' + (if went = true then 20 else 0) + (17 - x.toNat),⟨g0,0,s2,rfl,Nat.zero_le _,h2,iv2,rm2,he2,hm2,by rw [hl2]; simp⟩,fun went x H3 r3=>?_⟩
    obtain ⟨g,i,s3,rfl,hi,h3,iv3,rm3,he3,hm3,hw3⟩:=r3.out
    obtain ⟨sl3,F3,st3,v3,pr3⟩:=h3.out
    obtain ⟨g,rfl⟩:∃ g',g = g' + 1:=⟨g - 1,by omega⟩
    have h16:=iv3.t16
    have hn3:=v3.thrLen
    have hwi:IntKind.i64.wrap ((i:Int) + 1) = ((i + 1:Nat):Int):=by rw [wrapi (by omega) (by omega)]; rfl
    have hwd:IntKind.i64.wrap (IntKind.i64.wrap ((i:Int) - 1) + 1) = (i:Int):=by rw [wrapi (x:=(i:Int) - 1) (by omega) (by omega),wrapi (by omega) (by omega)]; omega
    rw [hwi,hwd]
    refine ⟨_,rfl,_,_,_,v3.c23,fun hlt=>?_,fun hge=>?_⟩
    · have hlt:(i:Int) < ((sl3 0).n:Int):=of_decide_eq_true hlt
      obtain ⟨t,ht⟩:=get_some (l:=s3.threads) (i:=i) (by omega)
      obtain ⟨a,q,ha,hq,-,hat⟩:=v3.thr ht
      have hT:=iv3.thr t (List.mem_of_getElem? ht)
      rw [pass_some ht] at he3
      refine ⟨_,rfl,_,v3.c27,fun ho=>?_,fun ho=>⟨_,rfl,_,_,_,v3.c23,a,⟨ha,by omega,by omega⟩,_,_,_,_,_,_,_,_,_,_,_,hat,_,t50 v3 t q hT.waits hT.signal,fun e=>?_,fun e=>?_⟩⟩
      · rw [if_pos ho] at he3
        rw [← he3] at k
        exact k H3 h3
      · rw [if_neg (by rw [ho]; simp),if_pos e] at he3
        refine ⟨⟨g,i + 1,s3,rfl,by omega,h3,iv3,rm3,he3,?_,hw3⟩,?_⟩
        · unfold passM at hm3 ⊢; omega
        · show 40 * leftAt m H3 + _ + (17 - (i + 1)) < 40 * leftAt m H3 + _ + (17 - i); omega
      · rw [if_neg (by rw [ho]; simp),if_neg (by rw [e]; simp)] at he3
        have hi':i < s3.threads.length:=by omega
        have ss:=steps_steps okp iv3 rm3 hi'
        have iv4:=ss.1.inv iv3 rm3
        have hl4:=steps_left okp iv3 rm3 hi' ho
        have hlen4:=ss.2.1
        have h164:=iv4.1.t16
        refine (t51 okp h3 iv3 rm3 hi').mono fun v H4 ⟨hv,h4⟩=>?_
        obtain ⟨sl4,F4,st4,v4,pr4⟩:=h4.out
        have hli3:=v3.leftAt
        have hli4:=v4.leftAt
        have hdec:40 * leftAt m H4 + 20 + 17 < 40 * leftAt m H3 + (if went = true then 20 else 0) + (17 - i):=by
          rw [hli3,hli4]; omega
        have hmm:∀ j,passM (s3.steps p i).2 j true + 1 ≤ g:=fun j=>by
          unfold passM at hm3 ⊢
          rw [if_pos rfl]
          omega
        have hw4:(s3.steps p i).2.left + (if true = true then 1 else 0) ≤ leftAt m H2:=by
          rw [if_pos rfl]
          have:s3.left ≤ leftAt m H2:=Nat.le_trans (Nat.le_add_right _ _) hw3
          omega
        refine ⟨_,hv,_,fun _=>rfl,_,fun _=>v4.c27,fun e2=>?_,fun e2=>⟨⟨g,i + 1,_,rfl,by omega,h4,iv4.1,iv4.2,?_,hmm _,hw4⟩,?_⟩⟩
        · rw [if_pos e2] at he3
          have hn4:=v4.thrLen
          have hc4:=(v4.ok 0 (by decide)).cap
          have he4:=(FStep.erase (p:=p) (b:=true) (s3.steps p i).2 i rfl).inv iv4.1 iv4.2
          have hel:i ≤ ((s3.steps p i).2.threads.eraseIdx i).length:=by
            have:=List.length_eraseIdx_of_lt (l:=(s3.steps p i).2.threads) (i:=i) hlen4
            omega
          have hwt:((i + 1:Nat):Int).toNat = i + 1:=by omega
          have hti:(i:Int).toNat = i:=by omega
          have key : appS 60 9 88 H4 (if (i : Int).toNat = 0 then (sl4 0).A else Option.map (fun x : Addr => x.add (0 * 9)) (sl4 0).A) (i - 0) (i - 0) (if (sl4 0).c = i + 1 then (sl4 0).A else Option.map (fun x : Addr => x.add ((i + 1) * 9)) (sl4 0).A) ((sl4 0).n - (i + 1)) fun A' n' c' H5 => ∃ a20 : Addr, some (⟨m, 0, none⟩ : Addr) = some a20 ∧ Wr H5 ((a20.add 2).add 21) (.slice A' n' c') fun H6 =>
              RIn p G m pf po ex (passG p passGas s1 0 false) H2 true (i:Int) H6 ∧ 40 * leftAt m H6 + (if true = true then 20 else 0) + (17 - (i:Int).toNat) < 40 * leftAt m H3 + (if went = true then 20 else 0) + (17 - (i:Int).toNat):=by
            refine v4.erase hlen4 (by omega) rfl rfl fun A' n' c' H5 v5 rd=>⟨_,rfl,?_⟩
            have hs6:∀ k,setH sl4 0 ⟨A',n',c'⟩ (6 + k) = sl4 (6 + k):=fun k=>if_neg (by omega)
            refine v5.wrSl (c:=0) (by decide) rd (k:=23) (by decide) { (s3.steps p i).2 with threads:=(s3.steps p i).2.threads.eraseIdx i } (st4.eraseIdx i) rfl rfl (fun c2 hc2 hne=>?_) rfl v5.vars v5.attrs v5.sigs ?_ (fun j u z hu hz=>?_) fun H6 v6=>⟨⟨g,i,_,rfl,hel,⟨_,F4,_,v6,pr4⟩,he4.1,he4.2,he3,hmm i,hw4⟩,?_⟩
            · simp only [contC,hs6,if_neg hne]
            · show (st4.eraseIdx i).length = ((s3.steps p i).2.threads.eraseIdx i).length
              rw [List.length_eraseIdx_of_lt (by rw [v5.stl]; exact hlen4),List.length_eraseIdx_of_lt hlen4,v5.stl]
            · have hu:((s3.steps p i).2.threads.eraseIdx i)[j]? = some u:=hu
              rw [List.getElem?_eraseIdx] at hu hz
              split at hu
              · rename_i hj; rw [if_pos hj] at hz; exact v5.stk _ u z hu hz
              · rename_i hj; rw [if_neg hj] at hz; exact v5.stk _ u z hu hz
            · have hli6:leftAt m H6 = (s3.steps p i).2.left:=v6.leftAt
              rw [hli6]
              rw [hli4] at hdec
              rw [if_pos rfl]
              omega
          rw [hwt]
          exact ⟨_,rfl,_,rfl,⟨_,_,_,v4.c23,⟨by omega,by omega,by omega,by omega⟩,_,_,_,v4.c23,⟨by omega,by omega⟩,key⟩,_,_,_,v4.c23,⟨by omega,by omega⟩,_,_,_,v4.c23,⟨by omega,by omega,by omega,by omega⟩,key⟩
        · rw [if_neg (by rw [e2]; simp)] at he3; exact he3
        · show 40 * leftAt m H4 + (if true = true then 20 else 0) + (17 - (i + 1)) < 40 * leftAt m H3 + _ + (17 - i)
          rw [if_pos rfl]; omega
    · have hge:¬ (i:Int) < ((sl3 0).n:Int):=of_decide_eq_false hge
      have ht:s3.threads[i]? = none:=List.getElem?_eq_none (by omega)
      rw [pass_none ht] at he3
      refine ⟨fun e=>?_,fun e=>?_⟩
      · rw [if_pos e] at he3
        rw [← he3] at k
        exact k H3 h3
      · rw [if_neg (by rw [e]; simp)] at he3
        have e:went = true:=by simpa using e
        subst e
        have hli3:=v3.leftAt
        rw [if_pos rfl] at hw3
        refine ⟨⟨g,s3,h3,iv3,rm3,he3,?_⟩,?_⟩
        · unfold passM at hm3 ⊢
          rw [if_pos rfl] at hm3
          rw [if_neg (by simp)]
          omega
        · show leftAt m H3 < leftAt m H2
          omega
end
end Go.Proofs.Ytjmdoiakcakfoaa
set_option maxRecDepth 100000
namespace Go.Proofs.Ytjmdoiakcakfoaa
open Go.Ax
structure Tasks (s:VS):Prop where
  ho:s.over = false
  c:s.count ≤ 255
  live:s.expect = none → s.count ≤ 254
  rep:∀ l,s.expect = some l → s.count + 1 + l.length ≤ 256
theorem begin_inv {p:Prg} {s:VS} (iv:Inv p s) (tk:Tasks s) (now:Int):Inv p (s.begin_ now) ∧ Room (s.begin_ now):=by
  have hm:=iv.many
  have hf:=iv.fuel
  have hc:=iv.c0
  have h1:=tk.c
  refine ⟨⟨iv.scp,iv.scn,iv.sc32,iv.t16,fun t ht=>(iv.thr t ht).mono (Nat.le_refl _) (Nat.le_refl _),iv.futs,⟨by show (0:Int) ≤ 1000; decide,by show (1000:Int) ≤ 1000; decide⟩,?_,⟨by show 0 ≤ s.count + 1; omega,by show s.count + 1 ≤ 256; omega⟩,tk.rep,?_,fun l hl=>?_,iv.sg8,?_,fun u hu=>(by cases hu),iv.v16,iv.a4⟩,fun hx _=>?_⟩
  · show (s.futures.length:Int) + 1000 ≤ 1000 * (s.count + 1); omega
  · show ((1:Nat):Int) ≤ s.count + 1; omega
  · have:=iv.sig l hl; show (l.length:Int) ≤ s.count + 1; omega
  · show ((0:Nat):Int) ≤ s.count + 1; omega
  · have:=tk.live hx; show s.count + 1 ≤ 255; omega
theorem admitAll_steps {p:Prg} (ok:Okp p):∀ (l:List Ev) (s:VS),Inv p s → Room s → (∀ u ∈ l,0 ≤ u.id) → FSteps p true s (admitAll p l s)
  | [],s,_,_,_=>.refl s
  | e :: l,s,iv,rm,h=>by
    rw [admitAll]
    split
    · rename_i ho
      have st:=admits_steps ok iv rm (show s.over = false by simpa using ho) (h e (List.mem_cons_self ..))
      have iv1:=st.inv iv rm
      exact st.trans (admitAll_steps ok l _ iv1.1 iv1.2 fun u hu=>h u (List.mem_cons_of_mem _ hu))
    · exact admitAll_steps ok l s iv rm fun u hu=>h u (List.mem_cons_of_mem _ hu)
theorem pass_steps {p:Prg} (ok:Okp p):∀ (g:Nat) (s:VS) (i:Nat) (went:Bool),Inv p s → Room s → FSteps p true s (passG p g s i went)
  | 0,s,_,_,_,_=>.refl s
  | g + 1,s,i,went,iv,rm=>by
    cases ht:s.threads[i]? with
    | none =>
      rw [pass_none ht]
      split
      · exact .refl s
      · exact pass_steps ok g s 0 false iv rm
    | some t =>
      rw [pass_some ht]
      split
      · exact .refl s
      · rename_i ho
        split
        · exact pass_steps ok g s (i + 1) went iv rm
        · have ss:=steps_steps ok iv rm (get_lt ht)
          have iv1:=ss.1.inv iv rm
          split
          · have st:=ss.1.tail (.erase _ i rfl)
            have iv2:=st.inv iv rm
            exact st.trans (pass_steps ok g _ i true iv2.1 iv2.2)
          · exact ss.1.trans (pass_steps ok g _ (i + 1) true iv1.1 iv1.2)
def VS.opened (s:VS) (now:Int):VS:=if s.cancel = true then (s.begin_ now).cancels 0 else s.begin_ now
theorem opened_steps {p:Prg} {s:VS} (ho:s.over = false) (now:Int):FSteps p true (s.begin_ now) (s.opened now):=by
  unfold VS.opened; split
  · exact cancels_steps 0 ho
  · exact .refl _
theorem task_eq (s:VS) (p:Prg) (now:Int):s.task p now = passG p passGas (admitAll p s.updates (s.opened now)) 0 false:=rfl
theorem task_steps {p:Prg} (ok:Okp p) {s:VS} (iv:Inv p s) (tk:Tasks s) (now:Int):FSteps p true (s.begin_ now) (s.task p now):=by
  have h0:=begin_inv iv tk now
  have s1:=opened_steps (p:=p) tk.ho now
  have h1:=s1.inv h0.1 h0.2
  have s2:=admitAll_steps ok s.updates _ h1.1 h1.2 iv.updI
  have h2:=s2.inv h1.1 h1.2
  exact (s1.trans s2).trans (pass_steps ok passGas _ 0 false h2.1 h2.2)
section
variable {p:Prg} {G H:Heap} {m:Nat} {pf po:SlH} {sl:Nat → SlH} {F:Heap} {ex:Value} {st:List SlH} {s:VS}
theorem VMX.c28 (h:VMX G H m pf po sl F ex st s):At H ((⟨m,0,none⟩:Addr).add 28) [(sl 4).v]:=h.cell rfl
theorem VMX.c29 (h:VMX G H m pf po sl F ex st s):At H ((⟨m,0,none⟩:Addr).add 29) [.bool s.cancel]:=h.cell rfl
theorem VMX.updLen (h:VMX G H m pf po sl F ex st s):(sl 4).n = s.updates.length:=by
  have:=(h.ok 4 (by decide)).len
  have e:contC sl st s 4 = s.updates.flatMap Ev.cells:=rfl
  rw [e,flat_size (cells:=Ev.cells) (sz:=9) (fun _=>rfl)] at this
  have z:szC 4 = 9:=rfl
  rw [z] at this; omega
theorem VMX.letUpd (h : VMX G H m pf po sl F ex st s) (pr : HasP (dif F G) pf.A pf.n po.A po.n p) {Q : Heap → Prop} (q : ∀ G' F' H', VMX G' H' m pf po (setH sl 4 ⟨none, 0, 0⟩) F' ex st { s with updates := [] } → Sub G G' → HasP (dif F' G') pf.A pf.n po.A po.n p → Src G' (sl 4).A (s.updates.flatMap Ev.cells) → Q H') :
    Wr H ((⟨m,0,none⟩:Addr).add 28) (.slice none 0 0) Q:=by
  have hs6:∀ k,setH sl 4 ⟨none,0,0⟩ (6 + k) = sl (6 + k):=fun k=>if_neg (by omega)
  have rd:Ready F H m sl ex 4 ⟨none,0,0⟩ []:=⟨⟨by simp,Nat.le_refl _,.inl ⟨rfl,rfl,rfl⟩⟩,fun b hb=>by cases hb⟩
  have v:=h.setSl (c:=4) (by decide) rd { s with updates:=[] } st rfl (fun c2 hc2 hne=>by simp only [contC,hs6,if_neg hne]) rfl h.vars h.attrs h.sigs h.stl h.stk
  refine wr_cells h.hm (k:=28) (by rw [mCells_len]; decide) ?_
  have em:(mCells pf po sl ex s).set 28 (.slice none 0 0) = mCells pf po (setH sl 4 ⟨none,0,0⟩) ex { s with updates:=[] }:=rfl
  rw [em]
  have ok:=h.ok 4 (by decide)
  have e4:contC sl st s 4 = s.updates.flatMap Ev.cells:=rfl
  rw [e4] at ok
  rcases ok.at_ with ⟨a1,a2,a3⟩ | ⟨b,off,cur,T,a1,a2,a3,a4⟩
  · refine q G F _ v (Sub.refl _) pr (.inl ?_)
    have:=ok.len
    rw [a2,Nat.zero_mul] at this
    exact List.length_eq_zero_iff.1 this
  · have hblk:(sl 4).blk = some b:=by unfold SlH.blk; rw [a1]; rfl
    have fr:=h.free_own (by decide:4 < 14) hblk
    have hb:(H.upd m (.cells ⟨mCells pf po (setH sl 4 ⟨none,0,0⟩) ex { s with updates:=[] }⟩ 89 (0,0))) b = some (.cells cur T (0,0)):=by rw [Heap.upd_other fr.m]; exact a2
    have hG:=none_below h.gf fr.f
    refine q _ _ _ (v.adopt hb fr.f fr.m (fun c hc hcb=>?_) fr.x) (Sub.upd_new hG) (pr.sub (dif_ext fr.f _)) (.inr ⟨_,a1,⟨⟨cur,T,(0,0),Heap.upd_same,rfl,a4⟩⟩⟩)
    by_cases h4:c = 4
    · subst h4
      have:(setH sl 4 ⟨none,0,0⟩ 4).blk = none:=rfl
      rw [this] at hcb; cases hcb
    · have:setH sl 4 ⟨none,0,0⟩ c = sl c:=if_neg h4
      rw [this] at hcb
      exact h4 (fr.sl c hc hcb)
theorem t31 (okp : Okp p) (h : VMX G H m pf po sl F ex st s) (pr : HasP (dif F G) pf.A pf.n po.A po.n p) (iv : Inv p s) (tk : Tasks s) (now : Int) :
    Tr Try.prog 31 #[.pointer (some ⟨m,0,none⟩),.int .i64 now] H fun v H'=>v = .tuple #[] ∧ VMP p G H' m pf po ex (s.task p now):=by
  have hc:=iv.c0
  have hcc:=tk.c
  have hup:=iv.upd
  have hw:IntKind.i64.wrap (s.count + 1) = s.count + 1:=wrapi (by omega) (by omega)
  have h0:=begin_inv iv tk now
  apply v31; unfold F31
  refine ⟨_,rfl,?_⟩
  refine h.wr (k:=31) (by decide) (s.fuelAt 1000) rfl rfl rfl rfl rfl rfl rfl rfl h.vars h.attrs fun H1 v1=>?_
  refine ⟨_,rfl,_,rfl,⟨s.count,v1.c30,s.count,v1.c30,?_⟩,s.count,v1.c30,s.count,v1.c30,?_⟩
  all_goals
    rw [hw]
    intro b hb H2 e2
    have v2:=v1.grow (Sub.upd_new (o:=.cells ⟨Ev.cells ⟨s.count + 1,now,2,s.count,0,0,0,0,0⟩⟩ 23 (0,0)) hb)
    have fr:=v1.free_new (c:=5) hb
    have e2':H2 = H1.upd b (.cells ⟨Ev.cells ⟨s.count + 1,now,2,s.count,0,0,0,0,0⟩⟩ 23 (0,0)):=e2
    rw [← e2'] at v2
    have rd:Ready F H2 m sl ex 5 ⟨some ⟨b,0,none⟩,1,1⟩ (Ev.cells ⟨s.count + 1,now,2,s.count,0,0,0,0,0⟩) :=
      ⟨⟨rfl,Nat.le_refl _,.inr ⟨b,0,_,_,rfl,by rw [e2']; exact Heap.upd_same,Nat.le_refl _,fun j v hv=>by simpa using hv⟩⟩,fun b' hb'=>by
        have:b = b':=by unfold SlH.blk at hb'; simpa using hb'
        subst this
        exact ⟨fr.f,fr.m,fr.sl,fr.x⟩⟩
    have hs6:∀ k,setH sl 5 ⟨some ⟨b,0,none⟩,1,1⟩ (6 + k) = sl (6 + k):=fun k=>if_neg (by omega)
    refine ⟨_,rfl,?_⟩
    refine v2.wrSl (c:=5) (by decide) rd (k:=32) (by decide) { s with fuel:=1000,made:=[⟨s.count + 1,now,2,s.count,0,0,0,0,0⟩] } st rfl (List.append_nil _) (fun c2 hc2 hne=>by simp only [contC,hs6,if_neg hne]; rfl) rfl h.vars h.attrs h.sigs h.stl h.stk fun H3 v3=>?_
    refine ⟨_,rfl,?_⟩
    refine v3.wr (k:=22) (by decide) { s with fuel:=1000,made:=[⟨s.count + 1,now,2,s.count,0,0,0,0,0⟩],now:=now } rfl rfl rfl rfl rfl rfl rfl rfl h.vars h.attrs fun H4 v4=>?_
    refine ⟨_,rfl,s.count,v4.c30,_,rfl,?_⟩
    rw [hw]
    refine v4.wr (k:=30) (by decide) { s with fuel:=1000,made:=[⟨s.count + 1,now,2,s.count,0,0,0,0,0⟩],now:=now,count:=s.count + 1 } rfl rfl rfl rfl rfl rfl rfl rfl h.vars h.attrs fun H5 v5=>?_
    refine ⟨_,rfl,s.cancel,v5.c29,_,rfl,_,_,_,v5.c28,_,rfl,?_⟩
    have hul:(setH sl 5 ⟨some ⟨b,0,none⟩,1,1⟩ 4).n = s.updates.length:=v5.updLen
    refine v5.wr (k:=29) (by decide) { s with fuel:=1000,made:=[⟨s.count + 1,now,2,s.count,0,0,0,0,0⟩],now:=now,count:=s.count + 1,cancel:=false } rfl rfl rfl rfl rfl rfl rfl rfl h.vars h.attrs fun H6 v6=>?_
    refine ⟨_,rfl,?_⟩
    refine v6.letUpd pr fun G7 F7 H7 v7 sg pr7 hsrc=>?_
    have v7:VMX G7 H7 m pf po _ F7 ex st (s.begin_ now):=v7
    refine ⟨fun ec=>?_,fun ec=>?_⟩
    · have ho:s.opened now = (s.begin_ now).cancels 0:=by unfold VS.opened; rw [if_pos ec]
      have st1:=opened_steps (p:=p) tk.ho now
      have h1:=st1.inv h0.1 h0.2
      rw [ho] at h1
      have hsn:=iv.scn
      refine (t48 v7 h0.1 h0.2 tk.ho 0 ⟨Int.le_refl _,by show (0:Int) < s.scopes.length; omega⟩).mono fun v H8 ⟨hv,sl8,F8,k8,v8⟩=>⟨hv,?_⟩
      refine loops (ups:=s.updates) (K:=fun v H'=>v = .tuple #[] ∧ VMP p G H' m pf po ex (s.task p now)) okp ⟨sl8,F8,st,v8,pr7.sub (dif_more k8)⟩ h1.1 h1.2 hsrc hul iv.updI (by omega) fun H9 w=>⟨rfl,?_⟩
      rw [task_eq,ho]
      obtain ⟨sl9,F9,st9,v9,pr9⟩:=w.out
      exact ⟨sl9,F9,st9,v9.weaken sg,pr9.sub (dif_low sg)⟩
    · have ho:s.opened now = s.begin_ now:=by unfold VS.opened; rw [if_neg (by rw [ec]; simp)]
      refine loops (ups:=s.updates) (K:=fun v H'=>v = .tuple #[] ∧ VMP p G H' m pf po ex (s.task p now)) okp ⟨_,F7,st,v7,pr7⟩ h0.1 h0.2 hsrc hul iv.updI (by omega) fun H9 w=>⟨rfl,?_⟩
      rw [task_eq,ho]
      obtain ⟨sl9,F9,st9,v9,pr9⟩:=w.out
      exact ⟨sl9,F9,st9,v9.weaken sg,pr9.sub (dif_low sg)⟩
end
end Go.Proofs.Ytjmdoiakcakfoaa
set_option maxRecDepth 100000
namespace Go.Proofs.Ytjmdoiakcakfoaa
open Go.Ax
theorem valid_head {e:Ev} (h:validM e = true):1 ≤ e.id ∧ e.id ≤ 256 ∧ 0 ≤ e.time ∧ e.time ≤ 1099511627776 ∧ 0 ≤ fieldsM e.kind:=by
  unfold validM headOk at h
  rw [Bool.and_eq_true] at h
  have:=h.1
  simp at this
  omega
theorem valid_19 {e:Ev} (h:validM e = true) (k:e.kind = 19):0 ≤ e.a ∧ e.a < 8:=by
  unfold validM at h
  rw [Bool.and_eq_true] at h
  have h:=h.2
  rw [k] at h
  simp only [Bool.and_eq_true] at h
  have h0:=h.1.1.1.1.1
  have e1:numOk 19 0 e.a = (decide ((spanM 19 0).1 ≤ e.a) && decide (e.a ≤ (spanM 19 0).2)):=rfl
  rw [e1] at h0
  have e2:(spanM 19 0) = (0,7):=rfl
  rw [e2] at h0
  simp at h0
  omega
def VS.counted (s:VS):VS:={ s with count:=s.count + 1 }
theorem signal_eq {s:VS} {k:Nat} {l:List Int} (h:s.signals[k]? = some l) (v:Int):s.signal k v = { s with signals:=s.signals.set k (l ++ [v]) }:=by
  unfold VS.signal
  rw [Int.toNat_natCast]
  congr 1
  apply List.ext_getElem?
  intro i
  rw [List.getElem?_modify,List.getElem?_set]
  by_cases hi:k = i
  · subst hi
    have e:s.signals[k]'(get_lt h) = l:=by have:=h; rw [List.getElem?_eq_getElem (get_lt h)] at this; injection this
    simp [get_lt h,e]
  · simp [hi]
theorem bne_not (a b:Bool):(!a == b) = (a != b):=by cases a <;> cases b <;> rfl
structure Taken (s:VS) (e:Ev):Prop where
  valid:validM e = true
  id:e.id = s.count + 1
  out:outsideM e = true
  first:(e.kind == 1) = (s.count == 0)
theorem taken {s:VS} {e:Ev} (h:s.refuses e = false):Taken s e:=by
  unfold VS.refuses at h
  simp only [Bool.or_eq_false_iff,bne_eq_false_iff_eq] at h
  obtain ⟨⟨⟨h1,h2⟩,h3⟩,h4⟩:=h
  exact ⟨by simpa using h1,h2,by simpa using h3,h4⟩
theorem counted_inv {p:Prg} {s:VS} (iv:Inv p s) (hx:s.expect = none) (hc:s.count ≤ 255):Inv p s.counted:=by
  have hm:=iv.many
  have h0:=iv.c0
  refine ⟨iv.scp,iv.scn,iv.sc32,iv.t16,fun t ht=>(iv.thr t ht).mono (Nat.le_refl _) (Nat.le_refl _),iv.futs,iv.fuel,?_,⟨by show 0 ≤ s.count + 1; omega,by show s.count + 1 ≤ 256; omega⟩,fun l hl=>?_,?_,fun l hl=>?_,iv.sg8,?_,iv.updI,iv.v16,iv.a4⟩
  · show (s.futures.length:Int) + s.fuel ≤ 1000 * (s.count + 1); omega
  · rw [show s.counted.expect = s.expect from rfl,hx] at hl; cases hl
  · have:=iv.made; show (s.made.length:Int) ≤ s.count + 1; omega
  · have:=iv.sig l hl; show (l.length:Int) ≤ s.count + 1; omega
  · have:=iv.upd; show (s.updates.length:Int) ≤ s.count + 1; omega
theorem done_inv {p:Prg} {s:VS} (iv:Inv p s) (i v k:Int):Inv p (s.setDone i v k):=by
  rcases setDone_cases s i v k with e | ⟨f,hf,h0,hd,e⟩
  · rw [e]; exact iv
  · rw [e]
    have hl:(s.futures.set i.toNat (f.end_ v k)).length = s.futures.length:=List.length_set
    refine ⟨iv.scp,iv.scn,iv.sc32,iv.t16,fun t ht=>(iv.thr t ht).mono (Nat.le_refl _) (by show _ ≤ (s.futures.set _ _).length; rw [hl]; exact Nat.le_refl _),fun g hg=>?_,iv.fuel,by show ((s.futures.set i.toNat (f.end_ v k)).length:Int) + _ ≤ _; rw [hl]; exact iv.many,iv.c0,iv.c3,iv.made,iv.sig,iv.sg8,iv.upd,iv.updI,iv.v16,iv.a4⟩
    rcases mem_set hg with hg | hg
    · exact iv.futs g hg
    · subst hg; exact iv.futs f (List.mem_of_getElem? hf)
theorem over_inv {p:Prg} {s:VS} (iv:Inv p s):Inv p { s with over:=true }:=⟨iv.scp,iv.scn,iv.sc32,iv.t16,fun t ht=>(iv.thr t ht).mono (Nat.le_refl _) (Nat.le_refl _),iv.futs,iv.fuel,iv.many,iv.c0,iv.c3,iv.made,iv.sig,iv.sg8,iv.upd,iv.updI,iv.v16,iv.a4⟩
theorem apply_inv {p:Prg} (ok:Okp p) {s:VS} (iv:Inv p s) (hx:s.expect = none) {e:Ev}:Inv p (s.apply e).2:=by
  unfold VS.apply
  split
  · exact iv
  · split
    · exact iv
    · rename_i hr
      have tk:=taken (by simpa using hr)
      have hh:=valid_head tk.valid
      have hid:=tk.id
      have ic:=counted_inv iv hx (by omega)
      show Inv p (s.counted.applied e)
      unfold VS.applied
      split
      · obtain ⟨f,hf⟩:=get_some (l:=p.funcs) (i:=0) (by have:=ok.n1; omega)
        have hlen:=(ok.len hf).1
        have hn:=iv.scn
        refine ⟨ic.scp,ic.scn,ic.sc32,by show 1 ≤ 16; decide,fun t ht=>?_,ic.futs,ic.fuel,ic.many,ic.c0,ic.c3,ic.made,ic.sig,ic.sg8,ic.upd,ic.updI,ic.v16,ic.a4⟩
        have:t = Thr.new 0 0 e.b (-1) 0:=by simpa using ht
        subst this
        exact ⟨⟨f,hf,by show (0:Int) < f.ops.length; omega⟩,Int.le_refl _,Int.le_refl _,Nat.zero_le _,⟨Int.le_refl _,by show (0:Int) < s.scopes.length; omega⟩,⟨Int.le_refl _,by show (-1:Int) < _; omega⟩,Int.le_refl _,by show (-1:Int) < _; omega,by show (-1:Int) < 8; decide⟩
      · split
        · rename_i h19
          have ha:=valid_19 tk.valid h19
          obtain ⟨l,hl⟩:=get_some (l:=s.counted.signals) (i:=e.a.toNat) (by have:=iv.sg8; show e.a.toNat < s.signals.length; omega)
          have hea:e.a = (e.a.toNat:Int):=by omega
          rw [hea,signal_eq hl]
          refine ⟨ic.scp,ic.scn,ic.sc32,ic.t16,fun t ht=>(ic.thr t ht).mono (Nat.le_refl _) (Nat.le_refl _),ic.futs,ic.fuel,ic.many,ic.c0,ic.c3,ic.made,fun z hz=>?_,by show (s.counted.signals.set _ _).length = 8; rw [List.length_set]; exact ic.sg8,ic.upd,ic.updI,ic.v16,ic.a4⟩
          rcases mem_set hz with hz | hz
          · exact ic.sig z hz
          · subst hz
            have:=iv.sig l (List.mem_of_getElem? hl)
            rw [List.length_append]
            show ((l.length + 1:Nat):Int) ≤ s.count + 1
            omega
        · split
          · exact ⟨ic.scp,ic.scn,ic.sc32,ic.t16,fun t ht=>(ic.thr t ht).mono (Nat.le_refl _) (Nat.le_refl _),ic.futs,ic.fuel,ic.many,ic.c0,ic.c3,ic.made,ic.sig,ic.sg8,ic.upd,ic.updI,ic.v16,ic.a4⟩
          · split
            · refine ⟨ic.scp,ic.scn,ic.sc32,ic.t16,fun t ht=>(ic.thr t ht).mono (Nat.le_refl _) (Nat.le_refl _),ic.futs,ic.fuel,ic.many,ic.c0,ic.c3,ic.made,ic.sig,ic.sg8,?_,fun u hu=>?_,ic.v16,ic.a4⟩
              · have:=iv.upd
                show ((s.updates ++ [e]).length:Int) ≤ s.count + 1
                rw [List.length_append,List.length_singleton]; omega
              · rcases List.mem_append.1 hu with hu | hu
                · exact iv.updI u hu
                · rw [List.mem_singleton] at hu; subst hu; omega
            · split
              · exact done_inv ic _ _ _
              · split
                · exact done_inv ic _ _ _
                · split
                  · exact done_inv ic _ _ _
                  · split
                    · exact done_inv ic _ _ _
                    · split
                      · exact done_inv ic _ _ _
                      · split
                        · exact over_inv ic
                        · exact ic
section
variable {p:Prg} {G H:Heap} {m:Nat} {pf po:SlH} {sl:Nat → SlH} {F:Heap} {ex:Value} {st:List SlH} {s:VS}
theorem VMX.addSig (h : VMX G H m pf po sl F ex st s) (pr : HasP (dif F G) pf.A pf.n po.A po.n p) {k : Nat} (hk : k < 8) {l : List Int} (hl : s.signals[k]? = some l) (hlen : l.length ≤ 1000) (x : Int) {K : Heap → Prop} (q : ∀ H', VMP p G H' m pf po ex (s.signal k x) → K H') :
    ∃ a8:Addr,((sl 3).A = some a8 ∧ (0:Int) ≤ (k:Int) ∧ (k:Int) < ((sl 3).n:Int)) ∧ At H (a8.add ((k:Int).toNat * 1)) [(sl (6 + k)).v] ∧ appC 2 1 8 H (sl (6 + k)).A (sl (6 + k)).n (sl (6 + k)).c [.int .i64 x] 1 fun A' n' c' H2=>Sub (onlyB m (.cells ⟨mCells pf po sl ex s⟩ 89 (0,0))) H2 ∧
      ∃ a9:Addr,((sl 3).A = some a9 ∧ (0:Int) ≤ (k:Int) ∧ (k:Int) < ((sl 3).n:Int)) ∧ Wr H2 (a9.add ((k:Int).toNat * 1)) (.slice A' n' c') fun H3=>Sub (onlyB m (.cells ⟨mCells pf po sl ex s⟩ 89 (0,0))) H3 ∧ K H3:=by
  obtain ⟨a,ha,hat⟩:=h.sig hk
  have hn:=h.sigN hk
  have h3:=h.sigLen
  have hgl:s.signals[k]?.getD [] = l:=by rw [hl]; rfl
  have z:szC (6 + k) = 1:=by unfold szC; rw [if_neg (by omega),if_neg (by omega),if_neg (by omega),if_neg (by omega),if_neg (by omega),if_neg (by omega)]
  have e6:contC sl st s (6 + k) = intsC l:=by
    unfold contC
    rw [if_neg (by omega),if_neg (by omega),if_neg (by omega),if_neg (by omega),if_neg (by omega),if_neg (by omega)]
    have:6 + k - 6 = k:=by omega
    rw [this,hgl]
  rw [hgl] at hn
  have hkt:(k:Int).toNat = k:=by omega
  rw [hkt]
  have bd:(sl 3).A = some a ∧ (0:Int) ≤ (k:Int) ∧ (k:Int) < ((sl 3).n:Int):=⟨ha,by omega,by omega⟩
  have key : appC 2 (szC (6 + k)) 8 H (sl (6 + k)).A (sl (6 + k)).n (sl (6 + k)).c [.int .i64 x] 1 fun A' n' c' H2 => Sub (onlyB m (.cells ⟨mCells pf po sl ex s⟩ 89 (0, 0))) H2 ∧
      ∃ a9:Addr,((sl 3).A = some a9 ∧ (0:Int) ≤ (k:Int) ∧ (k:Int) < ((sl 3).n:Int)) ∧ Wr H2 (a9.add (k * 1)) (.slice A' n' c') fun H3=>Sub (onlyB m (.cells ⟨mCells pf po sl ex s⟩ 89 (0,0))) H3 ∧ K H3 :=
    h.app (c:=6 + k) (by omega) (new:=[.int .i64 x]) (k:=1) (by rw [z]; rfl) rfl (by omega) (by omega) fun A' c' H2 v2 rd=>⟨onlyB_sub v2.hm,a,bd,by
      rw [e6] at rd
      have rd2:Ready F H2 m sl ex (6 + k) ⟨A',(sl (6 + k)).n + 1,c'⟩ (intsC (l ++ [x])):=by rw [intsC_app]; exact rd
      refine v2.setSig hk rd2 ha fun H3 v3=>?_
      have e:mCells pf po (setH sl (6 + k) ⟨A',(sl (6 + k)).n + 1,c'⟩) ex { s with signals:=s.signals.set k (l ++ [x]) } = mCells pf po sl ex s:=by
        unfold mCells setH
        rw [if_neg (by omega),if_neg (by omega),if_neg (by omega),if_neg (by omega),if_neg (by omega),if_neg (by omega)]
      have hm3:=v3.hm
      rw [e] at hm3
      rw [← signal_eq hl] at v3
      exact ⟨onlyB_sub hm3,q H3 ⟨_,F,st,v3,pr⟩⟩⟩
  rw [z] at key
  exact ⟨a,bd,hat,key⟩
theorem VMX.addUpd (h : VMX G H m pf po sl F ex st s) (e : Ev) (hl : s.updates.length ≤ 1000) {Q : Heap → Prop} (q : ∀ H' sl', VMX G H' m pf po sl' F ex st { s with updates := s.updates ++ [e] } → Q H') :
    ∃ (A:Option Addr) (n c:Nat),At H ((⟨m,0,none⟩:Addr).add 28) [.slice A n c] ∧ appC 23 9 72 H A n c e.cells 1 fun A' n' c' H4=>∃ a9:Addr,some (⟨m,0,none⟩:Addr) = some a9 ∧ Wr H4 (a9.add 28) (.slice A' n' c') Q:=by
  have hn:=h.updLen
  refine ⟨_,_,_,h.c28,h.app (c:=4) (by decide) (new:=e.cells) (k:=1) rfl (ev_one e) (by omega) (by omega) fun A' c' H4 h4 r=>⟨_,rfl,?_⟩⟩
  have hs6:∀ k,setH sl 4 ⟨A',(sl 4).n + 1,c'⟩ (6 + k) = sl (6 + k):=fun k=>if_neg (by omega)
  refine h4.wrSl (c:=4) (by decide) r (k:=28) (by decide) { s with updates:=s.updates ++ [e] } st rfl ?_ (fun c2 hc2 hne=>?_) rfl h.vars h.attrs h.sigs h.stl h.stk fun H13 h13=>q _ _ h13
  · show (s.updates ++ [e]).flatMap Ev.cells = s.updates.flatMap Ev.cells ++ e.cells
    rw [List.flatMap_append]; simp
  · simp only [contC,hs6,if_neg hne]
theorem n12 (e:Ev) (H:Heap):Tr Try.prog 12 #[.pointer none,e.val] H fun v H'=>v = .int .i64 42 ∧ Sub H H':=by
  apply v12; unfold F12
  exact ⟨fun _=>⟨rfl,Sub.refl _⟩,fun e=>absurd e (by simp)⟩
theorem VMX.firstThr (h : VMX G H m pf po sl F ex st s) (t : Thr) (ht : t.stack = []) {b : Nat} (hb : H b = none) {H1 : Heap} (e : H1 = H.upd b (.cells ⟨thrC (t, ⟨none, 0, 0⟩)⟩ 60 (0, 0))) {Q : Heap → Prop} (q : ∀ H' sl' st', VMX G H' m pf po sl' F ex st' { s with threads := [t] } → Q H') :
    Wr H1 (((⟨m,0,none⟩:Addr).add 2).add 21) (.slice (some ⟨b,0,none⟩) 1 1) Q:=by
  have v2:=h.grow (Sub.upd_new (o:=.cells ⟨thrC (t,⟨none,0,0⟩)⟩ 60 (0,0)) hb)
  have fr:=h.free_new (c:=0) hb
  rw [← e] at v2
  have rd:Ready F H1 m sl ex 0 ⟨some ⟨b,0,none⟩,1,1⟩ (thrC (t,⟨none,0,0⟩)) :=
    ⟨⟨rfl,Nat.le_refl _,.inr ⟨b,0,_,_,rfl,by rw [e]; exact Heap.upd_same,Nat.le_refl _,fun j v hv=>by simpa using hv⟩⟩,fun b' hb'=>by
      have:b = b':=by unfold SlH.blk at hb'; simpa using hb'
      subst this
      exact ⟨fr.f,fr.m,fr.sl,fr.x⟩⟩
  have hs6:∀ k,setH sl 0 ⟨some ⟨b,0,none⟩,1,1⟩ (6 + k) = sl (6 + k):=fun k=>if_neg (by omega)
  refine v2.wrSl (c:=0) (by decide) rd (k:=23) (by decide) { s with threads:=[t] } [⟨none,0,0⟩] rfl (List.append_nil _) (fun c2 hc2 hne=>by simp only [contC,hs6,if_neg hne]) rfl h.vars h.attrs h.sigs rfl (fun j u z hu hz=>?_) fun H' v'=>q H' _ _ v'
  have hu:[t][j]? = some u:=hu
  cases j with
  | zero=>simp at hu hz; subst hu; subst hz; rw [ht]; exact HasL.nil _ _
  | succ j=>simp at hu
theorem t12 (okp : Okp p) (h : VMX G H m pf po sl F ex st s) (pr : HasP (dif F G) pf.A pf.n po.A po.n p) (iv : Inv p s) (e : Ev) :
    Tr Try.prog 12 #[.pointer (some ⟨m,0,none⟩),e.val] H fun v H'=>v = .int .i64 (s.apply e).1 ∧ VMP p G H' m pf po ex (s.apply e).2:=by
  have hc:=iv.c0
  have hm:=iv.many
  have hfu:=iv.fuel
  have hup:=iv.upd
  have hw:IntKind.i64.wrap (s.count + 1) = s.count + 1:=wrapi (by omega) (by omega)
  have nf:∀ {k:Int},(e.kind == k) = false → ¬ e.kind = k:=fun e e2=>by rw [e2] at e; simp at e
  have yf:∀ {k:Int},(e.kind == k) = true → e.kind = k:=fun e=>by simpa using e
  apply v12; unfold F12
  refine ⟨fun e=>absurd e (by simp),fun _=>⟨_,rfl,_,h.c27,fun ho=>⟨?_,?_⟩,fun ho=>?_⟩⟩
  · unfold VS.apply; rw [if_pos ho]
  · unfold VS.apply; rw [if_pos ho]; exact ⟨sl,F,st,h,pr⟩
  have hap:s.apply e = if s.refuses e = true then (54,s) else (0,s.counted.applied e):=by unfold VS.apply; rw [if_neg (by rw [ho]; simp)]; rfl
  have hrf:(!validM e || e.id != IntKind.i64.wrap (s.count + 1) || !outsideM e || !(e.kind == 1) == (s.count == 0)) = s.refuses e:=by rw [hw,bne_not]; rfl
  refine ⟨_,t27 e H,_,fun _=>rfl,s.count,fun _=>h.c30,_,fun _=>t28 e H,_,fun _=>rfl,s.count,fun _=>h.c30,?_⟩
  rw [hrf]
  refine ⟨fun hr=>⟨?_,?_⟩,fun hr=>⟨_,rfl,s.count,h.c30,_,rfl,?_⟩⟩
  · rw [hap,if_pos hr]
  · rw [hap,if_pos hr]; exact ⟨sl,F,st,h,pr⟩
  rw [hw]
  rw [if_neg (by rw [hr]; simp)] at hap
  rw [hap]
  have tk:=taken hr
  refine h.wr (k:=30) (by decide) s.counted rfl rfl rfl rfl rfl rfl rfl rfl h.vars h.attrs fun H1 v1=>?_
  have dn:∀ (v k:Int),s.counted.applied e = s.counted.setDone (s.counted.future e.a) v k → ∃ x:Int,(Tr Try.prog 30 #[.pointer (some ⟨m,0,none⟩),.int .i64 e.a] H1 fun v2 H7=>v2 = .int .i64 x ∧ Sub H1 H7) ∧ Tr Try.prog 29 #[.pointer (some ⟨m,0,none⟩),.int .i64 x,.int .i64 v,.int .i64 k] H1 fun v3 H8=>v3 = .tuple #[] ∧ Value.int .i64 0 = .int .i64 0 ∧ VMP p G H8 m pf po ex (s.counted.applied e):=fun v k he=>by
    have hlt:s.counted.future e.a < s.counted.futures.length:=by
      unfold VS.future
      split
      · rename_i j hj
        obtain ⟨i,hi,hi2⟩:=scan_ex hj
        unfold VS.futHit at hi2
        split at hi2
        · split at hi2
          · cases hi2; omega
          · cases hi2
        · cases hi2
      · omega
    refine ⟨_,t30 v1 (by show s.futures.length ≤ 1000000; omega) e.a,(t29 v1 _ v k hlt).mono fun x H8 ⟨hx,v8⟩=>⟨hx,rfl,sl,F,st,?_,pr⟩⟩
    rw [he]; exact v8
  have ov:s.counted.applied e = { s.counted with over:=true } → Wr H1 (((⟨m,0,none⟩:Addr).add 2).add 25) (.bool true) fun H'=>Value.int .i64 0 = .int .i64 0 ∧ VMP p G H' m pf po ex (s.counted.applied e):=fun he=>by
    refine v1.wr (k:=27) (by decide) { s.counted with over:=true } rfl rfl rfl rfl rfl rfl rfl rfl h.vars h.attrs fun H2 v2=>⟨rfl,sl,F,st,?_,pr⟩
    rw [he]; exact v2
  refine ⟨fun e1 b hb H2 e2=>⟨_,rfl,?_⟩,fun e1=>⟨fun e19=>?_,fun e19=>⟨fun e20=>⟨_,rfl,?_⟩,fun e20=>⟨fun e21=>⟨_,rfl,?_⟩,fun e21=>⟨fun e22=>dn _ _ ?_,fun e22=>⟨fun e23=>dn _ _ ?_,fun e23=>⟨fun e27=>dn _ _ ?_,fun e27=>⟨fun e24=>dn _ _ ?_,fun e24=>⟨fun e25=>dn _ _ ?_,fun e25=>⟨fun e28=>dn _ _ ?_,fun e28=>⟨fun e16=>⟨_,rfl,ov ?_⟩,fun e16=>⟨fun e30=>⟨_,rfl,ov ?_⟩,fun e30=>⟨fun e31=>⟨_,rfl,ov ?_⟩,fun e31=>⟨rfl,sl,F,st,?_,pr⟩⟩⟩⟩⟩⟩⟩⟩⟩⟩⟩⟩⟩⟩
  · have he:s.counted.applied e = { s.counted with threads:=[Thr.new 0 0 e.b (-1) 0] }:=by unfold VS.applied; rw [if_pos (yf e1)]
    rw [he]
    exact v1.firstThr (Thr.new 0 0 e.b (-1) 0) rfl hb e2 fun H3 sl3 st3 v3=>⟨rfl,sl3,F,st3,v3,pr⟩
  · have h19:=yf e19
    have he:s.counted.applied e = s.counted.signal e.a e.b:=by unfold VS.applied; rw [if_neg (nf e1),if_pos h19]
    have ha:=valid_19 tk.valid h19
    obtain ⟨l,hl⟩:=get_some (l:=s.counted.signals) (i:=e.a.toNat) (by have:=iv.sg8; show e.a.toNat < s.signals.length; omega)
    have hsl:=iv.sig l (List.mem_of_getElem? hl)
    have hea:e.a = (e.a.toNat:Int):=by omega
    rw [he,hea]
    obtain ⟨a8,b8,at8,key⟩:=v1.addSig pr (k:=e.a.toNat) (by omega) hl (by omega) e.b (K:=fun H'=>Value.int .i64 0 = .int .i64 0 ∧ VMP p G H' m pf po ex (s.counted.signal (e.a.toNat:Int) e.b)) fun H' w=>⟨rfl,w⟩
    have s0:=onlyB_sub v1.hm
    have c0:At (onlyB m (.cells ⟨mCells pf po sl ex s.counted⟩ 89 (0,0))) (((⟨m,0,none⟩:Addr).add 2).add 24) [(sl 3).v]:=at_cells (k:=26) onlyB_at rfl
    exact ⟨_,s0,_,rfl,_,rfl,_,_,_,c0,⟨_,_,_,v1.c26,s0,a8,b8,⟨_,_,_,at8,s0,s0,key⟩,s0,_,_,_,at8,s0,key⟩,s0,_,_,_,v1.c26,s0,a8,b8,_,_,_,at8,s0,key⟩
  · have he:s.counted.applied e = { s.counted with cancel:=true }:=by unfold VS.applied; rw [if_neg (nf e1),if_neg (nf e19),if_pos (yf e20)]
    refine v1.wr (k:=29) (by decide) { s.counted with cancel:=true } rfl rfl rfl rfl rfl rfl rfl rfl h.vars h.attrs fun H2 v2=>⟨rfl,sl,F,st,?_,pr⟩
    rw [he]; exact v2
  · have he:s.counted.applied e = { s.counted with updates:=s.counted.updates ++ [e] }:=by unfold VS.applied; rw [if_neg (nf e1),if_neg (nf e19),if_neg (nf e20),if_pos (yf e21)]
    have key:=v1.addUpd e (by show s.updates.length ≤ 1000; omega) (Q:=fun H'=>Value.int .i64 0 = .int .i64 0 ∧ VMP p G H' m pf po ex (s.counted.applied e)) fun H' sl' v'=>⟨rfl,sl',F,st,by rw [he]; exact v',pr⟩
    exact ⟨key,key⟩
  · unfold VS.applied; rw [if_neg (nf e1),if_neg (nf e19),if_neg (nf e20),if_neg (nf e21),if_pos (yf e22)]
  · unfold VS.applied; rw [if_neg (nf e1),if_neg (nf e19),if_neg (nf e20),if_neg (nf e21),if_neg (nf e22),if_pos (.inl (yf e23))]
  · unfold VS.applied; rw [if_neg (nf e1),if_neg (nf e19),if_neg (nf e20),if_neg (nf e21),if_neg (nf e22),if_pos (.inr (yf e27))]
  · unfold VS.applied; rw [if_neg (nf e1),if_neg (nf e19),if_neg (nf e20),if_neg (nf e21),if_neg (nf e22),if_neg (by rintro (q | q); exact nf e23 q; exact nf e27 q),if_pos (yf e24)]
  · unfold VS.applied; rw [if_neg (nf e1),if_neg (nf e19),if_neg (nf e20),if_neg (nf e21),if_neg (nf e22),if_neg (by rintro (q | q); exact nf e23 q; exact nf e27 q),if_neg (nf e24),if_pos (yf e25)]
  · unfold VS.applied; rw [if_neg (nf e1),if_neg (nf e19),if_neg (nf e20),if_neg (nf e21),if_neg (nf e22),if_neg (by rintro (q | q); exact nf e23 q; exact nf e27 q),if_neg (nf e24),if_neg (nf e25),if_pos (yf e28)]
  · unfold VS.applied; rw [if_neg (nf e1),if_neg (nf e19),if_neg (nf e20),if_neg (nf e21),if_neg (nf e22),if_neg (by rintro (q | q); exact nf e23 q; exact nf e27 q),if_neg (nf e24),if_neg (nf e25),if_neg (nf e28),if_pos (.inl (yf e16))]
  · unfold VS.applied; rw [if_neg (nf e1),if_neg (nf e19),if_neg (nf e20),if_neg (nf e21),if_neg (nf e22),if_neg (by rintro (q | q); exact nf e23 q; exact nf e27 q),if_neg (nf e24),if_neg (nf e25),if_neg (nf e28),if_pos (.inr (.inl (yf e30)))]
  · unfold VS.applied; rw [if_neg (nf e1),if_neg (nf e19),if_neg (nf e20),if_neg (nf e21),if_neg (nf e22),if_neg (by rintro (q | q); exact nf e23 q; exact nf e27 q),if_neg (nf e24),if_neg (nf e25),if_neg (nf e28),if_pos (.inr (.inr (yf e31)))]
  · have he : s.counted.applied e = s.counted := by
      unfold VS.applied; rw [if_neg (nf e1),if_neg (nf e19),if_neg (nf e20),if_neg (nf e21),if_neg (nf e22),if_neg (by rintro (q | q); exact nf e23 q; exact nf e27 q),if_neg (nf e24),if_neg (nf e25),if_neg (nf e28),if_neg (by rintro (q | q | q); exact nf e16 q; exact nf e30 q; exact nf e31 q)]
    rw [he]; exact v1
end
end Go.Proofs.Ytjmdoiakcakfoaa
set_option maxRecDepth 100000
namespace Go.Proofs.Ytjmdoiakcakfoaa
open Go.Ax Go.RowKit
theorem keeps_new {H:Heap} {w:World} (h:Holds H w) (o:Obj):Keeps H w (H.upd w.heap.size o) (w.alloc o):=by
  refine ⟨fun b o' e=>?_,fun b hb e=>?_,by simp,rfl,rfl,rfl⟩
  · by_cases hb:b = w.heap.size
    · subst hb; rw [Heap.upd_same] at e; injection e with e; subst e; exact heap_alloc_new w _
    · rw [Heap.upd_other hb] at e
      exact (Below.heap_alloc w _ b (heap_lt (h b o' e))).trans (h b o' e)
  · exact ⟨Below.heap_alloc w _ b hb,by rw [Heap.upd_other (by omega)]; exact e⟩
theorem none_size {H:Heap} {w:World} (h:Holds H w):H w.heap.size = none:=by
  cases hh:H w.heap.size with
  | none=>rfl
  | some o'=>have:=heap_lt (h _ _ hh); omega
theorem sm_make {T e : TypeId} {sz by_ : Nat} (hu : Try.prog.underlying T = some (.slice e)) (hi : ((Try.prog.info? e).map fun i => (i.size, i.bytes, i.zero.isSome)) = some (sz, by_, true)) (n : Nat) (hn : by_ * n ≤ 281474976710656) (hn2 : n ≤ 9223372036854775807) (H : Heap) :
    Sm Try.prog (Instr.makeSlice T (.int .i64 n) (.int .i64 n)) H (fun v H'=>∃ b z,(Try.prog.info? e).bind (·.zero) = some z ∧ v = .slice (some ⟨b,0,none⟩) n n ∧ H b = none ∧ H' = H.upd b (.cells (madeCells z.cells (n * sz)) e (0,0))):=by
  refine ⟨fun w hw=>?_⟩
  cases hq:Try.prog.info? e with
  | none=>rw [hq] at hi; cases hi
  | some i =>
    rw [hq] at hi
    simp only [Option.map_some,Option.some.injEq,Prod.mk.injEq] at hi
    obtain ⟨h1,h2,h3⟩:=hi
    obtain ⟨z,hz⟩:=Option.isSome_iff_exists.1 h3
    have hb:(i.bytes:Int) * (n:Int) ≤ 281474976710656:=by
      have:((i.bytes * n:Nat):Int) ≤ 281474976710656:=by rw [h2]; omega
      rwa [Int.natCast_mul] at this
    have hr:=run_make (P:=Try.prog) w T e i z hu hq hz .i64 .i64 n n (by omega) (Int.le_refl _) hb (by omega)
    simp only [Int.toNat_natCast] at hr
    rw [h1] at hr
    exact ⟨_,_,_,hr,keeps_new hw _,w.heap.size,z,by simp [hz],rfl,none_size hw,rfl⟩
theorem sm_table (H:Heap):Sm Try.prog (Instr.makeSlice 40 (.int .i64 8) (.int .i64 8)) H fun v H'=>∃ b,v = .slice (some ⟨b,0,none⟩) 8 8 ∧ H b = none ∧ H' = H.upd b (.cells ⟨List.replicate 8 (.slice none 0 0)⟩ 58 (0,0)):=by
  have hu:Try.prog.underlying 40 = some (.slice 58):=by kernel_rfl
  have hi:((Try.prog.info? 58).map fun i=>(i.size,i.bytes,i.zero.isSome)) = some (1,24,true):=by kernel_rfl
  have hz:(Try.prog.info? 58).bind (·.zero) = some (.slice none 0 0):=by kernel_rfl
  refine (sm_make hu hi 8 (by decide) (by decide) H).mono fun v H' ⟨b,z,h1,h2,h3,h4⟩=>⟨b,h2,h3,?_⟩
  rw [hz] at h1
  cases h1
  have e:madeCells (Value.slice none 0 0).cells (8 * 1) = ⟨List.replicate 8 (.slice none 0 0)⟩:=by kernel_rfl
  rw [h4,e]
theorem _root_.Go.Ax.OwnS.out {X F H1:Heap} {A:Option Addr} {n c sz:Nat} {cs:List Value} (o:OwnS F H1 A n c sz cs) (h:Sub X F):Src (dif H1 X) A cs:=by
  rcases o.src with e | ⟨a,ha,hat⟩
  · exact .inl e
  · rcases o.at_ with ⟨a1,a2,a3⟩ | ⟨b,cur,T,a1,a2,a3,a4,a5⟩
    · rw [a1] at ha; cases ha
    · refine .inr ⟨_,a1,⟨⟨cur,T,(0,0),dif_at a3 (none_below h a2),rfl,fun j v hv=>by simpa using a5 j v hv⟩⟩⟩
theorem src_out {X F B1:Heap} {B:Option Addr} {cs:List Value} (h:Src F B cs) (k:∀ r,(B1 r).isSome = true → Src (Ax.del F r) B cs) (hx:Sub X B1):Src (dif F X) B cs:=by
  by_cases h0:cs = []
  · exact .inl h0
  rcases h with e | ⟨a,ha,hat⟩
  · exact .inl e
  · right
    refine ⟨a,ha,?_⟩
    obtain ⟨cur,T,fz,a2,a3,a4⟩:=hat.out
    refine ⟨⟨cur,T,fz,?_,a3,a4⟩⟩
    cases hX:X a.block with
    | none=>exact dif_at a2 hX
    | some o =>
      rcases k a.block (by rw [hx.sub _ _ hX]; rfl) with e | ⟨a',ha',hat'⟩
      · exact absurd e h0
      · rw [ha] at ha'; cases ha'
        obtain ⟨cur',T',fz',b2,-⟩:=hat'.out
        unfold Ax.del at b2
        rw [if_pos rfl] at b2; cases b2
theorem _root_.Go.Ax.HasOps.more {F F' X:Heap} {A:Option Addr} {n:Nat} {l:List (Int × Int)} (h:HasOps (dif F X) A n l) (k:Sub F F'):HasOps (dif F' X) A n l:=h.sub (dif_more k)
theorem t44 {H : Heap} {fA oA : Option Addr} {fn fc on oc : Nat} {p : Prg} (h : HasP H fA fn oA on p) (z : p.Sz) :
    Tr Try.prog 44 #[.agg #[.slice fA fn fc,.slice oA on oc]] H (fun v H'=>∃ A n c A1 n1 c1,v = .agg #[.slice A n c,.slice A1 n1 c1] ∧ HasP (dif H' H) A n A1 n1 p ∧ Sub H H'):=by
  have hl:=h.fns.len; have hb:=h.fns.big; have hol:=h.opts.len; have hob:=h.opts.big
  have z1:=z.fns; have z2:=z.opts
  apply v44; unfold F44
  refine ⟨⟨p.opts.flatMap O.cells,h.opts.src,by rw [flat_size (cells:=O.cells) (sz:=11) (fun _=>rfl),hol],own_app (OwnS.nil H 11) (by rw [flat_size (cells:=O.cells) (sz:=11) (fun _=>rfl),hol]) (cells_one_o _) (show (0 + on) * 88 ≤ 140737488355328 by omega) (by omega) fun A' c' H' o'=>?_⟩⟩
  have hopts:HasOpts (dif H' H) A' (0 + on) p.opts:=hasOpts_of (by simpa using o'.out (Sub.refl _)) (by omega) (by omega)
  refine ⟨fun x A n c H1=>∃ (k:Nat) (hs:List FnH) (F:Heap),x = k ∧ k ≤ fn ∧ n = k ∧ Sub H' F ∧ OwnS F H1 A n c 3 (hs.flatMap fnC) ∧ hs.map (·.1) = p.funcs.take k ∧ ∀ z ∈ hs,HasOps (dif F H) z.2.1 z.2.2.1 z.1.ops,fun x _ _ _ _=>((fn:Int) - x).toNat,
    ⟨0,[],H',rfl,by omega,rfl,Sub.refl _,OwnS.nil H' 3,rfl,by simp⟩,?_⟩
  rintro x A n c H1 ⟨k,hs,F,rfl,hk,rfl,hF,o1,e1,hops⟩
  have s1:Sub H H1:=o'.sub.trans (hF.trans o1.sub)
  refine ⟨fun hlt=>?_,fun hge=>?_⟩
  · have hlt:(n:Int) < fn:=of_decide_eq_true hlt
    obtain ⟨f,hf⟩:=get_some (l:=p.funcs) (i:=n) (by omega)
    obtain ⟨a,B,m,d,ha,hat0,ho0⟩:=h.fns.at_ n f hf
    have hat:=hat0.sub s1
    have ho:=ho0.sub s1
    have hm:=ho.len; have zm:=z.ops f (List.mem_of_getElem? hf)
    refine ⟨a,⟨ha,by omega,hlt⟩,_,_,_,_,_,hat,?_⟩
    refine ⟨⟨f.ops.flatMap opC,ho.src,by rw [flat_size (cells:=opC) (sz:=2) (fun _=>rfl),hm],own_app (OwnS.nil H1 2) (by rw [flat_size (cells:=opC) (sz:=2) (fun _=>rfl),hm]) (cells_one_op _) (show (0 + m) * 16 ≤ 140737488355328 by omega) (by omega) fun A2 c2 H2 o2=>?_⟩⟩
    obtain ⟨F2,f1,f2,f3,f4⟩:=o1.absorb o2
    refine own_app f2 rfl rfl (show (n + 1) * 40 ≤ 140737488355328 by omega) (by omega) fun A3 c3 H3 o3=>?_
    rw [wrapi (x:=(n:Int) + 1) (by omega) (by omega)]
    refine ⟨⟨n + 1,hs ++ [(f,A2,0 + m,c2)],F2,by omega,by omega,rfl,hF.trans f1,by rw [List.flatMap_append]; exact o3,?_,fun z hz=>?_⟩,by show ((fn:Int) - ((n:Int) + 1)).toNat < ((fn:Int) - (n:Int)).toNat; omega⟩
    · rw [List.map_append,e1,List.take_add_one,hf]; rfl
    · rcases List.mem_append.1 hz with hz | hz
      · exact (hops z hz).more f1
      · simp at hz; subst hz
        exact hasOps_of (by simpa using src_out f3 f4 s1) (by simp only; omega) (by simp only; omega)
  · have hge:¬ (n:Int) < fn:=of_decide_eq_false hge
    refine ⟨_,_,_,_,_,_,rfl,⟨?_,hopts.sub (dif_more (hF.trans o1.sub))⟩,s1⟩
    rw [List.take_of_length_le (by omega)] at e1
    rw [← e1]
    refine hasFns_of (o1.out (o'.sub.trans hF)) ?_ (by omega) fun z hz=>(hops z hz).more o1.sub
    have:=congrArg List.length e1
    rw [List.length_map] at this; omega
theorem _root_.Go.Ax.Okp.sz {p:Prg} (ok:Okp p):p.Sz:=by
  have h2:=ok.n2
  have h3:=ok.n3
  refine ⟨by omega,by omega,fun f hf=>?_⟩
  obtain ⟨i,hi,e⟩:=List.mem_iff_getElem.1 hf
  have:=(ok.len (i:=i) (f:=f) (by rw [List.getElem?_eq_getElem hi,e])).2
  omega
theorem init_inv (p:Prg):Inv p VS.init:=by
  refine ⟨fun i c h=>?_,by decide,by decide,by decide,fun t h=>(by cases h),fun f h=>(by cases h),by decide,by decide,by decide,fun l h=>(by cases h),by decide,fun l hl=>?_,rfl,by decide,fun u h=>(by cases h),rfl,rfl⟩
  · have hi:=get_lt h
    have:i = 0:=by
      have e:(VS.init.scopes).length = 1:=rfl
      omega
    subst this
    cases h
    show (-1:Int) < 0; decide
  · have:l = []:=List.eq_of_mem_replicate hl
    subst this
    show ((0:Nat):Int) ≤ 0
    decide
theorem t25 {H : Heap} {fA oA : Option Addr} {fn fc on oc : Nat} {p : Prg} (h : HasP H fA fn oA on p) :
    Tr Try.prog 25 #[.agg #[.slice fA fn fc,.slice oA on oc]] H (fun v H'=>(p.check.1 ≠ 0 ∧ v = .tuple #[.pointer none,.int .i64 p.check.1] ∧ Sub H H') ∨ (Okp p ∧ ∃ m pf po,v = .tuple #[.pointer (some ⟨m,0,none⟩),.int .i64 0] ∧ Sub H H' ∧ VMP p H H' m pf po .nilFunc VS.init)):=by
  apply v25; unfold F25
  refine ⟨_,_,_,t43 h,fun e=>.inl ⟨by simpa using e,rfl,Sub.refl _⟩,fun e=>?_⟩
  obtain ⟨e1,ok⟩:=check_ok (p:=p) (by simpa using e)
  refine (t44 h ok.sz).mono fun v H1 ⟨A,n,c,A1,n1,c1,hv,hp,s1⟩=>⟨A,n,c,A1,n1,c1,hv,fun b hb H2 e2 b1 hb1 H3 e3=>?_⟩
  have hne:b1 ≠ b:=fun q=>by rw [q,e2,Heap.upd_same] at hb1; cases hb1
  have hb1':H1 b1 = none:=by rw [e2,Heap.upd_other hne] at hb1; exact hb1
  have m2:H2 = H1.upd b (.cells ⟨mCells ⟨A,n,c⟩ ⟨A1,n1,c1⟩ (fun _=>⟨none,0,0⟩) .nilFunc VS.init⟩ 89 (0,0)):=e2
  refine ⟨_,rfl,?_⟩
  refine wr_cells (cs:=mCells ⟨A,n,c⟩ ⟨A1,n1,c1⟩ (fun _=>⟨none,0,0⟩) .nilFunc VS.init) (T:=89) (m:=b) (k:=25) (by rw [e3,Heap.upd_other hne.symm,m2]; exact Heap.upd_same) (by rw [mCells_len]; decide) ?_
  refine (sm_table _).mono fun v2 H5 ⟨b2,hv2,hb2,e5⟩=>⟨_,_,_,hv2,_,rfl,?_⟩
  have hne2:b2 ≠ b:=fun q=>by rw [q,Heap.upd_same] at hb2; cases hb2
  have hb2':H3 b2 = none:=by rw [Heap.upd_other hne2] at hb2; exact hb2
  have hne3:b2 ≠ b1:=fun q=>by rw [q,e3,Heap.upd_same] at hb2'; cases hb2'
  have hb2'':H1 b2 = none:=by rw [e3,Heap.upd_other hne3,m2,Heap.upd_other hne2] at hb2'; exact hb2'
  let sl:Nat → SlH:=fun i=>if i = 2 then ⟨some ⟨b1,0,none⟩,1,1⟩ else if i = 3 then ⟨some ⟨b2,0,none⟩,8,8⟩ else ⟨none,0,0⟩
  refine wr_cells (m:=b) (k:=26) (by rw [e5,Heap.upd_other hne2.symm]; exact Heap.upd_same) (by rw [List.length_set,mCells_len]; decide) ?_
  have ec:((mCells ⟨A,n,c⟩ ⟨A1,n1,c1⟩ (fun _=>⟨none,0,0⟩) .nilFunc VS.init).set 25 (.slice (some ⟨b1,0,none⟩) 1 1)).set 26 (.slice (some ⟨b2,0,none⟩) 8 8) = mCells ⟨A,n,c⟩ ⟨A1,n1,c1⟩ sl .nilFunc VS.init:=rfl
  rw [ec]
  generalize hH6:H5.upd b (.cells ⟨mCells ⟨A,n,c⟩ ⟨A1,n1,c1⟩ sl .nilFunc VS.init⟩ 89 (0,0)) = H6
  have g0:H6 b = some (.cells ⟨mCells ⟨A,n,c⟩ ⟨A1,n1,c1⟩ sl .nilFunc VS.init⟩ 89 (0,0)):=by rw [← hH6]; exact Heap.upd_same
  have g1:H6 b1 = some (.cells #[.int .i64 (-1),.bool false] 65 (0,0)):=by rw [← hH6,Heap.upd_other hne,e5,Heap.upd_other hne3.symm,Heap.upd_other hne,e3]; exact Heap.upd_same
  have g2:H6 b2 = some (.cells ⟨List.replicate 8 (.slice none 0 0)⟩ 58 (0,0)):=by rw [← hH6,Heap.upd_other hne2,e5]; exact Heap.upd_same
  have gs:Sub H1 H6:=⟨fun i o hi=>by
    have i0:i ≠ b:=fun q=>by subst q; rw [hb] at hi; cases hi
    have i1:i ≠ b1:=fun q=>by subst q; rw [hb1'] at hi; cases hi
    have i2:i ≠ b2:=fun q=>by subst q; rw [hb2''] at hi; cases hi
    rw [← hH6,Heap.upd_other i0,e5,Heap.upd_other i2,Heap.upd_other i0,e3,Heap.upd_other i1,m2,Heap.upd_other i0]; exact hi⟩
  have blk:∀ c b',(sl c).blk = some b' → (c = 2 ∧ b' = b1) ∨ (c = 3 ∧ b' = b2):=fun c b' hb'=>by
    by_cases h2:c = 2
    · subst h2; have:some b1 = some b':=hb'; cases this; exact .inl ⟨rfl,rfl⟩
    · by_cases h3:c = 3
      · subst h3; have:some b2 = some b':=hb'; cases this; exact .inr ⟨rfl,rfl⟩
      · have:sl c = ⟨none,0,0⟩:=by show (if c = 2 then _ else if c = 3 then _ else _) = _; rw [if_neg h2,if_neg h3]
        rw [this] at hb'; cases hb'
  refine .inr ⟨ok,b,⟨A,n,c⟩,⟨A1,n1,c1⟩,rfl,s1.trans gs,sl,H1,[],⟨s1,gs,hb,g0,fun c hc b' hb'=>?_,fun c c' b' hc hc' h1 h2=>?_,fun c hc=>?_,rfl,fun j t q h1=>(by cases h1),rfl,rfl,rfl,fun _=>rfl,fun l hl=>(by cases hl)⟩,hp⟩
  · rcases blk c b' hb' with ⟨-,rfl⟩ | ⟨-,rfl⟩
    · exact ⟨hb1',hne⟩
    · exact ⟨hb2'',hne2⟩
  · rcases blk c b' h1 with ⟨rfl,rfl⟩ | ⟨rfl,rfl⟩
    · rcases blk c' _ h2 with ⟨rfl,-⟩ | ⟨rfl,e⟩
      · rfl
      · exact absurd e.symm hne3
    · rcases blk c' _ h2 with ⟨rfl,e⟩ | ⟨rfl,-⟩
      · exact absurd e hne3
      · rfl
  · by_cases h2:c = 2
    · subst h2
      have hc2:contC sl [] VS.init 2 = [.int .i64 (-1),.bool false]:=rfl
      rw [hc2]
      exact ⟨rfl,Nat.le_refl _,.inr ⟨b1,0,_,_,rfl,g1,by show 0 + 1 * 2 ≤ 2; decide,fun j v hv=>by simpa using hv⟩⟩
    · by_cases h3:c = 3
      · subst h3
        have hc3:contC sl [] VS.init 3 = List.replicate 8 (.slice none 0 0):=rfl
        rw [hc3]
        exact ⟨rfl,Nat.le_refl _,.inr ⟨b2,0,_,_,rfl,g2,by show 0 + 8 * 1 ≤ 8; decide,fun j v hv=>by simpa using hv⟩⟩
      · have e0:sl c = ⟨none,0,0⟩:=by show (if c = 2 then _ else if c = 3 then _ else _) = _; rw [if_neg h2,if_neg h3]
        have e1:contC sl [] VS.init c = []:=by
          unfold contC
          rw [if_neg h2,if_neg h3]
          have:c = 0 ∨ c = 1 ∨ c = 4 ∨ c = 5 ∨ 6 ≤ c:=by omega
          rcases this with rfl | rfl | rfl | rfl | h6
          · rfl
          · rfl
          · rfl
          · rfl
          · rw [if_neg (by omega),if_neg (by omega),if_neg (by omega),if_neg (by omega)]
            have:VS.init.signals[c - 6]?.getD [] = []:=by
              show (List.replicate 8 ([]:List Int))[c - 6]?.getD [] = []
              rw [List.getElem?_replicate]; split <;> rfl
            rw [this]; rfl
        rw [e0,e1]
        exact ⟨by simp,Nat.le_refl _,.inl ⟨rfl,rfl,rfl⟩⟩
end Go.Proofs.Ytjmdoiakcakfoaa
set_option maxRecDepth 100000
namespace Go.Proofs.Ytjmdoiakcakfoaa
open Go.Ax
theorem evs_one:∀ l:List Ev,allOne (l.flatMap Ev.cells) = true
  | []=>rfl
  | x :: l=>by rw [List.flatMap_cons]; exact evs_one l
theorem taskE_ok {s:VS} {now:Int} (h:s.taskE now = 0):s.over = false ∧ s.count ≠ 0 ∧ s.count ≤ 254 ∧ 0 ≤ now ∧ now ≤ 1099511627776:=by
  unfold VS.taskE at h
  split at h
  · split at h <;> cases h
  · rename_i h1
    split at h
    · cases h
    · rename_i h2
      split at h
      · cases h
      · rename_i h3
        split at h
        · cases h
        · rename_i h4
          simp at h1 h2 h3 h4
          exact ⟨h2,h3,h4,by omega,by omega⟩
def VS.ready_ (s:VS) (draw:Int):VS:={ s with draws:=IntKind.u64.wrap draw,expect:=none }
theorem ready_inv {p:Prg} {s:VS} (iv:Inv p s) (draw:Int):Inv p (s.ready_ draw) :=
  ⟨iv.scp,iv.scn,iv.sc32,iv.t16,fun t ht=>(iv.thr t ht).mono (Nat.le_refl _) (Nat.le_refl _),iv.futs,iv.fuel,iv.many,iv.c0,fun l hl=>(by cases hl),iv.made,iv.sig,iv.sg8,iv.upd,iv.updI,iv.v16,iv.a4⟩
theorem Task_eq (s:VS) (p:Prg) (now draw:Int):s.Task p now draw = if s.taskE now ≠ 0 then (([],s.taskE now),s) else ((((s.ready_ draw).task p now).made,0),(s.ready_ draw).task p now):=rfl
theorem ready_tasks {s:VS} {now:Int} (h:s.taskE now = 0) (draw:Int):Tasks (s.ready_ draw):=by
  obtain ⟨h1,h2,h3,-⟩:=taskE_ok h
  exact ⟨h1,by show s.count ≤ 255; omega,fun _=>h3,fun l hl=>by cases hl⟩
theorem Task_inv {p:Prg} (ok:Okp p) {s:VS} (iv:Inv p s) (now draw:Int):Inv p (s.Task p now draw).2:=by
  rw [Task_eq]
  split
  · exact iv
  · rename_i h
    have tk:=ready_tasks (Decidable.not_not.1 h) draw
    have h0:=begin_inv (ready_inv iv draw) tk now
    exact ((task_steps ok (ready_inv iv draw) tk now).inv h0.1 h0.2).1
section
variable {p:Prg} {G H:Heap} {m:Nat} {pf po:SlH} {sl:Nat → SlH} {F:Heap} {ex:Value} {st:List SlH} {s:VS}
structure TaskR (p:Prg) (G:Heap) (m:Nat) (pf po:SlH) (ex:Value) (s:VS) (now draw:Int) (v:Value) (H':Heap):Prop where
  out:∃ A n c G',v = .tuple #[.slice A n c,.int .i64 (s.Task p now draw).1.2] ∧ Sub G G' ∧ n = (s.Task p now draw).1.1.length ∧ Src G' A ((s.Task p now draw).1.1.flatMap Ev.cells) ∧ VMP p G' H' m pf po ex (s.Task p now draw).2
theorem VMX.exNil (h:VMX G H m pf po sl F ex st s) (hx:s.expect = none):ex = .nilFunc:=h.exp.none_ hx
theorem n13 (now draw:Int) (H:Heap):Tr Try.prog 13 #[.pointer none,.int .i64 now,.int .i64 draw] H fun v H'=>v = .tuple #[.slice none 0 0,.int .i64 42] ∧ Sub H H':=by
  apply v13; unfold F13
  exact ⟨fun _=>⟨⟨0,0,none⟩,fun e=>absurd e (by simp),false,fun e=>absurd e (by simp),fun e=>absurd e (by simp),fun _=>⟨rfl,Sub.refl _⟩⟩,fun e=>absurd e (by simp)⟩
theorem t13 (okp : Okp p) (h : VMX G H m pf po sl F ex st s) (pr : HasP (dif F G) pf.A pf.n po.A po.n p) (iv : Inv p s) (hx : s.expect = none) (now draw : Int) :
    Tr Try.prog 13 #[.pointer (some ⟨m,0,none⟩),.int .i64 now,.int .i64 draw] H fun v H'=>TaskR p G m pf po ex s now draw v H':=by
  have hc:=iv.c0
  have bad:∀ (k:Int),s.taskE now = k → k ≠ 0 → TaskR p G m pf po ex s now draw (.tuple #[.slice none 0 0,.int .i64 k]) H:=fun k hk h0=>by
    have e:s.Task p now draw = (([],k),s):=by rw [Task_eq,hk,if_pos h0]
    refine ⟨none,0,0,G,?_,Sub.refl _,?_,?_,?_⟩
    · rw [e]
    · rw [e]; rfl
    · rw [e]; exact .inl rfl
    · rw [e]; exact ⟨sl,F,st,h,pr⟩
  apply v13; unfold F13
  refine ⟨fun e=>⟨_,fun _=>rfl,s.over,fun _=>h.c27,fun eo=>?_,fun eo=>?_⟩,fun e=>⟨_,rfl,s.over,h.c27,fun eo=>?_,fun eo=>⟨_,rfl,s.count,h.c30,fun e0=>?_,fun e0=>⟨_,rfl,s.count,h.c30,fun e4=>?_,fun e4=>⟨_,rfl,?_⟩⟩⟩⟩⟩
  · have e:(decide (now < 0) || decide (now > 1099511627776)) = true:=by simpa using e
    have eo:s.over = true:=by simpa using eo
    exact bad 46 (by unfold VS.taskE; rw [if_pos e,if_pos eo]) (by decide)
  · have e:(decide (now < 0) || decide (now > 1099511627776)) = true:=by simpa using e
    have eo:s.over = false:=by simpa using eo
    exact bad 42 (by unfold VS.taskE; rw [if_pos e,if_neg (by rw [eo]; simp)]) (by decide)
  all_goals have e:(decide (now < 0) || decide (now > 1099511627776)) = false:=by simpa using e
  · exact bad 46 (by unfold VS.taskE; rw [if_neg (by rw [e]; simp),if_pos eo]) (by decide)
  · exact bad 54 (by unfold VS.taskE; rw [if_neg (by rw [e]; simp),if_neg (by rw [eo]; simp),if_pos e0]) (by decide)
  · exact bad 49 (by unfold VS.taskE; rw [if_neg (by rw [e]; simp),if_neg (by rw [eo]; simp),if_neg (by rw [e0]; simp),if_pos e4]) (by decide)
  · have ht:s.taskE now = 0:=by unfold VS.taskE; rw [if_neg (by rw [e]; simp),if_neg (by rw [eo]; simp),if_neg (by rw [e0]; simp),if_neg (by rw [e4]; simp)]
    have eT:s.Task p now draw = ((((s.ready_ draw).task p now).made,0),(s.ready_ draw).task p now):=by rw [Task_eq,if_neg (by rw [ht]; simp)]
    have hex:=h.exNil hx
    subst hex
    refine h.wr (k:=33) (by decide) { s with draws:=IntKind.u64.wrap draw } rfl rfl rfl rfl rfl rfl rfl rfl h.vars h.attrs fun H1 v1=>⟨_,rfl,?_⟩
    refine v1.wr (k:=34) (by decide) (s.ready_ draw) rfl rfl rfl rfl rfl rfl rfl hx.symm h.vars h.attrs fun H2 v2=>?_
    have tk:=ready_tasks ht draw
    have iv2:=ready_inv iv draw
    have h0:=begin_inv iv2 tk now
    have iv3:=((task_steps okp iv2 tk now).inv h0.1 h0.2).1
    have hmd:=iv3.made
    have hc3:=iv3.c0
    refine (t31 okp v2 pr iv2 tk now).mono fun v H3 ⟨hv,w⟩=>?_
    obtain ⟨sl3,F3,st3,v3,pr3⟩:=w.out
    have hml:=v3.madeLen
    have hmc:contC sl3 st3 ((s.ready_ draw).task p now) 5 = ((s.ready_ draw).task p now).made.flatMap Ev.cells:=rfl
    have ok5:=v3.ok 5 (by decide)
    rw [hmc] at ok5
    have hsz:(((s.ready_ draw).task p now).made.flatMap Ev.cells).length = (sl3 5).n * 9:=ok5.len
    refine ⟨hv,_,rfl,_,_,_,v3.c32,⟨⟨_,ok5.src,hsz,?_⟩⟩⟩
    refine v3.side (q:=⟨none,0,0⟩) (Side.nil v3.gf 9) (k:=(sl3 5).n) hsz (evs_one _) (by show (0 + (sl3 5).n) * 72 ≤ _; omega) (by show 0 + (sl3 5).n ≤ _; omega) fun A' c' G4 F4 H4 v4 sd=>?_
    refine ⟨A',0 + (sl3 5).n,c',G4,?_,sd.g,?_,?_,?_⟩
    · rw [eT]
    · rw [eT]; show 0 + (sl3 5).n = ((s.ready_ draw).task p now).made.length; omega
    · rw [eT]; exact sd.sl.src
    · rw [eT]; exact ⟨sl3,F4,st3,v4,pr3.sub sd.d⟩
end
def smallQ:Prg:=⟨[⟨0,0,[(0,3),(21,0),(23,0),(1,0),(36,0)]⟩],[]⟩
theorem t26 (H:Heap):Tr Try.prog 26 #[] H (fun v H'=>∃ A n c A1 n1 c1,v = .agg #[.slice A n c,.slice A1 n1 c1] ∧ HasP H' A n A1 n1 smallQ ∧ Sub H H'):=by
  apply v26; unfold F26
  intro b hb H1 e1 b1 hb1 H2 e2
  subst e1 e2
  refine ⟨_,_,_,_,_,_,rfl,⟨?_,⟨rfl,by decide,fun i o h=>by simp [smallQ] at h⟩⟩,(Sub.upd_new hb).trans (Sub.upd_new hb1)⟩
  refine hasFns_of (l:=[(⟨0,0,[(0,3),(21,0),(23,0),(1,0),(36,0)]⟩,some ⟨b,0,none⟩,5,5)]) (.inr ⟨_,rfl,(at_new (k:=0) fun j v hv=>?_)⟩) rfl (by decide) fun z hz=>?_
  · simpa [fnC] using hv
  · simp at hz; subst hz
    have:HasOps (H.upd b (.cells #[.int .i64 0,.int .i64 3,.int .i64 21,.int .i64 0,.int .i64 23,.int .i64 0,.int .i64 1,.int .i64 0,.int .i64 36,.int .i64 0] 120)) (some ⟨b,0,none⟩) 5 [(0,3),(21,0),(23,0),(1,0),(36,0)] :=
      hasOps_of (.inr ⟨_,rfl,(at_new (k:=0) fun j v hv=>by simpa [opC] using hv)⟩) rfl (by decide)
    exact this.sub (Sub.upd_new hb1)
def sh1:VS:=(VS.init.apply ⟨1,0,1,0,0,0,0,0,0⟩).2
def sh2:VS:=(sh1.Task smallQ 5 0).2
def sh3:VS:=(sh2.apply ⟨4,8,25,3,0,0,0,0,0⟩).2
def sh4:VS:=(sh3.Task smallQ 9 0).2
theorem sh1_ok:(VS.init.apply ⟨1,0,1,0,0,0,0,0,0⟩).1 = 0:=by kernel_rfl
theorem sh2_ok:(sh1.Task smallQ 5 0).1 = ([⟨2,5,2,1,0,0,0,0,0⟩,⟨3,5,4,8,0,0,0,0,0⟩],0):=by kernel_rfl
theorem sh3_ok:(sh2.apply ⟨4,8,25,3,0,0,0,0,0⟩).1 = 0:=by kernel_rfl
theorem sh4_ok:(sh3.Task smallQ 9 0).1 = ([⟨5,9,2,4,0,0,0,0,0⟩,⟨6,9,15,0,0,0,0,0,0⟩],0):=by kernel_rfl
theorem sh4_end:sh4.count = 6 ∧ sh4.over = true:=⟨by kernel_rfl,by kernel_rfl⟩
theorem task_expect {p:Prg} {b:Bool} {s s':VS} (q:FSteps p b s s') (hx:s.expect = none):s'.expect = none:=by
  have k0:∀ (s:VS) (e:Ev),s.expect = none → (s.emit0 e).2.expect = none:=fun s e h=>by
    unfold VS.emit0; rw [h]; exact h
  have kF:∀ (s:VS) (c:Int),s.expect = none → (s.fails c).expect = none:=fun s c h=>k0 s _ h
  induction q with
  | refl=>exact hx
  | tail _ k ih =>
    cases k with
    | emit e ho hc =>
      unfold VS.emit; split
      · exact kF _ _ ih
      · exact k0 _ _ ih
    | fails c ho=>exact kF _ _ ih
    | done i v k=>rcases setDone_cases _ i v k with e | ⟨f,_,_,_,e⟩ <;> rw [e] <;> exact ih
    | mark i=>rcases mark_cases _ i with e | ⟨c,hc,e⟩ <;> rw [e] <;> exact ih
    | _=>exact ih
theorem Task_expect {p:Prg} (ok:Okp p) {s:VS} (iv:Inv p s) (hx:s.expect = none) (now draw:Int):(s.Task p now draw).2.expect = none:=by
  rw [Task_eq]
  split
  · exact hx
  · rename_i h
    exact task_expect (task_steps ok (ready_inv iv draw) (ready_tasks (Decidable.not_not.1 h) draw) now) rfl
theorem sh_expect:sh1.expect = none ∧ sh3.expect = none:=⟨by kernel_rfl,by kernel_rfl⟩
theorem small_ok:Okp smallQ:=(check_ok (p:=smallQ) (by kernel_rfl)).2
theorem t11 (H:Heap):Tr Try.prog 11 #[] H (fun v H'=>v = .bool true ∧ Sub H H'):=by
  apply v11; unfold F11
  refine (t26 H).mono fun v H1 ⟨A,n,c,A1,n1,c1,hv,hp,s1⟩=>⟨A,n,c,A1,n1,c1,hv,?_⟩
  refine (t25 hp).mono fun v H2 hr=>?_
  rcases hr with ⟨hn,-⟩ | ⟨-,m,pf,po,hv2,s2,w⟩
  · exact absurd (ok_check small_ok) (fun e=>hn (by rw [e]))
  refine ⟨some ⟨m,0,none⟩,0,hv2,fun e=>absurd e (by simp),fun _=>?_⟩
  obtain ⟨sl0,F0,st0,v0,p0⟩:=w.out
  have i1:Inv smallQ sh1:=apply_inv small_ok (init_inv smallQ) rfl (e:=⟨1,0,1,0,0,0,0,0,0⟩)
  have i2:Inv smallQ sh2:=Task_inv small_ok i1 5 0
  have x2:sh2.expect = none:=Task_expect small_ok i1 sh_expect.1 5 0
  have i3:Inv smallQ sh3:=apply_inv small_ok i2 x2 (e:=⟨4,8,25,3,0,0,0,0,0⟩)
  refine (t12 small_ok v0 p0 (init_inv smallQ) ⟨1,0,1,0,0,0,0,0,0⟩).mono fun v H3 ⟨hv3,w1⟩=>⟨0,by rw [hv3]; exact congrArg (Value.int .i64) sh1_ok,?_⟩
  have w1:VMP smallQ H1 H3 m pf po .nilFunc sh1:=w1
  obtain ⟨sl1,F1,st1,v1,p1⟩:=w1.out
  refine (t13 small_ok v1 p1 i1 sh_expect.1 5 0).mono fun v H4 r4=>?_
  obtain ⟨A2,n2,c2,G2,hv4,s4,hn4,src4,w2⟩:=r4.out
  rw [sh2_ok] at hv4 hn4 src4
  simp only at hv4 hn4 src4
  refine ⟨A2,n2,c2,0,hv4,?_⟩
  have w2:VMP smallQ G2 H4 m pf po .nilFunc sh2:=w2
  obtain ⟨sl2,F2,st2,v2,p2⟩:=w2.out
  refine (t12 small_ok v2 p2 i2 ⟨4,8,25,3,0,0,0,0,0⟩).mono fun v H5 ⟨hv5,w3⟩=>⟨0,by rw [hv5]; exact congrArg (Value.int .i64) sh3_ok,?_⟩
  have w3:VMP smallQ G2 H5 m pf po .nilFunc sh3:=w3
  obtain ⟨sl3,F3,st3,v3,p3⟩:=w3.out
  refine (t13 small_ok v3 p3 i3 sh_expect.2 9 0).mono fun v H6 r6=>?_
  obtain ⟨A3,n3,c3,G3,hv6,s6,hn6,src6,w4⟩:=r6.out
  rw [sh4_ok] at hv6 hn6 src6
  simp only at hv6 hn6 src6
  have w4:VMP smallQ G3 H6 m pf po .nilFunc sh4:=w4
  obtain ⟨sl4,F4,st4,v4,p4⟩:=w4.out
  have g3:Sub G3 H6:=v4.gf.trans v4.fh
  have hsub:Sub H H6:=(s1.trans (s4.trans (s6.trans g3)))
  have cn:=t15 v4
  rw [sh4_end.1,sh4_end.2] at cn
  have hn4:n2 = 2:=hn4
  have hn6:n3 = 2:=hn6
  subst hn4 hn6
  obtain ⟨a2,ha2,at2⟩:=src_elem (cells:=Ev.cells) (sz:=9) (fun _=>rfl) (by decide) (src_sub src4 (s6.trans g3)) 1 _ rfl
  obtain ⟨a3,ha3,at3⟩:=src_elem (cells:=Ev.cells) (sz:=9) (fun _=>rfl) (by decide) (src_sub src6 g3) 1 _ rfl
  refine ⟨A3,2,c3,0,hv6,6,true,cn,fun e=>absurd e (by decide),fun _=>⟨a2,fun _=>⟨ha2,by decide,by decide⟩,4,fun _=>at_one 2 at2 rfl,a2,fun _=>⟨ha2,by decide,by decide⟩,8,fun _=>at_one 3 at2 rfl,a3,fun _=>⟨ha3,by decide,by decide⟩,15,fun _=>at_one 2 at3 rfl,?_,hsub⟩⟩
  rfl
end Go.Proofs.Ytjmdoiakcakfoaa
set_option maxRecDepth 100000
set_option linter.unusedVariables false
namespace Go.Proofs.Ytjmdoiakcakfoaa
open Go.Ax
noncomputable def c3:Cx:={ P:=Try.prog,res:=[],pub:=[],loops:=[],quiet:=[11,14,15],asm:=true }
def F3 (eId:Int) (eTime:Int) (eKind:Int) (eA:Int) (eB:Int) (eC:Int) (eD:Int) (eE:Int) (eF:Int) (now:Int) (name:Int) (H:Heap) (K:Value → Heap → Prop):Prop :=
 ∃ (b:Bool),
 (Tr Try.prog (11:Nat) #[] H fun v H'=>v = .bool b ∧ Ax.Sub H H') ∧
 Tr Try.prog (12:Nat) #[.pointer none,.agg #[.int .i64 eId,.int .i64 eTime,.int .i64 eKind,.int .i64 eA,.int .i64 eB,.int .i64 eC,.int .i64 eD,.int .i64 eE,.int .i64 eF]] H fun v1 H'1 =>
 ∃ (x:Int),
 v1 = .int .i64 x ∧
 Tr Try.prog (13:Nat) #[.pointer none,.int .i64 now,.int .i64 0] H'1 fun v2 H'2 =>
 ∃ (A:Option Addr) (n c:Nat) (x1:Int),
 v2 = .tuple #[.slice A n c,.int .i64 x1] ∧
 ∃ (x2 x3:Int),
 (Tr Try.prog (14:Nat) #[.pointer none,.int .i64 name,.int .i64 1] H'2 fun v3 H'3=>v3 = .tuple #[.int .i64 x2,.int .i64 x3] ∧ Ax.Sub H'2 H'3) ∧
 ∃ (x4:Int) (b1:Bool),
 (Tr Try.prog (15:Nat) #[.pointer none] H'2 fun v4 H'4=>v4 = .tuple #[.int .i64 x4,.bool b1] ∧ Ax.Sub H'2 H'4) ∧
 Tr Try.prog (16:Nat) #[.pointer none] H'2 fun v5 H'5 =>
 ∃ (x5 x6 x7 x8 x9 x10 x11 x12 x13 x14 x15 x16 x17 x18 x19 x20 x21 x22 x23 x24 x25:Int) (A1:Option Addr) (n1 c1:Nat) (A2:Option Addr) (n2 c2:Nat) (A3:Option Addr) (n3 c3:Nat) (A4:Option Addr) (n4 c4:Nat) (b2:Bool),
 v5 =
 .agg
 #[.int .i64 x5,.int .i64 x6,.int .i64 x7,.int .i64 x8,.int .i64 x9,.int .i64 x10,.int .i64 x11,.int .i64 x12,.int .i64 x13,.int .i64 x14,.int .i64 x15,.int .i64 x16,.int .i64 x17,.int .i64 x18,.int .i64 x19,.int .i64 x20,.int .i64 x21,.int .i64 x22,
 .int .i64 x23,.int .i64 x24,.int .i64 x25,.slice A1 n1 c1,.slice A2 n2 c2,.slice A3 n3 c3,.slice A4 n4 c4,.bool b2] ∧
 K (.bool (b && x == 42 && (↑n:Int) == 0 && x1 == 42 && x2 == 0 && x3 == 50 && x4 == 0 && !b1 && (↑n1:Int) == 0 && (↑n3:Int) == 0)) H'5
theorem v3 {eId:Int} {eTime:Int} {eKind:Int} {eA:Int} {eB:Int} {eC:Int} {eD:Int} {eE:Int} {eF:Int} {now:Int} {name:Int} {H:Heap} {K:Value → Heap → Prop} (h:F3 eId eTime eKind eA eB eC eD eE eF now name H K):Tr Try.prog 3 #[.agg #[.int .i64 eId,.int .i64 eTime,.int .i64 eKind,.int .i64 eA,.int .i64 eB,.int .i64 eC,.int .i64 eD,.int .i64 eE,.int .i64 eF],.int .i64 now,.int .i64 name] H K :=
  tr_of_eq (C:=c3) Try.func3 (show vcFn c3 Try.f3 [.agg #[.int .i64 eId,.int .i64 eTime,.int .i64 eKind,.int .i64 eA,.int .i64 eB,.int .i64 eC,.int .i64 eD,.int .i64 eE,.int .i64 eF],.int .i64 now,.int .i64 name] H K = F3 eId eTime eKind eA eB eC eD eE eF now name H K by kernel_rfl) h
noncomputable def c9:Cx:={ P:=Try.prog,res:=[],pub:=[80],loops:=[],quiet:=[11,15,17,21,23,24],asm:=true }
def F9 (pFuncsA:Option Addr) (pFuncsn pFuncsc:Nat) (pOptsA:Option Addr) (pOptsn pOptsc:Nat) (lA:Option Addr) (ln lc:Nat) (draw:Int) (H:Heap) (K:Value → Heap → Prop):Prop :=
 ∃ (b:Bool),
 (Tr Try.prog (11:Nat) #[] H fun v H'=>v = .bool b ∧ Ax.Sub H H') ∧
 ∃ (x x1 x2:Int),
 (Tr Try.prog (17:Nat) #[.agg #[.slice pFuncsA pFuncsn pFuncsc,.slice pOptsA pOptsn pOptsc]] H fun v1 H'1=>v1 = .tuple #[.int .i64 x,.int .i64 x1,.int .i64 x2] ∧ Ax.Sub H H'1) ∧
 ((x != 0) = true → K (.bool b) H) ∧
 ((x != 0) = false →
 Tr Try.prog (18:Nat) #[.agg #[.slice pFuncsA pFuncsn pFuncsc,.slice pOptsA pOptsn pOptsc],.slice lA ln lc] H fun v2 H'2 =>
 ∃ (v3 A:Option Addr) (n c:Nat) (b1:Bool),
 v2 = .tuple #[.pointer v3,.slice A n c,.bool b1] ∧
 ((!b1) = true → K (.bool false) H'2) ∧
 ((!b1) = false →
 ∃ (x3 x4:Int),
 (Tr Try.prog (21:Nat) #[.slice A n c] H'2 fun v4 H'3=>v4 = .tuple #[.int .i64 x3,.int .i64 x4] ∧ Ax.Sub H'2 H'3) ∧
 Tr Try.prog (22:Nat) #[.agg #[.slice pFuncsA pFuncsn pFuncsc,.slice pOptsA pOptsn pOptsc],.slice A n c] H'2 fun v5 H'4 =>
 ∃ (v6:Option Addr) (x5 x6:Int),
 v5 = .tuple #[.pointer v6,.int .i64 x5,.int .i64 x6] ∧
 ((x3 != 0 || x5 != 0 || v6.isNone) = true → K (.bool false) H'4) ∧
 ((x3 != 0 || x5 != 0 || v6.isNone) = false →
 Tr Try.prog (16:Nat) #[.pointer v3] H'4 fun v7 H'5 =>
 ∃ (x7 x8 x9 x10 x11 x12 x13 x14 x15 x16 x17 x18 x19 x20 x21 x22 x23 x24 x25 x26 x27:Int) (A1:Option Addr) (n1 c1:Nat) (A2:Option Addr) (n2 c2:Nat) (A3:Option Addr) (n3 c3:Nat) (A4:Option Addr) (n4 c4:Nat) (b2:Bool),
 v7 =
 .agg
 #[.int .i64 x7,.int .i64 x8,.int .i64 x9,.int .i64 x10,.int .i64 x11,.int .i64 x12,.int .i64 x13,.int .i64 x14,.int .i64 x15,.int .i64 x16,.int .i64 x17,.int .i64 x18,.int .i64 x19,.int .i64 x20,.int .i64 x21,.int .i64 x22,.int .i64 x23,
 .int .i64 x24,.int .i64 x25,.int .i64 x26,.int .i64 x27,.slice A1 n1 c1,.slice A2 n2 c2,.slice A3 n3 c3,.slice A4 n4 c4,.bool b2] ∧
 Tr Try.prog (16:Nat) #[.pointer v6] H'5 fun v8 H'6 =>
 ∃ (x28 x29 x30 x31 x32 x33 x34 x35 x36 x37 x38 x39 x40 x41 x42 x43 x44 x45 x46 x47 x48:Int) (A5:Option Addr) (n5 c5:Nat) (A6:Option Addr) (n6 c6:Nat) (A7:Option Addr) (n7 c7:Nat) (A8:Option Addr) (n8 c8:Nat) (b3:Bool),
 v8 =
 .agg
 #[.int .i64 x28,.int .i64 x29,.int .i64 x30,.int .i64 x31,.int .i64 x32,.int .i64 x33,.int .i64 x34,.int .i64 x35,.int .i64 x36,.int .i64 x37,.int .i64 x38,.int .i64 x39,.int .i64 x40,.int .i64 x41,
 .int .i64 x42,.int .i64 x43,.int .i64 x44,.int .i64 x45,.int .i64 x46,.int .i64 x47,.int .i64 x48,.slice A5 n5 c5,.slice A6 n6 c6,.slice A7 n7 c7,.slice A8 n8 c8,.bool b3] ∧
 ∀ (b4:Nat),
 H'6 b4 = none →
 ∀ (H1:Heap),
 H1 =
 H'6.upd b4
 (Obj.cells
 #[.slice none (0:Nat) (0:Nat),.slice none (0:Nat) (0:Nat),.int .i64 x7,.int .i64 x8,.int .i64 x9,.int .i64 x10,.int .i64 x11,.int .i64 x12,.int .i64 x13,.int .i64 x14,.int .i64 x15,.int .i64 x16,.int .i64 x17,
 .int .i64 x18,.int .i64 x19,.int .i64 x20,.int .i64 x21,.int .i64 x22,.int .i64 x23,.int .i64 x24,.int .i64 x25,.int .i64 x26,.int .i64 x27,.slice A1 n1 c1,.slice A2 n2 c2,.slice A3 n3 c3,.slice A4 n4 c4,.bool b2,
 .slice none (0:Nat) (0:Nat),.bool false,.int .i64 0,.int .i64 0,.slice none (0:Nat) (0:Nat),.int .u64 0,.bool false,.slice none (0:Nat) (0:Nat),.int .i64 0,.bool false]
 (78:Nat)) →
 ∃ (b5:Bool),
 (Tr Try.prog (23:Nat)
 #[.pointer (some ({ block:=b4,off:=(0:Nat) }:Addr)),
 .agg
 #[.int .i64 x28,.int .i64 x29,.int .i64 x30,.int .i64 x31,.int .i64 x32,.int .i64 x33,.int .i64 x34,.int .i64 x35,.int .i64 x36,.int .i64 x37,.int .i64 x38,.int .i64 x39,.int .i64 x40,.int .i64 x41,
 .int .i64 x42,.int .i64 x43,.int .i64 x44,.int .i64 x45,.int .i64 x46,.int .i64 x47,.int .i64 x48,.slice A5 n5 c5,.slice A6 n6 c6,.slice A7 n7 c7,.slice A8 n8 c8,.bool b3]]
 H1 fun v9 H'7=>v9 = .bool b5 ∧ Ax.Sub H1 H'7) ∧
 ∃ (x49:Int) (b6:Bool),
 (Tr Try.prog (15:Nat) #[.pointer v3] H1 fun v10 H'8=>v10 = .tuple #[.int .i64 x49,.bool b6] ∧ Ax.Sub H1 H'8) ∧
 ∃ (x50:Int) (b7:Bool),
 (Tr Try.prog (15:Nat) #[.pointer v6] H1 fun v11 H'9=>v11 = .tuple #[.int .i64 x50,.bool b7] ∧ Ax.Sub H1 H'9) ∧
 (decide ((↑n:Int) > 0) = true →
 ∃ (a:Addr),
 (A = some a ∧ (0:Int) ≤ IntKind.i64.wrap ((↑n:Int) - 1) ∧ IntKind.i64.wrap ((↑n:Int) - 1) < (↑n:Int)) ∧
 ∃ (x51:Int),
 At H1 ((a.add ((IntKind.i64.wrap ((↑n:Int) - 1)).toNat * nat_lit 9)).add (nat_lit 1)) [.int .i64 x51] ∧
 Tr Try.prog (13:Nat) #[.pointer v3,.int .i64 x51,.int .i64 draw] H1 fun v12 H'10 =>
 ∃ (A9:Option Addr) (n9 c9:Nat) (x52:Int),
 v12 = .tuple #[.slice A9 n9 c9,.int .i64 x52] ∧
 Tr Try.prog (13:Nat) #[.pointer v6,.int .i64 x51,.int .i64 draw] H'10 fun v13 H'11 =>
 ∃ (A10:Option Addr) (n10 c10:Nat) (x53:Int),
 v13 = .tuple #[.slice A10 n10 c10,.int .i64 x53] ∧ ∃ (b8:Bool),(Tr Try.prog (24:Nat) #[.slice A9 n9 c9,.slice A10 n10 c10] H'11 fun v14 H'12=>v14 = .bool b8 ∧ Ax.Sub H'11 H'12) ∧ K (.bool (b && b5 && x49 == x50 && b6 == b7 && x49 == (↑n:Int) && b8 && x52 == x53)) H'11) ∧
 (decide ((↑n:Int) > 0) = false →
 Tr Try.prog (13:Nat) #[.pointer v3,.int .i64 x27,.int .i64 draw] H1 fun v15 H'13 =>
 ∃ (A11:Option Addr) (n11 c11:Nat) (x54:Int),
 v15 = .tuple #[.slice A11 n11 c11,.int .i64 x54] ∧
 Tr Try.prog (13:Nat) #[.pointer v6,.int .i64 x27,.int .i64 draw] H'13 fun v16 H'14 =>
 ∃ (A12:Option Addr) (n12 c12:Nat) (x55:Int),
 v16 = .tuple #[.slice A12 n12 c12,.int .i64 x55] ∧ ∃ (b9:Bool),(Tr Try.prog (24:Nat) #[.slice A11 n11 c11,.slice A12 n12 c12] H'14 fun v17 H'15=>v17 = .bool b9 ∧ Ax.Sub H'14 H'15) ∧ K (.bool (b && b5 && x49 == x50 && b6 == b7 && x49 == (↑n:Int) && b9 && x54 == x55)) H'14))))
theorem v9 {pFuncsA:Option Addr} {pFuncsn pFuncsc:Nat} {pOptsA:Option Addr} {pOptsn pOptsc:Nat} {lA:Option Addr} {ln lc:Nat} {draw:Int} {H:Heap} {K:Value → Heap → Prop} (h:F9 pFuncsA pFuncsn pFuncsc pOptsA pOptsn pOptsc lA ln lc draw H K):Tr Try.prog 9 #[.agg #[.slice pFuncsA pFuncsn pFuncsc,.slice pOptsA pOptsn pOptsc],.slice lA ln lc,.int .i64 draw] H K :=
  tr_of_eq (C:=c9) Try.func9 (show vcFn c9 Try.f9 [.agg #[.slice pFuncsA pFuncsn pFuncsc,.slice pOptsA pOptsn pOptsc],.slice lA ln lc,.int .i64 draw] H K = F9 pFuncsA pFuncsn pFuncsc pOptsA pOptsn pOptsc lA ln lc draw H K by kernel_rfl) h
end Go.Proofs.Ytjmdoiakcakfoaa
set_option maxRecDepth 100000
namespace Go.Proofs.Ytjmdoiakcakfoaa
open Go.Ax
theorem n16 (H:Heap):Tr Try.prog 16 #[.pointer none] H fun v H'=>v = .agg ⟨List.replicate 21 (.int .i64 0) ++ [.slice none 0 0,.slice none 0 0,.slice none 0 0,.slice none 0 0,.bool false]⟩ ∧ Sub H H':=by
  apply v16; unfold F16
  exact ⟨fun _=>⟨rfl,Sub.refl _⟩,fun e=>absurd e (by simp)⟩
theorem t3 (e:Ev) (now name:Int) (H:Heap):Tr Try.prog 3 #[e.val,.int .i64 now,.int .i64 name] H fun v H'=>v = .bool true ∧ Sub H H':=by
  apply v3; unfold F3
  refine ⟨true,t11 H,(n12 e H).mono fun v1 H1 ⟨h1,s1⟩=>⟨42,h1,(n13 now 0 H1).mono fun v2 H2 ⟨h2,s2⟩=>⟨none,0,0,42,h2,0,50,n14 name 1 H2,0,false,n15 H2,?_⟩⟩⟩
  refine (n16 H2).mono fun v3 H3 ⟨h3,s3⟩=>⟨_,_,_,_,_,_,_,_,_,_,_,_,_,_,_,_,_,_,_,_,_,_,_,_,_,_,_,_,_,_,_,_,_,_,h3,?_,s1.trans (s2.trans s3)⟩
  rfl
end Go.Proofs.Ytjmdoiakcakfoaa
set_option maxRecDepth 100000
namespace Go.Proofs.Ytjmdoiakcakfoaa
open Go.Ax
section
variable {G0 F0 G H:Heap} {m:Nat} {pf po:SlH} {sl:Nat → SlH} {F:Heap} {ex:Value} {st:List SlH} {s:VS}
theorem VMX.copyIn (h : VMX G H m pf po sl F ex st s) {q : SlH} {sz : Nat} {cs : List Value} (d : Side G0 F0 G F q sz cs) {e : TypeId} {sz2 bytes : Nat} {B : Option Addr} {new : List Value} {k : Nat} (hs : Src H B new) (hk : new.length = k * sz2) (h1 : allOne new = true) (hb : (0 + k) * bytes ≤ 140737488355328) (hl : 0 + k ≤ 9223372036854775807)
    {K:Option Addr → Nat → Nat → Heap → Prop} (r:∀ A' c' G0' F0' G' F' H',VMX G' H' m pf po sl F' ex st s → Side G0' F0' G' F' q sz cs → Sub G0 G0' → Sub F0 F0' → Sub (dif F0 G0) (dif F0' G0') → SlOk G0' ⟨A',0 + k,c'⟩ sz2 new → K A' (0 + k) c' H'):appS e sz2 bytes H none 0 0 B k K:=by
  refine ⟨⟨new,hs,hk,⟨⟨[],.inl rfl,by simp,hk,h1,hb,hl,fun hcap=>.inl ?_,fun hcap b cap rest hbn hle hr=>?_⟩⟩⟩⟩
  · have k0:k = 0:=by omega
    subst k0
    have hn:new = []:=List.length_eq_zero_iff.1 (by omega)
    subst hn
    exact ⟨rfl,r _ _ _ _ _ _ _ h d (Sub.refl _) (Sub.refl _) (Sub.refl _) ⟨by simp,Nat.le_refl _,.inl ⟨rfl,rfl,rfl⟩⟩⟩
  · have gh:Sub G H:=h.gf.trans h.fh
    have hG:=none_below gh hbn
    have hF:=none_below h.fh hbn
    have hF0:=none_below d.f hF
    have hG0:=none_below d.gf hF0
    have up:∀ {X Y:Heap} (o:Obj),Sub X Y → Sub (X.upd b o) (Y.upd b o):=fun o k=>⟨fun i x hx=>by
      by_cases e:i = b
      · subst e; rw [Heap.upd_same] at hx ⊢; exact hx
      · rw [Heap.upd_other e] at hx ⊢; exact k.sub i x hx⟩
    have nb:∀ b',q.blk = some b' → b' ≠ b:=fun b' hb' e=>by
      rcases d.sl.at_ with ⟨a1,_⟩ | ⟨b2,off,cur,T,a1,a2,_⟩
      · unfold SlH.blk at hb'; rw [a1] at hb'; cases hb'
      · unfold SlH.blk at hb'; rw [a1] at hb'; cases hb'
        have e:b2 = b:=e
        rw [e,hG] at a2; cases a2
    refine r _ _ _ _ _ _ _ (h.ext hbn (.cells ⟨[] ++ new ++ rest⟩ e (0,0))) ⟨up _ d.g,up _ d.f,up _ d.gf,⟨fun i o hi=>?_⟩,d.sl.mono fun b' hb'=>Heap.upd_other (nb b' hb'),fun b' hb'=>by rw [Heap.upd_other (nb b' hb')]; exact d.free b' hb'⟩ (Sub.upd_new hG0) (Sub.upd_new hF0) (dif_ext hF0 _) ⟨by rw [hk]; show _ = (0 + k) * sz2; rw [Nat.zero_add],hle,.inr ⟨b,0,_,e,rfl,Heap.upd_same,?_,fun j v hv=>?_⟩⟩
    · have e' : i ≠ b := fun e => by
        subst e
        unfold dif at hi
        rw [Heap.upd_same] at hi
        simp at hi
      unfold dif at hi
      rw [Heap.upd_other e',Heap.upd_other e'] at hi
      have:=d.d.sub i o (by unfold dif; exact hi)
      unfold dif at this ⊢
      rw [Heap.upd_other e',Heap.upd_other e']; exact this
    · simp only [List.nil_append,List.size_toArray,List.length_append,hk,hr,Nat.zero_add]
      rw [← Nat.add_mul]
      have:k + (cap - k) = cap:=by omega
      rw [this]; exact Nat.le_refl _
    · have hj:=get_lt hv
      simp only [List.nil_append,List.getElem?_toArray,Nat.zero_add]
      rw [List.getElem?_append_left hj]; exact hv
theorem VMX.anew (h:VMX G H m pf po sl F ex st s) (sz:Nat):Side G F G F ⟨none,0,0⟩ sz []:=Side.nil h.gf sz
end
structure LookAt (G:Heap) (s:VS) (tA fA cA gA:Option Addr) (tn fn cn gn:Nat):Prop where
  thr:∃ ths:List (Thr × SlH),ths.map (·.1) = (if s.over = true then [] else s.threads) ∧ tn = ths.length ∧ Src G tA (ths.flatMap thrC) ∧ ∀ z ∈ ths,HasL G z.2 z.1.stack
  fut:fn = s.futures.length ∧ Src G fA (s.futures.flatMap futC)
  scp:cn = s.scopes.length ∧ Src G cA (s.scopes.flatMap scpC)
  sig:gn = s.signals.length ∧ ∃ hs:List SlH,hs.length = s.signals.length ∧ Src G gA (hs.map SlH.v) ∧ ∀ (k:Nat) (h:SlH) (l:List Int),hs[k]? = some h → s.signals[k]? = some l → HasL G h l
def lookV (s:VS) (t f c g:Value):Value:=.agg ⟨cellsV 16 s.vars ++ cellsV 4 s.attrs ++ [.int .i64 s.now,t,f,c,g,.bool s.over]⟩
theorem LookAt.sub {G G':Heap} {s:VS} {tA fA cA gA:Option Addr} {tn fn cn gn:Nat} (h:LookAt G s tA fA cA gA tn fn cn gn) (k:Sub G G'):LookAt G' s tA fA cA gA tn fn cn gn:=by
  obtain ⟨ths,h1,h2,h3,h4⟩:=h.thr
  obtain ⟨g1,hs,g2,g3,g4⟩:=h.sig
  exact ⟨⟨ths,h1,h2,src_sub h3 k,fun z hz=>(h4 z hz).sub k⟩,⟨h.fut.1,src_sub h.fut.2 k⟩,⟨h.scp.1,src_sub h.scp.2 k⟩,⟨g1,hs,g2,src_sub g3 k,fun i q l a b=>(g4 i q l a b).sub k⟩⟩
theorem futs_one:∀ l:List Fut,allOne (l.flatMap futC) = true
  | []=>rfl
  | x :: l=>by rw [List.flatMap_cons]; exact futs_one l
theorem scps_one:∀ l:List Scp,allOne (l.flatMap scpC) = true
  | []=>rfl
  | x :: l=>by rw [List.flatMap_cons]; exact scps_one l
section
variable {p:Prg} {G H:Heap} {m:Nat} {pf po:SlH} {sl:Nat → SlH} {F:Heap} {ex:Value} {st:List SlH} {s:VS}
structure RLkT (G F:Heap) (m:Nat) (pf po:SlH) (sl:Nat → SlH) (ex:Value) (st:List SlH) (s:VS) (x:Int) (A:Option Addr) (n c:Nat) (H1:Heap):Prop where
  out:∃ (k:Nat) (G0 F0 G1 F1:Heap) (ths:List (Thr × SlH)),x = k ∧ k ≤ s.threads.length ∧ (k ≠ 0 → s.over = false) ∧ VMX G1 H1 m pf po sl F1 ex st s ∧ Side G0 F0 G1 F1 ⟨A,n,c⟩ 9 (ths.flatMap thrC) ∧ Sub G G0 ∧ Sub (dif F G) (dif F0 G0) ∧ ths.map (·.1) = s.threads.take k ∧ ∀ z ∈ ths,HasL G0 z.2 z.1.stack
structure RLkS (G F:Heap) (m:Nat) (pf po:SlH) (sl:Nat → SlH) (ex:Value) (st:List SlH) (s:VS) (x:Int) (A:Option Addr) (n c:Nat) (H1:Heap):Prop where
  out:∃ (k:Nat) (G0 F0 G1 F1:Heap) (hs:List SlH),x = k ∧ k ≤ 8 ∧ hs.length = k ∧ VMX G1 H1 m pf po sl F1 ex st s ∧ Side G0 F0 G1 F1 ⟨A,n,c⟩ 1 (hs.map SlH.v) ∧ Sub G G0 ∧ Sub (dif F G) (dif F0 G0) ∧ ∀ (k:Nat) (h:SlH) (l:List Int),hs[k]? = some h → s.signals[k]? = some l → HasL G0 h l
def LookP (m:Nat) (H:Heap) (K:Option Addr → Nat → Nat → Option Addr → Nat → Nat → Option Addr → Nat → Nat → Heap → Prop):Prop :=
  ∃ a8:Addr,some (⟨m,0,none⟩:Addr) = some a8 ∧ ∃ (A12:Option Addr) (n12 c12:Nat),At H ((a8.add 2).add 22) [.slice A12 n12 c12] ∧ appS 55 6 48 H none 0 0 A12 n12 fun fA fn fc H1 =>
    ∃ a9:Addr,some (⟨m,0,none⟩:Addr) = some a9 ∧ ∃ (A13:Option Addr) (n13 c13:Nat),At H1 ((a9.add 2).add 23) [.slice A13 n13 c13] ∧ appS 65 2 16 H1 none 0 0 A13 n13 fun cA cn cc H2 =>
      ∃ a10:Addr,some (⟨m,0,none⟩:Addr) = some a10 ∧ ∃ (A14:Option Addr) (n14 c14:Nat),At H2 ((a10.add 2).add 24) [.slice A14 n14 c14] ∧
        ∃ (Rel:Int → Option Addr → Nat → Nat → Heap → Prop) (mu:Int → Option Addr → Nat → Nat → Heap → Nat),Rel 0 none 0 0 H2 ∧ ∀ (x:Int) (A15:Option Addr) (n15 c15:Nat) (H3:Heap),Rel x A15 n15 c15 H3 →
          (decide (x < (n14:Int)) = true → ∃ a11:Addr,(A14 = some a11 ∧ (0:Int) ≤ x ∧ x < (n14:Int)) ∧ ∃ (A16:Option Addr) (n16 c16:Nat),At H3 (a11.add (x.toNat * 1)) [.slice A16 n16 c16] ∧
            (appS 2 1 8 H3 none 0 0 A16 n16 fun A' n' c' H4=>appC 58 1 24 H4 A15 n15 c15 [.slice A' n' c'] 1 fun A2 n2 c2 H5=>Rel (IntKind.i64.wrap (x + 1)) A2 n2 c2 H5 ∧ mu (IntKind.i64.wrap (x + 1)) A2 n2 c2 H5 < mu x A15 n15 c15 H3) ∧
            appS 2 1 8 H3 none 0 0 A16 n16 fun A' n' c' H4=>(appC 58 1 24 H4 A15 n15 c15 [.slice A' n' c'] 1 fun A2 n2 c2 H5=>Rel (IntKind.i64.wrap (x + 1)) A2 n2 c2 H5 ∧ mu (IntKind.i64.wrap (x + 1)) A2 n2 c2 H5 < mu x A15 n15 c15 H3) ∧
              appC 58 1 24 H4 A15 n15 c15 [.slice A' n' c'] 1 fun A2 n2 c2 H5=>Rel (IntKind.i64.wrap (x + 1)) A2 n2 c2 H5 ∧ mu (IntKind.i64.wrap (x + 1)) A2 n2 c2 H5 < mu x A15 n15 c15 H3) ∧
          (decide (x < (n14:Int)) = false → K fA fn fc cA cn cc A15 n15 c15 H3)
theorem VMX.lookP (h : VMX G H m pf po sl F ex st s) (iv : Inv p s) {K : Option Addr → Nat → Nat → Option Addr → Nat → Nat → Option Addr → Nat → Nat → Heap → Prop}
    (q:∀ fA fn fc cA cn cc gA gn gc G' F' H',VMX G' H' m pf po sl F' ex st s → Sub G G' → Sub (dif F G) (dif F' G') → fn = s.futures.length → Src G' fA (s.futures.flatMap futC) → cn = s.scopes.length → Src G' cA (s.scopes.flatMap scpC) →
      (gn = s.signals.length ∧ ∃ hs:List SlH,hs.length = s.signals.length ∧ Src G' gA (hs.map SlH.v) ∧ ∀ (k:Nat) (h:SlH) (l:List Int),hs[k]? = some h → s.signals[k]? = some l → HasL G' h l) → K fA fn fc cA cn cc gA gn gc H'):LookP m H K:=by
  have hm:=iv.many
  have hc:=iv.c0
  have hf:=iv.fuel
  have h32:=iv.sc32
  have hfl:=h.futLen
  have hsl:=h.scpLen
  have okf:=h.ok 1 (by decide)
  refine ⟨_,rfl,_,_,_,h.c24,⟨⟨_,okf.src,okf.len,?_⟩⟩⟩
  refine h.side (h.anew 6) (k:=(sl 1).n) okf.len (futs_one _) (by show (0 + (sl 1).n) * 48 ≤ _; omega) (by show 0 + (sl 1).n ≤ _; omega) fun A1 c1 G1 F1 H1 h1 d1=>?_
  have oks:=h1.ok 2 (by decide)
  refine ⟨_,rfl,_,_,_,h1.c25,⟨⟨_,oks.src,oks.len,?_⟩⟩⟩
  refine h1.side (h1.anew 2) (k:=(sl 2).n) oks.len (scps_one _) (by show (0 + (sl 2).n) * 16 ≤ _; omega) (by show 0 + (sl 2).n ≤ _; omega) fun A2 c2 G2 F2 H2 h2 d2=>?_
  refine ⟨_,rfl,_,_,_,h2.c26,RLkS G2 F2 m pf po sl ex st s,fun x _ _ _ _=>(8 - x).toNat,⟨0,G2,F2,G2,F2,[],rfl,Nat.zero_le _,rfl,h2,h2.anew 1,Sub.refl _,Sub.refl _,fun k h l e=>by cases e⟩,fun x A n c H3 r=>?_⟩
  obtain ⟨k,G0,F0,G3,F3,hs,rfl,hk,hlen,h3,d3,g0,dd,hst⟩:=r.out
  have h8:=h3.sigLen
  have hdl:=d3.sl.len
  rw [List.length_map,hlen,Nat.mul_one] at hdl
  have hdl:k = n:=hdl
  subst hdl
  have hw:IntKind.i64.wrap ((k:Int) + 1) = ((k + 1:Nat):Int):=by rw [wrapi (by omega) (by omega)]; rfl
  refine ⟨fun hlt=>?_,fun hge=>?_⟩
  · have hlt:(k:Int) < ((sl 3).n:Int):=of_decide_eq_true hlt
    have hk8:k < 8:=by omega
    obtain ⟨a,ha,hat⟩:=h3.sig hk8
    have oki:=h3.sigOk hk8
    have hn:=h3.sigN hk8
    obtain ⟨l,hl⟩:=get_some (l:=s.signals) (i:=k) (by rw [iv.sg8]; exact hk8)
    have hgl:s.signals[k]?.getD [] = l:=by rw [hl]; rfl
    rw [hgl] at oki hn
    have hsig:=iv.sig l (List.mem_of_getElem? hl)
    rw [hw]
    have step : ∀ (A' : Option Addr) (c' : Nat) (G4 F4 G5 F5 : Heap) (H5 : Heap), VMX G5 H5 m pf po sl F5 ex st s → Side G4 F4 G5 F5 ⟨A, k, c⟩ 1 (hs.map SlH.v) → Sub G0 G4 → Sub (dif F0 G0) (dif F4 G4) → SlOk G4 ⟨A', 0 + (sl (6 + k)).n, c'⟩ 1 (intsC l) →
        appC 58 1 24 H5 A k c [.slice A' (0 + (sl (6 + k)).n) c'] 1 fun A2 n2 c2 H6=>RLkS G2 F2 m pf po sl ex st s ((k + 1:Nat):Int) A2 n2 c2 H6 ∧ (8 - ((k + 1:Nat):Int)).toNat < (8 - (k:Int)).toNat:=fun A' c' G4 F4 G5 F5 H5 h5 d5 g4 dd4 so=>by
      refine h5.side d5 (new:=[.slice A' (0 + (sl (6 + k)).n) c']) (k:=1) rfl rfl (by show (k + 1) * 24 ≤ _; omega) (by show k + 1 ≤ _; omega) fun A2 c2 G6 F6 H6 h6 d6=>⟨⟨k + 1,G4,F4,G6,F6,hs ++ [⟨A',0 + (sl (6 + k)).n,c'⟩],rfl,by omega,by simp [hlen],h6,by rw [List.map_append]; exact d6,g0.trans g4,dd.trans dd4,fun j q l' hj hl'=>?_⟩,by omega⟩
      by_cases hjk:j < k
      · rw [List.getElem?_append_left (by omega)] at hj
        exact (hst j q l' hj hl').sub g4
      · have hjl:=get_lt hj
        rw [List.length_append,List.length_singleton] at hjl
        have:j = k:=by omega
        subst this
        rw [List.getElem?_append_right (by omega),hlen,Nat.sub_self] at hj
        rw [hl] at hl'
        cases hj; cases hl'
        exact so.has
    have hlc:(intsC l).length = (sl (6 + k)).n * 1:=oki.len
    refine ⟨a,⟨ha,by omega,hlt⟩,_,_,_,hat,?_,?_⟩
    · exact h3.copyIn d3 oki.src hlc (intsC_one l) (by omega) (by omega) fun A' c' G4 F4 G5 F5 H5 h5 d5 g4 f4 dd4 so=>step A' c' G4 F4 G5 F5 H5 h5 d5 g4 dd4 so
    · exact h3.copyIn d3 oki.src hlc (intsC_one l) (by omega) (by omega) fun A' c' G4 F4 G5 F5 H5 h5 d5 g4 f4 dd4 so=>⟨step A' c' G4 F4 G5 F5 H5 h5 d5 g4 dd4 so,step A' c' G4 F4 G5 F5 H5 h5 d5 g4 dd4 so⟩
  · have hge:¬ (k:Int) < ((sl 3).n:Int):=of_decide_eq_false hge
    have hk8:k = 8:=by omega
    have s2:Sub G2 G3:=g0.trans d3.g
    exact q _ _ _ _ _ _ _ _ _ _ _ _ h3 (d1.g.trans (d2.g.trans s2)) (d1.d.trans (d2.d.trans (dd.trans d3.d))) (by show 0 + (sl 1).n = _; omega) (src_sub d1.sl.src (d2.g.trans s2)) (by show 0 + (sl 2).n = _; omega) (src_sub d2.sl.src s2)
      ⟨by rw [iv.sg8]; exact hk8,hs,by rw [iv.sg8,hlen]; exact hk8,d3.sl.src,fun j q l a b=>(hst j q l a b).sub d3.g⟩
structure LookR (p:Prg) (G:Heap) (m:Nat) (pf po:SlH) (ex:Value) (s:VS) (v:Value) (H':Heap):Prop where
  out:∃ tA tn tc fA fn fc cA cn cc gA gn gc G',v = lookV s (.slice tA tn tc) (.slice fA fn fc) (.slice cA cn cc) (.slice gA gn gc) ∧ Sub G G' ∧ LookAt G' s tA fA cA gA tn fn cn gn ∧ VMP p G' H' m pf po ex s
theorem VMX.look (h:VMX G H m pf po sl F ex st s):At H ((⟨m,0,none⟩:Addr).add 2) (cellsV 16 s.vars ++ cellsV 4 s.attrs ++ [.int .i64 s.now,(sl 0).v,(sl 1).v,(sl 2).v,(sl 3).v,.bool s.over]):=by
  have:At H (⟨m,0,none⟩:Addr) (mCells pf po sl ex s):=⟨⟨_,_,_,h.hm,rfl,fun j v hv=>by simpa using hv⟩⟩
  exact at_take 26 (at_drop 2 this)
theorem t16 (h : VMX G H m pf po sl F ex st s) (pr : HasP (dif F G) pf.A pf.n po.A po.n p) (iv : Inv p s) :
    Tr Try.prog 16 #[.pointer (some ⟨m,0,none⟩)] H fun v H'=>LookR p G m pf po ex s v H':=by
  have h16:=iv.t16
  have hn:=h.thrLen
  apply v16; unfold F16
  refine ⟨fun e=>absurd e (by simp),fun _=>⟨_,rfl,_,_,_,_,_,_,_,_,_,_,_,_,_,_,_,_,_,_,_,_,_,_,_,_,_,_,_,_,_,_,_,_,_,s.over,h.look,_,rfl,_,_,_,h.c23,RLkT G F m pf po sl ex st s,fun x _ _ _ _=>((s.threads.length:Int) - x).toNat,⟨0,G,F,G,F,[],rfl,Nat.zero_le _,fun e=>absurd rfl e,h,h.anew 9,Sub.refl _,Sub.refl _,rfl,fun z hz=>by cases hz⟩,fun x A n c H1 r=>?_⟩⟩
  obtain ⟨k,G0,F0,G1,F1,ths,rfl,hk,hov,h1,d1,g0,dd,hth,hst⟩:=r.out
  have hw:IntKind.i64.wrap ((k:Int) + 1) = ((k + 1:Nat):Int):=by rw [wrapi (by omega) (by omega)]; rfl
  have hlen:ths.length = k:=by
    have:=congrArg List.length hth
    rw [List.length_map,List.length_take] at this; omega
  have hdl:=d1.sl.len
  rw [flat_size (cells:=thrC) (sz:=9) (fun _=>rfl),hlen] at hdl
  have hdl:k * 9 = n * 9:=hdl
  have hkn:k = n:=by omega
  subst hkn
  have fin:(if s.over = true then [] else s.threads) = s.threads.take k → ∀ {K:Value → Heap → Prop},(∀ v H',LookR p G m pf po ex s v H' → K v H') → LookP m H1 fun fA fn fc cA cn cc gA gn gc H'=>K (lookV s (.slice A k c) (.slice fA fn fc) (.slice cA cn cc) (.slice gA gn gc)) H':=fun e K kk =>
    h1.lookP iv fun fA fn fc cA cn cc gA gn gc G2 F2 H2 h2 g2 dd2 e1 s1 e2 s2 sg=>kk _ _ ⟨A,k,c,fA,fn,fc,cA,cn,cc,gA,gn,gc,G2,rfl,g0.trans (d1.g.trans g2),⟨⟨ths,by rw [hth,e],hlen.symm,src_sub d1.sl.src g2,fun z hz=>(hst z hz).sub (d1.g.trans g2)⟩,⟨e1,s1⟩,⟨e2,s2⟩,sg⟩,sl,F2,st,h2,pr.sub (dd.trans (d1.d.trans dd2))⟩
  refine ⟨fun hlt=>?_,fun hge=>?_⟩
  · have hlt:(k:Int) < ((sl 0).n:Int):=of_decide_eq_true hlt
    obtain ⟨t,ht⟩:=get_some (l:=s.threads) (i:=k) (by omega)
    obtain ⟨a,q,ha,hq,hqs,hat⟩:=h1.thr ht
    have hT:=iv.thr t (List.mem_of_getElem? ht)
    have hql:=hqs.len
    have hstk:=hT.stack
    refine ⟨a,⟨ha,by omega,hlt⟩,_,_,_,_,_,_,_,_,_,_,_,hat,_,rfl,s.over,h1.c27,fun ho=>?_,fun ho=>?_⟩
    · have hk0 : k = 0 := by
        by_cases h0:k = 0
        · exact h0
        · rw [hov h0] at ho; cases ho
      exact fin (by rw [if_pos ho,hk0]; rfl) fun v H' r=>r
    · rw [hw]
      refine h1.copyIn d1 (src_sub hqs.src (dif_sub.trans h1.fh)) (by unfold intsC; rw [List.length_map,hql,Nat.mul_one]) (intsC_one _) (by show (0 + q.n) * 8 ≤ _; omega) (by show 0 + q.n ≤ _; omega) fun A' c' G2 F2 G3 F3 H3 h3 d3 g3 f3 dd3 so=>?_
      refine h3.side d3 (new:=thrC (t,⟨A',0 + q.n,c'⟩)) (k:=1) rfl rfl (by show (k + 1) * 88 ≤ _; omega) (by show k + 1 ≤ _; omega) fun A2 c2 G4 F4 H4 h4 d4=>⟨⟨k + 1,G2,F2,G4,F4,ths ++ [(t,⟨A',0 + q.n,c'⟩)],rfl,by omega,fun _=>ho,h4,by rw [List.flatMap_append,List.flatMap_singleton]; exact d4,g0.trans g3,dd.trans dd3,?_,fun z hz=>?_⟩,?_⟩
      · rw [List.map_append,hth,List.take_add_one,ht]; rfl
      · rcases List.mem_append.1 hz with hz | hz
        · exact (hst z hz).sub g3
        · rw [List.mem_singleton] at hz; subst hz; exact so.has
      · show ((s.threads.length:Int) - ((k + 1:Nat):Int)).toNat < ((s.threads.length:Int) - (k:Int)).toNat; omega
  · have hge:¬ (k:Int) < ((sl 0).n:Int):=of_decide_eq_false hge
    have hkl:k = s.threads.length:=by omega
    refine fin ?_ fun v H' r=>r
    cases ho:s.over with
    | false=>rw [if_neg (by simp),hkl,List.take_length]
    | true =>
      rw [if_pos rfl]
      have:k = 0:=by
        by_cases h0:k = 0
        · exact h0
        · rw [hov h0] at ho; cases ho
      rw [this]; rfl
end
end Go.Proofs.Ytjmdoiakcakfoaa
set_option maxRecDepth 100000
namespace Go.Proofs.Ytjmdoiakcakfoaa
open Go.Ax
structure Hand (G0 G:Heap) (q:SlH) (sz:Nat) (cs:List Value):Prop where
  g:Sub G0 G
  sl:SlOk G q sz cs
  free:∀ b,q.blk = some b → G0 b = none
theorem Hand.nil {G0 G:Heap} (g:Sub G0 G) (sz:Nat):Hand G0 G ⟨none,0,0⟩ sz []:=⟨g,⟨by simp,Nat.le_refl _,.inl ⟨rfl,rfl,rfl⟩⟩,fun b hb=>by cases hb⟩
theorem Hand.sub {G0 G G':Heap} {q:SlH} {sz:Nat} {cs:List Value} (h:Hand G0 G q sz cs) (k:Sub G G'):Hand G0 G' q sz cs:=⟨h.g.trans k,h.sl.sub k,h.free⟩
theorem Hand.low {G0 G1 G:Heap} {q:SlH} {sz:Nat} {cs:List Value} (h:Hand G1 G q sz cs) (k:Sub G0 G1):Hand G0 G q sz cs:=⟨k.trans h.g,h.sl,fun b hb=>none_below k (h.free b hb)⟩
theorem Hand.len {G0 G:Heap} {q:SlH} {l:List Ev} (h:Hand G0 G q 9 (l.flatMap Ev.cells)):q.n = l.length:=by
  have:=h.sl.len
  rw [flat_size (cells:=Ev.cells) (sz:=9) (fun _=>rfl)] at this
  omega
def cutB (H:Heap) (q:SlH):Heap:=fun i=>if q.blk = some i then none else H i
theorem cutB_sub {H:Heap} {q:SlH}:Sub (cutB H q) H:=⟨fun i o h=>by
  unfold cutB at h
  split at h
  · cases h
  · exact h⟩
section
variable {p:Prg} {G0 G H:Heap} {m:Nat} {pf po:SlH} {sl:Nat → SlH} {F:Heap} {ex:Value} {st:List SlH} {s:VS} {q:SlH} {sz:Nat} {cs:List Value}
theorem VMX.sideOf (h:VMX G H m pf po sl F ex st s) (hd:Hand G0 G q sz cs):Side (cutB G q) (cutB F q) G F q sz cs:=by
  refine ⟨cutB_sub,cutB_sub,⟨fun i o k=>?_⟩,⟨fun i o k=>?_⟩,hd.sl,fun b hb=>by unfold cutB; rw [if_pos hb]⟩
  · unfold cutB at k ⊢
    split at k
    · cases k
    · rename_i e; rw [if_neg e]; exact h.gf.sub i o k
  · unfold dif cutB at k
    unfold dif
    split at k
    · cases k
    · rename_i e
      split at k
      · cases k
      · rename_i e2
        first | (rw [if_neg e2]; exact k) | (rw [if_neg e2] at e; rw [if_neg e]; exact k)
theorem Hand.blk_in (hd:Hand G0 G q sz cs) {b:Nat} (hb:q.blk = some b):(G b).isSome = true:=by
  rcases hd.sl.at_ with ⟨a1,_⟩ | ⟨b',off,cur,T,a1,a2,_⟩
  · unfold SlH.blk at hb; rw [a1] at hb; cases hb
  · unfold SlH.blk at hb; rw [a1] at hb; cases hb
    rw [a2]; rfl
theorem Hand.dif_cut (hd:Hand G0 G q sz cs) {F:Heap}:Sub (dif F G) (dif (cutB F q) (cutB G q)):=⟨fun i o k=>by
  have e:(G i).isSome = false:=by
    unfold dif at k
    split at k
    · cases k
    · rename_i e; simpa using e
  have nb:¬ q.blk = some i:=fun hb=>by rw [hd.blk_in hb] at e; cases e
  unfold dif at k ⊢
  rw [if_neg (by rw [e]; simp)] at k
  unfold cutB
  rw [if_neg nb,if_neg nb,if_neg (by rw [e]; simp)]; exact k⟩
theorem Hand.base_cut (hd:Hand G0 G q sz cs):Sub G0 (cutB G q):=⟨fun i o k=>by
  have nb:¬ q.blk = some i:=fun hb=>by rw [hd.free i hb] at k; cases k
  unfold cutB; rw [if_neg nb]; exact hd.g.sub i o k⟩
theorem VMP.push (w : VMP p G H m pf po ex s) (hd : Hand G0 G q sz cs) {e : TypeId} {bytes : Nat} {new : List Value} {k : Nat} (hk : new.length = k * sz) (h1 : allOne new = true) (hb : (q.n + k) * bytes ≤ 140737488355328) (hl : q.n + k ≤ 9223372036854775807)
    {K:Option Addr → Nat → Nat → Heap → Prop} (r:∀ A' c' G' H',VMP p G' H' m pf po ex s → Hand G0 G' ⟨A',q.n + k,c'⟩ sz (cs ++ new) → K A' (q.n + k) c' H'):appC e sz bytes H q.A q.n q.c new k K:=by
  obtain ⟨sl,F,st,h,pr⟩:=w.out
  refine h.side (h.sideOf hd) hk h1 hb hl fun A' c' G' F' H' h' d'=>r A' c' G' H' ⟨sl,F',st,h',pr.sub (hd.dif_cut.trans d'.d)⟩ ⟨hd.base_cut.trans d'.g,d'.sl,fun b hbk=>?_⟩
  have hF:=d'.free b hbk
  exact none_below (hd.base_cut.trans d'.gf) hF
theorem VMP.copy (w : VMP p G H m pf po ex s) {e : TypeId} {bytes : Nat} {B : Option Addr} {new : List Value} {k : Nat} (hs : Src H B new) (hk : new.length = k * sz) (h1 : allOne new = true) (hb : (0 + k) * bytes ≤ 140737488355328) (hl : 0 + k ≤ 9223372036854775807)
    {K:Option Addr → Nat → Nat → Heap → Prop} (r:∀ A' c' G' H',VMP p G' H' m pf po ex s → Hand G G' ⟨A',0 + k,c'⟩ sz new → K A' (0 + k) c' H'):appS e sz bytes H none 0 0 B k K:=by
  obtain ⟨sl,F,st,h,pr⟩:=w.out
  exact ⟨⟨new,hs,hk,h.side (h.anew sz) hk h1 hb hl fun A' c' G' F' H' h' d'=>r A' c' G' H' ⟨sl,F',st,h',pr.sub d'.d⟩ ⟨d'.g,d'.sl,fun b hbk=>none_below h.gf (d'.free b hbk)⟩⟩⟩
theorem VMP.put (w:VMP p G H m pf po ex s) (hd:Hand G0 G q sz cs) {a:Addr} (ha:q.A = some a) {k:Nat} (hk:k < cs.length) {v:Value} {Q:Heap → Prop} (r:∀ G' H',VMP p G' H' m pf po ex s → Hand G0 G' q sz (cs.set k v) → Q H'):Wr H (a.add k) v Q:=by
  obtain ⟨sl,F,st,h,pr⟩:=w.out
  have ok:=hd.sl
  have hlen:=ok.len
  rcases ok.at_ with ⟨a1,_⟩ | ⟨b,off,cur,T,a1,a2,a3,a4⟩
  · rw [a1] at ha; cases ha
  · rw [a1] at ha; cases ha
    have b0:((⟨b,off,none⟩:Addr).add k).block = b:=by unfold Addr.add; split <;> rfl
    have o0:((⟨b,off,none⟩:Addr).add k).off = off + k:=by unfold Addr.add; split <;> simp_all
    have s0:((⟨b,off,none⟩:Addr).add k).spot = none:=by unfold Addr.add; split <;> rfl
    have hcap:q.n * sz ≤ q.c * sz:=Nat.mul_le_mul_right _ ok.cap
    have hsz:off + k + [v].length ≤ cur.size:=by show off + k + 1 ≤ _; omega
    have hblk:q.blk = some b:=by unfold SlH.blk; rw [a1]; rfl
    unfold Wr
    rw [b0,o0,s0]
    refine ⟨cur,T,(h.gf.trans h.fh).sub _ _ a2,rfl,hsz,fun H1 e=>?_⟩
    subst e
    refine r _ _ ⟨sl,_,st,h.turn a2 _,pr.sub (dif_turn a2 _)⟩ ⟨base_upd hd.g (hd.free b hblk) _,⟨by rw [List.length_set]; exact hlen,ok.cap,.inr ⟨b,off,_,T,a1,Heap.upd_same,by rw [splice_size hsz]; exact a3,fun j u hu=>?_⟩⟩,hd.free⟩
    rw [splice_get hsz]
    rw [List.getElem?_set] at hu
    by_cases hj:k = j
    · subst hj
      rw [if_pos rfl,if_pos hk] at hu
      rw [if_neg (by omega),if_pos (by show off + k < off + k + 1; omega)]
      have:off + k - (off + k) = 0:=by omega
      rw [this]; exact hu
    · rw [if_neg hj] at hu
      have:=a4 j u hu
      by_cases hlt:off + j < off + k
      · rw [if_pos hlt]; exact this
      · rw [if_neg hlt,if_neg (by show ¬ off + j < off + k + 1; omega)]; exact this
theorem VMP.gh (w:VMP p G H m pf po ex s):Sub G H:=by
  obtain ⟨sl,F,st,h,pr⟩:=w.out
  exact h.gf.trans h.fh
theorem VMP.grow (w:VMP p G H m pf po ex s) {H':Heap} (k:Sub H H'):VMP p G H' m pf po ex s:=by
  obtain ⟨sl,F,st,h,pr⟩:=w.out
  exact ⟨sl,F,st,h.grow k,pr⟩
theorem VMP.low (w:VMP p G H m pf po ex s) (k:Sub G0 G):VMP p G0 H m pf po ex s:=by
  obtain ⟨sl,F,st,h,pr⟩:=w.out
  exact ⟨sl,F,st,h.weaken k,pr.sub (dif_low k)⟩
theorem hand_evs {G:Heap} {l:List Ev} (h:SlOk G q 9 (l.flatMap Ev.cells)):HasEvs G q.A q.n l :=
  ⟨by have:=h.len; rw [flat_size (cells:=Ev.cells) (sz:=9) (fun _=>rfl)] at this; omega,fun i x hx=>src_elem (cells:=Ev.cells) (sz:=9) (fun _=>rfl) (by decide) h.src i x hx⟩
end
end Go.Proofs.Ytjmdoiakcakfoaa
set_option maxRecDepth 100000
set_option linter.unusedVariables false
namespace Go.Proofs.Ytjmdoiakcakfoaa
open Go.Ax
noncomputable def c21:Cx:={ P:=Try.prog,res:=[],pub:=[],loops:=[],quiet:=[],asm:=true }
def F21 (hA:Option Addr) (hn hc:Nat) (H:Heap) (K:Value → Heap → Prop):Prop :=
 Tr Try.prog (37:Nat) #[.slice hA hn hc] H fun v H'=>∃ (v1:Option Addr),∃ (x:Int),v = .tuple #[.pointer v1,.int .i64 x] ∧ (decide (x < (↑hn:Int)) = true → K (.tuple #[.int .i64 52,.int .i64 x]) H') ∧ (decide (x < (↑hn:Int)) = false → K (.tuple #[.int .i64 0,.int .i64 0]) H')
theorem v21 {hA:Option Addr} {hn hc:Nat} {H:Heap} {K:Value → Heap → Prop} (h:F21 hA hn hc H K):Tr Try.prog 21 #[.slice hA hn hc] H K :=
  tr_of_eq (C:=c21) Try.func21 (show vcFn c21 Try.f21 [.slice hA hn hc] H K = F21 hA hn hc H K by kernel_rfl) h
noncomputable def c37:Cx:={ P:=Try.prog,res:=[],pub:=[9],loops:=[⟨3,[(12,.int .i64)],[2,3,5,6,13,14,15,16,17,18,19,20,21,22,23,24,25,26,27,28,29,30,31,32,33,34,35,36,37,38,39,40,41,42,43,44,45,46,47,48],[]⟩],quiet:=[58,59],draws:=[⟨7,[5],[],false,true⟩,⟨8,[5,7],[],false,true⟩],asm:=true }
def F37 (hA:Option Addr) (hn hc:Nat) (H:Heap) (K:Value → Heap → Prop):Prop :=
 ∀ (b:Nat),
 H b = none →
 ∀ (H1:Heap),
 H1 = H.upd b (Obj.map #[] (0:Nat)) →
 ∀ (b1:Nat),
 H1 b1 = none →
 ∀ (H11:Heap),
 H11 = H1.upd b1 (Obj.cells #[.slice none (0:Nat) (0:Nat),.map (some b),.bool false] (137:Nat)) →
 ∃ (Rel:Int → Heap → Prop) (mu:Int → Heap → Nat),
 Rel (0:Int) H11 ∧
 ∀ (x:Int) (H1:Heap),
 Rel x H1 →
 (decide (x < (↑hn:Int)) = true →
 ∃ (a:Addr),
 (hA = some a ∧ (0:Int) ≤ x ∧ x < (↑hn:Int)) ∧
 ∃ (x1 x2 x3 x4 x5 x6 x7 x8 x9:Int),
 At H1 (a.add (x.toNat * nat_lit 9)) [.int .i64 x1,.int .i64 x2,.int .i64 x3,.int .i64 x4,.int .i64 x5,.int .i64 x6,.int .i64 x7,.int .i64 x8,.int .i64 x9] ∧
 ∃ (b2:Bool),
 (Tr Try.prog (58:Nat) #[.pointer (some ({ block:=b1,off:=(0:Nat) }:Addr)),.agg #[.int .i64 x1,.int .i64 x2,.int .i64 x3,.int .i64 x4,.int .i64 x5,.int .i64 x6,.int .i64 x7,.int .i64 x8,.int .i64 x9]] H1 fun v H'=>v = .bool b2 ∧ Ax.Sub H1 H') ∧
 ((!b2) = true → K (.tuple #[.pointer (some ({ block:=b1,off:=(0:Nat) }:Addr)),.int .i64 x]) H1) ∧
 ((!b2) = false →
 ∃ (a1:Addr),
 some ({ block:=b1,off:=(0:Nat) }:Addr) = some a1 ∧
 (∃ (A:Option Addr),
 ∃ (n c:Nat),
 At H1 (a1.add (nat_lit 0)) [.slice A n c] ∧
 appC (23:Nat) (nat_lit 9) (nat_lit 72) H1 A n c [.int .i64 x1,.int .i64 x2,.int .i64 x3,.int .i64 x4,.int .i64 x5,.int .i64 x6,.int .i64 x7,.int .i64 x8,.int .i64 x9] (1:Nat) fun (A':Option Addr) (n' c':Nat) (H'1:Heap) =>
 ∃ (a2:Addr),
 some ({ block:=b1,off:=(0:Nat) }:Addr) = some a2 ∧
 ∃ (c1:Array Value) (T:TypeId),
 H'1 (a2.add (nat_lit 0)).block = some (Obj.cells c1 T) ∧
 (a2.add (nat_lit 0)).spot = none ∧
 (a2.add (nat_lit 0)).off + [Value.slice A' n' c'].length ≤ c1.size ∧
 ∀ (H12:Heap),
 H12 = H'1.upd (a2.add (nat_lit 0)).block (Obj.cells (splice c1 (a2.add (nat_lit 0)).off [.slice A' n' c']) T) →
 ∃ (a3:Addr),
 some ({ block:=b1,off:=(0:Nat) }:Addr) = some a3 ∧
 ∃ (v1:Option Nat),
 At H12 (a3.add (nat_lit 1)) [.map v1] ∧
 Sm Try.prog (updU (Instr.mapUpdate (135:Nat) (.map v1) (.agg #[.int .i64 x3,.int .i64 x4]) (.bool true))) H12 fun v2 H'2 =>
 ∃ (b3:Bool),
 (Tr Try.prog (59:Nat) #[.int .i64 x3] H'2 fun v3 H'3=>v3 = .bool b3 ∧ Ax.Sub H'2 H'3) ∧
 ∃ (a4:Addr),some ({ block:=b1,off:=(0:Nat) }:Addr) = some a4 ∧ ∃ (c2:Array Value),∃ (T1:TypeId),H'2 (a4.add (nat_lit 2)).block = some (Obj.cells c2 T1) ∧ (a4.add (nat_lit 2)).spot = none ∧ (a4.add (nat_lit 2)).off + [Value.bool b3].length ≤ c2.size ∧ ∀ (H13:Heap),H13 = H'2.upd (a4.add (nat_lit 2)).block (Obj.cells (splice c2 (a4.add (nat_lit 2)).off [.bool b3]) T1) → Rel (IntKind.i64.wrap (x + 1)) H13 ∧ mu (IntKind.i64.wrap (x + 1)) H13 < mu x H1) ∧
 ∃ (A1:Option Addr) (n1 c3:Nat),
 At H1 (a1.add (nat_lit 0)) [.slice A1 n1 c3] ∧
 appC (23:Nat) (nat_lit 9) (nat_lit 72) H1 A1 n1 c3 [.int .i64 x1,.int .i64 x2,.int .i64 x3,.int .i64 x4,.int .i64 x5,.int .i64 x6,.int .i64 x7,.int .i64 x8,.int .i64 x9] (1:Nat) fun (A'1:Option Addr) (n'1 c'1:Nat) (H'4:Heap) =>
 ∃ (a5:Addr),
 some ({ block:=b1,off:=(0:Nat) }:Addr) = some a5 ∧
 ∃ (c4:Array Value) (T2:TypeId),
 H'4 (a5.add (nat_lit 0)).block = some (Obj.cells c4 T2) ∧
 (a5.add (nat_lit 0)).spot = none ∧
 (a5.add (nat_lit 0)).off + [Value.slice A'1 n'1 c'1].length ≤ c4.size ∧
 ∀ (H14:Heap),
 H14 = H'4.upd (a5.add (nat_lit 0)).block (Obj.cells (splice c4 (a5.add (nat_lit 0)).off [.slice A'1 n'1 c'1]) T2) →
 ∃ (a6:Addr),
 some ({ block:=b1,off:=(0:Nat) }:Addr) = some a6 ∧
 ∃ (v4:Option Nat),
 At H14 (a6.add (nat_lit 1)) [.map v4] ∧
 Sm Try.prog (updU (Instr.mapUpdate (135:Nat) (.map v4) (.agg #[.int .i64 x3,.int .i64 x4]) (.bool true))) H14 fun v5 H'5 =>
 ∃ (b4:Bool),
 (Tr Try.prog (59:Nat) #[.int .i64 x3] H'5 fun v6 H'6=>v6 = .bool b4 ∧ Ax.Sub H'5 H'6) ∧
 ∃ (a7:Addr),some ({ block:=b1,off:=(0:Nat) }:Addr) = some a7 ∧ ∃ (c5:Array Value),∃ (T3:TypeId),H'5 (a7.add (nat_lit 2)).block = some (Obj.cells c5 T3) ∧ (a7.add (nat_lit 2)).spot = none ∧ (a7.add (nat_lit 2)).off + [Value.bool b4].length ≤ c5.size ∧ ∀ (H15:Heap),H15 = H'5.upd (a7.add (nat_lit 2)).block (Obj.cells (splice c5 (a7.add (nat_lit 2)).off [.bool b4]) T3) → Rel (IntKind.i64.wrap (x + 1)) H15 ∧ mu (IntKind.i64.wrap (x + 1)) H15 < mu x H1)) ∧
 (decide (x < (↑hn:Int)) = false → K (.tuple #[.pointer (some ({ block:=b1,off:=(0:Nat) }:Addr)),.int .i64 (↑hn:Int)]) H1)
theorem v37 {hA:Option Addr} {hn hc:Nat} {H:Heap} {K:Value → Heap → Prop} (h:F37 hA hn hc H K):Tr Try.prog 37 #[.slice hA hn hc] H K :=
  tr_of_eq (C:=c37) Try.func37 (show vcFn c37 Try.f37 [.slice hA hn hc] H K = F37 hA hn hc H K by kernel_rfl) h
noncomputable def c58:Cx:={ P:=Try.prog,res:=[],pub:=[],loops:=[],quiet:=[27,63,75],asm:=true }
def F58 (b:Option Addr) (eId:Int) (eTime:Int) (eKind:Int) (eA:Int) (eB:Int) (eC:Int) (eD:Int) (eE:Int) (eF:Int) (H:Heap) (K:Value → Heap → Prop):Prop :=
 ∃ (a:Addr),
 b = some a ∧
 ∃ (A:Option Addr) (n c:Nat),
 At H (a.add (nat_lit 0)) [.slice A n c] ∧
 ∃ (b1:Bool),
 (Tr Try.prog (27:Nat) #[.agg #[.int .i64 eId,.int .i64 eTime,.int .i64 eKind,.int .i64 eA,.int .i64 eB,.int .i64 eC,.int .i64 eD,.int .i64 eE,.int .i64 eF]] H fun v H'=>v = .bool b1 ∧ Ax.Sub H H') ∧
 ∃ (a1:Addr),
 ((!(!b1 || eId != IntKind.i64.wrap ((↑n:Int) + 1))) = true → b = some a1) ∧
 ∃ (b2:Bool),
 ((!(!b1 || eId != IntKind.i64.wrap ((↑n:Int) + 1))) = true → At H (a1.add (nat_lit 2)) [.bool b2]) ∧
 ((!b1 || eId != IntKind.i64.wrap ((↑n:Int) + 1) || b2 || !(eKind == 1) == ((↑n:Int) == 0)) = true → K (.bool false) H) ∧
 ((!b1 || eId != IntKind.i64.wrap ((↑n:Int) + 1) || b2 || !(eKind == 1) == ((↑n:Int) == 0)) = false →
 (((↑n:Int) == 0) = true → K (.bool true) H) ∧
 (((↑n:Int) == 0) = false →
 ∃ (a2:Addr),
 b = some a2 ∧
 ∃ (A1:Option Addr) (n1 c1:Nat),
 At H (a2.add (nat_lit 0)) [.slice A1 n1 c1] ∧
 ∃ (a3:Addr),
 (A1 = some a3 ∧ (0:Int) ≤ IntKind.i64.wrap ((↑n:Int) - 1) ∧ IntKind.i64.wrap ((↑n:Int) - 1) < (↑n1:Int)) ∧
 ∃ (x x1 x2 x3 x4 x5 x6 x7 x8:Int),
 At H (a3.add ((IntKind.i64.wrap ((↑n:Int) - 1)).toNat * nat_lit 9)) [.int .i64 x,.int .i64 x1,.int .i64 x2,.int .i64 x3,.int .i64 x4,.int .i64 x5,.int .i64 x6,.int .i64 x7,.int .i64 x8] ∧
 ((decide (eTime < x1) || eKind == 2 && eA != (↑n:Int)) = true → K (.bool false) H) ∧
 ((decide (eTime < x1) || eKind == 2 && eA != (↑n:Int)) = false →
 ∃ (b3:Bool),
 (Tr Try.prog (63:Nat) #[.int .i64 eKind] H fun v1 H'1=>v1 = .bool b3 ∧ Ax.Sub H H'1) ∧
 ((b3 && !(eKind == 16 && eA == (-4))) = true →
 ∃ (b4:Bool),
 ((x2 != 2) = true → Tr Try.prog (63:Nat) #[.int .i64 x2] H fun v2 H'2=>v2 = .bool b4 ∧ Ax.Sub H H'2) ∧
 ((x2 != 2 && !b4 || eTime != x1) = true → K (.bool false) H) ∧
 ((x2 != 2 && !b4 || eTime != x1) = false → ∃ (b5:Bool),(Tr Try.prog (75:Nat) #[.pointer b,.agg #[.int .i64 eId,.int .i64 eTime,.int .i64 eKind,.int .i64 eA,.int .i64 eB,.int .i64 eC,.int .i64 eD,.int .i64 eE,.int .i64 eF]] H fun v3 H'3=>v3 = .bool b5 ∧ Ax.Sub H H'3) ∧ K (.bool b5) H)) ∧
 ((b3 && !(eKind == 16 && eA == (-4))) = false → ∃ (b6:Bool),(Tr Try.prog (75:Nat) #[.pointer b,.agg #[.int .i64 eId,.int .i64 eTime,.int .i64 eKind,.int .i64 eA,.int .i64 eB,.int .i64 eC,.int .i64 eD,.int .i64 eE,.int .i64 eF]] H fun v4 H'4=>v4 = .bool b6 ∧ Ax.Sub H H'4) ∧ K (.bool b6) H))))
theorem v58 {b:Option Addr} {eId:Int} {eTime:Int} {eKind:Int} {eA:Int} {eB:Int} {eC:Int} {eD:Int} {eE:Int} {eF:Int} {H:Heap} {K:Value → Heap → Prop} (h:F58 b eId eTime eKind eA eB eC eD eE eF H K):Tr Try.prog 58 #[.pointer b,.agg #[.int .i64 eId,.int .i64 eTime,.int .i64 eKind,.int .i64 eA,.int .i64 eB,.int .i64 eC,.int .i64 eD,.int .i64 eE,.int .i64 eF]] H K :=
  tr_of_eq (C:=c58) Try.func58 (show vcFn c58 Try.f58 [.pointer b,.agg #[.int .i64 eId,.int .i64 eTime,.int .i64 eKind,.int .i64 eA,.int .i64 eB,.int .i64 eC,.int .i64 eD,.int .i64 eE,.int .i64 eF]] H K = F58 b eId eTime eKind eA eB eC eD eE eF H K by kernel_rfl) h
noncomputable def c75:Cx:={ P:=Try.prog,res:=[],pub:=[20,33,46,75,88,96,109,128,142,155,163],loops:=[],quiet:=[81,82],draws:=[⟨10,[2,7,13,17,19,23],[],true,true⟩],asm:=true }
def F75 (b:Option Addr) (eId:Int) (eTime:Int) (eKind:Int) (eA:Int) (eB:Int) (eC:Int) (eD:Int) (eE:Int) (eF:Int) (H:Heap) (K:Value → Heap → Prop):Prop :=
 ((eKind == 6) = true →
 ∃ (b1:Bool),
 (Tr Try.prog (81:Nat) #[.pointer b,.int .i64 eA,.int .i64 3] H fun v H'=>v = .bool b1 ∧ Ax.Sub H H') ∧
 (b1 = true → ∀ (b2:Nat),H b2 = none → ∀ (H1:Heap),H1 = H.upd b2 (Obj.cells #[.int .i64 6,.int .i64 22,.int .i64 23,.int .i64 24] (3:Nat)) → ∃ (b3:Bool),(Tr Try.prog (82:Nat) #[.pointer b,.int .i64 eA,.slice (some ({ block:=b2,off:=(0:Nat) }:Addr)) (4:Nat) (4:Nat)] H1 fun v1 H'1=>v1 = .bool b3 ∧ Ax.Sub H1 H'1) ∧ K (.bool b3) H1) ∧ (b1 = false → K (.bool false) H)) ∧
 ((eKind == 6) = false →
 ((eKind == 22) = true →
 ∃ (b4:Bool),
 (Tr Try.prog (81:Nat) #[.pointer b,.int .i64 eA,.int .i64 3] H fun v2 H'2=>v2 = .bool b4 ∧ Ax.Sub H H'2) ∧
 (b4 = true → ∀ (b5:Nat),H b5 = none → ∀ (H11:Heap),H11 = H.upd b5 (Obj.cells #[.int .i64 6,.int .i64 22,.int .i64 23,.int .i64 24] (3:Nat)) → ∃ (b6:Bool),(Tr Try.prog (82:Nat) #[.pointer b,.int .i64 eA,.slice (some ({ block:=b5,off:=(0:Nat) }:Addr)) (4:Nat) (4:Nat)] H11 fun v3 H'3=>v3 = .bool b6 ∧ Ax.Sub H11 H'3) ∧ K (.bool b6) H11) ∧ (b4 = false → K (.bool false) H)) ∧
 ((eKind == 22) = false →
 ((eKind == 23) = true →
 ∃ (b7:Bool),
 (Tr Try.prog (81:Nat) #[.pointer b,.int .i64 eA,.int .i64 3] H fun v4 H'4=>v4 = .bool b7 ∧ Ax.Sub H H'4) ∧
 (b7 = true → ∀ (b8:Nat),H b8 = none → ∀ (H12:Heap),H12 = H.upd b8 (Obj.cells #[.int .i64 6,.int .i64 22,.int .i64 23,.int .i64 24] (3:Nat)) → ∃ (b9:Bool),(Tr Try.prog (82:Nat) #[.pointer b,.int .i64 eA,.slice (some ({ block:=b8,off:=(0:Nat) }:Addr)) (4:Nat) (4:Nat)] H12 fun v5 H'5=>v5 = .bool b9 ∧ Ax.Sub H12 H'5) ∧ K (.bool b9) H12) ∧ (b7 = false → K (.bool false) H)) ∧
 ((eKind == 23) = false →
 ((eKind == 24) = true →
 ∃ (b10:Bool),
 (Tr Try.prog (81:Nat) #[.pointer b,.int .i64 eA,.int .i64 3] H fun v6 H'6=>v6 = .bool b10 ∧ Ax.Sub H H'6) ∧
 (b10 = true → ∀ (b11:Nat),H b11 = none → ∀ (H13:Heap),H13 = H.upd b11 (Obj.cells #[.int .i64 6,.int .i64 22,.int .i64 23,.int .i64 24] (3:Nat)) → ∃ (b12:Bool),(Tr Try.prog (82:Nat) #[.pointer b,.int .i64 eA,.slice (some ({ block:=b11,off:=(0:Nat) }:Addr)) (4:Nat) (4:Nat)] H13 fun v7 H'7=>v7 = .bool b12 ∧ Ax.Sub H13 H'7) ∧ K (.bool b12) H13) ∧ (b10 = false → K (.bool false) H)) ∧
 ((eKind == 24) = false →
 ((eKind == 7) = true →
 ∃ (b13:Bool),
 (Tr Try.prog (81:Nat) #[.pointer b,.int .i64 eA,.int .i64 4] H fun v8 H'8=>v8 = .bool b13 ∧ Ax.Sub H H'8) ∧
 (b13 = true → ∀ (b14:Nat),H b14 = none → ∀ (H14:Heap),H14 = H.upd b14 (Obj.cells #[.int .i64 7,.int .i64 25] (3:Nat)) → ∃ (b15:Bool),(Tr Try.prog (82:Nat) #[.pointer b,.int .i64 eA,.slice (some ({ block:=b14,off:=(0:Nat) }:Addr)) (2:Nat) (2:Nat)] H14 fun v9 H'9=>v9 = .bool b15 ∧ Ax.Sub H14 H'9) ∧ K (.bool b15) H14) ∧ (b13 = false → K (.bool false) H)) ∧
 ((eKind == 7) = false →
 ((eKind == 25) = true →
 ∃ (Hs:Heap),
 Ax.Sub Hs H ∧
 ∃ (b16:Bool),
 (Tr Try.prog (81:Nat) #[.pointer b,.int .i64 eA,.int .i64 4] H fun v10 H'10=>v10 = .bool b16 ∧ Ax.Sub H H'10) ∧
 Ax.Sub Hs H ∧
 (Ax.Sub Hs H ∧
 (b16 = true →
 ∀ (b17:Nat),
 H b17 = none →
 ∀ (H15:Heap),
 H15 = H.upd b17 (Obj.cells #[.int .i64 7,.int .i64 25] (3:Nat)) →
 Ax.Sub Hs H15 ∧
 ∃ (b18:Bool),
 (Tr Try.prog (82:Nat) #[.pointer b,.int .i64 eA,.slice (some ({ block:=b17,off:=(0:Nat) }:Addr)) (2:Nat) (2:Nat)] H15 fun v11 H'11=>v11 = .bool b18 ∧ Ax.Sub H15 H'11) ∧
 ∃ (a:Addr),(b18 = true → b = some a) ∧ ∃ (A:Option Addr),∃ (n:Nat),∃ (c:Nat),(b18 = true → At H15 (a.add (nat_lit 0)) [.slice A n c]) ∧ ∃ (a1:Addr),(b18 = true → A = some a1 ∧ (0:Int) ≤ IntKind.i64.wrap (eA - 1) ∧ IntKind.i64.wrap (eA - 1) < (↑n:Int)) ∧ ∃ (x:Int),(b18 = true → At H15 ((a1.add ((IntKind.i64.wrap (eA - 1)).toNat * nat_lit 9)).add (nat_lit 3)) [.int .i64 x]) ∧ K (.bool (b18 && decide (eTime ≥ x))) H15) ∧
 (b16 = false → Ax.Sub Hs H ∧ K (.bool false) H)) ∧
 (b16 = true →
 ∀ (b19:Nat),
 H b19 = none →
 ∀ (H16:Heap),
 H16 = H.upd b19 (Obj.cells #[.int .i64 7,.int .i64 25] (3:Nat)) →
 Ax.Sub Hs H16 ∧
 ∃ (b20:Bool),
 (Tr Try.prog (82:Nat) #[.pointer b,.int .i64 eA,.slice (some ({ block:=b19,off:=(0:Nat) }:Addr)) (2:Nat) (2:Nat)] H16 fun v12 H'12=>v12 = .bool b20 ∧ Ax.Sub H16 H'12) ∧
 ∃ (a2:Addr),(b20 = true → b = some a2) ∧ ∃ (A1:Option Addr),∃ (n1:Nat),∃ (c1:Nat),(b20 = true → At H16 (a2.add (nat_lit 0)) [.slice A1 n1 c1]) ∧ ∃ (a3:Addr),(b20 = true → A1 = some a3 ∧ (0:Int) ≤ IntKind.i64.wrap (eA - 1) ∧ IntKind.i64.wrap (eA - 1) < (↑n1:Int)) ∧ ∃ (x1:Int),(b20 = true → At H16 ((a3.add ((IntKind.i64.wrap (eA - 1)).toNat * nat_lit 9)).add (nat_lit 3)) [.int .i64 x1]) ∧ K (.bool (b20 && decide (eTime ≥ x1))) H16) ∧
 (b16 = false → Ax.Sub Hs H ∧ K (.bool false) H)) ∧
 ((eKind == 25) = false →
 ((eKind == 26) = true →
 ∃ (b21:Bool),
 (Tr Try.prog (81:Nat) #[.pointer b,.int .i64 eA,.int .i64 5] H fun v13 H'13=>v13 = .bool b21 ∧ Ax.Sub H H'13) ∧
 (b21 = true → ∀ (b22:Nat),H b22 = none → ∀ (H17:Heap),H17 = H.upd b22 (Obj.cells #[.int .i64 26,.int .i64 27] (3:Nat)) → ∃ (b23:Bool),(Tr Try.prog (82:Nat) #[.pointer b,.int .i64 eA,.slice (some ({ block:=b22,off:=(0:Nat) }:Addr)) (2:Nat) (2:Nat)] H17 fun v14 H'14=>v14 = .bool b23 ∧ Ax.Sub H17 H'14) ∧ K (.bool b23) H17) ∧ (b21 = false → K (.bool false) H)) ∧
 ((eKind == 26) = false →
 ((eKind == 27) = true →
 ∃ (b24:Bool),
 (Tr Try.prog (81:Nat) #[.pointer b,.int .i64 eA,.int .i64 5] H fun v15 H'15=>v15 = .bool b24 ∧ Ax.Sub H H'15) ∧
 (b24 = true → ∀ (b25:Nat),H b25 = none → ∀ (H18:Heap),H18 = H.upd b25 (Obj.cells #[.int .i64 26,.int .i64 27] (3:Nat)) → ∃ (b26:Bool),(Tr Try.prog (82:Nat) #[.pointer b,.int .i64 eA,.slice (some ({ block:=b25,off:=(0:Nat) }:Addr)) (2:Nat) (2:Nat)] H18 fun v16 H'16=>v16 = .bool b26 ∧ Ax.Sub H18 H'16) ∧ K (.bool b26) H18) ∧ (b24 = false → K (.bool false) H)) ∧
 ((eKind == 27) = false →
 ((eKind == 28) = true →
 ∃ (b27:Bool),
 (Tr Try.prog (81:Nat) #[.pointer b,.int .i64 eA,.int .i64 5] H fun v17 H'17=>v17 = .bool b27 ∧ Ax.Sub H H'17) ∧
 (b27 = true →
 ∀ (b28:Nat),
 H b28 = none →
 ∀ (H19:Heap),
 H19 = H.upd b28 (Obj.cells #[.int .i64 26] (3:Nat)) →
 ∃ (b29:Bool),
 (Tr Try.prog (82:Nat) #[.pointer b,.int .i64 eA,.slice (some ({ block:=b28,off:=(0:Nat) }:Addr)) (1:Nat) (1:Nat)] H19 fun v18 H'18=>v18 = .bool b29 ∧ Ax.Sub H19 H'18) ∧
 ((!b29) = true → ∀ (b30:Nat),H19 b30 = none → ∀ (H110:Heap),H110 = H19.upd b30 (Obj.cells #[.int .i64 28] (3:Nat)) → ∃ (b31:Bool),(Tr Try.prog (82:Nat) #[.pointer b,.int .i64 eA,.slice (some ({ block:=b30,off:=(0:Nat) }:Addr)) (1:Nat) (1:Nat)] H110 fun v19 H'19=>v19 = .bool b31 ∧ Ax.Sub H110 H'19) ∧ K (.bool b31) H110) ∧ ((!b29) = false → K (.bool false) H19)) ∧
 (b27 = false → K (.bool false) H)) ∧
 ((eKind == 28) = false →
 ((eKind == 8) = true →
 ∃ (b32:Bool),
 (Tr Try.prog (81:Nat) #[.pointer b,.int .i64 eA,.int .i64 5] H fun v20 H'20=>v20 = .bool b32 ∧ Ax.Sub H H'20) ∧
 (b32 = true → ∀ (b33:Nat),H b33 = none → ∀ (H111:Heap),H111 = H.upd b33 (Obj.cells #[.int .i64 8,.int .i64 27,.int .i64 28] (3:Nat)) → ∃ (b34:Bool),(Tr Try.prog (82:Nat) #[.pointer b,.int .i64 eA,.slice (some ({ block:=b33,off:=(0:Nat) }:Addr)) (3:Nat) (3:Nat)] H111 fun v21 H'21=>v21 = .bool b34 ∧ Ax.Sub H111 H'21) ∧ K (.bool b34) H111) ∧ (b32 = false → K (.bool false) H)) ∧
 ((eKind == 8) = false →
 ((eKind == 9) = true → ∃ (b35:Bool),(Tr Try.prog (81:Nat) #[.pointer b,.int .i64 eA,.int .i64 5] H fun v22 H'22=>v22 = .bool b35 ∧ Ax.Sub H H'22) ∧ K (.bool b35) H) ∧
 ((eKind == 9) = false →
 ((eKind == 29) = true →
 ∃ (b36:Bool),
 (Tr Try.prog (81:Nat) #[.pointer b,.int .i64 eA,.int .i64 9] H fun v23 H'23=>v23 = .bool b36 ∧ Ax.Sub H H'23) ∧
 (b36 = true → ∀ (b37:Nat),H b37 = none → ∀ (H112:Heap),H112 = H.upd b37 (Obj.cells #[.int .i64 29] (3:Nat)) → ∃ (b38:Bool),(Tr Try.prog (82:Nat) #[.pointer b,.int .i64 eA,.slice (some ({ block:=b37,off:=(0:Nat) }:Addr)) (1:Nat) (1:Nat)] H112 fun v24 H'24=>v24 = .bool b38 ∧ Ax.Sub H112 H'24) ∧ K (.bool b38) H112) ∧ (b36 = false → K (.bool false) H)) ∧
 ((eKind == 29) = false →
 ((eKind == 12) = true →
 ∃ (b39:Bool),
 (Tr Try.prog (81:Nat) #[.pointer b,.int .i64 eA,.int .i64 21] H fun v25 H'25=>v25 = .bool b39 ∧ Ax.Sub H H'25) ∧
 (b39 = true → ∀ (b40:Nat),H b40 = none → ∀ (H113:Heap),H113 = H.upd b40 (Obj.cells #[.int .i64 12,.int .i64 13] (3:Nat)) → ∃ (b41:Bool),(Tr Try.prog (82:Nat) #[.pointer b,.int .i64 eA,.slice (some ({ block:=b40,off:=(0:Nat) }:Addr)) (2:Nat) (2:Nat)] H113 fun v26 H'26=>v26 = .bool b41 ∧ Ax.Sub H113 H'26) ∧ K (.bool b41) H113) ∧ (b39 = false → K (.bool false) H)) ∧
 ((eKind == 12) = false →
 ((eKind == 13) = true →
 ∃ (b42:Bool),
 (Tr Try.prog (81:Nat) #[.pointer b,.int .i64 eA,.int .i64 21] H fun v27 H'27=>v27 = .bool b42 ∧ Ax.Sub H H'27) ∧
 (b42 = true → ∀ (b43:Nat),H b43 = none → ∀ (H114:Heap),H114 = H.upd b43 (Obj.cells #[.int .i64 12,.int .i64 13] (3:Nat)) → ∃ (b44:Bool),(Tr Try.prog (82:Nat) #[.pointer b,.int .i64 eA,.slice (some ({ block:=b43,off:=(0:Nat) }:Addr)) (2:Nat) (2:Nat)] H114 fun v28 H'28=>v28 = .bool b44 ∧ Ax.Sub H114 H'28) ∧ K (.bool b44) H114) ∧ (b42 = false → K (.bool false) H)) ∧
 ((eKind == 13) = false →
 ((eKind == 14) = true →
 ∃ (b45:Bool),
 (Tr Try.prog (81:Nat) #[.pointer b,.int .i64 eA,.int .i64 21] H fun v29 H'29=>v29 = .bool b45 ∧ Ax.Sub H H'29) ∧
 (b45 = true →
 ∀ (b46:Nat),
 H b46 = none →
 ∀ (H115:Heap),
 H115 = H.upd b46 (Obj.cells #[.int .i64 12] (3:Nat)) →
 ∃ (b47:Bool),
 (Tr Try.prog (82:Nat) #[.pointer b,.int .i64 eA,.slice (some ({ block:=b46,off:=(0:Nat) }:Addr)) (1:Nat) (1:Nat)] H115 fun v30 H'30=>v30 = .bool b47 ∧ Ax.Sub H115 H'30) ∧
 ((!b47) = true → ∀ (b48:Nat),H115 b48 = none → ∀ (H116:Heap),H116 = H115.upd b48 (Obj.cells #[.int .i64 14] (3:Nat)) → ∃ (b49:Bool),(Tr Try.prog (82:Nat) #[.pointer b,.int .i64 eA,.slice (some ({ block:=b48,off:=(0:Nat) }:Addr)) (1:Nat) (1:Nat)] H116 fun v31 H'31=>v31 = .bool b49 ∧ Ax.Sub H116 H'31) ∧ K (.bool b49) H116) ∧ ((!b47) = false → K (.bool false) H115)) ∧
 (b45 = false → K (.bool false) H)) ∧
 ((eKind == 14) = false → K (.bool true) H)))))))))))))))
theorem v75 {b:Option Addr} {eId:Int} {eTime:Int} {eKind:Int} {eA:Int} {eB:Int} {eC:Int} {eD:Int} {eE:Int} {eF:Int} {H:Heap} {K:Value → Heap → Prop} (h:F75 b eId eTime eKind eA eB eC eD eE eF H K):Tr Try.prog 75 #[.pointer b,.agg #[.int .i64 eId,.int .i64 eTime,.int .i64 eKind,.int .i64 eA,.int .i64 eB,.int .i64 eC,.int .i64 eD,.int .i64 eE,.int .i64 eF]] H K :=
  tr_of_eq (C:=c75) Try.func75 (show vcFn c75 Try.f75 [.pointer b,.agg #[.int .i64 eId,.int .i64 eTime,.int .i64 eKind,.int .i64 eA,.int .i64 eB,.int .i64 eC,.int .i64 eD,.int .i64 eE,.int .i64 eF]] H K = F75 b eId eTime eKind eA eB eC eD eE eF H K by kernel_rfl) h
noncomputable def c81:Cx:={ P:=Try.prog,res:=[],pub:=[],loops:=[],quiet:=[],asm:=true }
def F81 (b:Option Addr) (id:Int) (kind:Int) (H:Heap) (K:Value → Heap → Prop):Prop :=
 ∃ (a:Addr),
 (decide (id ≥ 1) = true → b = some a) ∧
 ∃ (A:Option Addr) (n c:Nat),
 (decide (id ≥ 1) = true → At H (a.add (nat_lit 0)) [.slice A n c]) ∧
 ∃ (a1:Addr),
 ((decide (id ≥ 1) && decide (id ≤ (↑n:Int))) = true → b = some a1) ∧
 ∃ (A1:Option Addr) (n1 c1:Nat),
 ((decide (id ≥ 1) && decide (id ≤ (↑n:Int))) = true → At H (a1.add (nat_lit 0)) [.slice A1 n1 c1]) ∧
 ∃ (a2:Addr),((decide (id ≥ 1) && decide (id ≤ (↑n:Int))) = true → A1 = some a2 ∧ (0:Int) ≤ IntKind.i64.wrap (id - 1) ∧ IntKind.i64.wrap (id - 1) < (↑n1:Int)) ∧ ∃ (x:Int),((decide (id ≥ 1) && decide (id ≤ (↑n:Int))) = true → At H ((a2.add ((IntKind.i64.wrap (id - 1)).toNat * nat_lit 9)).add (nat_lit 2)) [.int .i64 x]) ∧ K (.bool (decide (id ≥ 1) && decide (id ≤ (↑n:Int)) && x == kind)) H
theorem v81 {b:Option Addr} {id:Int} {kind:Int} {H:Heap} {K:Value → Heap → Prop} (h:F81 b id kind H K):Tr Try.prog 81 #[.pointer b,.int .i64 id,.int .i64 kind] H K :=
  tr_of_eq (C:=c81) Try.func81 (show vcFn c81 Try.f81 [.pointer b,.int .i64 id,.int .i64 kind] H K = F81 b id kind H K by kernel_rfl) h
noncomputable def c82:Cx:={ P:=Try.prog,res:=[],pub:=[],loops:=[⟨2,[(11,.int .i64)],[6,8,12,13,14,15,16,17,18,19,20,21,22,23],[]⟩],quiet:=[],asm:=true }
def F82 (b:Option Addr) (id:Int) (kindsA:Option Addr) (kindsn kindsc:Nat) (H:Heap) (K:Value → Heap → Prop):Prop :=
 ∃ (Rel:Int → Heap → Prop) (mu:Int → Heap → Nat),
 Rel (0:Int) H ∧
 ∀ (x:Int) (H1:Heap),
 Rel x H1 →
 (decide (x < (↑kindsn:Int)) = true →
 ∃ (a:Addr),
 (kindsA = some a ∧ (0:Int) ≤ x ∧ x < (↑kindsn:Int)) ∧ ∃ (x1:Int),At H1 (a.add (x.toNat * nat_lit 1)) [.int .i64 x1] ∧ ∃ (a1:Addr),b = some a1 ∧ ∃ (v:Option Nat),At H1 (a1.add (nat_lit 1)) [.map v] ∧ Sm Try.prog (Instr.lookup (135:Nat) (.map v) (.agg #[.int .i64 x1,.int .i64 id]) false) H1 fun v1 H'=>∃ (b1:Bool),v1 = .bool b1 ∧ (b1 = true → K (.bool false) H') ∧ (b1 = false → Rel (IntKind.i64.wrap (x + 1)) H' ∧ mu (IntKind.i64.wrap (x + 1)) H' < mu x H1)) ∧
 (decide (x < (↑kindsn:Int)) = false → K (.bool true) H1)
theorem v82 {b:Option Addr} {id:Int} {kindsA:Option Addr} {kindsn kindsc:Nat} {H:Heap} {K:Value → Heap → Prop} (h:F82 b id kindsA kindsn kindsc H K):Tr Try.prog 82 #[.pointer b,.int .i64 id,.slice kindsA kindsn kindsc] H K :=
  tr_of_eq (C:=c82) Try.func82 (show vcFn c82 Try.f82 [.pointer b,.int .i64 id,.slice kindsA kindsn kindsc] H K = F82 b id kindsA kindsn kindsc H K by kernel_rfl) h
end Go.Proofs.Ytjmdoiakcakfoaa
set_option maxRecDepth 100000
namespace Go.Proofs.Ytjmdoiakcakfoaa
open Go.Ax
def isP (pre:List Ev) (id kind:Int):Bool:=decide (id ≥ 1) && decide (id ≤ pre.length) && (match pre[(id - 1).toNat]? with | some x=>x.kind == kind | none=>false)
def anyP (pre:List Ev) (id:Int) (ks:List Int):Bool:=pre.any fun x=>ks.contains x.kind && x.a == id
def atTime (pre:List Ev) (e:Ev):Bool:=match pre[(e.a - 1).toNat]? with | some x=>decide (e.time ≥ x.a) | none=>false
def namesP (pre:List Ev) (e:Ev):Bool :=
  if e.kind = 6 ∨ e.kind = 22 ∨ e.kind = 23 ∨ e.kind = 24 then isP pre e.a 3 && !anyP pre e.a [6,22,23,24]
  else if e.kind = 7 then isP pre e.a 4 && !anyP pre e.a [7,25]
  else if e.kind = 25 then isP pre e.a 4 && !anyP pre e.a [7,25] && atTime pre e
  else if e.kind = 26 ∨ e.kind = 27 then isP pre e.a 5 && !anyP pre e.a [26,27]
  else if e.kind = 28 then isP pre e.a 5 && anyP pre e.a [26] && !anyP pre e.a [28]
  else if e.kind = 8 then isP pre e.a 5 && !anyP pre e.a [8,27,28]
  else if e.kind = 9 then isP pre e.a 5
  else if e.kind = 29 then isP pre e.a 9 && !anyP pre e.a [29]
  else if e.kind = 12 ∨ e.kind = 13 then isP pre e.a 21 && !anyP pre e.a [12,13]
  else if e.kind = 14 then isP pre e.a 21 && anyP pre e.a [12] && !anyP pre e.a [14]
  else true
def lastP (pre:List Ev):Ev:=(pre.getLast?).getD Ev.zero
def mayP (pre:List Ev) (e:Ev):Bool :=
  if (!validM e || e.id != pre.length + 1 || e.kind == 1 && ((pre.length:Int) != 0) || e.kind != 1 && ((pre.length:Int) == 0)) = true then false
  else if pre = [] then true
  else if (decide (e.time < (lastP pre).time) || closeM (lastP pre).kind || e.kind == 2 && e.a != pre.length) = true then false
  else if (cmdM e.kind && !(e.kind == 16 && e.a == -4) && ((lastP pre).kind != 2 && !cmdM (lastP pre).kind || e.time != (lastP pre).time)) = true then false
  else namesP pre e
def standG:List Ev → List Ev → Nat
  | _,[]=>0
  | pre,x :: l=>if mayP pre x = true then standG (pre ++ [x]) l + 1 else 0
def stand (h:List Ev):Nat:=standG [] h
theorem standG_spec : ∀ (l pre : List Ev) (k : Nat), (∀ j, j < k → ∀ x, l[j]? = some x → mayP (pre ++ l.take j) x = true) → k ≤ l.length →
    (∀ x,l[k]? = some x → mayP (pre ++ l.take k) x = false) → standG pre l = k
  | [],pre,k,_,hk,_=>by simp at hk; subst hk; rfl
  | x :: l,pre,0,_,_,h=>by
    have:=h x rfl
    simp at this
    unfold standG; rw [if_neg (by rw [this]; simp)]
  | x :: l,pre,k + 1,h1,hk,h=>by
    have h0:=h1 0 (by omega) x rfl
    simp at h0
    unfold standG; rw [if_pos h0]
    rw [standG_spec l (pre ++ [x]) k (fun j hj y hy=>by have:=h1 (j + 1) (by omega) y (by simpa using hy); simpa using this) (by simpa using hk) (fun y hy=>by have:=h y (by simpa using hy); simpa using this)]
theorem stand_spec {h:List Ev} {k:Nat} (h1:∀ j,j < k → ∀ x,h[j]? = some x → mayP (h.take j) x = true) (hk:k ≤ h.length) (h2:∀ x,h[k]? = some x → mayP (h.take k) x = false):stand h = k :=
  standG_spec h [] k (by simpa using h1) hk (by simpa using h2)
structure HasI (H:Heap) (A:Option Addr) (n:Nat) (l:List Int):Prop where
  len:n = l.length
  at_:∀ i x,l[i]? = some x → ∃ a,A = some a ∧ At H (a.add (i * 1)) [.int .i64 x]
theorem HasI.sub {H H':Heap} {A:Option Addr} {n:Nat} {l:List Int} (h:HasI H A n l) (k:Sub H H'):HasI H' A n l :=
  ⟨h.len,fun i x e=>let ⟨a,ha,hat⟩:=h.at_ i x e; ⟨a,ha,hat.sub k⟩⟩
theorem hasI_new {H:Heap} {b:Nat} {T:TypeId} (l:List Int):HasI (H.upd b (.cells (l.map (Value.int .i64)).toArray T)) (some ⟨b,0,none⟩) l.length l :=
  ⟨rfl,fun i x e=>⟨_,rfl,at_new1 (by simp [e])⟩⟩
theorem anyP_snoc (pre:List Ev) (x:Ev) (id:Int) (ks:List Int):anyP (pre ++ [x]) id ks = (anyP pre id ks || (ks.contains x.kind && x.a == id)):=by unfold anyP; simp
theorem take_snoc {α:Type} {l:List α} {m:Nat} {x:α} (h:l[m]? = some x):l.take (m + 1) = l.take m ++ [x]:=by rw [List.take_add_one,h]; rfl
theorem anyP_take {l:List Ev} {id:Int} {ks:List Int} {m k:Nat} (hm:m ≤ k) (h:anyP (l.take m) id ks = true):anyP (l.take k) id ks = true:=by
  unfold anyP at h ⊢
  rw [List.any_eq_true] at h ⊢
  obtain ⟨x,hx,hq⟩:=h
  refine ⟨x,?_,hq⟩
  have:l.take m = (l.take k).take m:=by rw [List.take_take,Nat.min_eq_left hm]
  rw [this] at hx
  exact List.mem_of_mem_take hx
end Go.Proofs.Ytjmdoiakcakfoaa
set_option maxRecDepth 100000
namespace Go.Proofs.Ytjmdoiakcakfoaa
open Go.Ax
theorem newI {H H1:Heap} {b:Nat} {T:TypeId} (hn:H b = none) (l:List Int) (e:H1 = H.upd b (.cells (l.map (Value.int .i64)).toArray T)):Sub H H1 ∧ HasI H1 (some ⟨b,0,none⟩) l.length l:=by
  subst e; exact ⟨Sub.upd_new hn,hasI_new l⟩
theorem isP_some {pre:List Ev} {id kind:Int} (h:isP pre id kind = true):1 ≤ id ∧ id ≤ pre.length ∧ ∃ x,pre[(id - 1).toNat]? = some x ∧ x.kind = kind:=by
  unfold isP at h
  simp only [Bool.and_eq_true,decide_eq_true_eq] at h
  obtain ⟨⟨h1,h2⟩,h3⟩:=h
  refine ⟨h1,h2,?_⟩
  split at h3
  · rename_i x hx; exact ⟨x,hx,by simpa using h3⟩
  · cases h3
theorem len_take {l:List Ev} {k:Nat} (hk:k ≤ l.length):(l.take k).length = k:=by rw [List.length_take,Nat.min_eq_left hk]
def checkV (l:List Ev):Value:=if stand l < l.length then .tuple #[.int .i64 52,.int .i64 (stand l:Nat)] else .tuple #[.int .i64 0,.int .i64 0]
end Go.Proofs.Ytjmdoiakcakfoaa
set_option maxRecDepth 100000
namespace Go.Proofs.Ytjmdoiakcakfoaa
open Go.Ax
def overP (pre:List Ev):Bool:=match pre.getLast? with | some x=>closeM x.kind | none=>false
def marks:List Ev → List (Int × Int):=fun pre=>(pre.map fun x=>(x.kind,x.a)).reverse
theorem marks_snoc (pre:List Ev) (x:Ev):marks (pre ++ [x]) = (x.kind,x.a) :: marks pre:=by simp [marks]
theorem overP_snoc (pre:List Ev) (x:Ev):overP (pre ++ [x]) = closeM x.kind:=by simp [overP]
theorem mem_marks {pre:List Ev} {k a:Int}:(k,a) ∈ marks pre ↔ ∃ x ∈ pre,x.kind = k ∧ x.a = a:=by simp [marks]
structure Book (H:Heap) (b:Nat) (pre:List Ev):Prop where
  out:∃ (A:Option Addr) (n c m:Nat) (es:Array MapEntry) (cl:Nat),H b = some (.cells #[.slice A n c,.map (some m),.bool (overP pre)] 137 (0,0)) ∧ HasEvs H A n pre ∧ H m = some (.map es cl) ∧ Marks es (marks pre)
theorem Book.sub {H H':Heap} {b:Nat} {pre:List Ev} (h:Book H b pre) (k:Sub H H'):Book H' b pre:=by
  obtain ⟨A,n,c,m,es,cl,h1,h2,h3,h4⟩:=h.out
  exact ⟨A,n,c,m,es,cl,k.sub _ _ h1,h2.sub k,k.sub _ _ h3,h4⟩
theorem at_fld {H:Heap} {b:Nat} {c:Array Value} {T:TypeId} {fz:Nat × Nat} (k:Nat) {v:Value} (h:H b = some (.cells c T fz)) (hv:c[k]? = some v):At H (({ block:=b,off:=0 }:Addr).add k) [v]:=by
  have he:({ block:=b,off:=0 }:Addr).add k = ⟨b,k,none⟩:=by cases k <;> simp [Addr.add]
  rw [he]
  refine ⟨⟨c,T,fz,h,rfl,fun j u hj=>?_⟩⟩
  cases j with
  | succ j=>simp at hj
  | zero=>simp at hj; subst hj; exact hv
theorem smMono {P:Program} {s:Sem Value} {H:Heap} {K K':Value → Heap → Prop} (h:Sm P s H K) (k:∀ v H',K v H' → K' v H'):Sm P s H K':=by
  refine ⟨fun w hw=>?_⟩
  obtain ⟨v,H',w',h1,h2,h3⟩:=h.run w hw
  exact ⟨v,H',w',h1,h2,k _ _ h3⟩
theorem t81 {pre : List Ev} (hb : pre.length ≤ 100000000000000000) {H : Heap} {b : Nat} (h : Book H b pre) (id kind : Int) :
    Tr Try.prog 81 #[.pointer (some ⟨b,0,none⟩),.int .i64 id,.int .i64 kind] H (fun v H'=>v = .bool (isP pre id kind) ∧ Sub H H'):=by
  obtain ⟨A,n,c,m,es,cl,h1,h2,h3,h4⟩:=h.out
  have hn:=h2.len; subst hn
  apply v81; unfold F81
  refine ⟨_,fun _=>rfl,A,pre.length,c,fun _=>at_fld 0 h1 rfl,_,fun _=>rfl,A,pre.length,c,fun _=>at_fld 0 h1 rfl,?_⟩
  by_cases hid:1 ≤ id ∧ id ≤ pre.length
  · obtain ⟨x,hx⟩:=get_some (l:=pre) (i:=(id - 1).toNat) (by omega)
    obtain ⟨a,ha,hat⟩:=h2.at_ _ x hx
    have hw:IntKind.i64.wrap (id - 1) = id - 1:=wrapi (by omega) (by omega)
    refine ⟨a,fun _=>⟨ha,by omega,by omega⟩,x.kind,fun _=>by rw [hw]; exact at_one 2 hat rfl,?_,Sub.refl _⟩
    unfold isP
    rw [hx]
  · have hf : (decide (id ≥ 1) && decide (id ≤ (pre.length : Int))) = false := by
      cases hc:(decide (id ≥ 1) && decide (id ≤ (pre.length:Int))) with
      | false=>rfl
      | true=>simp at hc; omega
    refine ⟨⟨0,0,none⟩,fun e=>(by rw [hf] at e; cases e),0,fun e=>(by rw [hf] at e; cases e),?_,Sub.refl _⟩
    unfold isP
    rw [hf]; rfl
structure RNo (pre:List Ev) (id:Int) (ks:List Int) (H:Heap) (i:Int) (H1:Heap):Prop where
  heap:H1 = H
  k:∃ m:Nat,i = m ∧ m ≤ ks.length ∧ ∀ j,j < m → ∀ y,ks[j]? = some y → (y,id) ∉ marks pre
theorem any_marks {pre:List Ev} {id:Int} {ks:List Int}:anyP pre id ks = true ↔ ∃ y ∈ ks,(y,id) ∈ marks pre:=by
  unfold anyP
  rw [List.any_eq_true]
  constructor
  · rintro ⟨x,hx,hq⟩
    simp only [Bool.and_eq_true,List.contains_iff_mem,beq_iff_eq] at hq
    exact ⟨x.kind,hq.1,mem_marks.2 ⟨x,hx,rfl,hq.2⟩⟩
  · rintro ⟨y,hy,hm⟩
    obtain ⟨x,hx,h1,h2⟩:=mem_marks.1 hm
    refine ⟨x,hx,?_⟩
    simp only [Bool.and_eq_true,List.contains_iff_mem,beq_iff_eq]
    exact ⟨h1 ▸ hy,h2⟩
theorem t82 {pre : List Ev} {H : Heap} {b : Nat} (h : Book H b pre) (id : Int) {ks : List Int} (hkb : ks.length ≤ 9223372036854775807) {B : Option Addr} {n' c' : Nat} (hI : HasI H B n' ks) :
    Tr Try.prog 82 #[.pointer (some ⟨b,0,none⟩),.int .i64 id,.slice B n' c'] H (fun v H'=>v = .bool (!anyP pre id ks) ∧ Sub H H'):=by
  obtain ⟨A,n,c,m,es,cl,h1,h2,h3,h4⟩:=h.out
  have hn:=hI.len; subst hn
  apply v82; unfold F82
  refine ⟨RNo pre id ks H,fun i _=>(ks.length - i).toNat,⟨rfl,0,rfl,by omega,fun j hj=>absurd hj (by omega)⟩,fun i H1 r=>?_⟩
  have hH:=r.heap; subst hH
  obtain ⟨j,rfl,hj,hs⟩:=r.k
  refine ⟨fun hlt=>?_,fun hge=>⟨?_,Sub.refl _⟩⟩
  · have hlt:=of_decide_eq_true hlt
    obtain ⟨y,hy⟩:=get_some (l:=ks) (i:=j) (by omega)
    obtain ⟨a,ha,hat⟩:=hI.at_ j y hy
    refine ⟨a,⟨ha,by omega,by omega⟩,y,hat,_,rfl,some m,at_fld 1 h1 rfl,smMono (sm_lookup h3 h4 y id) fun v H'=>?_⟩
    rintro ⟨rfl,rfl⟩
    refine ⟨_,rfl,fun ht=>⟨?_,Sub.refl _⟩,fun hf=>?_⟩
    · have ht:=of_decide_eq_true ht
      have:anyP pre id ks = true:=any_marks.2 ⟨y,List.mem_of_getElem? hy,ht⟩
      rw [this]; rfl
    · have hf:=of_decide_eq_false hf
      rw [wrapi (by omega) (by omega)]
      refine ⟨⟨rfl,j + 1,by omega,by omega,fun i hi z hz=>?_⟩,?_⟩
      · by_cases hij:i = j
        · subst hij; rw [hy] at hz; cases hz; exact hf
        · exact hs i (by omega) z hz
      · show (ks.length - ((j:Int) + 1)).toNat < (ks.length - (j:Int)).toNat
        omega
  · have hge:=of_decide_eq_false hge
    have:anyP pre id ks = false:=by
      cases hc:anyP pre id ks with
      | false=>rfl
      | true =>
        obtain ⟨y,hy,hm⟩:=any_marks.1 hc
        obtain ⟨i,hi,e⟩:=List.mem_iff_getElem.1 hy
        exact absurd hm (hs i (by omega) y (by rw [List.getElem?_eq_getElem hi,e]))
    rw [this]; rfl
theorem ng {pre : List Ev} (hb : pre.length ≤ 100000000000000000) {H : Heap} {b : Nat} (h : Book H b pre) (id : Int) (ks : List Int) (hk : ks.length ≤ 9223372036854775807) (kd : Int) (r : Bool) (hp : r = (isP pre id kd && !anyP pre id ks)) :
    ∃ b1:Bool,Tr Try.prog 81 #[.pointer (some ⟨b,0,none⟩),.int .i64 id,.int .i64 kd] H (fun v H'=>v = .bool b1 ∧ Sub H H') ∧
    (b1 = true → ∀ b2:Nat,H b2 = none → ∀ H1:Heap,H1 = H.upd b2 (.cells (ks.map (Value.int .i64)).toArray 3) → ∃ b3:Bool,
      Tr Try.prog 82 #[.pointer (some ⟨b,0,none⟩),.int .i64 id,.slice (some ⟨b2,0,none⟩) ks.length ks.length] H1 (fun v H'=>v = .bool b3 ∧ Sub H1 H') ∧ (Value.bool b3 = .bool r ∧ Sub H H1)) ∧
    (b1 = false → Value.bool false = .bool r ∧ Sub H H):=by
  refine ⟨_,t81 hb h id kd,fun i1 b2 n2 H1 e1=>?_,fun i0=>⟨by rw [hp,i0]; rfl,Sub.refl _⟩⟩
  obtain ⟨s,i⟩:=newI n2 ks e1
  exact ⟨_,t82 (h.sub s) id hk i,by rw [hp,i1]; rfl,s⟩
theorem nb {pre : List Ev} (hb : pre.length ≤ 100000000000000000) {H : Heap} {b : Nat} (h : Book H b pre) (id : Int) (k1 k2 : Int) (kd : Int) (r : Bool) (hp : r = (isP pre id kd && anyP pre id [k1] && !anyP pre id [k2])) :
    ∃ b1:Bool,Tr Try.prog 81 #[.pointer (some ⟨b,0,none⟩),.int .i64 id,.int .i64 kd] H (fun v H'=>v = .bool b1 ∧ Sub H H') ∧
    (b1 = true → ∀ b2:Nat,H b2 = none → ∀ H1:Heap,H1 = H.upd b2 (.cells #[.int .i64 k1] 3) → ∃ b3:Bool,
      Tr Try.prog 82 #[.pointer (some ⟨b,0,none⟩),.int .i64 id,.slice (some ⟨b2,0,none⟩) 1 1] H1 (fun v H'=>v = .bool b3 ∧ Sub H1 H') ∧
      ((!b3) = true → ∀ b4:Nat,H1 b4 = none → ∀ H2:Heap,H2 = H1.upd b4 (.cells #[.int .i64 k2] 3) → ∃ b5:Bool,
        Tr Try.prog 82 #[.pointer (some ⟨b,0,none⟩),.int .i64 id,.slice (some ⟨b4,0,none⟩) 1 1] H2 (fun v H'=>v = .bool b5 ∧ Sub H2 H') ∧ (Value.bool b5 = .bool r ∧ Sub H H2)) ∧
      ((!b3) = false → Value.bool false = .bool r ∧ Sub H H1)) ∧
    (b1 = false → Value.bool false = .bool r ∧ Sub H H):=by
  refine ⟨_,t81 hb h id kd,fun i1 b2 n2 H1 e1=>?_,fun i0=>⟨by rw [hp,i0]; rfl,Sub.refl _⟩⟩
  obtain ⟨s,i⟩:=newI n2 [k1] e1
  refine ⟨_,t82 (h.sub s) id (by simp) i,fun i2 b4 n4 H2 e2=>?_,fun i2=>⟨?_,s⟩⟩
  · obtain ⟨s2,j⟩:=newI n4 [k2] e2
    refine ⟨_,t82 (h.sub (s.trans s2)) id (by simp) j,?_,s.trans s2⟩
    have i2:anyP pre id [k1] = true:=by simpa using i2
    rw [hp,i1,i2]; rfl
  · have i2:anyP pre id [k1] = false:=by simpa using i2
    rw [hp,i2]; simp
theorem t75 {pre : List Ev} (hb : pre.length ≤ 100000000000000000) {H : Heap} {b : Nat} (h : Book H b pre) (e : Ev) :
    Tr Try.prog 75 #[.pointer (some ⟨b,0,none⟩),e.val] H (fun v H'=>v = .bool (namesP pre e) ∧ Sub H H'):=by
  apply v75; unfold F75
  refine ⟨fun q=>ng hb h e.a [6,22,23,24] (by decide) 3 _ (by have q:e.kind = 6:=(by simpa using q); unfold namesP; rw [q]; rfl),fun m0=>?_⟩
  refine ⟨fun q=>ng hb h e.a [6,22,23,24] (by decide) 3 _ (by have q:e.kind = 22:=(by simpa using q); unfold namesP; rw [q]; rfl),fun m1=>?_⟩
  refine ⟨fun q=>ng hb h e.a [6,22,23,24] (by decide) 3 _ (by have q:e.kind = 23:=(by simpa using q); unfold namesP; rw [q]; rfl),fun m2=>?_⟩
  refine ⟨fun q=>ng hb h e.a [6,22,23,24] (by decide) 3 _ (by have q:e.kind = 24:=(by simpa using q); unfold namesP; rw [q]; rfl),fun m3=>?_⟩
  refine ⟨fun q=>ng hb h e.a [7,25] (by decide) 4 _ (by have q:e.kind = 7:=(by simpa using q); unfold namesP; rw [q]; rfl),fun m4=>?_⟩
  refine ⟨fun q=>?_,fun m5=>?_⟩
  · have q:e.kind = 25:=by simpa using q
    have hnp:namesP pre e = (isP pre e.a 4 && !anyP pre e.a [7,25] && atTime pre e):=by unfold namesP; rw [q]; rfl
    have main : isP pre e.a 4 = true → ∀ b2 : Nat, H b2 = none → ∀ H1 : Heap, H1 = H.upd b2 (Obj.cells #[Value.int .i64 7, Value.int .i64 25] 3) → Sub H H1 ∧ ∃ b3 : Bool,
        Tr Try.prog 82 #[Value.pointer (some ⟨b,0,none⟩),Value.int .i64 e.a,Value.slice (some ⟨b2,0,none⟩) 2 2] H1 (fun v H'=>v = .bool b3 ∧ Sub H1 H') ∧
        ∃ a:Addr,(b3 = true → some (⟨b,0,none⟩:Addr) = some a) ∧ ∃ A n c,(b3 = true → At H1 (a.add 0) [Value.slice A n c]) ∧ ∃ a1:Addr,
          (b3 = true → A = some a1 ∧ (0:Int) ≤ IntKind.i64.wrap (e.a - 1) ∧ IntKind.i64.wrap (e.a - 1) < (n:Int)) ∧ ∃ x:Int,
          (b3 = true → At H1 ((a1.add ((IntKind.i64.wrap (e.a - 1)).toNat * 9)).add 3) [Value.int .i64 x]) ∧ (Value.bool (b3 && decide (e.time ≥ x)) = .bool (namesP pre e) ∧ Sub H H1):=by
      intro i1 b2 n2 H1 e1
      obtain ⟨s,i⟩:=newI n2 [7,25] e1
      obtain ⟨A,n,c,m,es,cl,h1,h2,h3,h4⟩:=h.out
      have hn:=h2.len; subst hn
      obtain ⟨g1,g2,x,g3,g4⟩:=isP_some i1
      obtain ⟨a,ha,hat⟩:=h2.at_ _ x g3
      have hw:IntKind.i64.wrap (e.a - 1) = e.a - 1:=wrapi (by omega) (by omega)
      refine ⟨s,_,t82 (h.sub s) e.a (by decide) i,_,fun _=>rfl,A,pre.length,c,fun _=>(at_fld 0 h1 rfl).sub s,a,fun _=>⟨ha,by omega,by omega⟩,x.a,fun _=>by rw [hw]; exact (at_one 3 hat rfl).sub s,?_,s⟩
      have ht:atTime pre e = decide (e.time ≥ x.a):=by unfold atTime; rw [g3]
      rw [hnp,i1,ht]; rfl
    have no:isP pre e.a 4 = false → Sub H H ∧ Value.bool false = .bool (namesP pre e) ∧ Sub H H:=fun i0=>⟨Sub.refl _,by rw [hnp,i0]; rfl,Sub.refl _⟩
    exact ⟨H,Sub.refl _,_,t81 hb h e.a 4,Sub.refl _,⟨Sub.refl _,main,no⟩,main,no⟩
  refine ⟨fun q=>ng hb h e.a [26,27] (by decide) 5 _ (by have q:e.kind = 26:=(by simpa using q); unfold namesP; rw [q]; rfl),fun m6=>?_⟩
  refine ⟨fun q=>ng hb h e.a [26,27] (by decide) 5 _ (by have q:e.kind = 27:=(by simpa using q); unfold namesP; rw [q]; rfl),fun m7=>?_⟩
  refine ⟨fun q=>nb hb h e.a 26 28 5 _ (by have q:e.kind = 28:=(by simpa using q); unfold namesP; rw [q]; rfl),fun m8=>?_⟩
  refine ⟨fun q=>ng hb h e.a [8,27,28] (by decide) 5 _ (by have q:e.kind = 8:=(by simpa using q); unfold namesP; rw [q]; rfl),fun m9=>?_⟩
  refine ⟨fun q=>⟨_,t81 hb h e.a 5,(by have q:e.kind = 9:=(by simpa using q); unfold namesP; rw [q]; rfl),Sub.refl _⟩,fun m10=>?_⟩
  refine ⟨fun q=>ng hb h e.a [29] (by decide) 9 _ (by have q:e.kind = 29:=(by simpa using q); unfold namesP; rw [q]; rfl),fun m11=>?_⟩
  refine ⟨fun q=>ng hb h e.a [12,13] (by decide) 21 _ (by have q:e.kind = 12:=(by simpa using q); unfold namesP; rw [q]; rfl),fun m12=>?_⟩
  refine ⟨fun q=>ng hb h e.a [12,13] (by decide) 21 _ (by have q:e.kind = 13:=(by simpa using q); unfold namesP; rw [q]; rfl),fun m13=>?_⟩
  refine ⟨fun q=>nb hb h e.a 12 14 21 _ (by have q:e.kind = 14:=(by simpa using q); unfold namesP; rw [q]; rfl),fun m14=>?_⟩
  refine ⟨?_,Sub.refl _⟩
  have z0:¬ e.kind = 6:=by simpa using m0
  have z1:¬ e.kind = 22:=by simpa using m1
  have z2:¬ e.kind = 23:=by simpa using m2
  have z3:¬ e.kind = 24:=by simpa using m3
  have z4:¬ e.kind = 7:=by simpa using m4
  have z5:¬ e.kind = 25:=by simpa using m5
  have z6:¬ e.kind = 26:=by simpa using m6
  have z7:¬ e.kind = 27:=by simpa using m7
  have z8:¬ e.kind = 28:=by simpa using m8
  have z9:¬ e.kind = 8:=by simpa using m9
  have z10:¬ e.kind = 9:=by simpa using m10
  have z11:¬ e.kind = 29:=by simpa using m11
  have z12:¬ e.kind = 12:=by simpa using m12
  have z13:¬ e.kind = 13:=by simpa using m13
  have z14:¬ e.kind = 14:=by simpa using m14
  unfold namesP
  rw [if_neg (by omega),if_neg (by omega),if_neg (by omega),if_neg (by omega),if_neg (by omega),if_neg (by omega),if_neg (by omega),if_neg (by omega),if_neg (by omega),if_neg (by omega)]
theorem may_nil (e:Ev):mayP [] e = !(!validM e || e.id != 1 || !(e.kind == 1)):=by
  unfold mayP
  simp only [List.length_nil]
  cases validM e <;> cases hk:e.kind == 1 <;> cases hi:e.id == 1 <;> simp [bne,hk,hi]
theorem may_ne {pre : List Ev} {e : Ev} (h : pre ≠ []) : mayP pre e = if (!validM e || e.id != pre.length + 1 || e.kind == 1) = true then false
    else if (decide (e.time < (lastP pre).time) || closeM (lastP pre).kind || e.kind == 2 && e.a != pre.length) = true then false
    else if (cmdM e.kind && !(e.kind == 16 && e.a == -4) && ((lastP pre).kind != 2 && !cmdM (lastP pre).kind || e.time != (lastP pre).time)) = true then false
    else namesP pre e:=by
  have hl:pre.length ≠ 0:=by cases pre with
    | nil=>exact absurd rfl h
    | cons _ _=>simp
  have hz:((pre.length:Int) == 0) = false:=by simp; omega
  conv=>lhs; unfold mayP
  rw [hz,if_neg h]
  simp [bne,hz]
theorem lastP_snoc (pre:List Ev) (x:Ev):lastP (pre ++ [x]) = x:=by simp [lastP]
theorem t58 {pre : List Ev} (hb : pre.length ≤ 100000000000000000) {H : Heap} {b : Nat} (h : Book H b pre) (e : Ev) :
    Tr Try.prog 58 #[.pointer (some ⟨b,0,none⟩),e.val] H (fun v H'=>v = .bool (mayP pre e) ∧ Sub H H'):=by
  obtain ⟨A,n,c,m,es,cl,h1,h2,h3,h4⟩:=h.out
  have hn:=h2.len; subst hn
  apply v58; unfold F58
  refine ⟨_,rfl,A,pre.length,c,at_fld 0 h1 rfl,?_⟩
  rw [show IntKind.i64.wrap ((pre.length:Int) + 1) = (pre.length:Int) + 1 from wrapi (by omega) (by omega)]
  refine ⟨_,t27 e H,_,fun _=>rfl,overP pre,fun _=>at_fld 2 h1 rfl,?_⟩
  rcases List.eq_nil_or_concat pre with rfl | ⟨p,x,rfl⟩
  · have hv:=may_nil e
    refine ⟨fun q=>⟨?_,Sub.refl _⟩,fun q=>⟨fun _=>⟨?_,Sub.refl _⟩,fun q=>(by simp at q)⟩⟩
    · rw [hv]
      have:(!validM e || e.id != 1 || !(e.kind == 1)) = true:=by simpa [overP] using q
      rw [this]; rfl
    · rw [hv]
      have:(!validM e || e.id != 1 || !(e.kind == 1)) = false:=by simpa [overP] using q
      rw [this]; rfl
  · have hne:p ++ [x] ≠ []:=by simp
    have hv:=may_ne (e:=e) hne
    rw [List.concat_eq_append] at *
    rw [lastP_snoc] at hv
    have hl:(p ++ [x]).length = p.length + 1:=by simp
    have hz:(((p ++ [x]).length:Int) == 0) = false:=by simp; omega
    rw [overP_snoc,hz]
    refine ⟨fun q=>⟨?_,Sub.refl _⟩,fun q=>⟨fun q=>(by cases q),fun _=>?_⟩⟩
    · rw [hv]
      split
      · rfl
      · rename_i hn
        have:closeM x.kind = true:=by
          cases hc:closeM x.kind with
          | true=>rfl
          | false=>exact absurd (by simpa [hc] using q) hn
        rw [this,if_pos (by simp)]
    · have q1 : (!validM e || e.id != ((p ++ [x]).length : Int) + 1 || e.kind == 1) = false := by
        cases hc:(!validM e || e.id != ((p ++ [x]).length:Int) + 1) <;> cases hk:(e.kind == 1) <;> simp_all
      have q2:closeM x.kind = false:=by
        cases hc:closeM x.kind <;> simp_all
      rw [if_neg (by rw [q1]; simp),q2,Bool.or_false] at hv
      have hx:(p ++ [x])[p.length]? = some x:=by simp
      obtain ⟨a',ha',hat'⟩:=h2.at_ _ x hx
      have hw:IntKind.i64.wrap (((p ++ [x]).length:Int) - 1) = (p.length:Int):=by rw [wrapi (by omega) (by omega)]; omega
      rw [hw]
      refine ⟨_,rfl,A,(p ++ [x]).length,c,at_fld 0 h1 rfl,a',⟨ha',by omega,by omega⟩,_,_,_,_,_,_,_,_,_,hat',fun q3=>⟨?_,Sub.refl _⟩,fun q3=>?_⟩
      · rw [hv,if_pos q3]
      · rw [if_neg (by rw [q3]; simp)] at hv
        refine ⟨_,t63 e.kind H,fun q4=>?_,fun q4=>⟨_,t75 hb h e,?_,Sub.refl _⟩⟩
        · rw [q4,Bool.true_and] at hv
          refine ⟨_,fun _=>t63 x.kind H,fun q5=>⟨?_,Sub.refl _⟩,fun q5=>⟨_,t75 hb h e,?_,Sub.refl _⟩⟩
          · rw [hv,if_pos q5]
          · rw [hv,if_neg (by rw [q5]; simp)]
        · rw [hv,if_neg (by rw [q4]; simp)]
end Go.Proofs.Ytjmdoiakcakfoaa
set_option maxRecDepth 100000
namespace Go.Proofs.Ytjmdoiakcakfoaa
open Go.Ax
theorem own_upd {H H1:Heap} {A:Option Addr} {n c sz:Nat} {cs:List Value} (h:OwnS H H1 A n c sz cs) {b:Nat} (o:Obj) (hb:H b ≠ none):OwnS (H.upd b o) (H1.upd b o) A n c sz cs:=by
  refine ⟨⟨fun i o' e=>?_⟩,h.len,h.cap,?_⟩
  · by_cases hi:i = b
    · subst hi; rw [Heap.upd_same] at e ⊢; exact e
    · rw [Heap.upd_other hi] at e ⊢; exact h.sub.sub i o' e
  · rcases h.at_ with q | ⟨bb,cur,T,q0,q1,q2,q3,q4⟩
    · exact .inl q
    · have hne:bb ≠ b:=fun e=>by subst e; exact hb q1
      exact .inr ⟨bb,cur,T,q0,by rw [Heap.upd_other hne]; exact q1,by rw [Heap.upd_other hne]; exact q2,q3,q4⟩
theorem sub_upd_none {H H1:Heap} (h:Sub H H1) {b:Nat} (o:Obj) (hb:H b = none):Sub H (H1.upd b o):=⟨fun i o' e=>by
  have hne:i ≠ b:=fun q=>by subst q; rw [hb] at e; cases e
  rw [Heap.upd_other hne]; exact h.sub i o' e⟩
structure Rd (l:List Ev) (H:Heap) (b b1:Nat) (x:Int) (Hc:Heap):Prop where
  out:∃ m:Nat,x = m ∧ m ≤ l.length ∧ (∀ j,j < m → ∀ y,l[j]? = some y → mayP (l.take j) y = true) ∧ ∃ (A:Option Addr) (n c:Nat) (es:Array MapEntry) (cl:Nat),
    Hc b1 = some (.cells #[.slice A n c,.map (some b),.bool (overP (l.take m))] 137 (0,0)) ∧ Hc b = some (.map es cl) ∧ Marks es (marks (l.take m)) ∧ ∃ Ho:Heap,Sub H Ho ∧ Ho b ≠ none ∧ Ho b1 ≠ none ∧ OwnS Ho Hc A n c 9 ((l.take m).flatMap Ev.cells)
theorem keep_at {Ho H1 H2:Heap} {b:Nat} {o:Obj} (h:Ho b ≠ none) (s1:Sub Ho H1) (s2:Sub Ho H2) (e:H1 b = some o):H2 b = some o:=by
  cases hh:Ho b with
  | none=>exact absurd hh h
  | some o' =>
    have:=s1.sub b o' hh
    rw [e] at this; cases this
    exact s2.sub b _ hh
def ReadV (l:List Ev) (H:Heap) (v:Value) (H':Heap):Prop:=∃ b1:Nat,v = .tuple #[.pointer (some ⟨b1,0,none⟩),.int .i64 (stand l:Nat)] ∧ Book H' b1 (l.take (stand l)) ∧ Sub H H'
theorem t37 {l:List Ev} (hb:l.length * 72 ≤ 140737488355328) {H:Heap} {A:Option Addr} {n c:Nat} (h:HasEvs H A n l):Tr Try.prog 37 #[.slice A n c] H (ReadV l H):=by
  have hn:=h.len; subst hn
  apply v37; unfold F37
  intro b hb0 H1 e1 b1 hb1 H11 e11
  have hbb:b ≠ b1:=fun e=>by subst e; rw [e1,Heap.upd_same] at hb1; cases hb1
  have hHb1:H b1 = none:=by rw [e1,Heap.upd_other hbb.symm] at hb1; exact hb1
  have s11:Sub H H11:=by subst e1; subst e11; exact sub_upd_none (sub_upd_none (Sub.refl _) _ hb0) _ hHb1
  refine ⟨Rd l H b b1,fun i _=>(l.length - i).toNat,⟨0,rfl,by omega,fun j hj=>absurd hj (by omega),none,0,0,#[],0,?_,?_,Marks.nil,H11,s11,?_,?_,OwnS.nil _ _⟩,fun x Hc r=>?_⟩
  · subst e11; exact Heap.upd_same
  · subst e11; subst e1; rw [Heap.upd_other hbb,Heap.upd_same]
  · subst e11; subst e1; rw [Heap.upd_other hbb,Heap.upd_same]; simp
  · subst e11; rw [Heap.upd_same]; simp
  obtain ⟨m,rfl,hm,hs,B,n,c',es,cl,g1,g2,g3,Ho,k1,k2,k3,o⟩:=r.out
  have ho:=OwnS.evs o
  have hn:n = m:=by rw [ho.len,len_take hm]
  subst hn
  have bk:Book Hc b1 (l.take n):=⟨B,n,c',b,es,cl,g1,ho,g2,g3⟩
  have sc:Sub H Hc:=k1.trans o.sub
  refine ⟨fun hlt=>?_,fun hge=>?_⟩
  · have hlt:=of_decide_eq_true hlt
    obtain ⟨x,hx⟩:=get_some (l:=l) (i:=n) (by omega)
    obtain ⟨a,ha,hat⟩:=h.at_ n x hx
    refine ⟨a,⟨ha,by omega,by omega⟩,_,_,_,_,_,_,_,_,_,hat.sub sc,_,t58 (by rw [len_take hm]; omega) bk x,fun q=>?_,fun q=>?_⟩
    · have q:mayP (l.take n) x = false:=by simpa using q
      have hst:stand l = n:=stand_spec hs (by omega) fun y hy=>by rw [hx] at hy; cases hy; exact q
      exact ⟨b1,by rw [hst],by rw [hst]; exact bk,sc⟩
    · have q:mayP (l.take n) x = true:=by simpa using q
      have hk : ∀ (A' : Option Addr) (c'' : Nat) (H' : Heap), OwnS Ho H' A' (n + 1) c'' 9 ((l.take n).flatMap Ev.cells ++ x.cells) →
          ∃ a2:Addr,some (⟨b1,0,none⟩:Addr) = some a2 ∧ ∃ (c1:Array Value) (T:TypeId),H' (a2.add 0).block = some (Obj.cells c1 T) ∧ (a2.add 0).spot = none ∧ (a2.add 0).off + [Value.slice A' (n + 1) c''].length ≤ c1.size ∧
          ∀ H12:Heap,H12 = H'.upd (a2.add 0).block (Obj.cells (splice c1 (a2.add 0).off [Value.slice A' (n + 1) c'']) T) →
          ∃ a3:Addr,some (⟨b1,0,none⟩:Addr) = some a3 ∧ ∃ v1:Option Nat,At H12 (a3.add 1) [Value.map v1] ∧
          Sm Try.prog (updU (Instr.mapUpdate 135 (Value.map v1) (Value.agg #[Value.int .i64 x.kind,Value.int .i64 x.a]) (Value.bool true))) H12 fun v2 H'2=>∃ b3:Bool,
            (Tr Try.prog 59 #[Value.int .i64 x.kind] H'2 fun v3 H'3=>v3 = Value.bool b3 ∧ Sub H'2 H'3) ∧ ∃ a4:Addr,some (⟨b1,0,none⟩:Addr) = some a4 ∧ ∃ (c2:Array Value) (T1:TypeId),H'2 (a4.add 2).block = some (Obj.cells c2 T1) ∧ (a4.add 2).spot = none ∧
            (a4.add 2).off + [Value.bool b3].length ≤ c2.size ∧ ∀ H13:Heap,H13 = H'2.upd (a4.add 2).block (Obj.cells (splice c2 (a4.add 2).off [Value.bool b3]) T1) →
            Rd l H b b1 (IntKind.i64.wrap ((n:Int) + 1)) H13 ∧ (l.length - IntKind.i64.wrap ((n:Int) + 1)).toNat < (l.length - (n:Int)).toNat:=by
        intro A' c'' H' o'
        have g1':=keep_at k3 o.sub o'.sub g1
        have g2':=keep_at k2 o.sub o'.sub g2
        refine ⟨_,rfl,#[.slice B n c',.map (some b),.bool (overP (l.take n))],137,g1',rfl,by show 0 + 1 ≤ 3; omega,fun H12 e12=>?_⟩
        have e12:H12 = H'.upd b1 (.cells #[.slice A' (n + 1) c'',.map (some b),.bool (overP (l.take n))] 137 (0,0)):=e12
        have g3':H12 b = some (.map es cl):=by rw [e12,Heap.upd_other hbb]; exact g2'
        refine ⟨_,rfl,some b,at_fld (T:=137) (fz:=(0,0)) (c:=#[.slice A' (n + 1) c'',.map (some b),.bool (overP (l.take n))]) 1 (by rw [e12]; exact Heap.upd_same) rfl,smMono (sm_update g3' g3 x.kind x.a) fun v Hu=>?_⟩
        rintro ⟨es',cl',hm',eu⟩
        have g4:Hu b1 = some (.cells #[.slice A' (n + 1) c'',.map (some b),.bool (overP (l.take n))] 137 (0,0)):=by rw [eu,Heap.upd_other hbb.symm,e12]; exact Heap.upd_same
        refine ⟨_,t59 x.kind _,_,rfl,#[.slice A' (n + 1) c'',.map (some b),.bool (overP (l.take n))],137,g4,rfl,by show 2 + 1 ≤ 3; omega,fun H13 e13=>?_⟩
        have e13:H13 = Hu.upd b1 (.cells #[.slice A' (n + 1) c'',.map (some b),.bool (closeM x.kind)] 137 (0,0)):=e13
        rw [wrapi (by omega) (by omega)]
        refine ⟨⟨n + 1,by omega,by omega,fun j hj y hy=>?_,A',n + 1,c'',es',cl',?_,?_,?_,((Ho.upd b1 (.cells #[.slice A' (n + 1) c'',.map (some b),.bool (overP (l.take n))] 137 (0,0))).upd b (.map es' cl')).upd b1 (.cells #[.slice A' (n + 1) c'',.map (some b),.bool (closeM x.kind)] 137 (0,0)),?_,?_,?_,?_⟩,?_⟩
        · by_cases hjn:j = n
          · subst hjn; rw [hx] at hy; cases hy; exact q
          · exact hs j (by omega) y hy
        · rw [take_snoc hx,overP_snoc,e13]; exact Heap.upd_same
        · rw [e13,Heap.upd_other hbb,eu]; exact Heap.upd_same
        · rw [take_snoc hx,marks_snoc]; exact hm'
        · exact sub_upd_none (sub_upd_none (sub_upd_none k1 _ hHb1) _ hb0) _ hHb1
        · rw [Heap.upd_other hbb,Heap.upd_same]; simp
        · rw [Heap.upd_same]; simp
        · rw [e13,eu,e12,take_snoc hx,List.flatMap_append]
          have:[x].flatMap Ev.cells = x.cells:=by simp
          rw [this]
          refine own_upd (own_upd (own_upd o' _ k3) _ ?_) _ ?_
          · rw [Heap.upd_other hbb]; exact k2
          · rw [Heap.upd_other hbb.symm,Heap.upd_same]; simp
        · omega
      refine ⟨_,rfl,⟨B,n,c',at_fld 0 g1 rfl,own_app o (m:=1) (by rfl) (by rfl) (Nat.le_trans (Nat.mul_le_mul_right 72 (show n + 1 ≤ l.length by omega)) hb) (by omega) hk⟩,⟨B,n,c',at_fld 0 g1 rfl,own_app o (m:=1) (by rfl) (by rfl) (Nat.le_trans (Nat.mul_le_mul_right 72 (show n + 1 ≤ l.length by omega)) hb) (by omega) hk⟩⟩
  · have hge:=of_decide_eq_false hge
    have hnl:n = l.length:=by omega
    have hst:stand l = n:=stand_spec hs (by omega) fun y hy=>by rw [hnl,List.getElem?_eq_none (Nat.le_refl _)] at hy; cases hy
    exact ⟨b1,by rw [hst,hnl],by rw [hst]; exact bk,sc⟩
theorem t21 {l:List Ev} (hb:l.length * 72 ≤ 140737488355328) {H:Heap} {A:Option Addr} {n c:Nat} (h:HasEvs H A n l):Tr Try.prog 21 #[.slice A n c] H (fun v H'=>v = checkV l ∧ Sub H H'):=by
  have hn:=h.len; subst hn
  apply v21; unfold F21
  refine (t37 hb h).mono fun v H'=>?_
  rintro ⟨b1,rfl,bk,s⟩
  refine ⟨_,_,rfl,fun q=>⟨?_,s⟩,fun q=>⟨?_,s⟩⟩
  · have q:=of_decide_eq_true q
    unfold checkV; rw [if_pos (by omega)]
  · have q:=of_decide_eq_false q
    unfold checkV; rw [if_neg (by omega)]
end Go.Proofs.Ytjmdoiakcakfoaa
set_option maxRecDepth 100000
set_option linter.unusedVariables false
namespace Go.Proofs.Ytjmdoiakcakfoaa
open Go.Ax
noncomputable def c18:Cx:={ P:=Try.prog,res:=[],pub:=[],loops:=[⟨7,[(9,.sl),(10,.int .i64),(11,.int .i64)],[12,13,14,15,16,17,18,19,31,32,33,34,35,36,37,38,39,40,41,42,43,44,45,46,47,48,49,50,51,52,53,54,55,56,57,58,59,60,61,62,63,64,65,66,67,68,69,70,71,72,73,74,75,76,77,78,79,80,81,82,83,84,85,86,87,88,89,90,91,92,93,94,95,96,97,98,99,100,101,102,103,104,105,106,107,108,109,110,111,112,113,114,115,116,117,118,119,120,121,122,123,124,125,126,127,128],[]⟩,⟨29,[(19,.int .i64)],[113,114,115,116,117,118,119,120,121,122,123,124,125,126,127,128],[]⟩],quiet:=[21],asm:=true }
def F18 (pFuncsA:Option Addr) (pFuncsn pFuncsc:Nat) (pOptsA:Option Addr) (pOptsn pOptsc:Nat) (lA:Option Addr) (ln lc:Nat) (H:Heap) (K:Value → Heap → Prop):Prop :=
 Tr Try.prog (25:Nat) #[.agg #[.slice pFuncsA pFuncsn pFuncsc,.slice pOptsA pOptsn pOptsc]] H fun v H' =>
 ∃ (v1:Option Addr) (x:Int),
 v = .tuple #[.pointer v1,.int .i64 x] ∧
 ((v1.isNone || x != 0) = true → K (.tuple #[.pointer none,.slice none (0:Nat) (0:Nat),.bool false]) H') ∧
 ((v1.isNone || x != 0) = false →
 ∃ (Rel:Option Addr → Nat → Nat → Int → Int → Heap → Prop) (mu:Option Addr → Nat → Nat → Int → Int → Heap → Nat),
 Rel none (0:Nat) (0:Nat) (0:Int) (0:Int) H' ∧
 ∀ (A:Option Addr) (n c:Nat) (x1 x2:Int) (H1:Heap),
 Rel A n c x1 x2 H1 →
 (decide (x2 < (↑ln:Int)) = true →
 ∃ (a:Addr),
 (lA = some a ∧ (0:Int) ≤ x2 ∧ x2 < (↑ln:Int)) ∧
 ∃ (x3:Int),
 At H1 ((a.add (x2.toNat * nat_lit 13)).add (nat_lit 0)) [.int .i64 x3] ∧
 ((x3 == 1) = true →
 ∃ (a1:Addr),
 (lA = some a1 ∧ (0:Int) ≤ x2 ∧ x2 < (↑ln:Int)) ∧
 ∃ (x4 x5 x6 x7 x8 x9 x10 x11 x12:Int),
 At H1 ((a1.add (x2.toNat * nat_lit 13)).add (nat_lit 1)) [.int .i64 x4,.int .i64 x5,.int .i64 x6,.int .i64 x7,.int .i64 x8,.int .i64 x9,.int .i64 x10,.int .i64 x11,.int .i64 x12] ∧
 appS (23:Nat) (nat_lit 9) (nat_lit 72) H1 none (0:Nat) (0:Nat) A n fun (A':Option Addr) (n' c':Nat) (H'1:Heap) =>
 appC (23:Nat) (nat_lit 9) (nat_lit 72) H'1 A' n' c' [.int .i64 (IntKind.i64.wrap ((↑n:Int) + 1)),.int .i64 x1,.int .i64 x6,.int .i64 x7,.int .i64 x8,.int .i64 x9,.int .i64 x10,.int .i64 x11,.int .i64 x12] (1:Nat) fun (A'1:Option Addr) (n'1 c'1:Nat) (H'2:Heap) =>
 ∃ (x13 x14:Int),
 (Tr Try.prog (21:Nat) #[.slice A'1 n'1 c'1] H'2 fun v2 H'3=>v2 = .tuple #[.int .i64 x13,.int .i64 x14] ∧ Ax.Sub H'2 H'3) ∧
 ((x13 != 0) = true → Rel A n c x1 (IntKind.i64.wrap (x2 + 1)) H'2 ∧ mu A n c x1 (IntKind.i64.wrap (x2 + 1)) H'2 < mu A n c x1 x2 H1) ∧
 ((x13 != 0) = false →
 Tr Try.prog (12:Nat) #[.pointer v1,.agg #[.int .i64 (IntKind.i64.wrap ((↑n:Int) + 1)),.int .i64 x1,.int .i64 x6,.int .i64 x7,.int .i64 x8,.int .i64 x9,.int .i64 x10,.int .i64 x11,.int .i64 x12]] H'2 fun v3 H'4 =>
 ∃ (x15:Int),v3 = .int .i64 x15 ∧ ((x15 == 0) = true → Rel A'1 n'1 c'1 x1 (IntKind.i64.wrap (x2 + 1)) H'4 ∧ mu A'1 n'1 c'1 x1 (IntKind.i64.wrap (x2 + 1)) H'4 < mu A n c x1 x2 H1) ∧ ((x15 == 0) = false → Rel A n c x1 (IntKind.i64.wrap (x2 + 1)) H'4 ∧ mu A n c x1 (IntKind.i64.wrap (x2 + 1)) H'4 < mu A n c x1 x2 H1))) ∧
 ((x3 == 1) = false →
 ((x3 == 2) = true →
 ∃ (a2:Addr),
 (lA = some a2 ∧ (0:Int) ≤ x2 ∧ x2 < (↑ln:Int)) ∧
 ∃ (x16:Int),
 At H1 ((a2.add (x2.toNat * nat_lit 13)).add (nat_lit 10)) [.int .i64 x16] ∧
 ∃ (a3:Addr),
 (decide (x16 > x1) = true → lA = some a3 ∧ (0:Int) ≤ x2 ∧ x2 < (↑ln:Int)) ∧
 ∃ (x17:Int),
 (decide (x16 > x1) = true → At H1 ((a3.add (x2.toNat * nat_lit 13)).add (nat_lit 10)) [.int .i64 x17]) ∧
 ((decide (x16 > x1) && decide (x17 ≤ 1099511627776)) = true →
 ∃ (a4:Addr),
 (lA = some a4 ∧ (0:Int) ≤ x2 ∧ x2 < (↑ln:Int)) ∧
 ∃ (x18:Int),
 At H1 ((a4.add (x2.toNat * nat_lit 13)).add (nat_lit 10)) [.int .i64 x18] ∧
 ∃ (a5:Addr),
 (lA = some a5 ∧ (0:Int) ≤ x2 ∧ x2 < (↑ln:Int)) ∧
 ∃ (x19:Int),
 At H1 ((a5.add (x2.toNat * nat_lit 13)).add (nat_lit 11)) [.int .i64 x19] ∧
 Tr Try.prog (13:Nat) #[.pointer v1,.int .i64 x18,.int .i64 x19] H1 fun v4 H'5 =>
 ∃ (A1:Option Addr) (n1 c1:Nat) (x20:Int),
 v4 = .tuple #[.slice A1 n1 c1,.int .i64 x20] ∧
 ((x20 != 0) = true → Rel A n c x18 (IntKind.i64.wrap (x2 + 1)) H'5 ∧ mu A n c x18 (IntKind.i64.wrap (x2 + 1)) H'5 < mu A n c x1 x2 H1) ∧
 ((x20 != 0) = false →
 appS (23:Nat) (nat_lit 9) (nat_lit 72) H'5 A n c A1 n1 fun (A'2:Option Addr) (n'2 c'2:Nat) (H'6:Heap) =>
 ∃ (Rel1:Int → Heap → Prop) (mu1:Int → Heap → Nat),
 Rel1 (0:Int) H'6 ∧
 ∀ (x21:Int) (H2:Heap),
 Rel1 x21 H2 →
 (decide (x21 < (↑n'2:Int)) = true →
 ∃ (a6:Addr),
 (A'2 = some a6 ∧ (0:Int) ≤ x21 ∧ x21 < (↑n'2:Int)) ∧
 ∃ (x22:Int),
 At H2 ((a6.add (x21.toNat * nat_lit 9)).add (nat_lit 2)) [.int .i64 x22] ∧
 ((x22 == 18) = true →
 ∃ (a7:Addr),
 (A'2 = some a7 ∧ (0:Int) ≤ x21 ∧ x21 < (↑n'2:Int)) ∧
 ∃ (c2:Array Value) (T:TypeId),
 H2 ((a7.add (x21.toNat * nat_lit 9)).add (nat_lit 4)).block = some (Obj.cells c2 T) ∧
 ((a7.add (x21.toNat * nat_lit 9)).add (nat_lit 4)).spot = none ∧
 ((a7.add (x21.toNat * nat_lit 9)).add (nat_lit 4)).off + [Value.int IntKind.i64 (7:Int)].length ≤ c2.size ∧ ∀ (H1:Heap),H1 = H2.upd ((a7.add (x21.toNat * nat_lit 9)).add (nat_lit 4)).block (Obj.cells (splice c2 ((a7.add (x21.toNat * nat_lit 9)).add (nat_lit 4)).off [.int .i64 7]) T) → Rel1 (IntKind.i64.wrap (x21 + 1)) H1 ∧ mu1 (IntKind.i64.wrap (x21 + 1)) H1 < mu1 x21 H2) ∧
 ((x22 == 18) = false → Rel1 (IntKind.i64.wrap (x21 + 1)) H2 ∧ mu1 (IntKind.i64.wrap (x21 + 1)) H2 < mu1 x21 H2)) ∧
 (decide (x21 < (↑n'2:Int)) = false → Rel A'2 n'2 c'2 x18 (IntKind.i64.wrap (x2 + 1)) H2 ∧ mu A'2 n'2 c'2 x18 (IntKind.i64.wrap (x2 + 1)) H2 < mu A n c x1 x2 H1))) ∧
 ((decide (x16 > x1) && decide (x17 ≤ 1099511627776)) = false →
 ∃ (a8:Addr),
 (lA = some a8 ∧ (0:Int) ≤ x2 ∧ x2 < (↑ln:Int)) ∧
 ∃ (x23:Int),
 At H1 ((a8.add (x2.toNat * nat_lit 13)).add (nat_lit 11)) [.int .i64 x23] ∧
 Tr Try.prog (13:Nat) #[.pointer v1,.int .i64 x1,.int .i64 x23] H1 fun v5 H'7 =>
 ∃ (A2:Option Addr) (n2 c3:Nat) (x24:Int),
 v5 = .tuple #[.slice A2 n2 c3,.int .i64 x24] ∧
 ((x24 != 0) = true → Rel A n c x1 (IntKind.i64.wrap (x2 + 1)) H'7 ∧ mu A n c x1 (IntKind.i64.wrap (x2 + 1)) H'7 < mu A n c x1 x2 H1) ∧
 ((x24 != 0) = false →
 appS (23:Nat) (nat_lit 9) (nat_lit 72) H'7 A n c A2 n2 fun (A'3:Option Addr) (n'3 c'3:Nat) (H'8:Heap) =>
 ∃ (Rel2:Int → Heap → Prop) (mu2:Int → Heap → Nat),
 Rel2 (0:Int) H'8 ∧
 ∀ (x25:Int) (H3:Heap),
 Rel2 x25 H3 →
 (decide (x25 < (↑n'3:Int)) = true →
 ∃ (a9:Addr),
 (A'3 = some a9 ∧ (0:Int) ≤ x25 ∧ x25 < (↑n'3:Int)) ∧
 ∃ (x26:Int),
 At H3 ((a9.add (x25.toNat * nat_lit 9)).add (nat_lit 2)) [.int .i64 x26] ∧
 ((x26 == 18) = true →
 ∃ (a10:Addr),
 (A'3 = some a10 ∧ (0:Int) ≤ x25 ∧ x25 < (↑n'3:Int)) ∧
 ∃ (c4:Array Value) (T1:TypeId),
 H3 ((a10.add (x25.toNat * nat_lit 9)).add (nat_lit 4)).block = some (Obj.cells c4 T1) ∧
 ((a10.add (x25.toNat * nat_lit 9)).add (nat_lit 4)).spot = none ∧
 ((a10.add (x25.toNat * nat_lit 9)).add (nat_lit 4)).off + [Value.int IntKind.i64 (7:Int)].length ≤ c4.size ∧ ∀ (H11:Heap),H11 = H3.upd ((a10.add (x25.toNat * nat_lit 9)).add (nat_lit 4)).block (Obj.cells (splice c4 ((a10.add (x25.toNat * nat_lit 9)).add (nat_lit 4)).off [.int .i64 7]) T1) → Rel2 (IntKind.i64.wrap (x25 + 1)) H11 ∧ mu2 (IntKind.i64.wrap (x25 + 1)) H11 < mu2 x25 H3) ∧
 ((x26 == 18) = false → Rel2 (IntKind.i64.wrap (x25 + 1)) H3 ∧ mu2 (IntKind.i64.wrap (x25 + 1)) H3 < mu2 x25 H3)) ∧
 (decide (x25 < (↑n'3:Int)) = false → Rel A'3 n'3 c'3 x1 (IntKind.i64.wrap (x2 + 1)) H3 ∧ mu A'3 n'3 c'3 x1 (IntKind.i64.wrap (x2 + 1)) H3 < mu A n c x1 x2 H1)))) ∧
 ((x3 == 2) = false → Rel A n c x1 (IntKind.i64.wrap (x2 + 1)) H1 ∧ mu A n c x1 (IntKind.i64.wrap (x2 + 1)) H1 < mu A n c x1 x2 H1))) ∧
 (decide (x2 < (↑ln:Int)) = false → K (.tuple #[.pointer v1,.slice A n c,.bool true]) H1))
theorem v18 {pFuncsA:Option Addr} {pFuncsn pFuncsc:Nat} {pOptsA:Option Addr} {pOptsn pOptsc:Nat} {lA:Option Addr} {ln lc:Nat} {H:Heap} {K:Value → Heap → Prop} (h:F18 pFuncsA pFuncsn pFuncsc pOptsA pOptsn pOptsc lA ln lc H K):Tr Try.prog 18 #[.agg #[.slice pFuncsA pFuncsn pFuncsc,.slice pOptsA pOptsn pOptsc],.slice lA ln lc] H K :=
  tr_of_eq (C:=c18) Try.func18 (show vcFn c18 Try.f18 [.agg #[.slice pFuncsA pFuncsn pFuncsc,.slice pOptsA pOptsn pOptsc],.slice lA ln lc] H K = F18 pFuncsA pFuncsn pFuncsc pOptsA pOptsn pOptsc lA ln lc H K by kernel_rfl) h
noncomputable def c23:Cx:={ P:=Try.prog,res:=[],pub:=[],loops:=[⟨8,[(7,.int .i64)],[4,96,97,98,99,100,101,102,103,104,105,106,107,108,109,110,111,112,113,114,115,116],[]⟩,⟨13,[(8,.int .i64)],[4,117,118,119,120,121,122,123,124,125,126,127,128,129,130,131,132,133,134,135,136,137],[]⟩,⟨18,[(9,.int .i64)],[4,6,138,139,140,141,142,143,144,145,146,147,148,149,150,151,152,153,154,155,156,157],[]⟩],quiet:=[41,42],asm:=true }
def F23 (m:Option Addr) (lVars0:Int) (lVars1:Int) (lVars2:Int) (lVars3:Int) (lVars4:Int) (lVars5:Int) (lVars6:Int) (lVars7:Int) (lVars8:Int) (lVars9:Int) (lVars10:Int) (lVars11:Int) (lVars12:Int) (lVars13:Int) (lVars14:Int) (lVars15:Int) (lAttrs0:Int) (lAttrs1:Int) (lAttrs2:Int) (lAttrs3:Int) (lNow:Int) (lThreadsA:Option Addr) (lThreadsn lThreadsc:Nat) (lFuturesA:Option Addr) (lFuturesn lFuturesc:Nat) (lScopesA:Option Addr) (lScopesn lScopesc:Nat) (lSignalsA:Option Addr) (lSignalsn lSignalsc:Nat) (lOver:Bool) (H:Heap) (K:Value → Heap → Prop):Prop :=
 ∃ (a:Addr),
 m = some a ∧
 ∃ (A:Option Addr) (n c:Nat),
 At H ((a.add (nat_lit 2)).add (nat_lit 21)) [.slice A n c] ∧
 ∃ (a1:Addr),
 m = some a1 ∧
 ∃ (b:Bool),
 At H ((a1.add (nat_lit 2)).add (nat_lit 25)) [.bool b] ∧
 (b = true →
 ∃ (b1:Bool),
 (Tr Try.prog (41:Nat) #[.slice lThreadsA lThreadsn lThreadsc,.slice none (0:Nat) (0:Nat)] H fun v H'=>v = .bool b1 ∧ Ax.Sub H H') ∧
 ∃ (a2:Addr),
 ((!!b1) = true → m = some a2) ∧
 ∃ (x x1 x2 x3 x4 x5 x6 x7 x8 x9 x10 x11 x12 x13 x14 x15:Int),
 ((!!b1) = true → At H ((a2.add (nat_lit 2)).add (nat_lit 0)) [.int .i64 x,.int .i64 x1,.int .i64 x2,.int .i64 x3,.int .i64 x4,.int .i64 x5,.int .i64 x6,.int .i64 x7,.int .i64 x8,.int .i64 x9,.int .i64 x10,.int .i64 x11,.int .i64 x12,.int .i64 x13,.int .i64 x14,.int .i64 x15]) ∧
 ∃ (a3:Addr),
 ((!(!b1 || !(lVars0 == x && (lVars1 == x1 && (lVars2 == x2 && (lVars3 == x3 && (lVars4 == x4 && (lVars5 == x5 && (lVars6 == x6 && (lVars7 == x7 && (lVars8 == x8 && (lVars9 == x9 && (lVars10 == x10 && (lVars11 == x11 && (lVars12 == x12 && (lVars13 == x13 && (lVars14 == x14 && (lVars15 == x15 && true)))))))))))))))))) = true → m = some a3) ∧
 ∃ (x16 x17 x18 x19:Int),
 ((!(!b1 || !(lVars0 == x && (lVars1 == x1 && (lVars2 == x2 && (lVars3 == x3 && (lVars4 == x4 && (lVars5 == x5 && (lVars6 == x6 && (lVars7 == x7 && (lVars8 == x8 && (lVars9 == x9 && (lVars10 == x10 && (lVars11 == x11 && (lVars12 == x12 && (lVars13 == x13 && (lVars14 == x14 && (lVars15 == x15 && true)))))))))))))))))) = true → At H ((a3.add (nat_lit 2)).add (nat_lit 16)) [.int .i64 x16,.int .i64 x17,.int .i64 x18,.int .i64 x19]) ∧
 ∃ (a4:Addr),
 ((!(!b1 || !(lVars0 == x && (lVars1 == x1 && (lVars2 == x2 && (lVars3 == x3 && (lVars4 == x4 && (lVars5 == x5 && (lVars6 == x6 && (lVars7 == x7 && (lVars8 == x8 && (lVars9 == x9 && (lVars10 == x10 && (lVars11 == x11 && (lVars12 == x12 && (lVars13 == x13 && (lVars14 == x14 && (lVars15 == x15 && true)))))))))))))))) || !(lAttrs0 == x16 && (lAttrs1 == x17 && (lAttrs2 == x18 && (lAttrs3 == x19 && true)))))) = true → m = some a4) ∧
 ∃ (x20:Int),
 ((!(!b1 || !(lVars0 == x && (lVars1 == x1 && (lVars2 == x2 && (lVars3 == x3 && (lVars4 == x4 && (lVars5 == x5 && (lVars6 == x6 && (lVars7 == x7 && (lVars8 == x8 && (lVars9 == x9 && (lVars10 == x10 && (lVars11 == x11 && (lVars12 == x12 && (lVars13 == x13 && (lVars14 == x14 && (lVars15 == x15 && true)))))))))))))))) || !(lAttrs0 == x16 && (lAttrs1 == x17 && (lAttrs2 == x18 && (lAttrs3 == x19 && true)))))) = true → At H ((a4.add (nat_lit 2)).add (nat_lit 20)) [.int .i64 x20]) ∧
 ∃ (a5:Addr),
 ((!(!b1 || !(lVars0 == x && (lVars1 == x1 && (lVars2 == x2 && (lVars3 == x3 && (lVars4 == x4 && (lVars5 == x5 && (lVars6 == x6 && (lVars7 == x7 && (lVars8 == x8 && (lVars9 == x9 && (lVars10 == x10 && (lVars11 == x11 && (lVars12 == x12 && (lVars13 == x13 && (lVars14 == x14 && (lVars15 == x15 && true)))))))))))))))) || !(lAttrs0 == x16 && (lAttrs1 == x17 && (lAttrs2 == x18 && (lAttrs3 == x19 && true)))) || lNow != x20)) = true → m = some a5) ∧
 ∃ (b2:Bool),
 ((!(!b1 || !(lVars0 == x && (lVars1 == x1 && (lVars2 == x2 && (lVars3 == x3 && (lVars4 == x4 && (lVars5 == x5 && (lVars6 == x6 && (lVars7 == x7 && (lVars8 == x8 && (lVars9 == x9 && (lVars10 == x10 && (lVars11 == x11 && (lVars12 == x12 && (lVars13 == x13 && (lVars14 == x14 && (lVars15 == x15 && true)))))))))))))))) || !(lAttrs0 == x16 && (lAttrs1 == x17 && (lAttrs2 == x18 && (lAttrs3 == x19 && true)))) || lNow != x20)) = true → At H ((a5.add (nat_lit 2)).add (nat_lit 25)) [.bool b2]) ∧
 ∃ (a6:Addr),
 ((!(!b1 || !(lVars0 == x && (lVars1 == x1 && (lVars2 == x2 && (lVars3 == x3 && (lVars4 == x4 && (lVars5 == x5 && (lVars6 == x6 && (lVars7 == x7 && (lVars8 == x8 && (lVars9 == x9 && (lVars10 == x10 && (lVars11 == x11 && (lVars12 == x12 && (lVars13 == x13 && (lVars14 == x14 && (lVars15 == x15 && true)))))))))))))))) || !(lAttrs0 == x16 && (lAttrs1 == x17 && (lAttrs2 == x18 && (lAttrs3 == x19 && true)))) || lNow != x20 || !lOver == b2)) = true → m = some a6) ∧
 ∃ (A1:Option Addr) (n1 c1:Nat),
 ((!(!b1 || !(lVars0 == x && (lVars1 == x1 && (lVars2 == x2 && (lVars3 == x3 && (lVars4 == x4 && (lVars5 == x5 && (lVars6 == x6 && (lVars7 == x7 && (lVars8 == x8 && (lVars9 == x9 && (lVars10 == x10 && (lVars11 == x11 && (lVars12 == x12 && (lVars13 == x13 && (lVars14 == x14 && (lVars15 == x15 && true)))))))))))))))) || !(lAttrs0 == x16 && (lAttrs1 == x17 && (lAttrs2 == x18 && (lAttrs3 == x19 && true)))) || lNow != x20 || !lOver == b2)) = true →
 At H ((a6.add (nat_lit 2)).add (nat_lit 22)) [.slice A1 n1 c1]) ∧
 ∃ (a7:Addr),
 ((!(!b1 || !(lVars0 == x && (lVars1 == x1 && (lVars2 == x2 && (lVars3 == x3 && (lVars4 == x4 && (lVars5 == x5 && (lVars6 == x6 && (lVars7 == x7 && (lVars8 == x8 && (lVars9 == x9 && (lVars10 == x10 && (lVars11 == x11 && (lVars12 == x12 && (lVars13 == x13 && (lVars14 == x14 && (lVars15 == x15 && true)))))))))))))))) || !(lAttrs0 == x16 && (lAttrs1 == x17 && (lAttrs2 == x18 && (lAttrs3 == x19 && true)))) || lNow != x20 || !lOver == b2 || (↑lFuturesn:Int) != (↑n1:Int))) = true →
 m = some a7) ∧
 ∃ (A2:Option Addr) (n2 c2:Nat),
 ((!(!b1 || !(lVars0 == x && (lVars1 == x1 && (lVars2 == x2 && (lVars3 == x3 && (lVars4 == x4 && (lVars5 == x5 && (lVars6 == x6 && (lVars7 == x7 && (lVars8 == x8 && (lVars9 == x9 && (lVars10 == x10 && (lVars11 == x11 && (lVars12 == x12 && (lVars13 == x13 && (lVars14 == x14 && (lVars15 == x15 && true)))))))))))))))) || !(lAttrs0 == x16 && (lAttrs1 == x17 && (lAttrs2 == x18 && (lAttrs3 == x19 && true)))) || lNow != x20 || !lOver == b2 || (↑lFuturesn:Int) != (↑n1:Int))) =
 true →
 At H ((a7.add (nat_lit 2)).add (nat_lit 23)) [.slice A2 n2 c2]) ∧
 ((!b1 || !(lVars0 == x && (lVars1 == x1 && (lVars2 == x2 && (lVars3 == x3 && (lVars4 == x4 && (lVars5 == x5 && (lVars6 == x6 && (lVars7 == x7 && (lVars8 == x8 && (lVars9 == x9 && (lVars10 == x10 && (lVars11 == x11 && (lVars12 == x12 && (lVars13 == x13 && (lVars14 == x14 && (lVars15 == x15 && true)))))))))))))))) || !(lAttrs0 == x16 && (lAttrs1 == x17 && (lAttrs2 == x18 && (lAttrs3 == x19 && true)))) || lNow != x20 || !lOver == b2 || (↑lFuturesn:Int) != (↑n1:Int) ||
 (↑lScopesn:Int) != (↑n2:Int) ||
 (↑lSignalsn:Int) != 8) =
 true →
 K (.bool false) H) ∧
 ((!b1 || !(lVars0 == x && (lVars1 == x1 && (lVars2 == x2 && (lVars3 == x3 && (lVars4 == x4 && (lVars5 == x5 && (lVars6 == x6 && (lVars7 == x7 && (lVars8 == x8 && (lVars9 == x9 && (lVars10 == x10 && (lVars11 == x11 && (lVars12 == x12 && (lVars13 == x13 && (lVars14 == x14 && (lVars15 == x15 && true)))))))))))))))) || !(lAttrs0 == x16 && (lAttrs1 == x17 && (lAttrs2 == x18 && (lAttrs3 == x19 && true)))) || lNow != x20 || !lOver == b2 || (↑lFuturesn:Int) != (↑n1:Int) ||
 (↑lScopesn:Int) != (↑n2:Int) ||
 (↑lSignalsn:Int) != 8) =
 false →
 ∃ (Rel:Int → Heap → Prop) (mu:Int → Heap → Nat),
 Rel (0:Int) H ∧
 ∀ (x21:Int) (H1:Heap),
 Rel x21 H1 →
 (decide (x21 < (↑lFuturesn:Int)) = true →
 ∃ (a8:Addr),
 (lFuturesA = some a8 ∧ (0:Int) ≤ x21 ∧ x21 < (↑lFuturesn:Int)) ∧
 ∃ (x22 x23 x24:Int) (b3:Bool) (x25 x26:Int),
 At H1 (a8.add (x21.toNat * nat_lit 6)) [.int .i64 x22,.int .i64 x23,.int .i64 x24,.bool b3,.int .i64 x25,.int .i64 x26] ∧
 ∃ (a9:Addr),
 m = some a9 ∧
 ∃ (A3:Option Addr) (n3 c3:Nat),
 At H1 ((a9.add (nat_lit 2)).add (nat_lit 22)) [.slice A3 n3 c3] ∧
 ∃ (a10:Addr),
 (A3 = some a10 ∧ (0:Int) ≤ x21 ∧ x21 < (↑n3:Int)) ∧
 ∃ (x27 x28 x29:Int) (b4:Bool) (x30 x31:Int),
 At H1 (a10.add (x21.toNat * nat_lit 6)) [.int .i64 x27,.int .i64 x28,.int .i64 x29,.bool b4,.int .i64 x30,.int .i64 x31] ∧
 ((!(x22 == x27 && (x23 == x28 && (x24 == x29 && (b3 == b4 && (x25 == x30 && (x26 == x31 && true))))))) = true → K (.bool false) H1) ∧ ((!(x22 == x27 && (x23 == x28 && (x24 == x29 && (b3 == b4 && (x25 == x30 && (x26 == x31 && true))))))) = false → Rel (IntKind.i64.wrap (x21 + 1)) H1 ∧ mu (IntKind.i64.wrap (x21 + 1)) H1 < mu x21 H1)) ∧
 (decide (x21 < (↑lFuturesn:Int)) = false →
 ∃ (Rel1:Int → Heap → Prop) (mu1:Int → Heap → Nat),
 Rel1 (0:Int) H1 ∧
 ∀ (x32:Int) (H2:Heap),
 Rel1 x32 H2 →
 (decide (x32 < (↑lScopesn:Int)) = true →
 ∃ (a11:Addr),
 (lScopesA = some a11 ∧ (0:Int) ≤ x32 ∧ x32 < (↑lScopesn:Int)) ∧
 ∃ (x33:Int) (b5:Bool),
 At H2 (a11.add (x32.toNat * nat_lit 2)) [.int .i64 x33,.bool b5] ∧
 ∃ (a12:Addr),
 m = some a12 ∧
 ∃ (A4:Option Addr) (n4 c4:Nat),
 At H2 ((a12.add (nat_lit 2)).add (nat_lit 23)) [.slice A4 n4 c4] ∧
 ∃ (a13:Addr),(A4 = some a13 ∧ (0:Int) ≤ x32 ∧ x32 < (↑n4:Int)) ∧ ∃ (x34:Int),∃ (b6:Bool),At H2 (a13.add (x32.toNat * nat_lit 2)) [.int .i64 x34,.bool b6] ∧ ((!(x33 == x34 && (b5 == b6 && true))) = true → K (.bool false) H2) ∧ ((!(x33 == x34 && (b5 == b6 && true))) = false → Rel1 (IntKind.i64.wrap (x32 + 1)) H2 ∧ mu1 (IntKind.i64.wrap (x32 + 1)) H2 < mu1 x32 H2)) ∧
 (decide (x32 < (↑lScopesn:Int)) = false →
 ∃ (Rel2:Int → Heap → Prop) (mu2:Int → Heap → Nat),
 Rel2 (0:Int) H2 ∧
 ∀ (x35:Int) (H3:Heap),
 Rel2 x35 H3 →
 (decide (x35 < 8) = true →
 ∃ (a14:Addr),
 (lSignalsA = some a14 ∧ (0:Int) ≤ x35 ∧ x35 < (↑lSignalsn:Int)) ∧
 ∃ (A5:Option Addr) (n5 c5:Nat),
 At H3 (a14.add (x35.toNat * nat_lit 1)) [.slice A5 n5 c5] ∧
 ∃ (a15:Addr),
 m = some a15 ∧
 ∃ (A6:Option Addr) (n6 c6:Nat),
 At H3 ((a15.add (nat_lit 2)).add (nat_lit 24)) [.slice A6 n6 c6] ∧
 ∃ (a16:Addr),
 (A6 = some a16 ∧ (0:Int) ≤ x35 ∧ x35 < (↑n6:Int)) ∧
 ∃ (A7:Option Addr) (n7 c7:Nat),
 At H3 (a16.add (x35.toNat * nat_lit 1)) [.slice A7 n7 c7] ∧ ∃ (b7:Bool),(Tr Try.prog (42:Nat) #[.slice A5 n5 c5,.slice A7 n7 c7] H3 fun v1 H'1=>v1 = .bool b7 ∧ Ax.Sub H3 H'1) ∧ ((!b7) = true → K (.bool false) H3) ∧ ((!b7) = false → Rel2 (IntKind.i64.wrap (x35 + 1)) H3 ∧ mu2 (IntKind.i64.wrap (x35 + 1)) H3 < mu2 x35 H3)) ∧
 (decide (x35 < 8) = false → K (.bool true) H3))))) ∧
 (b = false →
 ∃ (b8:Bool),
 (Tr Try.prog (41:Nat) #[.slice lThreadsA lThreadsn lThreadsc,.slice A n c] H fun v2 H'2=>v2 = .bool b8 ∧ Ax.Sub H H'2) ∧
 ∃ (a17:Addr),
 ((!!b8) = true → m = some a17) ∧
 ∃ (x36 x37 x38 x39 x40 x41 x42 x43 x44 x45 x46 x47 x48 x49 x50 x51:Int),
 ((!!b8) = true → At H ((a17.add (nat_lit 2)).add (nat_lit 0)) [.int .i64 x36,.int .i64 x37,.int .i64 x38,.int .i64 x39,.int .i64 x40,.int .i64 x41,.int .i64 x42,.int .i64 x43,.int .i64 x44,.int .i64 x45,.int .i64 x46,.int .i64 x47,.int .i64 x48,.int .i64 x49,.int .i64 x50,.int .i64 x51]) ∧
 ∃ (a18:Addr),
 ((!(!b8 || !(lVars0 == x36 && (lVars1 == x37 && (lVars2 == x38 && (lVars3 == x39 && (lVars4 == x40 && (lVars5 == x41 && (lVars6 == x42 && (lVars7 == x43 && (lVars8 == x44 && (lVars9 == x45 && (lVars10 == x46 && (lVars11 == x47 && (lVars12 == x48 && (lVars13 == x49 && (lVars14 == x50 && (lVars15 == x51 && true)))))))))))))))))) = true → m = some a18) ∧
 ∃ (x52 x53 x54 x55:Int),
 ((!(!b8 || !(lVars0 == x36 && (lVars1 == x37 && (lVars2 == x38 && (lVars3 == x39 && (lVars4 == x40 && (lVars5 == x41 && (lVars6 == x42 && (lVars7 == x43 && (lVars8 == x44 && (lVars9 == x45 && (lVars10 == x46 && (lVars11 == x47 && (lVars12 == x48 && (lVars13 == x49 && (lVars14 == x50 && (lVars15 == x51 && true)))))))))))))))))) = true → At H ((a18.add (nat_lit 2)).add (nat_lit 16)) [.int .i64 x52,.int .i64 x53,.int .i64 x54,.int .i64 x55]) ∧
 ∃ (a19:Addr),
 ((!(!b8 || !(lVars0 == x36 && (lVars1 == x37 && (lVars2 == x38 && (lVars3 == x39 && (lVars4 == x40 && (lVars5 == x41 && (lVars6 == x42 && (lVars7 == x43 && (lVars8 == x44 && (lVars9 == x45 && (lVars10 == x46 && (lVars11 == x47 && (lVars12 == x48 && (lVars13 == x49 && (lVars14 == x50 && (lVars15 == x51 && true)))))))))))))))) || !(lAttrs0 == x52 && (lAttrs1 == x53 && (lAttrs2 == x54 && (lAttrs3 == x55 && true)))))) = true → m = some a19) ∧
 ∃ (x56:Int),
 ((!(!b8 || !(lVars0 == x36 && (lVars1 == x37 && (lVars2 == x38 && (lVars3 == x39 && (lVars4 == x40 && (lVars5 == x41 && (lVars6 == x42 && (lVars7 == x43 && (lVars8 == x44 && (lVars9 == x45 && (lVars10 == x46 && (lVars11 == x47 && (lVars12 == x48 && (lVars13 == x49 && (lVars14 == x50 && (lVars15 == x51 && true)))))))))))))))) || !(lAttrs0 == x52 && (lAttrs1 == x53 && (lAttrs2 == x54 && (lAttrs3 == x55 && true)))))) = true → At H ((a19.add (nat_lit 2)).add (nat_lit 20)) [.int .i64 x56]) ∧
 ∃ (a20:Addr),
 ((!(!b8 || !(lVars0 == x36 && (lVars1 == x37 && (lVars2 == x38 && (lVars3 == x39 && (lVars4 == x40 && (lVars5 == x41 && (lVars6 == x42 && (lVars7 == x43 && (lVars8 == x44 && (lVars9 == x45 && (lVars10 == x46 && (lVars11 == x47 && (lVars12 == x48 && (lVars13 == x49 && (lVars14 == x50 && (lVars15 == x51 && true)))))))))))))))) || !(lAttrs0 == x52 && (lAttrs1 == x53 && (lAttrs2 == x54 && (lAttrs3 == x55 && true)))) || lNow != x56)) = true → m = some a20) ∧
 ∃ (b9:Bool),
 ((!(!b8 || !(lVars0 == x36 && (lVars1 == x37 && (lVars2 == x38 && (lVars3 == x39 && (lVars4 == x40 && (lVars5 == x41 && (lVars6 == x42 && (lVars7 == x43 && (lVars8 == x44 && (lVars9 == x45 && (lVars10 == x46 && (lVars11 == x47 && (lVars12 == x48 && (lVars13 == x49 && (lVars14 == x50 && (lVars15 == x51 && true)))))))))))))))) || !(lAttrs0 == x52 && (lAttrs1 == x53 && (lAttrs2 == x54 && (lAttrs3 == x55 && true)))) || lNow != x56)) = true → At H ((a20.add (nat_lit 2)).add (nat_lit 25)) [.bool b9]) ∧
 ∃ (a21:Addr),
 ((!(!b8 || !(lVars0 == x36 && (lVars1 == x37 && (lVars2 == x38 && (lVars3 == x39 && (lVars4 == x40 && (lVars5 == x41 && (lVars6 == x42 && (lVars7 == x43 && (lVars8 == x44 && (lVars9 == x45 && (lVars10 == x46 && (lVars11 == x47 && (lVars12 == x48 && (lVars13 == x49 && (lVars14 == x50 && (lVars15 == x51 && true)))))))))))))))) || !(lAttrs0 == x52 && (lAttrs1 == x53 && (lAttrs2 == x54 && (lAttrs3 == x55 && true)))) || lNow != x56 || !lOver == b9)) = true → m = some a21) ∧
 ∃ (A8:Option Addr) (n8 c8:Nat),
 ((!(!b8 || !(lVars0 == x36 && (lVars1 == x37 && (lVars2 == x38 && (lVars3 == x39 && (lVars4 == x40 && (lVars5 == x41 && (lVars6 == x42 && (lVars7 == x43 && (lVars8 == x44 && (lVars9 == x45 && (lVars10 == x46 && (lVars11 == x47 && (lVars12 == x48 && (lVars13 == x49 && (lVars14 == x50 && (lVars15 == x51 && true)))))))))))))))) || !(lAttrs0 == x52 && (lAttrs1 == x53 && (lAttrs2 == x54 && (lAttrs3 == x55 && true)))) || lNow != x56 || !lOver == b9)) = true →
 At H ((a21.add (nat_lit 2)).add (nat_lit 22)) [.slice A8 n8 c8]) ∧
 ∃ (a22:Addr),
 ((!(!b8 || !(lVars0 == x36 && (lVars1 == x37 && (lVars2 == x38 && (lVars3 == x39 && (lVars4 == x40 && (lVars5 == x41 && (lVars6 == x42 && (lVars7 == x43 && (lVars8 == x44 && (lVars9 == x45 && (lVars10 == x46 && (lVars11 == x47 && (lVars12 == x48 && (lVars13 == x49 && (lVars14 == x50 && (lVars15 == x51 && true)))))))))))))))) || !(lAttrs0 == x52 && (lAttrs1 == x53 && (lAttrs2 == x54 && (lAttrs3 == x55 && true)))) || lNow != x56 || !lOver == b9 || (↑lFuturesn:Int) != (↑n8:Int))) =
 true →
 m = some a22) ∧
 ∃ (A9:Option Addr) (n9 c9:Nat),
 ((!(!b8 || !(lVars0 == x36 && (lVars1 == x37 && (lVars2 == x38 && (lVars3 == x39 && (lVars4 == x40 && (lVars5 == x41 && (lVars6 == x42 && (lVars7 == x43 && (lVars8 == x44 && (lVars9 == x45 && (lVars10 == x46 && (lVars11 == x47 && (lVars12 == x48 && (lVars13 == x49 && (lVars14 == x50 && (lVars15 == x51 && true)))))))))))))))) || !(lAttrs0 == x52 && (lAttrs1 == x53 && (lAttrs2 == x54 && (lAttrs3 == x55 && true)))) || lNow != x56 || !lOver == b9 ||
 (↑lFuturesn:Int) != (↑n8:Int))) =
 true →
 At H ((a22.add (nat_lit 2)).add (nat_lit 23)) [.slice A9 n9 c9]) ∧
 ((!b8 || !(lVars0 == x36 && (lVars1 == x37 && (lVars2 == x38 && (lVars3 == x39 && (lVars4 == x40 && (lVars5 == x41 && (lVars6 == x42 && (lVars7 == x43 && (lVars8 == x44 && (lVars9 == x45 && (lVars10 == x46 && (lVars11 == x47 && (lVars12 == x48 && (lVars13 == x49 && (lVars14 == x50 && (lVars15 == x51 && true)))))))))))))))) || !(lAttrs0 == x52 && (lAttrs1 == x53 && (lAttrs2 == x54 && (lAttrs3 == x55 && true)))) || lNow != x56 || !lOver == b9 ||
 (↑lFuturesn:Int) != (↑n8:Int) ||
 (↑lScopesn:Int) != (↑n9:Int) ||
 (↑lSignalsn:Int) != 8) =
 true →
 K (.bool false) H) ∧
 ((!b8 || !(lVars0 == x36 && (lVars1 == x37 && (lVars2 == x38 && (lVars3 == x39 && (lVars4 == x40 && (lVars5 == x41 && (lVars6 == x42 && (lVars7 == x43 && (lVars8 == x44 && (lVars9 == x45 && (lVars10 == x46 && (lVars11 == x47 && (lVars12 == x48 && (lVars13 == x49 && (lVars14 == x50 && (lVars15 == x51 && true)))))))))))))))) || !(lAttrs0 == x52 && (lAttrs1 == x53 && (lAttrs2 == x54 && (lAttrs3 == x55 && true)))) || lNow != x56 || !lOver == b9 ||
 (↑lFuturesn:Int) != (↑n8:Int) ||
 (↑lScopesn:Int) != (↑n9:Int) ||
 (↑lSignalsn:Int) != 8) =
 false →
 ∃ (Rel3:Int → Heap → Prop) (mu3:Int → Heap → Nat),
 Rel3 (0:Int) H ∧
 ∀ (x57:Int) (H4:Heap),
 Rel3 x57 H4 →
 (decide (x57 < (↑lFuturesn:Int)) = true →
 ∃ (a23:Addr),
 (lFuturesA = some a23 ∧ (0:Int) ≤ x57 ∧ x57 < (↑lFuturesn:Int)) ∧
 ∃ (x58 x59 x60:Int) (b10:Bool) (x61 x62:Int),
 At H4 (a23.add (x57.toNat * nat_lit 6)) [.int .i64 x58,.int .i64 x59,.int .i64 x60,.bool b10,.int .i64 x61,.int .i64 x62] ∧
 ∃ (a24:Addr),
 m = some a24 ∧
 ∃ (A10:Option Addr) (n10 c10:Nat),
 At H4 ((a24.add (nat_lit 2)).add (nat_lit 22)) [.slice A10 n10 c10] ∧
 ∃ (a25:Addr),
 (A10 = some a25 ∧ (0:Int) ≤ x57 ∧ x57 < (↑n10:Int)) ∧
 ∃ (x63 x64 x65:Int) (b11:Bool) (x66 x67:Int),
 At H4 (a25.add (x57.toNat * nat_lit 6)) [.int .i64 x63,.int .i64 x64,.int .i64 x65,.bool b11,.int .i64 x66,.int .i64 x67] ∧
 ((!(x58 == x63 && (x59 == x64 && (x60 == x65 && (b10 == b11 && (x61 == x66 && (x62 == x67 && true))))))) = true → K (.bool false) H4) ∧ ((!(x58 == x63 && (x59 == x64 && (x60 == x65 && (b10 == b11 && (x61 == x66 && (x62 == x67 && true))))))) = false → Rel3 (IntKind.i64.wrap (x57 + 1)) H4 ∧ mu3 (IntKind.i64.wrap (x57 + 1)) H4 < mu3 x57 H4)) ∧
 (decide (x57 < (↑lFuturesn:Int)) = false →
 ∃ (Rel4:Int → Heap → Prop) (mu4:Int → Heap → Nat),
 Rel4 (0:Int) H4 ∧
 ∀ (x68:Int) (H5:Heap),
 Rel4 x68 H5 →
 (decide (x68 < (↑lScopesn:Int)) = true →
 ∃ (a26:Addr),
 (lScopesA = some a26 ∧ (0:Int) ≤ x68 ∧ x68 < (↑lScopesn:Int)) ∧
 ∃ (x69:Int) (b12:Bool),
 At H5 (a26.add (x68.toNat * nat_lit 2)) [.int .i64 x69,.bool b12] ∧
 ∃ (a27:Addr),
 m = some a27 ∧
 ∃ (A11:Option Addr) (n11 c11:Nat),
 At H5 ((a27.add (nat_lit 2)).add (nat_lit 23)) [.slice A11 n11 c11] ∧
 ∃ (a28:Addr),(A11 = some a28 ∧ (0:Int) ≤ x68 ∧ x68 < (↑n11:Int)) ∧ ∃ (x70:Int),∃ (b13:Bool),At H5 (a28.add (x68.toNat * nat_lit 2)) [.int .i64 x70,.bool b13] ∧ ((!(x69 == x70 && (b12 == b13 && true))) = true → K (.bool false) H5) ∧ ((!(x69 == x70 && (b12 == b13 && true))) = false → Rel4 (IntKind.i64.wrap (x68 + 1)) H5 ∧ mu4 (IntKind.i64.wrap (x68 + 1)) H5 < mu4 x68 H5)) ∧
 (decide (x68 < (↑lScopesn:Int)) = false →
 ∃ (Rel5:Int → Heap → Prop) (mu5:Int → Heap → Nat),
 Rel5 (0:Int) H5 ∧
 ∀ (x71:Int) (H6:Heap),
 Rel5 x71 H6 →
 (decide (x71 < 8) = true →
 ∃ (a29:Addr),
 (lSignalsA = some a29 ∧ (0:Int) ≤ x71 ∧ x71 < (↑lSignalsn:Int)) ∧
 ∃ (A12:Option Addr) (n12 c12:Nat),
 At H6 (a29.add (x71.toNat * nat_lit 1)) [.slice A12 n12 c12] ∧
 ∃ (a30:Addr),
 m = some a30 ∧
 ∃ (A13:Option Addr) (n13 c13:Nat),
 At H6 ((a30.add (nat_lit 2)).add (nat_lit 24)) [.slice A13 n13 c13] ∧
 ∃ (a31:Addr),
 (A13 = some a31 ∧ (0:Int) ≤ x71 ∧ x71 < (↑n13:Int)) ∧
 ∃ (A14:Option Addr) (n14 c14:Nat),
 At H6 (a31.add (x71.toNat * nat_lit 1)) [.slice A14 n14 c14] ∧
 ∃ (b14:Bool),(Tr Try.prog (42:Nat) #[.slice A12 n12 c12,.slice A14 n14 c14] H6 fun v3 H'3=>v3 = .bool b14 ∧ Ax.Sub H6 H'3) ∧ ((!b14) = true → K (.bool false) H6) ∧ ((!b14) = false → Rel5 (IntKind.i64.wrap (x71 + 1)) H6 ∧ mu5 (IntKind.i64.wrap (x71 + 1)) H6 < mu5 x71 H6)) ∧
 (decide (x71 < 8) = false → K (.bool true) H6)))))
theorem v23 {m:Option Addr} {lVars0:Int} {lVars1:Int} {lVars2:Int} {lVars3:Int} {lVars4:Int} {lVars5:Int} {lVars6:Int} {lVars7:Int} {lVars8:Int} {lVars9:Int} {lVars10:Int} {lVars11:Int} {lVars12:Int} {lVars13:Int} {lVars14:Int} {lVars15:Int} {lAttrs0:Int} {lAttrs1:Int} {lAttrs2:Int} {lAttrs3:Int} {lNow:Int} {lThreadsA:Option Addr} {lThreadsn lThreadsc:Nat} {lFuturesA:Option Addr} {lFuturesn lFuturesc:Nat} {lScopesA:Option Addr} {lScopesn lScopesc:Nat} {lSignalsA:Option Addr} {lSignalsn lSignalsc:Nat} {lOver:Bool} {H:Heap} {K:Value → Heap → Prop} (h:F23 m lVars0 lVars1 lVars2 lVars3 lVars4 lVars5 lVars6 lVars7 lVars8 lVars9 lVars10 lVars11 lVars12 lVars13 lVars14 lVars15 lAttrs0 lAttrs1 lAttrs2 lAttrs3 lNow lThreadsA lThreadsn lThreadsc lFuturesA lFuturesn lFuturesc lScopesA lScopesn lScopesc lSignalsA lSignalsn lSignalsc lOver H K):Tr Try.prog 23 #[.pointer m,.agg #[.int .i64 lVars0,.int .i64 lVars1,.int .i64 lVars2,.int .i64 lVars3,.int .i64 lVars4,.int .i64 lVars5,.int .i64 lVars6,.int .i64 lVars7,.int .i64 lVars8,.int .i64 lVars9,.int .i64 lVars10,.int .i64 lVars11,.int .i64 lVars12,.int .i64 lVars13,.int .i64 lVars14,.int .i64 lVars15,.int .i64 lAttrs0,.int .i64 lAttrs1,.int .i64 lAttrs2,.int .i64 lAttrs3,.int .i64 lNow,.slice lThreadsA lThreadsn lThreadsc,.slice lFuturesA lFuturesn lFuturesc,.slice lScopesA lScopesn lScopesc,.slice lSignalsA lSignalsn lSignalsc,.bool lOver]] H K :=
  tr_of_eq (C:=c23) Try.func23 (show vcFn c23 Try.f23 [.pointer m,.agg #[.int .i64 lVars0,.int .i64 lVars1,.int .i64 lVars2,.int .i64 lVars3,.int .i64 lVars4,.int .i64 lVars5,.int .i64 lVars6,.int .i64 lVars7,.int .i64 lVars8,.int .i64 lVars9,.int .i64 lVars10,.int .i64 lVars11,.int .i64 lVars12,.int .i64 lVars13,.int .i64 lVars14,.int .i64 lVars15,.int .i64 lAttrs0,.int .i64 lAttrs1,.int .i64 lAttrs2,.int .i64 lAttrs3,.int .i64 lNow,.slice lThreadsA lThreadsn lThreadsc,.slice lFuturesA lFuturesn lFuturesc,.slice lScopesA lScopesn lScopesc,.slice lSignalsA lSignalsn lSignalsc,.bool lOver]] H K = F23 m lVars0 lVars1 lVars2 lVars3 lVars4 lVars5 lVars6 lVars7 lVars8 lVars9 lVars10 lVars11 lVars12 lVars13 lVars14 lVars15 lAttrs0 lAttrs1 lAttrs2 lAttrs3 lNow lThreadsA lThreadsn lThreadsc lFuturesA lFuturesn lFuturesc lScopesA lScopesn lScopesc lSignalsA lSignalsn lSignalsc lOver H K by kernel_rfl) h
noncomputable def c41:Cx:={ P:=Try.prog,res:=[],pub:=[],loops:=[⟨4,[(5,.int .i64)],[4,6,7,8,14,15,16,17,18,19,20,21,22,23,24,25,26,27,28,29,30,31,32,33,34,35,36,37,38,39,40,41,42,43,44,45,46,47,48,49,50,51,52,53,54,55,56,57,58,59,60,61,62,63,64,65,66,67,68,69,70,71,72,73,74,75,76,77,78,79,80,81,82,83,84,85,86,87,88,89,90],[]⟩],quiet:=[42],asm:=true }
def F41 (aA:Option Addr) (an ac:Nat) (bA:Option Addr) (bn bc:Nat) (H:Heap) (K:Value → Heap → Prop):Prop :=
 (((↑an:Int) != (↑bn:Int)) = true → K (.bool false) H) ∧
 (((↑an:Int) != (↑bn:Int)) = false →
 ∃ (Rel:Int → Heap → Prop) (mu:Int → Heap → Nat),
 Rel (0:Int) H ∧
 ∀ (x:Int) (H1:Heap),
 Rel x H1 →
 (decide (x < (↑an:Int)) = true →
 ∃ (a:Addr),
 (aA = some a ∧ (0:Int) ≤ x ∧ x < (↑an:Int)) ∧
 ∃ (x1 x2 x3:Int) (A:Option Addr) (n c:Nat) (x4 x5 x6 x7 x8:Int),
 At H1 (a.add (x.toNat * nat_lit 9)) [.int .i64 x1,.int .i64 x2,.int .i64 x3,.slice A n c,.int .i64 x4,.int .i64 x5,.int .i64 x6,.int .i64 x7,.int .i64 x8] ∧
 ∃ (a1:Addr),
 (bA = some a1 ∧ (0:Int) ≤ x ∧ x < (↑bn:Int)) ∧
 ∃ (x9 x10 x11:Int) (A1:Option Addr) (n1 c1:Nat) (x12 x13 x14 x15 x16:Int),
 At H1 (a1.add (x.toNat * nat_lit 9)) [.int .i64 x9,.int .i64 x10,.int .i64 x11,.slice A1 n1 c1,.int .i64 x12,.int .i64 x13,.int .i64 x14,.int .i64 x15,.int .i64 x16] ∧
 ∃ (b:Bool),(Tr Try.prog (42:Nat) #[.slice A n c,.slice A1 n1 c1] H1 fun v H'=>v = .bool b ∧ Ax.Sub H1 H') ∧ ((!b || x1 != x9 || x2 != x10 || x3 != x11 || x4 != x12 || x5 != x13 || x6 != x14 || x7 != x15 || x8 != x16) = true → K (.bool false) H1) ∧ ((!b || x1 != x9 || x2 != x10 || x3 != x11 || x4 != x12 || x5 != x13 || x6 != x14 || x7 != x15 || x8 != x16) = false → Rel (IntKind.i64.wrap (x + 1)) H1 ∧ mu (IntKind.i64.wrap (x + 1)) H1 < mu x H1)) ∧
 (decide (x < (↑an:Int)) = false → K (.bool true) H1))
theorem v41 {aA:Option Addr} {an ac:Nat} {bA:Option Addr} {bn bc:Nat} {H:Heap} {K:Value → Heap → Prop} (h:F41 aA an ac bA bn bc H K):Tr Try.prog 41 #[.slice aA an ac,.slice bA bn bc] H K :=
  tr_of_eq (C:=c41) Try.func41 (show vcFn c41 Try.f41 [.slice aA an ac,.slice bA bn bc] H K = F41 aA an ac bA bn bc H K by kernel_rfl) h
noncomputable def c42:Cx:={ P:=Try.prog,res:=[],pub:=[],loops:=[⟨4,[(5,.int .i64)],[4,11,12,13,14,15,16,17,18,19,20,21,22,23,24,25],[]⟩],quiet:=[],asm:=true }
def F42 (aA:Option Addr) (an ac:Nat) (bA:Option Addr) (bn bc:Nat) (H:Heap) (K:Value → Heap → Prop):Prop :=
 (((↑an:Int) != (↑bn:Int)) = true → K (.bool false) H) ∧
 (((↑an:Int) != (↑bn:Int)) = false →
 ∃ (Rel:Int → Heap → Prop) (mu:Int → Heap → Nat),
 Rel (0:Int) H ∧
 ∀ (x:Int) (H1:Heap),Rel x H1 → (decide (x < (↑an:Int)) = true → ∃ (a:Addr),(aA = some a ∧ (0:Int) ≤ x ∧ x < (↑an:Int)) ∧ ∃ (x1:Int),At H1 (a.add (x.toNat * nat_lit 1)) [.int .i64 x1] ∧ ∃ (a1:Addr),(bA = some a1 ∧ (0:Int) ≤ x ∧ x < (↑bn:Int)) ∧ ∃ (x2:Int),At H1 (a1.add (x.toNat * nat_lit 1)) [.int .i64 x2] ∧ ((x1 != x2) = true → K (.bool false) H1) ∧ ((x1 != x2) = false → Rel (IntKind.i64.wrap (x + 1)) H1 ∧ mu (IntKind.i64.wrap (x + 1)) H1 < mu x H1)) ∧ (decide (x < (↑an:Int)) = false → K (.bool true) H1))
theorem v42 {aA:Option Addr} {an ac:Nat} {bA:Option Addr} {bn bc:Nat} {H:Heap} {K:Value → Heap → Prop} (h:F42 aA an ac bA bn bc H K):Tr Try.prog 42 #[.slice aA an ac,.slice bA bn bc] H K :=
  tr_of_eq (C:=c42) Try.func42 (show vcFn c42 Try.f42 [.slice aA an ac,.slice bA bn bc] H K = F42 aA an ac bA bn bc H K by kernel_rfl) h
end Go.Proofs.Ytjmdoiakcakfoaa
