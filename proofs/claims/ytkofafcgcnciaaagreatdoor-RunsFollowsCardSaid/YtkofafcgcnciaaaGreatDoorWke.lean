/- Lemmas that the claim needs, in order. Conditions: those of each lemma. -/
import Derived.Test.YtkofafcgcnciaaaGreatDoorWkd
set_option maxRecDepth 100000
namespace Go.Ax
theorem SlOk.blk_some {H:Heap} {h:SlH} {sz:Nat} {cs:List Value} (k:SlOk H h sz cs) {i:Nat} (hi:h.blk = some i):(H i).isSome = true:=by
  rcases k.at_ with a | ⟨b',off,cur,T,a1,a2,_⟩
  · unfold SlH.blk at hi; rw [a.1] at hi; cases hi
  · unfold SlH.blk at hi; rw [a1] at hi; cases hi; rw [a2]; rfl
end Go.Ax
namespace Go.Proofs.YtkofafcgcnciaaaGreatDoor
open Go.Ax
def rCells (sl:Nat → SlH) (R:RS):List Value :=
  [.int .i64 R.number,.int .i64 R.type,.int .i64 R.status,.string R.id,.int .i64 R.begun,.int .i64 R.ended,.int .i64 R.deadline,.int .i64 R.parent,.int .i64 R.event,.int .i64 R.seen,.int .i64 R.value] ++ cellsV 4 R.attrs ++ [(sl 0).v,(sl 1).v,(sl 2).v,(sl 3).v,(sl 4).v]
def szR (c:Nat):Nat:=if c = 0 then 9 else if c = 1 then 10 else if c = 2 then 2 else if c = 3 then 5 else 4
def contR (R:RS) (c:Nat):List Value:=if c = 0 then R.events.flatMap Ev.cells else if c = 1 then R.acts.flatMap AcM.cells else if c = 2 then R.timers.flatMap TmM.cells else if c = 3 then R.kids.flatMap KdM.cells else R.updates.flatMap UpM.cells
structure RunX (G H:Heap) (b:Nat) (sl:Nat → SlH) (R:RS):Prop where
  gh:Sub G H
  gb:G b = none
  hb:H b = some (.cells ⟨rCells sl R⟩ 34 (0,0))
  own:∀ c,c < 5 → ∀ i,(sl c).blk = some i → G i = none ∧ i ≠ b
  inj:∀ c c' i,c < 5 → c' < 5 → (sl c).blk = some i → (sl c').blk = some i → c = c'
  ok:∀ c,c < 5 → SlOk H (sl c) (szR c) (contR R c)
  attrs:R.attrs.length = 4
section
variable {G G' H H':Heap} {b:Nat} {sl:Nat → SlH} {R:RS}
theorem RunX.frame (h:RunX G H b sl R) (gh:Sub G' H') (fn:∀ i,G i = none → (H i).isSome = true → (i = b ∨ ∃ c,c < 5 ∧ (sl c).blk = some i) → G' i = none ∧ H' i = H i):RunX G' H' b sl R:=by
  have hm:=fn b h.gb (by rw [h.hb]; rfl) (.inl rfl)
  have slb:∀ c,c < 5 → ∀ i,(sl c).blk = some i → G' i = none ∧ H' i = H i:=fun c hc i hi=>fn i (h.own c hc i hi).1 ((h.ok c hc).blk_some hi) (.inr ⟨c,hc,hi⟩)
  exact ⟨gh,hm.1,by rw [hm.2]; exact h.hb,fun c hc i hi=>⟨(slb c hc i hi).1,(h.own c hc i hi).2⟩,h.inj,fun c hc=>(h.ok c hc).mono fun i hi=>(slb c hc i hi).2,h.attrs⟩
theorem up_sub {X Y:Heap} (k:Sub X Y) (i:Nat) (y:Obj):Sub (X.upd i y) (Y.upd i y):=⟨fun j x hx=>by
  by_cases e:j = i
  · subst e; rw [Heap.upd_same] at hx ⊢; exact hx
  · rw [Heap.upd_other e] at hx ⊢; exact k.sub j x hx⟩
theorem RunX.turn (h:RunX G H b sl R) {i:Nat} {o:Obj} (hi:G i = some o) (y:Obj):RunX (G.upd i y) (H.upd i y) b sl R :=
  h.frame (up_sub h.gh i y) fun j hn _ _=>by
    have hne:j ≠ i:=fun e=>by subst e; rw [hi] at hn; cases hn
    exact ⟨by rw [Heap.upd_other hne]; exact hn,Heap.upd_other hne⟩
theorem RunX.ext (h:RunX G H b sl R) {i:Nat} (hi:H i = none) (o:Obj):RunX (G.upd i o) (H.upd i o) b sl R :=
  h.frame (up_sub h.gh i o) fun j hn hs _=>by
    have hne:j ≠ i:=fun e=>by subst e; rw [hi] at hs; cases hs
    exact ⟨by rw [Heap.upd_other hne]; exact hn,Heap.upd_other hne⟩
theorem RunX.weaken (h:RunX G H b sl R) {G0:Heap} (k:Sub G0 G):RunX G0 H b sl R:=h.frame (k.trans h.gh) fun _ hn _ _=>⟨none_below k hn,rfl⟩
theorem RunX.grow (h:RunX G H b sl R) (k:Sub H H'):RunX G H' b sl R:=h.frame (h.gh.trans k) fun _ hn hs _=>⟨hn,by
  obtain ⟨o,ho⟩:=Option.isSome_iff_exists.1 hs
  rw [ho,k.sub _ _ ho]⟩
theorem RunX.know (h:RunX G H b sl R) (gh:Sub G' H) (n:∀ i,(G' i).isSome = true → (G i).isSome = true ∨ (i ≠ b ∧ ∀ c,c < 5 → (sl c).blk ≠ some i)):RunX G' H b sl R :=
  h.frame gh fun j hn hs hj=>⟨by
    cases e:G' j with
    | none=>rfl
    | some o =>
      rcases n j (by rw [e]; rfl) with q | ⟨q1,q2⟩
      · rw [hn] at q; cases q
      · rcases hj with rfl | ⟨c,hc,hb⟩
        · exact absurd rfl q1
        · exact absurd hb (q2 c hc),rfl⟩
theorem RunX.at (h:RunX G H b sl R):At H ⟨b,0,none⟩ (rCells sl R):=⟨⟨_,_,_,h.hb,rfl,fun j v hv=>by simpa using hv⟩⟩
theorem RunX.cell (h:RunX G H b sl R) {k:Nat} {v:Value} (hv:(rCells sl R)[k]? = some v):At H ((⟨b,0,none⟩:Addr).add k) [v]:=by
  refine ⟨⟨_,_,_,by rw [add_block]; exact h.hb,add_spot _ _,fun j u hj=>?_⟩⟩
  rw [add_off]
  cases j with
  | succ j=>simp at hj
  | zero=>simp at hj; subst hj; simpa using hv
theorem rCells_len:(rCells sl R).length = 20:=rfl
theorem RunX.wr (h : RunX G H b sl R) {k : Nat} (hk : k < 20) {v : Value} (R' : RS) (e : (rCells sl R).set k v = rCells sl R') (ec : ∀ c, contR R' c = contR R c) (ea : R'.attrs.length = 4)
    {Q:Heap → Prop} (q:∀ H',RunX G H' b sl R' → Q H'):Wr H ((⟨b,0,none⟩:Addr).add k) v Q:=by
  refine wr_cells h.hb (by rw [rCells_len]; exact hk) (q _ ?_)
  rw [e]
  refine ⟨⟨fun i o ho=>?_⟩,h.gb,Heap.upd_same,h.own,h.inj,fun c hc=>?_,ea⟩
  · rw [Heap.upd_other (fun e=>by subst e; rw [h.gb] at ho; cases ho)]; exact h.gh.sub _ _ ho
  · rw [ec]; exact (h.ok c hc).mono fun i hi=>Heap.upd_other (h.own c hc i hi).2
structure RReady (G H:Heap) (b:Nat) (sl:Nat → SlH) (c:Nat) (hn:SlH) (cs:List Value):Prop where
  ok:SlOk H hn (szR c) cs
  free:∀ i,hn.blk = some i → G i = none ∧ i ≠ b ∧ ∀ c',c' < 5 → (sl c').blk = some i → c' = c
theorem RunX.wrSl (h : RunX G H b sl R) {c : Nat} (hc : c < 5) {hn : SlH} {cs : List Value} (r : RReady G H b sl c hn cs) {k : Nat} (hk : k < 20) (R' : RS) (e : (rCells sl R).set k hn.v = rCells (setH sl c hn) R')
    (e0:contR R' c = cs) (ec:∀ c',c' < 5 → c' ≠ c → contR R' c' = contR R c') (ea:R'.attrs.length = 4) {Q:Heap → Prop} (q:∀ H',RunX G H' b (setH sl c hn) R' → Q H'):Wr H ((⟨b,0,none⟩:Addr).add k) hn.v Q:=by
  have get:∀ c',setH sl c hn c' = if c' = c then hn else sl c':=fun _=>rfl
  refine wr_cells h.hb (by rw [rCells_len]; exact hk) (q _ ?_)
  rw [e]
  refine ⟨⟨fun i o ho=>?_⟩,h.gb,Heap.upd_same,fun c' hc' i hi=>?_,fun c1 c2 i hc1 hc2 h1 h2=>?_,fun c' hc'=>?_,ea⟩
  · rw [Heap.upd_other (fun e=>by subst e; rw [h.gb] at ho; cases ho)]; exact h.gh.sub _ _ ho
  · rw [get] at hi
    split at hi
    · exact ⟨(r.free i hi).1,(r.free i hi).2.1⟩
    · exact h.own c' hc' i hi
  · rw [get] at h1 h2
    split at h1
    · rename_i q1
      split at h2
      · rename_i q2; rw [q1,q2]
      · rw [q1]; exact ((r.free i h1).2.2 c2 hc2 h2).symm
    · split at h2
      · rename_i q2; rw [q2]; exact (r.free i h2).2.2 c1 hc1 h1
      · exact h.inj c1 c2 i hc1 hc2 h1 h2
  · by_cases hcc:c' = c
    · subst hcc
      rw [e0,get,if_pos rfl]
      exact r.ok.mono fun i hi=>Heap.upd_other (r.free i hi).2.1
    · rw [ec c' hc' hcc,get,if_neg hcc]
      exact (h.ok c' hc').mono fun i hi=>Heap.upd_other (h.own c' hc' i hi).2
theorem RunX.own_free (h:RunX G H b sl R) {c i:Nat} (hc:c < 5) (hi:(sl c).blk = some i):G i = none ∧ i ≠ b ∧ ∀ c',c' < 5 → (sl c').blk = some i → c' = c:=⟨(h.own c hc i hi).1,(h.own c hc i hi).2,fun c' hc' q=>h.inj c' c i hc' hc q hi⟩
theorem RunX.new_free (h:RunX G H b sl R) {c i:Nat} (hi:H i = none):G i = none ∧ i ≠ b ∧ ∀ c',c' < 5 → (sl c').blk = some i → c' = c :=
  ⟨none_below h.gh hi,fun e=>(by subst e; rw [h.hb] at hi; cases hi),fun c' hc' hb'=>by have:=(h.ok c' hc').blk_some hb'; rw [hi] at this; cases this⟩
theorem RunX.app (h : RunX G H b sl R) {c : Nat} (hc : c < 5) {e : TypeId} {bytes : Nat} {new : List Value} {k : Nat} (hk : new.length = k * szR c) (h1 : allOne new = true) (hb : ((sl c).n + k) * bytes ≤ 140737488355328) (hl : (sl c).n + k ≤ 9223372036854775807)
    {K:Option Addr → Nat → Nat → Heap → Prop} (q:∀ A' c' H',RunX G H' b sl R → RReady G H' b sl c ⟨A',(sl c).n + k,c'⟩ (contR R c ++ new) → K A' ((sl c).n + k) c' H') :
    appC e (szR c) bytes H (sl c).A (sl c).n (sl c).c new k K:=by
  have ok:=h.ok c hc
  refine ⟨⟨contR R c,ok.src,ok.len,hk,h1,hb,hl,fun hcap=>?_,fun hcap i cap rest hbn hle hr=>?_⟩⟩
  · rcases ok.at_ with ⟨a1,a2,a3⟩ | ⟨i,off,cur,T,a1,a2,a3,a4⟩
    · left
      have k0:k = 0:=by omega
      subst k0
      have hn:new = []:=List.length_eq_zero_iff.1 (by omega)
      subst hn
      refine ⟨rfl,q _ _ _ h ⟨⟨by rw [List.append_nil]; simpa using ok.len,hcap,.inl ⟨a1,by simp only; omega,a3⟩⟩,fun i hi=>?_⟩⟩
      unfold SlH.blk at hi; simp only at hi; rw [a1] at hi; cases hi
    · right
      have hsz:(off + (sl c).n * szR c) + new.length ≤ cur.size:=by
        have:((sl c).n + k) * szR c ≤ (sl c).c * szR c:=Nat.mul_le_mul_right _ hcap
        rw [Nat.add_mul] at this
        omega
      have hblk:(sl c).blk = some i:=by unfold SlH.blk; rw [a1]; rfl
      have fr:=h.own_free hc hblk
      have hlen:=ok.len
      have old:∀ j v,(contR R c)[j]? = some v → (splice cur (off + (sl c).n * szR c) new)[off + j]? = some v:=fun j v hv=>by
        rw [splice_get hsz,if_pos (by have:=get_lt hv; omega)]; exact a4 j v hv
      refine ⟨⟨i,off,none⟩,cur,T,a1,rfl,a2,hsz,q _ _ _ ?_ ⟨⟨?_,hcap,.inr ⟨i,off,_,T,a1,Heap.upd_same,?_,fun j v hv=>?_⟩⟩,fun b' hb'=>?_⟩⟩
      · refine ⟨⟨fun i' o ho=>?_⟩,h.gb,by rw [Heap.upd_other (fun e=>fr.2.1 e.symm)]; exact h.hb,h.own,h.inj,fun c' hc'=>?_,h.attrs⟩
        · rw [Heap.upd_other (fun e=>by subst e; rw [fr.1] at ho; cases ho)]; exact h.gh.sub _ _ ho
        · by_cases hcc:c' = c
          · subst hcc
            exact ⟨ok.len,ok.cap,.inr ⟨i,off,_,T,a1,Heap.upd_same,by rw [splice_size hsz]; exact a3,old⟩⟩
          · exact (h.ok c' hc').mono fun b' hb'=>Heap.upd_other fun e=>by subst e; exact hcc (fr.2.2 c' hc' hb')
      · rw [List.length_append,hlen,hk,Nat.add_mul]
      · rw [splice_size hsz]; exact a3
      · by_cases hj:j < (sl c).n * szR c
        · rw [List.getElem?_append_left (by omega)] at hv
          exact old j v hv
        · have hlt:=get_lt hv
          rw [List.length_append] at hlt
          rw [List.getElem?_append_right (by omega),hlen] at hv
          rw [splice_get hsz,if_neg (by omega),if_pos (by omega)]
          rw [← hv]; congr 1; omega
      · unfold SlH.blk at hb'; simp only at hb'; rw [a1] at hb'; cases hb'
        exact fr
  · have h':=h.grow (Sub.upd_new (o:=.cells ⟨contR R c ++ new ++ rest⟩ e (0,0)) hbn)
    have fr:=h.new_free (c:=c) hbn
    refine q _ _ _ h' ⟨⟨by rw [List.length_append,ok.len,hk,Nat.add_mul],hle,.inr ⟨i,0,_,e,rfl,Heap.upd_same,?_,fun j v hv=>?_⟩⟩,fun b' hb'=>?_⟩
    · simp only [List.size_toArray,List.length_append,ok.len,hk,hr]
      rw [← Nat.add_mul,← Nat.add_mul]
      have:(sl c).n + k + (cap - ((sl c).n + k)) = cap:=by omega
      rw [this]; simp
    · have hj:=get_lt hv
      simp only [List.getElem?_toArray,Nat.zero_add]
      rw [List.getElem?_append_left hj]; exact hv
    · unfold SlH.blk at hb'; simp only at hb'; cases hb'
      exact fr
theorem RunX.put (h : RunX G H b sl R) {c : Nat} (hc : c < 5) {a : Addr} (ha : (sl c).A = some a) {k : Nat} {v : Value} (hk : k < (contR R c).length) (R' : RS) (e0 : contR R' c = (contR R c).set k v) (ec : ∀ c', c' < 5 → c' ≠ c → contR R' c' = contR R c')
    (em:rCells sl R' = rCells sl R) (ea:R'.attrs.length = 4) {Q:Heap → Prop} (q:∀ H',RunX G H' b sl R' → Q H'):Wr H (a.add k) v Q:=by
  have ok:=h.ok c hc
  have hlen:=ok.len
  rcases ok.at_ with ⟨a1,_⟩ | ⟨i,off,cur,T,a1,a2,a3,a4⟩
  · rw [a1] at ha; cases ha
  · rw [a1] at ha; cases ha
    have b0:((⟨i,off,none⟩:Addr).add k).block = i:=by unfold Addr.add; split <;> rfl
    have o0:((⟨i,off,none⟩:Addr).add k).off = off + k:=by unfold Addr.add; split <;> simp_all
    have s0:((⟨i,off,none⟩:Addr).add k).spot = none:=by unfold Addr.add; split <;> rfl
    unfold Wr
    rw [b0,o0,s0]
    have hcap:(sl c).n * szR c ≤ (sl c).c * szR c:=Nat.mul_le_mul_right _ ok.cap
    have hsz:off + k + [v].length ≤ cur.size:=by show off + k + 1 ≤ _; omega
    have hblk:(sl c).blk = some i:=by unfold SlH.blk; rw [a1]; rfl
    have fr:=h.own_free hc hblk
    refine ⟨cur,T,a2,rfl,hsz,fun H1 e=>q H1 ?_⟩
    subst e
    refine ⟨⟨fun i' o ho=>?_⟩,h.gb,by rw [Heap.upd_other (fun e=>fr.2.1 e.symm),em]; exact h.hb,h.own,h.inj,fun c' hc'=>?_,ea⟩
    · rw [Heap.upd_other (fun e=>by subst e; rw [fr.1] at ho; cases ho)]; exact h.gh.sub _ _ ho
    · by_cases hcc:c' = c
      · subst hcc
        rw [e0]
        refine ⟨by rw [List.length_set]; exact hlen,ok.cap,.inr ⟨i,off,_,T,a1,Heap.upd_same,by rw [splice_size hsz]; exact a3,fun j u hu=>?_⟩⟩
        rw [splice_get hsz]
        rw [List.getElem?_set] at hu
        by_cases hj:k = j
        · subst hj
          rw [if_pos rfl,if_pos hk] at hu
          rw [if_neg (by omega),if_pos (by show off + k < off + k + 1; omega)]
          have:off + k - (off + k) = 0:=by omega
          rw [this]; exact hu
        · rw [if_neg hj] at hu
          have:=a4 j u hu
          by_cases hlt:off + j < off + k
          · rw [if_pos hlt]; exact this
          · rw [if_neg hlt,if_neg (by show ¬ off + j < off + k + 1; omega)]; exact this
      · rw [ec c' hc' hcc]
        exact (h.ok c' hc').mono fun b' hb'=>Heap.upd_other fun e=>by subst e; exact hcc (fr.2.2 c' hc' hb')
end
end Go.Proofs.YtkofafcgcnciaaaGreatDoor
set_option maxRecDepth 100000
set_option linter.unusedVariables false
namespace Go.Proofs.YtkofafcgcnciaaaGreatDoor
open Go.Ax
noncomputable def c36:Cx:={ P:=Tryz.prog,res:=[],pub:=[],loops:=[],quiet:=[],asm:=true }
def F36 (hA:Option Addr) (hn hc:Nat) (H:Heap) (K:Value → Heap → Prop):Prop:=Tr Tryz.prog (84:Nat) #[.slice hA hn hc] H fun v H' =>
 ∃ (v1:Option Addr) (x:Int),
 v = .tuple #[.pointer v1,.int .i64 x] ∧
 (decide (x < (↑hn:Int)) = true → K (.tuple #[.int .i64 52,.int .i64 x]) H') ∧
 (decide (x < (↑hn:Int)) = false → K (.tuple #[.int .i64 0,.int .i64 0]) H')

theorem v36 {hA:Option Addr} {hn hc:Nat} {H:Heap} {K:Value → Heap → Prop} (h:F36 hA hn hc H K):Tr Tryz.prog 36 #[.slice hA hn hc] H K :=
  tr_of_eq (C:=c36) Tryz.func36 (show vcFn c36 Tryz.f36 [.slice hA hn hc] H K = F36 hA hn hc H K by kernel_rfl) h
noncomputable def c84:Cx:={ P:=Tryz.prog,res:=[],pub:=[9],loops:=[⟨3,[(12,.int .i64)],[2,3,5,6,13,14,15,16,17,18,19,20,21,22,23,24,25,26,27,28,29,30,31,32,33,34,35,36,37,38,39,40,41,42,43,44,45,46,47,48],[]⟩],quiet:=[53,128],draws:=[⟨7,[5],[],false,true⟩,⟨8,[5,7],[],false,true⟩],asm:=true }
def F84 (hA:Option Addr) (hn hc:Nat) (H:Heap) (K:Value → Heap → Prop):Prop:=∀ (b:Nat),H b = none → ∀ (H1:Heap),H1 = H.upd b (Obj.map #[] (0:Nat)) → ∀ (b1:Nat),H1 b1 = none → ∀ (H11:Heap),H11 = H1.upd b1 (Obj.cells #[.slice none (0:Nat) (0:Nat),.map (some b),.bool false] (177:Nat)) →
 ∃ (Rel:Int → Heap → Prop) (mu:Int → Heap → Nat),
 Rel (0:Int) H11 ∧
 ∀ (x:Int) (H1:Heap),Rel x H1 → (decide (x < (↑hn:Int)) = true →
 ∃ (a:Addr),
 (hA = some a ∧
 (0:Int) ≤ x ∧
 x < (↑hn:Int)) ∧
 ∃ (x1 x2 x3 x4 x5 x6 x7 x8 x9:Int),
 At H1 (a.add (x.toNat * nat_lit 9)) [.int .i64 x1,.int .i64 x2,.int .i64 x3,.int .i64 x4,.int .i64 x5,.int .i64 x6,.int .i64 x7,.int .i64 x8,.int .i64 x9] ∧
 ∃ (b2:Bool),
 (Tr Tryz.prog (128:Nat) #[.pointer (some (⟨b1,0,none⟩:Addr)),.agg #[.int .i64 x1,.int .i64 x2,.int .i64 x3,.int .i64 x4,.int .i64 x5,.int .i64 x6,.int .i64 x7,.int .i64 x8,.int .i64 x9]] H1 fun v H'=>v = .bool b2 ∧
 Ax.Sub H1 H') ∧
 ((!b2) = true → K (.tuple #[.pointer (some (⟨b1,0,none⟩:Addr)),.int .i64 x]) H1) ∧
 ((!b2) = false →
 ∃ (a1:Addr),
 some (⟨b1,0,none⟩:Addr) = some a1 ∧
 (∃ (A:Option Addr),
 ∃ (n c:Nat),
 At H1 (a1.add (nat_lit 0)) [.slice A n c] ∧
 appC (47:Nat) (nat_lit 9) (nat_lit 72) H1 A n c [.int .i64 x1,.int .i64 x2,.int .i64 x3,.int .i64 x4,.int .i64 x5,.int .i64 x6,.int .i64 x7,.int .i64 x8,.int .i64 x9] (1:Nat) fun (A':Option Addr) (n' c':Nat) (H'1:Heap) =>
 ∃ (a2:Addr),
 some (⟨b1,0,none⟩:Addr) = some a2 ∧
 StL H'1 (a2.add (nat_lit 0)) [.slice A' n' c'] fun H12 =>
 ∃ (a3:Addr),
 some (⟨b1,0,none⟩:Addr) = some a3 ∧
 ∃ (v1:Option Nat),
 At H12 (a3.add (nat_lit 1)) [.map v1] ∧
 Sm Tryz.prog (updU (Instr.mapUpdate (175:Nat) (.map v1) (.agg #[.int .i64 x3,.int .i64 x4]) (.bool true))) H12 fun v2 H'2 =>
 ∃ (b3:Bool),
 (Tr Tryz.prog (53:Nat) #[.int .i64 x3] H'2 fun v3 H'3=>v3 = .bool b3 ∧
 Ax.Sub H'2 H'3) ∧
 ∃ (a4:Addr),
 some (⟨b1,0,none⟩:Addr) = some a4 ∧
 StL H'2 (a4.add (nat_lit 2)) [.bool b3] fun H13=>Rel (IntKind.i64.wrap (x + 1)) H13 ∧
 mu (IntKind.i64.wrap (x + 1)) H13 < mu x H1) ∧
 ∃ (A1:Option Addr) (n1 c3:Nat),
 At H1 (a1.add (nat_lit 0)) [.slice A1 n1 c3] ∧
 appC (47:Nat) (nat_lit 9) (nat_lit 72) H1 A1 n1 c3 [.int .i64 x1,.int .i64 x2,.int .i64 x3,.int .i64 x4,.int .i64 x5,.int .i64 x6,.int .i64 x7,.int .i64 x8,.int .i64 x9] (1:Nat) fun (A'1:Option Addr) (n'1 c'1:Nat) (H'4:Heap) =>
 ∃ (a5:Addr),
 some (⟨b1,0,none⟩:Addr) = some a5 ∧
 StL H'4 (a5.add (nat_lit 0)) [.slice A'1 n'1 c'1] fun H14 =>
 ∃ (a6:Addr),
 some (⟨b1,0,none⟩:Addr) = some a6 ∧
 ∃ (v4:Option Nat),
 At H14 (a6.add (nat_lit 1)) [.map v4] ∧
 Sm Tryz.prog (updU (Instr.mapUpdate (175:Nat) (.map v4) (.agg #[.int .i64 x3,.int .i64 x4]) (.bool true))) H14 fun v5 H'5 =>
 ∃ (b4:Bool),
 (Tr Tryz.prog (53:Nat) #[.int .i64 x3] H'5 fun v6 H'6=>v6 = .bool b4 ∧
 Ax.Sub H'5 H'6) ∧
 ∃ (a7:Addr),
 some (⟨b1,0,none⟩:Addr) = some a7 ∧
 StL H'5 (a7.add (nat_lit 2)) [.bool b4] fun H15=>Rel (IntKind.i64.wrap (x + 1)) H15 ∧
 mu (IntKind.i64.wrap (x + 1)) H15 < mu x H1)) ∧
 (decide (x < (↑hn:Int)) = false → K (.tuple #[.pointer (some (⟨b1,0,none⟩:Addr)),.int .i64 (↑hn:Int)]) H1)

theorem v84 {hA:Option Addr} {hn hc:Nat} {H:Heap} {K:Value → Heap → Prop} (h:F84 hA hn hc H K):Tr Tryz.prog 84 #[.slice hA hn hc] H K :=
  tr_of_eq (C:=c84) Tryz.func84 (show vcFn c84 Tryz.f84 [.slice hA hn hc] H K = F84 hA hn hc H K by kernel_rfl) h
noncomputable def c128:Cx:={ P:=Tryz.prog,res:=[],pub:=[],loops:=[],quiet:=[89,109,154],asm:=true }
def F128 (b:Option Addr) (eId:Int) (eTime:Int) (eKind:Int) (eA:Int) (eB:Int) (eC:Int) (eD:Int) (eE:Int) (eF:Int) (H:Heap) (K:Value → Heap → Prop):Prop :=
 ∃ (a:Addr),
 b = some a ∧
 ∃ (A:Option Addr) (n c:Nat),
 At H (a.add (nat_lit 0)) [.slice A n c] ∧
 ∃ (b1:Bool),
 (Tr Tryz.prog (109:Nat) #[.agg #[.int .i64 eId,.int .i64 eTime,.int .i64 eKind,.int .i64 eA,.int .i64 eB,.int .i64 eC,.int .i64 eD,.int .i64 eE,.int .i64 eF]] H fun v H'=>v = .bool b1 ∧
 Ax.Sub H H') ∧
 ∃ (a1:Addr),
 ((!(!b1 || eId != IntKind.i64.wrap ((↑n:Int) + 1))) = true → b = some a1) ∧
 ∃ (b2:Bool),
 ((!(!b1 || eId != IntKind.i64.wrap ((↑n:Int) + 1))) = true → At H (a1.add (nat_lit 2)) [.bool b2]) ∧
 ((!b1 || eId != IntKind.i64.wrap ((↑n:Int) + 1) || b2 || !(eKind == 1) == ((↑n:Int) == 0)) = true → K (.bool false) H) ∧
 ((!b1 || eId != IntKind.i64.wrap ((↑n:Int) + 1) || b2 || !(eKind == 1) == ((↑n:Int) == 0)) = false → (((↑n:Int) == 0) = true → K (.bool true) H) ∧
 (((↑n:Int) == 0) = false →
 ∃ (a2:Addr),
 b = some a2 ∧
 ∃ (A1:Option Addr) (n1 c1:Nat),
 At H (a2.add (nat_lit 0)) [.slice A1 n1 c1] ∧
 ∃ (a3:Addr),
 (A1 = some a3 ∧
 (0:Int) ≤ IntKind.i64.wrap ((↑n:Int) - 1) ∧
 IntKind.i64.wrap ((↑n:Int) - 1) < (↑n1:Int)) ∧
 ∃ (x x1 x2 x3 x4 x5 x6 x7 x8:Int),
 At H (a3.add ((IntKind.i64.wrap ((↑n:Int) - 1)).toNat * nat_lit 9)) [.int .i64 x,.int .i64 x1,.int .i64 x2,.int .i64 x3,.int .i64 x4,.int .i64 x5,.int .i64 x6,.int .i64 x7,.int .i64 x8] ∧
 ((decide (eTime < x1) || eKind == 2 && eA != (↑n:Int)) = true → K (.bool false) H) ∧
 ((decide (eTime < x1) || eKind == 2 && eA != (↑n:Int)) = false →
 ∃ (b3:Bool),
 (Tr Tryz.prog (89:Nat) #[.int .i64 eKind] H fun v1 H'1=>v1 = .bool b3 ∧
 Ax.Sub H H'1) ∧
 ((b3 && !(eKind == 16 && eA == (-4))) = true →
 ∃ (b4:Bool),
 ((x2 != 2) = true → Tr Tryz.prog (89:Nat) #[.int .i64 x2] H fun v2 H'2=>v2 = .bool b4 ∧
 Ax.Sub H H'2) ∧
 ((x2 != 2 && !b4 || eTime != x1) = true → K (.bool false) H) ∧
 ((x2 != 2 && !b4 || eTime != x1) = false →
 ∃ (b5:Bool),
 (Tr Tryz.prog (154:Nat) #[.pointer b,.agg #[.int .i64 eId,.int .i64 eTime,.int .i64 eKind,.int .i64 eA,.int .i64 eB,.int .i64 eC,.int .i64 eD,.int .i64 eE,.int .i64 eF]] H fun v3 H'3=>v3 = .bool b5 ∧
 Ax.Sub H H'3) ∧
 K (.bool b5) H)) ∧
 ((b3 && !(eKind == 16 && eA == (-4))) = false →
 ∃ (b6:Bool),
 (Tr Tryz.prog (154:Nat) #[.pointer b,.agg #[.int .i64 eId,.int .i64 eTime,.int .i64 eKind,.int .i64 eA,.int .i64 eB,.int .i64 eC,.int .i64 eD,.int .i64 eE,.int .i64 eF]] H fun v4 H'4=>v4 = .bool b6 ∧
 Ax.Sub H H'4) ∧
 K (.bool b6) H))))

theorem v128 {b:Option Addr} {eId:Int} {eTime:Int} {eKind:Int} {eA:Int} {eB:Int} {eC:Int} {eD:Int} {eE:Int} {eF:Int} {H:Heap} {K:Value → Heap → Prop} (h:F128 b eId eTime eKind eA eB eC eD eE eF H K):Tr Tryz.prog 128 #[.pointer b,.agg #[.int .i64 eId,.int .i64 eTime,.int .i64 eKind,.int .i64 eA,.int .i64 eB,.int .i64 eC,.int .i64 eD,.int .i64 eE,.int .i64 eF]] H K :=
  tr_of_eq (C:=c128) Tryz.func128 (show vcFn c128 Tryz.f128 [.pointer b,.agg #[.int .i64 eId,.int .i64 eTime,.int .i64 eKind,.int .i64 eA,.int .i64 eB,.int .i64 eC,.int .i64 eD,.int .i64 eE,.int .i64 eF]] H K = F128 b eId eTime eKind eA eB eC eD eE eF H K by kernel_rfl) h
noncomputable def c154:Cx:={ P:=Tryz.prog,res:=[],pub:=[20,33,46,75,88,96,109,128,142,155,163],loops:=[],quiet:=[85,180],draws:=[⟨10,[2,7,13,17,19,23],[],true,true⟩],asm:=true }
def F154 (b:Option Addr) (eId:Int) (eTime:Int) (eKind:Int) (eA:Int) (eB:Int) (eC:Int) (eD:Int) (eE:Int) (eF:Int) (H:Heap) (K:Value → Heap → Prop):Prop:=((eKind == 6) = true →
 ∃ (b1:Bool),
 (Tr Tryz.prog (180:Nat) #[.pointer b,.int .i64 eA,.int .i64 3] H fun v H'=>v = .bool b1 ∧
 Ax.Sub H H') ∧
 (b1 = true → ∀ (b2:Nat),H b2 = none → ∀ (H1:Heap),H1 = H.upd b2 (Obj.cells #[.int .i64 6,.int .i64 22,.int .i64 23,.int .i64 24] (3:Nat)) →
 ∃ (b3:Bool),
 (Tr Tryz.prog (85:Nat) #[.pointer b,.int .i64 eA,.slice (some (⟨b2,0,none⟩:Addr)) (4:Nat) (4:Nat)] H1 fun v1 H'1=>v1 = .bool b3 ∧
 Ax.Sub H1 H'1) ∧
 K (.bool b3) H1) ∧
 (b1 = false → K (.bool false) H)) ∧
 ((eKind == 6) = false → ((eKind == 22) = true →
 ∃ (b4:Bool),
 (Tr Tryz.prog (180:Nat) #[.pointer b,.int .i64 eA,.int .i64 3] H fun v2 H'2=>v2 = .bool b4 ∧
 Ax.Sub H H'2) ∧
 (b4 = true → ∀ (b5:Nat),H b5 = none → ∀ (H11:Heap),H11 = H.upd b5 (Obj.cells #[.int .i64 6,.int .i64 22,.int .i64 23,.int .i64 24] (3:Nat)) →
 ∃ (b6:Bool),
 (Tr Tryz.prog (85:Nat) #[.pointer b,.int .i64 eA,.slice (some (⟨b5,0,none⟩:Addr)) (4:Nat) (4:Nat)] H11 fun v3 H'3=>v3 = .bool b6 ∧
 Ax.Sub H11 H'3) ∧
 K (.bool b6) H11) ∧
 (b4 = false → K (.bool false) H)) ∧
 ((eKind == 22) = false → ((eKind == 23) = true →
 ∃ (b7:Bool),
 (Tr Tryz.prog (180:Nat) #[.pointer b,.int .i64 eA,.int .i64 3] H fun v4 H'4=>v4 = .bool b7 ∧
 Ax.Sub H H'4) ∧
 (b7 = true → ∀ (b8:Nat),H b8 = none → ∀ (H12:Heap),H12 = H.upd b8 (Obj.cells #[.int .i64 6,.int .i64 22,.int .i64 23,.int .i64 24] (3:Nat)) →
 ∃ (b9:Bool),
 (Tr Tryz.prog (85:Nat) #[.pointer b,.int .i64 eA,.slice (some (⟨b8,0,none⟩:Addr)) (4:Nat) (4:Nat)] H12 fun v5 H'5=>v5 = .bool b9 ∧
 Ax.Sub H12 H'5) ∧
 K (.bool b9) H12) ∧
 (b7 = false → K (.bool false) H)) ∧
 ((eKind == 23) = false → ((eKind == 24) = true →
 ∃ (b10:Bool),
 (Tr Tryz.prog (180:Nat) #[.pointer b,.int .i64 eA,.int .i64 3] H fun v6 H'6=>v6 = .bool b10 ∧
 Ax.Sub H H'6) ∧
 (b10 = true → ∀ (b11:Nat),H b11 = none → ∀ (H13:Heap),H13 = H.upd b11 (Obj.cells #[.int .i64 6,.int .i64 22,.int .i64 23,.int .i64 24] (3:Nat)) →
 ∃ (b12:Bool),
 (Tr Tryz.prog (85:Nat) #[.pointer b,.int .i64 eA,.slice (some (⟨b11,0,none⟩:Addr)) (4:Nat) (4:Nat)] H13 fun v7 H'7=>v7 = .bool b12 ∧
 Ax.Sub H13 H'7) ∧
 K (.bool b12) H13) ∧
 (b10 = false → K (.bool false) H)) ∧
 ((eKind == 24) = false → ((eKind == 7) = true →
 ∃ (b13:Bool),
 (Tr Tryz.prog (180:Nat) #[.pointer b,.int .i64 eA,.int .i64 4] H fun v8 H'8=>v8 = .bool b13 ∧
 Ax.Sub H H'8) ∧
 (b13 = true → ∀ (b14:Nat),H b14 = none → ∀ (H14:Heap),H14 = H.upd b14 (Obj.cells #[.int .i64 7,.int .i64 25] (3:Nat)) →
 ∃ (b15:Bool),
 (Tr Tryz.prog (85:Nat) #[.pointer b,.int .i64 eA,.slice (some (⟨b14,0,none⟩:Addr)) (2:Nat) (2:Nat)] H14 fun v9 H'9=>v9 = .bool b15 ∧
 Ax.Sub H14 H'9) ∧
 K (.bool b15) H14) ∧
 (b13 = false → K (.bool false) H)) ∧
 ((eKind == 7) = false → ((eKind == 25) = true →
 ∃ (Hs:Heap),
 Ax.Sub Hs H ∧
 ∃ (b16:Bool),
 (Tr Tryz.prog (180:Nat) #[.pointer b,.int .i64 eA,.int .i64 4] H fun v10 H'10=>v10 = .bool b16 ∧
 Ax.Sub H H'10) ∧
 Ax.Sub Hs H ∧
 (Ax.Sub Hs H ∧
 (b16 = true → ∀ (b17:Nat),H b17 = none → ∀ (H15:Heap),H15 = H.upd b17 (Obj.cells #[.int .i64 7,.int .i64 25] (3:Nat)) → Ax.Sub Hs H15 ∧
 ∃ (b18:Bool),
 (Tr Tryz.prog (85:Nat) #[.pointer b,.int .i64 eA,.slice (some (⟨b17,0,none⟩:Addr)) (2:Nat) (2:Nat)] H15 fun v11 H'11=>v11 = .bool b18 ∧
 Ax.Sub H15 H'11) ∧
 ∃ (a:Addr),
 (b18 = true → b = some a) ∧
 ∃ (A:Option Addr) (n c:Nat),
 (b18 = true → At H15 (a.add (nat_lit 0)) [.slice A n c]) ∧
 ∃ (a1:Addr),
 (b18 = true → A = some a1 ∧
 (0:Int) ≤ IntKind.i64.wrap (eA - 1) ∧
 IntKind.i64.wrap (eA - 1) < (↑n:Int)) ∧
 ∃ (x:Int),
 (b18 = true → At H15 ((a1.add ((IntKind.i64.wrap (eA - 1)).toNat * nat_lit 9)).add (nat_lit 3)) [.int .i64 x]) ∧
 K (.bool (b18 && decide (eTime ≥ x))) H15) ∧
 (b16 = false → Ax.Sub Hs H ∧
 K (.bool false) H)) ∧
 (b16 = true → ∀ (b19:Nat),H b19 = none → ∀ (H16:Heap),H16 = H.upd b19 (Obj.cells #[.int .i64 7,.int .i64 25] (3:Nat)) → Ax.Sub Hs H16 ∧
 ∃ (b20:Bool),
 (Tr Tryz.prog (85:Nat) #[.pointer b,.int .i64 eA,.slice (some (⟨b19,0,none⟩:Addr)) (2:Nat) (2:Nat)] H16 fun v12 H'12=>v12 = .bool b20 ∧
 Ax.Sub H16 H'12) ∧
 ∃ (a2:Addr),
 (b20 = true → b = some a2) ∧
 ∃ (A1:Option Addr) (n1 c1:Nat),
 (b20 = true → At H16 (a2.add (nat_lit 0)) [.slice A1 n1 c1]) ∧
 ∃ (a3:Addr),
 (b20 = true → A1 = some a3 ∧
 (0:Int) ≤ IntKind.i64.wrap (eA - 1) ∧
 IntKind.i64.wrap (eA - 1) < (↑n1:Int)) ∧
 ∃ (x1:Int),
 (b20 = true → At H16 ((a3.add ((IntKind.i64.wrap (eA - 1)).toNat * nat_lit 9)).add (nat_lit 3)) [.int .i64 x1]) ∧
 K (.bool (b20 && decide (eTime ≥ x1))) H16) ∧
 (b16 = false → Ax.Sub Hs H ∧
 K (.bool false) H)) ∧
 ((eKind == 25) = false → ((eKind == 26) = true →
 ∃ (b21:Bool),
 (Tr Tryz.prog (180:Nat) #[.pointer b,.int .i64 eA,.int .i64 5] H fun v13 H'13=>v13 = .bool b21 ∧
 Ax.Sub H H'13) ∧
 (b21 = true → ∀ (b22:Nat),H b22 = none → ∀ (H17:Heap),H17 = H.upd b22 (Obj.cells #[.int .i64 26,.int .i64 27] (3:Nat)) →
 ∃ (b23:Bool),
 (Tr Tryz.prog (85:Nat) #[.pointer b,.int .i64 eA,.slice (some (⟨b22,0,none⟩:Addr)) (2:Nat) (2:Nat)] H17 fun v14 H'14=>v14 = .bool b23 ∧
 Ax.Sub H17 H'14) ∧
 K (.bool b23) H17) ∧
 (b21 = false → K (.bool false) H)) ∧
 ((eKind == 26) = false → ((eKind == 27) = true →
 ∃ (b24:Bool),
 (Tr Tryz.prog (180:Nat) #[.pointer b,.int .i64 eA,.int .i64 5] H fun v15 H'15=>v15 = .bool b24 ∧
 Ax.Sub H H'15) ∧
 (b24 = true → ∀ (b25:Nat),H b25 = none → ∀ (H18:Heap),H18 = H.upd b25 (Obj.cells #[.int .i64 26,.int .i64 27] (3:Nat)) →
 ∃ (b26:Bool),
 (Tr Tryz.prog (85:Nat) #[.pointer b,.int .i64 eA,.slice (some (⟨b25,0,none⟩:Addr)) (2:Nat) (2:Nat)] H18 fun v16 H'16=>v16 = .bool b26 ∧
 Ax.Sub H18 H'16) ∧
 K (.bool b26) H18) ∧
 (b24 = false → K (.bool false) H)) ∧
 ((eKind == 27) = false → ((eKind == 28) = true →
 ∃ (b27:Bool),
 (Tr Tryz.prog (180:Nat) #[.pointer b,.int .i64 eA,.int .i64 5] H fun v17 H'17=>v17 = .bool b27 ∧
 Ax.Sub H H'17) ∧
 (b27 = true → ∀ (b28:Nat),H b28 = none → ∀ (H19:Heap),H19 = H.upd b28 (Obj.cells #[.int .i64 26] (3:Nat)) →
 ∃ (b29:Bool),
 (Tr Tryz.prog (85:Nat) #[.pointer b,.int .i64 eA,.slice (some (⟨b28,0,none⟩:Addr)) (1:Nat) (1:Nat)] H19 fun v18 H'18=>v18 = .bool b29 ∧
 Ax.Sub H19 H'18) ∧
 ((!b29) = true → ∀ (b30:Nat),H19 b30 = none → ∀ (H110:Heap),H110 = H19.upd b30 (Obj.cells #[.int .i64 28] (3:Nat)) →
 ∃ (b31:Bool),
 (Tr Tryz.prog (85:Nat) #[.pointer b,.int .i64 eA,.slice (some (⟨b30,0,none⟩:Addr)) (1:Nat) (1:Nat)] H110 fun v19 H'19=>v19 = .bool b31 ∧
 Ax.Sub H110 H'19) ∧
 K (.bool b31) H110) ∧
 ((!b29) = false → K (.bool false) H19)) ∧
 (b27 = false → K (.bool false) H)) ∧
 ((eKind == 28) = false → ((eKind == 8) = true →
 ∃ (b32:Bool),
 (Tr Tryz.prog (180:Nat) #[.pointer b,.int .i64 eA,.int .i64 5] H fun v20 H'20=>v20 = .bool b32 ∧
 Ax.Sub H H'20) ∧
 (b32 = true → ∀ (b33:Nat),H b33 = none → ∀ (H111:Heap),H111 = H.upd b33 (Obj.cells #[.int .i64 8,.int .i64 27,.int .i64 28] (3:Nat)) →
 ∃ (b34:Bool),
 (Tr Tryz.prog (85:Nat) #[.pointer b,.int .i64 eA,.slice (some (⟨b33,0,none⟩:Addr)) (3:Nat) (3:Nat)] H111 fun v21 H'21=>v21 = .bool b34 ∧
 Ax.Sub H111 H'21) ∧
 K (.bool b34) H111) ∧
 (b32 = false → K (.bool false) H)) ∧
 ((eKind == 8) = false → ((eKind == 9) = true →
 ∃ (b35:Bool),
 (Tr Tryz.prog (180:Nat) #[.pointer b,.int .i64 eA,.int .i64 5] H fun v22 H'22=>v22 = .bool b35 ∧
 Ax.Sub H H'22) ∧
 K (.bool b35) H) ∧
 ((eKind == 9) = false → ((eKind == 29) = true →
 ∃ (b36:Bool),
 (Tr Tryz.prog (180:Nat) #[.pointer b,.int .i64 eA,.int .i64 9] H fun v23 H'23=>v23 = .bool b36 ∧
 Ax.Sub H H'23) ∧
 (b36 = true → ∀ (b37:Nat),H b37 = none → ∀ (H112:Heap),H112 = H.upd b37 (Obj.cells #[.int .i64 29] (3:Nat)) →
 ∃ (b38:Bool),
 (Tr Tryz.prog (85:Nat) #[.pointer b,.int .i64 eA,.slice (some (⟨b37,0,none⟩:Addr)) (1:Nat) (1:Nat)] H112 fun v24 H'24=>v24 = .bool b38 ∧
 Ax.Sub H112 H'24) ∧
 K (.bool b38) H112) ∧
 (b36 = false → K (.bool false) H)) ∧
 ((eKind == 29) = false → ((eKind == 12) = true →
 ∃ (b39:Bool),
 (Tr Tryz.prog (180:Nat) #[.pointer b,.int .i64 eA,.int .i64 21] H fun v25 H'25=>v25 = .bool b39 ∧
 Ax.Sub H H'25) ∧
 (b39 = true → ∀ (b40:Nat),H b40 = none → ∀ (H113:Heap),H113 = H.upd b40 (Obj.cells #[.int .i64 12,.int .i64 13] (3:Nat)) →
 ∃ (b41:Bool),
 (Tr Tryz.prog (85:Nat) #[.pointer b,.int .i64 eA,.slice (some (⟨b40,0,none⟩:Addr)) (2:Nat) (2:Nat)] H113 fun v26 H'26=>v26 = .bool b41 ∧
 Ax.Sub H113 H'26) ∧
 K (.bool b41) H113) ∧
 (b39 = false → K (.bool false) H)) ∧
 ((eKind == 12) = false → ((eKind == 13) = true →
 ∃ (b42:Bool),
 (Tr Tryz.prog (180:Nat) #[.pointer b,.int .i64 eA,.int .i64 21] H fun v27 H'27=>v27 = .bool b42 ∧
 Ax.Sub H H'27) ∧
 (b42 = true → ∀ (b43:Nat),H b43 = none → ∀ (H114:Heap),H114 = H.upd b43 (Obj.cells #[.int .i64 12,.int .i64 13] (3:Nat)) →
 ∃ (b44:Bool),
 (Tr Tryz.prog (85:Nat) #[.pointer b,.int .i64 eA,.slice (some (⟨b43,0,none⟩:Addr)) (2:Nat) (2:Nat)] H114 fun v28 H'28=>v28 = .bool b44 ∧
 Ax.Sub H114 H'28) ∧
 K (.bool b44) H114) ∧
 (b42 = false → K (.bool false) H)) ∧
 ((eKind == 13) = false → ((eKind == 14) = true →
 ∃ (b45:Bool),
 (Tr Tryz.prog (180:Nat) #[.pointer b,.int .i64 eA,.int .i64 21] H fun v29 H'29=>v29 = .bool b45 ∧
 Ax.Sub H H'29) ∧
 (b45 = true → ∀ (b46:Nat),H b46 = none → ∀ (H115:Heap),H115 = H.upd b46 (Obj.cells #[.int .i64 12] (3:Nat)) →
 ∃ (b47:Bool),
 (Tr Tryz.prog (85:Nat) #[.pointer b,.int .i64 eA,.slice (some (⟨b46,0,none⟩:Addr)) (1:Nat) (1:Nat)] H115 fun v30 H'30=>v30 = .bool b47 ∧
 Ax.Sub H115 H'30) ∧
 ((!b47) = true → ∀ (b48:Nat),H115 b48 = none → ∀ (H116:Heap),H116 = H115.upd b48 (Obj.cells #[.int .i64 14] (3:Nat)) →
 ∃ (b49:Bool),
 (Tr Tryz.prog (85:Nat) #[.pointer b,.int .i64 eA,.slice (some (⟨b48,0,none⟩:Addr)) (1:Nat) (1:Nat)] H116 fun v31 H'31=>v31 = .bool b49 ∧
 Ax.Sub H116 H'31) ∧
 K (.bool b49) H116) ∧
 ((!b47) = false → K (.bool false) H115)) ∧
 (b45 = false → K (.bool false) H)) ∧
 ((eKind == 14) = false → K (.bool true) H)))))))))))))))

theorem v154 {b:Option Addr} {eId:Int} {eTime:Int} {eKind:Int} {eA:Int} {eB:Int} {eC:Int} {eD:Int} {eE:Int} {eF:Int} {H:Heap} {K:Value → Heap → Prop} (h:F154 b eId eTime eKind eA eB eC eD eE eF H K):Tr Tryz.prog 154 #[.pointer b,.agg #[.int .i64 eId,.int .i64 eTime,.int .i64 eKind,.int .i64 eA,.int .i64 eB,.int .i64 eC,.int .i64 eD,.int .i64 eE,.int .i64 eF]] H K :=
  tr_of_eq (C:=c154) Tryz.func154 (show vcFn c154 Tryz.f154 [.pointer b,.agg #[.int .i64 eId,.int .i64 eTime,.int .i64 eKind,.int .i64 eA,.int .i64 eB,.int .i64 eC,.int .i64 eD,.int .i64 eE,.int .i64 eF]] H K = F154 b eId eTime eKind eA eB eC eD eE eF H K by kernel_rfl) h
noncomputable def c180:Cx:={ P:=Tryz.prog,res:=[],pub:=[],loops:=[],quiet:=[],asm:=true }
def F180 (b:Option Addr) (id:Int) (kind:Int) (H:Heap) (K:Value → Heap → Prop):Prop :=
 ∃ (a:Addr),
 (decide (id ≥ 1) = true → b = some a) ∧
 ∃ (A:Option Addr) (n c:Nat),
 (decide (id ≥ 1) = true → At H (a.add (nat_lit 0)) [.slice A n c]) ∧
 ∃ (a1:Addr),
 ((decide (id ≥ 1) && decide (id ≤ (↑n:Int))) = true → b = some a1) ∧
 ∃ (A1:Option Addr) (n1 c1:Nat),
 ((decide (id ≥ 1) && decide (id ≤ (↑n:Int))) = true → At H (a1.add (nat_lit 0)) [.slice A1 n1 c1]) ∧
 ∃ (a2:Addr),
 ((decide (id ≥ 1) && decide (id ≤ (↑n:Int))) = true → A1 = some a2 ∧
 (0:Int) ≤ IntKind.i64.wrap (id - 1) ∧
 IntKind.i64.wrap (id - 1) < (↑n1:Int)) ∧
 ∃ (x:Int),
 ((decide (id ≥ 1) && decide (id ≤ (↑n:Int))) = true → At H ((a2.add ((IntKind.i64.wrap (id - 1)).toNat * nat_lit 9)).add (nat_lit 2)) [.int .i64 x]) ∧
 K (.bool (decide (id ≥ 1) && decide (id ≤ (↑n:Int)) && x == kind)) H

theorem v180 {b:Option Addr} {id:Int} {kind:Int} {H:Heap} {K:Value → Heap → Prop} (h:F180 b id kind H K):Tr Tryz.prog 180 #[.pointer b,.int .i64 id,.int .i64 kind] H K :=
  tr_of_eq (C:=c180) Tryz.func180 (show vcFn c180 Tryz.f180 [.pointer b,.int .i64 id,.int .i64 kind] H K = F180 b id kind H K by kernel_rfl) h
noncomputable def c85:Cx:={ P:=Tryz.prog,res:=[],pub:=[],loops:=[⟨2,[(11,.int .i64)],[6,8,12,13,14,15,16,17,18,19,20,21,22,23],[]⟩],quiet:=[],asm:=true }
def F85 (b:Option Addr) (id:Int) (kindsA:Option Addr) (kindsn kindsc:Nat) (H:Heap) (K:Value → Heap → Prop):Prop :=
 ∃ (Rel:Int → Heap → Prop) (mu:Int → Heap → Nat),
 Rel (0:Int) H ∧
 ∀ (x:Int) (H1:Heap),Rel x H1 → (decide (x < (↑kindsn:Int)) = true →
 ∃ (a:Addr),
 (kindsA = some a ∧
 (0:Int) ≤ x ∧
 x < (↑kindsn:Int)) ∧
 ∃ (x1:Int),
 At H1 (a.add (x.toNat * nat_lit 1)) [.int .i64 x1] ∧
 ∃ (a1:Addr),
 b = some a1 ∧
 ∃ (v:Option Nat),
 At H1 (a1.add (nat_lit 1)) [.map v] ∧
 Sm Tryz.prog (Instr.lookup (175:Nat) (.map v) (.agg #[.int .i64 x1,.int .i64 id]) false) H1 fun v1 H' =>
 ∃ (b1:Bool),
 v1 = .bool b1 ∧
 (b1 = true → K (.bool false) H') ∧
 (b1 = false → Rel (IntKind.i64.wrap (x + 1)) H' ∧
 mu (IntKind.i64.wrap (x + 1)) H' < mu x H1)) ∧
 (decide (x < (↑kindsn:Int)) = false → K (.bool true) H1)

theorem v85 {b:Option Addr} {id:Int} {kindsA:Option Addr} {kindsn kindsc:Nat} {H:Heap} {K:Value → Heap → Prop} (h:F85 b id kindsA kindsn kindsc H K):Tr Tryz.prog 85 #[.pointer b,.int .i64 id,.slice kindsA kindsn kindsc] H K :=
  tr_of_eq (C:=c85) Tryz.func85 (show vcFn c85 Tryz.f85 [.pointer b,.int .i64 id,.slice kindsA kindsn kindsc] H K = F85 b id kindsA kindsn kindsc H K by kernel_rfl) h
noncomputable def c88:Cx:={ P:=Tryz.prog,res:=[],pub:=[],loops:=[],quiet:=[130],asm:=true }
def F88 (sA:Option Addr) (sn sc:Nat) (v:Int) (H:Heap) (K:Value → Heap → Prop):Prop :=
 ∃ (x:Int),
 (Tr Tryz.prog (130:Nat) #[.slice sA sn sc,.int .i64 v] H fun v1 H'=>v1 = .int .i64 x ∧
 Ax.Sub H H') ∧
 K (.bool (decide (x ≥ 0))) H

theorem v88 {sA:Option Addr} {sn sc:Nat} {v:Int} {H:Heap} {K:Value → Heap → Prop} (h:F88 sA sn sc v H K):Tr Tryz.prog 88 #[.slice sA sn sc,.int .i64 v] H K :=
  tr_of_eq (C:=c88) Tryz.func88 (show vcFn c88 Tryz.f88 [.slice sA sn sc,.int .i64 v] H K = F88 sA sn sc v H K by kernel_rfl) h
noncomputable def c130:Cx:={ P:=Tryz.prog,res:=[],pub:=[],loops:=[⟨2,[(8,.int .i64)],[4,5,9,10,11,12,13,14,15,16,17,18],[]⟩],quiet:=[],asm:=true }
def F130 (sA:Option Addr) (sn sc:Nat) (v:Int) (H:Heap) (K:Value → Heap → Prop):Prop :=
 ∃ (Rel:Int → Heap → Prop) (mu:Int → Heap → Nat),
 Rel (0:Int) H ∧
 ∀ (x:Int) (H1:Heap),Rel x H1 → (decide (x < (↑sn:Int)) = true →
 ∃ (a:Addr),
 (sA = some a ∧
 (0:Int) ≤ x ∧
 x < (↑sn:Int)) ∧
 ∃ (x1:Int),
 At H1 (a.add (x.toNat * nat_lit 1)) [.int .i64 x1] ∧
 ((v == x1) = true → K (.int .i64 x) H1) ∧
 ((v == x1) = false → Rel (IntKind.i64.wrap (x + 1)) H1 ∧
 mu (IntKind.i64.wrap (x + 1)) H1 < mu x H1)) ∧
 (decide (x < (↑sn:Int)) = false → K (.int .i64 (-1)) H1)

theorem v130 {sA:Option Addr} {sn sc:Nat} {v:Int} {H:Heap} {K:Value → Heap → Prop} (h:F130 sA sn sc v H K):Tr Tryz.prog 130 #[.slice sA sn sc,.int .i64 v] H K :=
  tr_of_eq (C:=c130) Tryz.func130 (show vcFn c130 Tryz.f130 [.slice sA sn sc,.int .i64 v] H K = F130 sA sn sc v H K by kernel_rfl) h
noncomputable def c42:Cx:={ P:=Tryz.prog,res:=[],pub:=[2,3],loops:=[],quiet:=[],asm:=true }
def F42 (lA:Option Addr) (ln lc:Nat) (kindsA:Option Addr) (kindsn kindsc:Nat) (H:Heap) (K:Value → Heap → Prop):Prop:=∀ (b:Nat),H b = none → ∀ (H1:Heap),H1 = H.upd b (Obj.cells #[.slice lA ln lc] (27:Nat)) → ∀ (b1:Nat),H1 b1 = none → ∀ (H11:Heap),H11 = H1.upd b1 (Obj.cells #[.slice kindsA kindsn kindsc] (101:Nat)) → K (.func (Fn.func (87:Nat)) #[] #[.pointer (some (⟨b,0,none⟩:Addr)),.pointer (some (⟨b1,0,none⟩:Addr))]) H11

theorem v42 {lA:Option Addr} {ln lc:Nat} {kindsA:Option Addr} {kindsn kindsc:Nat} {H:Heap} {K:Value → Heap → Prop} (h:F42 lA ln lc kindsA kindsn kindsc H K):Tr Tryz.prog 42 #[.slice lA ln lc,.slice kindsA kindsn kindsc] H K :=
  tr_of_eq (C:=c42) Tryz.func42 (show vcFn c42 Tryz.f42 [.slice lA ln lc,.slice kindsA kindsn kindsc] H K = F42 lA ln lc kindsA kindsn kindsc H K by kernel_rfl) h
noncomputable def c102:Cx:={ P:=Tryz.prog,res:=[],pub:=[],loops:=[⟨2,[(5,.int .i64)],[4,6,7,8,9,10,11,12,13,14,15,16,17],[]⟩],quiet:=[],asm:=true }
def F102 (kindsA:Option Addr) (kindsn kindsc:Nat) (kind:Int) (H:Heap) (K:Value → Heap → Prop):Prop :=
 ∃ (Rel:Int → Heap → Prop) (mu:Int → Heap → Nat),
 Rel (0:Int) H ∧
 ∀ (x:Int) (H1:Heap),Rel x H1 → (decide (x < (↑kindsn:Int)) = true →
 ∃ (a:Addr),
 (kindsA = some a ∧
 (0:Int) ≤ x ∧
 x < (↑kindsn:Int)) ∧
 ∃ (x1:Int),
 At H1 (a.add (x.toNat * nat_lit 1)) [.int .i64 x1] ∧
 ((x1 == kind) = true → K (.bool true) H1) ∧
 ((x1 == kind) = false → Rel (IntKind.i64.wrap (x + 1)) H1 ∧
 mu (IntKind.i64.wrap (x + 1)) H1 < mu x H1)) ∧
 (decide (x < (↑kindsn:Int)) = false → K (.bool ((↑kindsn:Int) == 0)) H1)

theorem v102 {kindsA:Option Addr} {kindsn kindsc:Nat} {kind:Int} {H:Heap} {K:Value → Heap → Prop} (h:F102 kindsA kindsn kindsc kind H K):Tr Tryz.prog 102 #[.slice kindsA kindsn kindsc,.int .i64 kind] H K :=
  tr_of_eq (C:=c102) Tryz.func102 (show vcFn c102 Tryz.f102 [.slice kindsA kindsn kindsc,.int .i64 kind] H K = F102 kindsA kindsn kindsc kind H K by kernel_rfl) h
noncomputable def c44:Cx:={ P:=Tryz.prog,res:=[],pub:=[],loops:=[⟨2,[(4,.int .i64)],[2,3,5,6,7,8,9,10,11,12,13,14,15,16,17],[]⟩],quiet:=[101],asm:=true }
def F44 (hA:Option Addr) (hn hc:Nat) (H:Heap) (K:Value → Heap → Prop):Prop :=
 ∃ (Rel:Int → Heap → Prop) (mu:Int → Heap → Nat),
 Rel (0:Int) H ∧
 ∀ (x:Int) (H1:Heap),Rel x H1 → (decide (x < (↑hn:Int)) = true →
 ∃ (b:Bool),
 (Tr Tryz.prog (101:Nat) #[.slice hA hn hc,.int .i64 x] H1 fun v H'=>v = .bool b ∧
 Ax.Sub H1 H') ∧
 ((!b) = true → K (.tuple #[.int .i64 52,.int .i64 x]) H1) ∧
 ((!b) = false → Rel (IntKind.i64.wrap (x + 1)) H1 ∧
 mu (IntKind.i64.wrap (x + 1)) H1 < mu x H1)) ∧
 (decide (x < (↑hn:Int)) = false → K (.tuple #[.int .i64 0,.int .i64 0]) H1)

theorem v44 {hA:Option Addr} {hn hc:Nat} {H:Heap} {K:Value → Heap → Prop} (h:F44 hA hn hc H K):Tr Tryz.prog 44 #[.slice hA hn hc] H K :=
  tr_of_eq (C:=c44) Tryz.func44 (show vcFn c44 Tryz.f44 [.slice hA hn hc] H K = F44 hA hn hc H K by kernel_rfl) h
noncomputable def c101:Cx:={ P:=Tryz.prog,res:=[],pub:=[],loops:=[],quiet:=[20,46,47,133],asm:=true }
def F101 (hA:Option Addr) (hn hc:Nat) (i:Int) (H:Heap) (K:Value → Heap → Prop):Prop :=
 ∃ (a:Addr),
 (hA = some a ∧
 (0:Int) ≤ i ∧
 i < (↑hn:Int)) ∧
 ∃ (x x1 x2 x3 x4 x5 x6 x7 x8:Int),
 At H (a.add (i.toNat * nat_lit 9)) [.int .i64 x,.int .i64 x1,.int .i64 x2,.int .i64 x3,.int .i64 x4,.int .i64 x5,.int .i64 x6,.int .i64 x7,.int .i64 x8] ∧
 ∃ (b:Bool),
 (Tr Tryz.prog (20:Nat) #[.agg #[.int .i64 x,.int .i64 x1,.int .i64 x2,.int .i64 x3,.int .i64 x4,.int .i64 x5,.int .i64 x6,.int .i64 x7,.int .i64 x8]] H fun v H'=>v = .bool b ∧
 Ax.Sub H H') ∧
 ((!b || x != IntKind.i64.wrap (i + 1) || x2 == 1 && i != 0 || x2 != 1 && i == 0) = true → K (.bool false) H) ∧
 ((!b || x != IntKind.i64.wrap (i + 1) || x2 == 1 && i != 0 || x2 != 1 && i == 0) = false → ((i == 0) = true → K (.bool true) H) ∧
 ((i == 0) = false →
 ∃ (a1:Addr),
 (hA = some a1 ∧
 (0:Int) ≤ IntKind.i64.wrap (i - 1) ∧
 IntKind.i64.wrap (i - 1) < (↑hn:Int)) ∧
 ∃ (x9 x10 x11 x12 x13 x14 x15 x16 x17:Int),
 At H (a1.add ((IntKind.i64.wrap (i - 1)).toNat * nat_lit 9)) [.int .i64 x9,.int .i64 x10,.int .i64 x11,.int .i64 x12,.int .i64 x13,.int .i64 x14,.int .i64 x15,.int .i64 x16,.int .i64 x17] ∧
 ∃ (b1:Bool),
 (Tr Tryz.prog (46:Nat) #[.int .i64 x11] H fun v1 H'1=>v1 = .bool b1 ∧
 Ax.Sub H H'1) ∧
 ((decide (x1 < x10) || b1 || x2 == 2 && x3 != i) = true → K (.bool false) H) ∧
 ((decide (x1 < x10) || b1 || x2 == 2 && x3 != i) = false →
 ∃ (b2:Bool),
 (Tr Tryz.prog (47:Nat) #[.int .i64 x2] H fun v2 H'2=>v2 = .bool b2 ∧
 Ax.Sub H H'2) ∧
 ∃ (b3:Bool),
 (Tr Tryz.prog (47:Nat) #[.int .i64 x11] H fun v3 H'3=>v3 = .bool b3 ∧
 Ax.Sub H H'3) ∧
 ((b2 && !(x2 == 16 && x3 == (-4)) && (x11 != 2 && !b3 || x1 != x10)) = true → K (.bool false) H) ∧
 ((b2 && !(x2 == 16 && x3 == (-4)) && (x11 != 2 && !b3 || x1 != x10)) = false →
 ∃ (b4:Bool),
 (Tr Tryz.prog (133:Nat) #[.slice hA hn hc,.int .i64 i] H fun v4 H'4=>v4 = .bool b4 ∧
 Ax.Sub H H'4) ∧
 K (.bool b4) H))))

theorem v101 {hA:Option Addr} {hn hc:Nat} {i:Int} {H:Heap} {K:Value → Heap → Prop} (h:F101 hA hn hc i H K):Tr Tryz.prog 101 #[.slice hA hn hc,.int .i64 i] H K :=
  tr_of_eq (C:=c101) Tryz.func101 (show vcFn c101 Tryz.f101 [.slice hA hn hc,.int .i64 i] H K = F101 hA hn hc i H K by kernel_rfl) h
noncomputable def c161:Cx:={ P:=Tryz.prog,res:=[],pub:=[],loops:=[],quiet:=[],asm:=true }
def F161 (hA:Option Addr) (hn hc:Nat) (to0:Int) (id:Int) (kind:Int) (H:Heap) (K:Value → Heap → Prop):Prop :=
 ∃ (a:Addr),
 ((decide (id ≥ 1) && decide (id ≤ to0)) = true → hA = some a ∧
 (0:Int) ≤ IntKind.i64.wrap (id - 1) ∧
 IntKind.i64.wrap (id - 1) < (↑hn:Int)) ∧
 ∃ (x:Int),
 ((decide (id ≥ 1) && decide (id ≤ to0)) = true → At H ((a.add ((IntKind.i64.wrap (id - 1)).toNat * nat_lit 9)).add (nat_lit 2)) [.int .i64 x]) ∧
 K (.bool (decide (id ≥ 1) && decide (id ≤ to0) && x == kind)) H

theorem v161 {hA:Option Addr} {hn hc:Nat} {to0:Int} {id:Int} {kind:Int} {H:Heap} {K:Value → Heap → Prop} (h:F161 hA hn hc to0 id kind H K):Tr Tryz.prog 161 #[.slice hA hn hc,.int .i64 to0,.int .i64 id,.int .i64 kind] H K :=
  tr_of_eq (C:=c161) Tryz.func161 (show vcFn c161 Tryz.f161 [.slice hA hn hc,.int .i64 to0,.int .i64 id,.int .i64 kind] H K = F161 hA hn hc to0 id kind H K by kernel_rfl) h
noncomputable def c162:Cx:={ P:=Tryz.prog,res:=[],pub:=[],loops:=[⟨2,[(9,.int .i64)],[8,10,11,12,13,14,15,16,17,18,19,20,21,22,23,24,25,26,27,28,29,30,31,32],[]⟩],quiet:=[102],asm:=true }
def F162 (hA:Option Addr) (hn hc:Nat) (to0:Int) (id:Int) (kindsA:Option Addr) (kindsn kindsc:Nat) (H:Heap) (K:Value → Heap → Prop):Prop :=
 ∃ (Rel:Int → Heap → Prop) (mu:Int → Heap → Nat),
 Rel (0:Int) H ∧
 ∀ (x:Int) (H1:Heap),Rel x H1 → (decide (x < to0) = true →
 ∃ (a:Addr),
 (hA = some a ∧
 (0:Int) ≤ x ∧
 x < (↑hn:Int)) ∧
 ∃ (x1:Int),
 At H1 ((a.add (x.toNat * nat_lit 9)).add (nat_lit 2)) [.int .i64 x1] ∧
 ∃ (b:Bool),
 (Tr Tryz.prog (102:Nat) #[.slice kindsA kindsn kindsc,.int .i64 x1] H1 fun v H'=>v = .bool b ∧
 Ax.Sub H1 H') ∧
 ∃ (a1:Addr),
 (b = true → hA = some a1 ∧
 (0:Int) ≤ x ∧
 x < (↑hn:Int)) ∧
 ∃ (x2:Int),
 (b = true → At H1 ((a1.add (x.toNat * nat_lit 9)).add (nat_lit 3)) [.int .i64 x2]) ∧
 ((b && x2 == id) = true → K (.bool true) H1) ∧
 ((b && x2 == id) = false → Rel (IntKind.i64.wrap (x + 1)) H1 ∧
 mu (IntKind.i64.wrap (x + 1)) H1 < mu x H1)) ∧
 (decide (x < to0) = false → K (.bool false) H1)

theorem v162 {hA:Option Addr} {hn hc:Nat} {to0:Int} {id:Int} {kindsA:Option Addr} {kindsn kindsc:Nat} {H:Heap} {K:Value → Heap → Prop} (h:F162 hA hn hc to0 id kindsA kindsn kindsc H K):Tr Tryz.prog 162 #[.slice hA hn hc,.int .i64 to0,.int .i64 id,.slice kindsA kindsn kindsc] H K :=
  tr_of_eq (C:=c162) Tryz.func162 (show vcFn c162 Tryz.f162 [.slice hA hn hc,.int .i64 to0,.int .i64 id,.slice kindsA kindsn kindsc] H K = F162 hA hn hc to0 id kindsA kindsn kindsc H K by kernel_rfl) h
noncomputable def c133:Cx:={ P:=Tryz.prog,res:=[],pub:=[49,54,59,64,69,74,79,84,89,94],loops:=[],quiet:=[161,162],asm:=true }
def F133 (hA:Option Addr) (hn hc:Nat) (i:Int) (H:Heap) (K:Value → Heap → Prop):Prop :=
 ∃ (a:Addr),
 (hA = some a ∧
 (0:Int) ≤ i ∧
 i < (↑hn:Int)) ∧
 ∃ (x:Int),
 At H ((a.add (i.toNat * nat_lit 9)).add (nat_lit 3)) [.int .i64 x] ∧
 ∃ (b:Bool),
 (Tr Tryz.prog (161:Nat) #[.slice hA hn hc,.int .i64 i,.int .i64 x,.int .i64 3] H fun v H'=>v = .bool b ∧
 Ax.Sub H H') ∧
 ∃ (b1:Bool),
 (Tr Tryz.prog (161:Nat) #[.slice hA hn hc,.int .i64 i,.int .i64 x,.int .i64 4] H fun v1 H'1=>v1 = .bool b1 ∧
 Ax.Sub H H'1) ∧
 ∃ (b2:Bool),
 (Tr Tryz.prog (161:Nat) #[.slice hA hn hc,.int .i64 i,.int .i64 x,.int .i64 5] H fun v2 H'2=>v2 = .bool b2 ∧
 Ax.Sub H H'2) ∧
 ∃ (b3:Bool),
 (Tr Tryz.prog (161:Nat) #[.slice hA hn hc,.int .i64 i,.int .i64 x,.int .i64 9] H fun v3 H'3=>v3 = .bool b3 ∧
 Ax.Sub H H'3) ∧
 ∃ (b4:Bool),
 (Tr Tryz.prog (161:Nat) #[.slice hA hn hc,.int .i64 i,.int .i64 x,.int .i64 21] H fun v4 H'4=>v4 = .bool b4 ∧
 Ax.Sub H H'4) ∧
 ∀ (b5:Nat),H b5 = none → ∀ (H1:Heap),H1 = H.upd b5 (Obj.cells #[.int .i64 6,.int .i64 22,.int .i64 23,.int .i64 24] (3:Nat)) →
 ∃ (b6:Bool),
 (Tr Tryz.prog (162:Nat) #[.slice hA hn hc,.int .i64 i,.int .i64 x,.slice (some (⟨b5,0,none⟩:Addr)) (4:Nat) (4:Nat)] H1 fun v5 H'5=>v5 = .bool b6 ∧
 Ax.Sub H1 H'5) ∧
 ∀ (b7:Nat),H1 b7 = none → ∀ (H11:Heap),H11 = H1.upd b7 (Obj.cells #[.int .i64 7,.int .i64 25] (3:Nat)) →
 ∃ (b8:Bool),
 (Tr Tryz.prog (162:Nat) #[.slice hA hn hc,.int .i64 i,.int .i64 x,.slice (some (⟨b7,0,none⟩:Addr)) (2:Nat) (2:Nat)] H11 fun v6 H'6=>v6 = .bool b8 ∧
 Ax.Sub H11 H'6) ∧
 ∀ (b9:Nat),H11 b9 = none → ∀ (H12:Heap),H12 = H11.upd b9 (Obj.cells #[.int .i64 26,.int .i64 27] (3:Nat)) →
 ∃ (b10:Bool),
 (Tr Tryz.prog (162:Nat) #[.slice hA hn hc,.int .i64 i,.int .i64 x,.slice (some (⟨b9,0,none⟩:Addr)) (2:Nat) (2:Nat)] H12 fun v7 H'7=>v7 = .bool b10 ∧
 Ax.Sub H12 H'7) ∧
 ∀ (b11:Nat),H12 b11 = none → ∀ (H13:Heap),H13 = H12.upd b11 (Obj.cells #[.int .i64 26] (3:Nat)) →
 ∃ (b12:Bool),
 (Tr Tryz.prog (162:Nat) #[.slice hA hn hc,.int .i64 i,.int .i64 x,.slice (some (⟨b11,0,none⟩:Addr)) (1:Nat) (1:Nat)] H13 fun v8 H'8=>v8 = .bool b12 ∧
 Ax.Sub H13 H'8) ∧
 ∀ (b13:Nat),H13 b13 = none → ∀ (H14:Heap),H14 = H13.upd b13 (Obj.cells #[.int .i64 28] (3:Nat)) →
 ∃ (b14:Bool),
 (Tr Tryz.prog (162:Nat) #[.slice hA hn hc,.int .i64 i,.int .i64 x,.slice (some (⟨b13,0,none⟩:Addr)) (1:Nat) (1:Nat)] H14 fun v9 H'9=>v9 = .bool b14 ∧
 Ax.Sub H14 H'9) ∧
 ∀ (b15:Nat),H14 b15 = none → ∀ (H15:Heap),H15 = H14.upd b15 (Obj.cells #[.int .i64 8,.int .i64 27,.int .i64 28] (3:Nat)) →
 ∃ (b16:Bool),
 (Tr Tryz.prog (162:Nat) #[.slice hA hn hc,.int .i64 i,.int .i64 x,.slice (some (⟨b15,0,none⟩:Addr)) (3:Nat) (3:Nat)] H15 fun v10 H'10=>v10 = .bool b16 ∧
 Ax.Sub H15 H'10) ∧
 ∀ (b17:Nat),H15 b17 = none → ∀ (H16:Heap),H16 = H15.upd b17 (Obj.cells #[.int .i64 29] (3:Nat)) →
 ∃ (b18:Bool),
 (Tr Tryz.prog (162:Nat) #[.slice hA hn hc,.int .i64 i,.int .i64 x,.slice (some (⟨b17,0,none⟩:Addr)) (1:Nat) (1:Nat)] H16 fun v11 H'11=>v11 = .bool b18 ∧
 Ax.Sub H16 H'11) ∧
 ∀ (b19:Nat),H16 b19 = none → ∀ (H17:Heap),H17 = H16.upd b19 (Obj.cells #[.int .i64 12,.int .i64 13] (3:Nat)) →
 ∃ (b20:Bool),
 (Tr Tryz.prog (162:Nat) #[.slice hA hn hc,.int .i64 i,.int .i64 x,.slice (some (⟨b19,0,none⟩:Addr)) (2:Nat) (2:Nat)] H17 fun v12 H'12=>v12 = .bool b20 ∧
 Ax.Sub H17 H'12) ∧
 ∀ (b21:Nat),H17 b21 = none → ∀ (H18:Heap),H18 = H17.upd b21 (Obj.cells #[.int .i64 12] (3:Nat)) →
 ∃ (b22:Bool),
 (Tr Tryz.prog (162:Nat) #[.slice hA hn hc,.int .i64 i,.int .i64 x,.slice (some (⟨b21,0,none⟩:Addr)) (1:Nat) (1:Nat)] H18 fun v13 H'13=>v13 = .bool b22 ∧
 Ax.Sub H18 H'13) ∧
 ∀ (b23:Nat),H18 b23 = none → ∀ (H19:Heap),H19 = H18.upd b23 (Obj.cells #[.int .i64 14] (3:Nat)) →
 ∃ (b24:Bool),
 (Tr Tryz.prog (162:Nat) #[.slice hA hn hc,.int .i64 i,.int .i64 x,.slice (some (⟨b23,0,none⟩:Addr)) (1:Nat) (1:Nat)] H19 fun v14 H'14=>v14 = .bool b24 ∧
 Ax.Sub H19 H'14) ∧
 ∃ (a1:Addr),
 (hA = some a1 ∧
 (0:Int) ≤ i ∧
 i < (↑hn:Int)) ∧
 ∃ (x1:Int),
 At H19 ((a1.add (i.toNat * nat_lit 9)).add (nat_lit 2)) [.int .i64 x1] ∧
 ((x1 == 6) = true → K (.bool (b && !b6)) H19) ∧
 ((x1 == 6) = false → ((x1 == 22) = true → K (.bool (b && !b6)) H19) ∧
 ((x1 == 22) = false → ((x1 == 23) = true → K (.bool (b && !b6)) H19) ∧
 ((x1 == 23) = false → ((x1 == 24) = true → K (.bool (b && !b6)) H19) ∧
 ((x1 == 24) = false → ((x1 == 7) = true → K (.bool (b1 && !b8)) H19) ∧
 ((x1 == 7) = false → ((x1 == 25) = true →
 ∃ (a2:Addr),
 ((b1 && !b8) = true → hA = some a2 ∧
 (0:Int) ≤ i ∧
 i < (↑hn:Int)) ∧
 ∃ (x2:Int),
 ((b1 && !b8) = true → At H19 ((a2.add (i.toNat * nat_lit 9)).add (nat_lit 1)) [.int .i64 x2]) ∧
 ∃ (a3:Addr),
 ((b1 && !b8) = true → hA = some a3 ∧
 (0:Int) ≤ IntKind.i64.wrap (x - 1) ∧
 IntKind.i64.wrap (x - 1) < (↑hn:Int)) ∧
 ∃ (x3:Int),
 ((b1 && !b8) = true → At H19 ((a3.add ((IntKind.i64.wrap (x - 1)).toNat * nat_lit 9)).add (nat_lit 3)) [.int .i64 x3]) ∧
 K (.bool (b1 && !b8 && decide (x2 ≥ x3))) H19) ∧
 ((x1 == 25) = false → ((x1 == 26) = true → K (.bool (b2 && !b10)) H19) ∧
 ((x1 == 26) = false → ((x1 == 27) = true → K (.bool (b2 && !b10)) H19) ∧
 ((x1 == 27) = false → ((x1 == 28) = true → K (.bool (b2 && b12 && !b14)) H19) ∧
 ((x1 == 28) = false → ((x1 == 8) = true → K (.bool (b2 && !b16)) H19) ∧
 ((x1 == 8) = false → ((x1 == 9) = true → K (.bool b2) H19) ∧
 ((x1 == 9) = false → ((x1 == 29) = true → K (.bool (b3 && !b18)) H19) ∧
 ((x1 == 29) = false → ((x1 == 12) = true → K (.bool (b4 && !b20)) H19) ∧
 ((x1 == 12) = false → ((x1 == 13) = true → K (.bool (b4 && !b20)) H19) ∧
 ((x1 == 13) = false → ((x1 == 14) = true → K (.bool (b4 && b22 && !b24)) H19) ∧
 ((x1 == 14) = false → K (.bool true) H19)))))))))))))))

theorem v133 {hA:Option Addr} {hn hc:Nat} {i:Int} {H:Heap} {K:Value → Heap → Prop} (h:F133 hA hn hc i H K):Tr Tryz.prog 133 #[.slice hA hn hc,.int .i64 i] H K :=
  tr_of_eq (C:=c133) Tryz.func133 (show vcFn c133 Tryz.f133 [.slice hA hn hc,.int .i64 i] H K = F133 hA hn hc i H K by kernel_rfl) h
end Go.Proofs.YtkofafcgcnciaaaGreatDoor
set_option maxRecDepth 100000
namespace Go.Proofs.YtkofafcgcnciaaaGreatDoor
open Go.Ax
def isP (pre:List Ev) (id kind:Int):Bool:=decide (id ≥ 1) && decide (id ≤ pre.length) && (match pre[(id - 1).toNat]? with | some x=>x.kind == kind | none=>false)
def anyP (pre:List Ev) (id:Int) (ks:List Int):Bool:=pre.any fun x=>ks.contains x.kind && x.a == id
def atTime (pre:List Ev) (e:Ev):Bool:=match pre[(e.a - 1).toNat]? with | some x=>decide (e.time ≥ x.a) | none=>false
def namesP (pre:List Ev) (e:Ev):Bool :=
  if e.kind = 6 ∨ e.kind = 22 ∨ e.kind = 23 ∨ e.kind = 24 then isP pre e.a 3 && !anyP pre e.a [6,22,23,24]
  else if e.kind = 7 then isP pre e.a 4 && !anyP pre e.a [7,25]
  else if e.kind = 25 then isP pre e.a 4 && !anyP pre e.a [7,25] && atTime pre e
  else if e.kind = 26 ∨ e.kind = 27 then isP pre e.a 5 && !anyP pre e.a [26,27]
  else if e.kind = 28 then isP pre e.a 5 && anyP pre e.a [26] && !anyP pre e.a [28]
  else if e.kind = 8 then isP pre e.a 5 && !anyP pre e.a [8,27,28]
  else if e.kind = 9 then isP pre e.a 5
  else if e.kind = 29 then isP pre e.a 9 && !anyP pre e.a [29]
  else if e.kind = 12 ∨ e.kind = 13 then isP pre e.a 21 && !anyP pre e.a [12,13]
  else if e.kind = 14 then isP pre e.a 21 && anyP pre e.a [12] && !anyP pre e.a [14]
  else true
def lastP (pre:List Ev):Ev:=(pre.getLast?).getD Ev.zero
def mayP (pre:List Ev) (e:Ev):Bool :=
  if (!validM e || e.id != pre.length + 1 || e.kind == 1 && ((pre.length:Int) != 0) || e.kind != 1 && ((pre.length:Int) == 0)) = true then false
  else if pre = [] then true
  else if (decide (e.time < (lastP pre).time) || closeM (lastP pre).kind || e.kind == 2 && e.a != pre.length) = true then false
  else if (cmdM e.kind && !(e.kind == 16 && e.a == -4) && ((lastP pre).kind != 2 && !cmdM (lastP pre).kind || e.time != (lastP pre).time)) = true then false
  else namesP pre e
def standG:List Ev → List Ev → Nat
  | _,[]=>0
  | pre,x :: l=>if mayP pre x = true then standG (pre ++ [x]) l + 1 else 0
def stand (h:List Ev):Nat:=standG [] h
theorem standG_spec : ∀ (l pre : List Ev) (k : Nat), (∀ j, j < k → ∀ x, l[j]? = some x → mayP (pre ++ l.take j) x = true) → k ≤ l.length →
    (∀ x,l[k]? = some x → mayP (pre ++ l.take k) x = false) → standG pre l = k
  | [],pre,k,_,hk,_=>by simp at hk; subst hk; rfl
  | x :: l,pre,0,_,_,h=>by
    have:=h x rfl
    simp at this
    unfold standG; rw [if_neg (by rw [this]; simp)]
  | x :: l,pre,k + 1,h1,hk,h=>by
    have h0:=h1 0 (by omega) x rfl
    simp at h0
    unfold standG; rw [if_pos h0]
    rw [standG_spec l (pre ++ [x]) k (fun j hj y hy=>by have:=h1 (j + 1) (by omega) y (by simpa using hy); simpa using this) (by simpa using hk) (fun y hy=>by have:=h y (by simpa using hy); simpa using this)]
theorem stand_spec {h:List Ev} {k:Nat} (h1:∀ j,j < k → ∀ x,h[j]? = some x → mayP (h.take j) x = true) (hk:k ≤ h.length) (h2:∀ x,h[k]? = some x → mayP (h.take k) x = false):stand h = k :=
  standG_spec h [] k (by simpa using h1) hk (by simpa using h2)
structure HasI (H:Heap) (A:Option Addr) (n:Nat) (l:List Int):Prop where
  len:n = l.length
  at_:∀ i x,l[i]? = some x → ∃ a,A = some a ∧ At H (a.add (i * 1)) [.int .i64 x]
theorem hasI_new {H:Heap} {b:Nat} {T:TypeId} (l:List Int):HasI (H.upd b (.cells (l.map (Value.int .i64)).toArray T)) (some ⟨b,0,none⟩) l.length l :=
  ⟨rfl,fun i x e=>⟨_,rfl,at_new1 (by simp [e])⟩⟩
def hasM (ks:List Int) (k:Int):Bool:=ks.contains k || ((ks.length:Int) == 0)
theorem contains_not {l:List Int} {k:Nat} {v:Int} (h:∀ j,j < k → ∀ x,l[j]? = some x → x ≠ v) (hk:l.length ≤ k):l.contains v = false:=by
  cases hc:l.contains v with
  | false=>rfl
  | true =>
    rw [List.contains_iff_mem] at hc
    obtain ⟨j,hj,e⟩:=List.mem_iff_getElem.1 hc
    exact absurd e (h j (by omega) _ (List.getElem?_eq_getElem hj))
structure RHs (l:List Int) (v:Int) (H:Heap) (i:Int) (H1:Heap):Prop where
  heap:H1 = H
  k:∃ k:Nat,i = k ∧ k ≤ l.length ∧ ∀ j,j < k → ∀ x,l[j]? = some x → x ≠ v
theorem t102 {ks:List Int} (hb:ks.length ≤ 9223372036854775807) {H:Heap} {A:Option Addr} {n c:Nat} (h:HasI H A n ks) (k:Int):Tr Tryz.prog 102 #[.slice A n c,.int .i64 k] H (fun v H'=>v = .bool (hasM ks k) ∧ Sub H H'):=by
  have hn:=h.len; subst hn
  apply v102; unfold F102
  refine ⟨RHs ks k H,fun i _=>(ks.length - i).toNat,⟨rfl,0,rfl,by omega,fun j hj=>absurd hj (by omega)⟩,fun i H1 r=>?_⟩
  have hH:=r.heap; subst hH
  obtain ⟨m,rfl,hm,hs⟩:=r.k
  refine ⟨fun hlt=>?_,fun hge=>⟨?_,Sub.refl _⟩⟩
  · have hlt:=of_decide_eq_true hlt
    obtain ⟨x,hx⟩:=get_some (l:=ks) (i:=m) (by omega)
    obtain ⟨a,ha,hat⟩:=h.at_ m x hx
    refine ⟨a,⟨ha,by omega,by omega⟩,x,hat,fun he=>⟨?_,Sub.refl _⟩,fun he=>?_⟩
    · have e:x = k:=by simpa using he
      have hc:ks.contains k = true:=by rw [List.contains_iff_mem,← e]; exact List.mem_of_getElem? hx
      unfold hasM; rw [hc]; rfl
    · have e:x ≠ k:=by simpa using he
      rw [wrapi (by omega) (by omega)]
      refine ⟨⟨rfl,m + 1,by omega,by omega,fun j hj y hy=>?_⟩,?_⟩
      · by_cases hjm:j = m
        · subst hjm; rw [hx] at hy; cases hy; exact e
        · exact hs j (by omega) y hy
      · show (ks.length - ((m:Int) + 1)).toNat < (ks.length - (m:Int)).toNat
        omega
  · have hge:=of_decide_eq_false hge
    unfold hasM; rw [contains_not hs (by omega)]; simp
theorem t161 {l : List Ev} (hb : l.length ≤ 100000000000000000) {H : Heap} {A : Option Addr} {n c : Nat} (h : HasEvs H A n l) {k : Nat} (hk : k ≤ l.length) (id kind : Int) :
    Tr Tryz.prog 161 #[.slice A n c,.int .i64 k,.int .i64 id,.int .i64 kind] H (fun v H'=>v = .bool (isP (l.take k) id kind) ∧ Sub H H'):=by
  have hn:=h.len; subst hn
  apply v161; unfold F161
  by_cases hid:1 ≤ id ∧ id ≤ k
  · obtain ⟨x,hx⟩:=get_some (l:=l) (i:=(id - 1).toNat) (by omega)
    obtain ⟨a,ha,hat⟩:=h.at_ _ x hx
    have hw:IntKind.i64.wrap (id - 1) = id - 1:=wrapi (by omega) (by omega)
    refine ⟨a,fun _=>⟨ha,by omega,by omega⟩,x.kind,fun _=>by rw [hw]; exact at_one 2 hat rfl,?_,Sub.refl _⟩
    unfold isP
    rw [List.getElem?_take,if_pos (by omega),hx,List.length_take,Nat.min_eq_left hk]
  · have hf : (decide (id ≥ 1) && decide (id ≤ (k : Int))) = false := by
      cases hc:(decide (id ≥ 1) && decide (id ≤ (k:Int))) with
      | false=>rfl
      | true=>simp at hc; omega
    refine ⟨⟨0,0,none⟩,fun e=>(by rw [hf] at e; cases e),0,fun e=>(by rw [hf] at e; cases e),?_,Sub.refl _⟩
    unfold isP
    rw [List.length_take,Nat.min_eq_left hk,hf]; rfl
structure RNm (l:List Ev) (id:Int) (ks:List Int) (k:Nat) (H:Heap) (i:Int) (H1:Heap):Prop where
  heap:H1 = H
  k:∃ m:Nat,i = m ∧ m ≤ k ∧ anyP (l.take m) id ks = false
theorem anyP_snoc (pre:List Ev) (x:Ev) (id:Int) (ks:List Int):anyP (pre ++ [x]) id ks = (anyP pre id ks || (ks.contains x.kind && x.a == id)):=by unfold anyP; simp
theorem take_snoc {α:Type} {l:List α} {m:Nat} {x:α} (h:l[m]? = some x):l.take (m + 1) = l.take m ++ [x]:=by rw [List.take_add_one,h]; rfl
theorem anyP_take {l:List Ev} {id:Int} {ks:List Int} {m k:Nat} (hm:m ≤ k) (h:anyP (l.take m) id ks = true):anyP (l.take k) id ks = true:=by
  unfold anyP at h ⊢
  rw [List.any_eq_true] at h ⊢
  obtain ⟨x,hx,hq⟩:=h
  refine ⟨x,?_,hq⟩
  have:l.take m = (l.take k).take m:=by rw [List.take_take,Nat.min_eq_left hm]
  rw [this] at hx
  exact List.mem_of_mem_take hx
theorem t162 {l : List Ev} (hb : l.length ≤ 100000000000000000) {H : Heap} {A : Option Addr} {n c : Nat} (h : HasEvs H A n l) {k : Nat} (hk : k ≤ l.length) (id : Int) {ks : List Int} (hks : ks ≠ []) (hkb : ks.length ≤ 9223372036854775807) {B : Option Addr} {n' c' : Nat} (hI : HasI H B n' ks) :
    Tr Tryz.prog 162 #[.slice A n c,.int .i64 k,.int .i64 id,.slice B n' c'] H (fun v H'=>v = .bool (anyP (l.take k) id ks) ∧ Sub H H'):=by
  have hn:=h.len; subst hn
  apply v162; unfold F162
  refine ⟨RNm l id ks k H,fun i _=>(k - i).toNat,⟨rfl,0,rfl,by omega,by simp [anyP]⟩,fun i H1 r=>?_⟩
  have hH:=r.heap; subst hH
  obtain ⟨m,rfl,hm,hs⟩:=r.k
  refine ⟨fun hlt=>?_,fun hge=>⟨?_,Sub.refl _⟩⟩
  · have hlt:=of_decide_eq_true hlt
    obtain ⟨x,hx⟩:=get_some (l:=l) (i:=m) (by omega)
    obtain ⟨a,ha,hat⟩:=h.at_ m x hx
    have hh:hasM ks x.kind = ks.contains x.kind:=by
      unfold hasM
      cases ks with
      | nil=>exact absurd rfl hks
      | cons y l=>simp; omega
    refine ⟨a,⟨ha,by omega,by omega⟩,x.kind,at_one 2 hat rfl,_,t102 hkb hI x.kind,a,fun _=>⟨ha,by omega,by omega⟩,x.a,fun _=>at_one 3 hat rfl,fun he=>⟨?_,Sub.refl _⟩,fun he=>?_⟩
    · rw [hh] at he
      have:anyP (l.take (m + 1)) id ks = true:=by rw [take_snoc hx,anyP_snoc,he]; simp
      rw [anyP_take (by omega) this]
    · rw [hh] at he
      rw [wrapi (by omega) (by omega)]
      refine ⟨⟨rfl,m + 1,by omega,by omega,by rw [take_snoc hx,anyP_snoc,hs,he]; rfl⟩,?_⟩
      show (k - ((m:Int) + 1)).toNat < (k - (m:Int)).toNat
      omega
  · have hge:=of_decide_eq_false hge
    have:m = k:=by omega
    subst this
    rw [hs]
end Go.Proofs.YtkofafcgcnciaaaGreatDoor
set_option maxRecDepth 100000
namespace Go.Proofs.YtkofafcgcnciaaaGreatDoor
open Go.Ax
theorem newI {H H1:Heap} {b:Nat} {T:TypeId} (hn:H b = none) (l:List Int) (e:H1 = H.upd b (.cells (l.map (Value.int .i64)).toArray T)):Sub H H1 ∧ HasI H1 (some ⟨b,0,none⟩) l.length l:=by
  subst e; exact ⟨Sub.upd_new hn,hasI_new l⟩
theorem isP_some {pre:List Ev} {id kind:Int} (h:isP pre id kind = true):1 ≤ id ∧ id ≤ pre.length ∧ ∃ x,pre[(id - 1).toNat]? = some x ∧ x.kind = kind:=by
  unfold isP at h
  simp only [Bool.and_eq_true,decide_eq_true_eq] at h
  obtain ⟨⟨h1,h2⟩,h3⟩:=h
  refine ⟨h1,h2,?_⟩
  split at h3
  · rename_i x hx; exact ⟨x,hx,by simpa using h3⟩
  · cases h3
theorem len_take {l:List Ev} {k:Nat} (hk:k ≤ l.length):(l.take k).length = k:=by rw [List.length_take,Nat.min_eq_left hk]
theorem get_take {l:List Ev} {k j:Nat} (hj:j < k):(l.take k)[j]? = l[j]?:=by rw [List.getElem?_take,if_pos hj]
theorem t133 {l : List Ev} (hb : l.length ≤ 100000000000000000) {H : Heap} {A : Option Addr} {n c : Nat} (h : HasEvs H A n l) {k : Nat} {e : Ev} (he : l[k]? = some e) :
    Tr Tryz.prog 133 #[.slice A n c,.int .i64 k] H (fun v H'=>v = .bool (namesP (l.take k) e) ∧ Sub H H'):=by
  have hk:k < l.length:=get_lt he
  have hk':k ≤ l.length:=by omega
  obtain ⟨a,ha,hat⟩:=h.at_ k e he
  have hn:=h.len; subst hn
  apply v133; unfold F133
  refine ⟨a,⟨ha,by omega,by omega⟩,e.a,at_one 3 hat rfl,_,t161 hb h hk' e.a 3,_,t161 hb h hk' e.a 4,_,t161 hb h hk' e.a 5,_,t161 hb h hk' e.a 9,_,t161 hb h hk' e.a 21,?_⟩
  intro b0 n0 H0 e0
  obtain ⟨s0,i0⟩:=newI n0 [6,22,23,24] e0
  have S0:Sub H H0:=s0
  refine ⟨_,t162 hb (h.sub S0) hk' e.a (by decide) (by decide) i0,?_⟩
  intro b1 n1 H1 e1
  obtain ⟨s1,i1⟩:=newI n1 [7,25] e1
  have S1:Sub H H1:=S0.trans s1
  refine ⟨_,t162 hb (h.sub S1) hk' e.a (by decide) (by decide) i1,?_⟩
  intro b2 n2 H2 e2
  obtain ⟨s2,i2⟩:=newI n2 [26,27] e2
  have S2:Sub H H2:=S1.trans s2
  refine ⟨_,t162 hb (h.sub S2) hk' e.a (by decide) (by decide) i2,?_⟩
  intro b3 n3 H3 e3
  obtain ⟨s3,i3⟩:=newI n3 [26] e3
  have S3:Sub H H3:=S2.trans s3
  refine ⟨_,t162 hb (h.sub S3) hk' e.a (by decide) (by decide) i3,?_⟩
  intro b4 n4 H4 e4
  obtain ⟨s4,i4⟩:=newI n4 [28] e4
  have S4:Sub H H4:=S3.trans s4
  refine ⟨_,t162 hb (h.sub S4) hk' e.a (by decide) (by decide) i4,?_⟩
  intro b5 n5 H5 e5
  obtain ⟨s5,i5⟩:=newI n5 [8,27,28] e5
  have S5:Sub H H5:=S4.trans s5
  refine ⟨_,t162 hb (h.sub S5) hk' e.a (by decide) (by decide) i5,?_⟩
  intro b6 n6 H6 e6
  obtain ⟨s6,i6⟩:=newI n6 [29] e6
  have S6:Sub H H6:=S5.trans s6
  refine ⟨_,t162 hb (h.sub S6) hk' e.a (by decide) (by decide) i6,?_⟩
  intro b7 n7 H7 e7
  obtain ⟨s7,i7⟩:=newI n7 [12,13] e7
  have S7:Sub H H7:=S6.trans s7
  refine ⟨_,t162 hb (h.sub S7) hk' e.a (by decide) (by decide) i7,?_⟩
  intro b8 n8 H8 e8
  obtain ⟨s8,i8⟩:=newI n8 [12] e8
  have S8:Sub H H8:=S7.trans s8
  refine ⟨_,t162 hb (h.sub S8) hk' e.a (by decide) (by decide) i8,?_⟩
  intro b9 n9 H9 e9
  obtain ⟨s9,i9⟩:=newI n9 [14] e9
  have S9:Sub H H9:=S8.trans s9
  refine ⟨_,t162 hb (h.sub S9) hk' e.a (by decide) (by decide) i9,?_⟩
  refine ⟨a,⟨ha,by omega,by omega⟩,e.kind,(at_one 2 hat rfl).sub S9,?_⟩
  refine ⟨fun q => ⟨by have q : e.kind = 6 := by simpa using q
                       unfold namesP; rw [q]; rfl,S9⟩,fun m0=>?_⟩
  refine ⟨fun q => ⟨by have q : e.kind = 22 := by simpa using q
                       unfold namesP; rw [q]; rfl,S9⟩,fun m1=>?_⟩
  refine ⟨fun q => ⟨by have q : e.kind = 23 := by simpa using q
                       unfold namesP; rw [q]; rfl,S9⟩,fun m2=>?_⟩
  refine ⟨fun q => ⟨by have q : e.kind = 24 := by simpa using q
                       unfold namesP; rw [q]; rfl,S9⟩,fun m3=>?_⟩
  refine ⟨fun q => ⟨by have q : e.kind = 7 := by simpa using q
                       unfold namesP; rw [q]; rfl,S9⟩,fun m4=>?_⟩
  refine ⟨fun q=>?_,fun m5=>?_⟩
  · have q:e.kind = 25:=by simpa using q
    by_cases hp:(isP (l.take k) e.a 4 && !anyP (l.take k) e.a [7,25]) = true
    · have hi:isP (l.take k) e.a 4 = true:=by simp only [Bool.and_eq_true] at hp; exact hp.1
      obtain ⟨g1,g2,x,g3,g4⟩:=isP_some hi
      rw [len_take hk'] at g2
      rw [get_take (by omega)] at g3
      obtain ⟨a',ha',hat'⟩:=h.at_ _ x g3
      have hw:IntKind.i64.wrap (e.a - 1) = e.a - 1:=wrapi (by omega) (by omega)
      refine ⟨a,fun _=>⟨ha,by omega,by omega⟩,e.time,fun _=>(at_one 1 hat rfl).sub S9,a',fun _=>⟨ha',by omega,by omega⟩,x.a,fun _=>by rw [hw]; exact (at_one 3 hat' rfl).sub S9,?_,S9⟩
      have ht:atTime (l.take k) e = decide (e.time ≥ x.a):=by unfold atTime; rw [get_take (by omega),g3]
      unfold namesP; rw [q,ht]; rfl
    · refine ⟨⟨0,0,none⟩,fun e=>absurd e hp,0,fun e=>absurd e hp,⟨0,0,none⟩,fun e=>absurd e hp,0,fun e=>absurd e hp,?_,S9⟩
      have hp:(isP (l.take k) e.a 4 && !anyP (l.take k) e.a [7,25]) = false:=by simpa using hp
      unfold namesP; rw [q]
      show Value.bool (_ && _) = Value.bool (_ && _)
      rw [hp]; rfl
  refine ⟨fun q => ⟨by have q : e.kind = 26 := by simpa using q
                       unfold namesP; rw [q]; rfl,S9⟩,fun m6=>?_⟩
  refine ⟨fun q => ⟨by have q : e.kind = 27 := by simpa using q
                       unfold namesP; rw [q]; rfl,S9⟩,fun m7=>?_⟩
  refine ⟨fun q => ⟨by have q : e.kind = 28 := by simpa using q
                       unfold namesP; rw [q]; rfl,S9⟩,fun m8=>?_⟩
  refine ⟨fun q => ⟨by have q : e.kind = 8 := by simpa using q
                       unfold namesP; rw [q]; rfl,S9⟩,fun m9=>?_⟩
  refine ⟨fun q => ⟨by have q : e.kind = 9 := by simpa using q
                       unfold namesP; rw [q]; rfl,S9⟩,fun m10=>?_⟩
  refine ⟨fun q => ⟨by have q : e.kind = 29 := by simpa using q
                       unfold namesP; rw [q]; rfl,S9⟩,fun m11=>?_⟩
  refine ⟨fun q => ⟨by have q : e.kind = 12 := by simpa using q
                       unfold namesP; rw [q]; rfl,S9⟩,fun m12=>?_⟩
  refine ⟨fun q => ⟨by have q : e.kind = 13 := by simpa using q
                       unfold namesP; rw [q]; rfl,S9⟩,fun m13=>?_⟩
  refine ⟨fun q => ⟨by have q : e.kind = 14 := by simpa using q
                       unfold namesP; rw [q]; rfl,S9⟩,fun m14=>?_⟩
  refine ⟨?_,S9⟩
  have z0:¬ e.kind = 6:=by simpa using m0
  have z1:¬ e.kind = 22:=by simpa using m1
  have z2:¬ e.kind = 23:=by simpa using m2
  have z3:¬ e.kind = 24:=by simpa using m3
  have z4:¬ e.kind = 7:=by simpa using m4
  have z5:¬ e.kind = 25:=by simpa using m5
  have z6:¬ e.kind = 26:=by simpa using m6
  have z7:¬ e.kind = 27:=by simpa using m7
  have z8:¬ e.kind = 28:=by simpa using m8
  have z9:¬ e.kind = 8:=by simpa using m9
  have z10:¬ e.kind = 9:=by simpa using m10
  have z11:¬ e.kind = 29:=by simpa using m11
  have z12:¬ e.kind = 12:=by simpa using m12
  have z13:¬ e.kind = 13:=by simpa using m13
  have z14:¬ e.kind = 14:=by simpa using m14
  unfold namesP
  rw [if_neg (by omega),if_neg (by omega),if_neg (by omega),if_neg (by omega),if_neg (by omega),if_neg (by omega),if_neg (by omega),if_neg (by omega),if_neg (by omega),if_neg (by omega)]
theorem last_take {l:List Ev} {k:Nat} {x:Ev} (h:l[k]? = some x):lastP (l.take (k + 1)) = x:=by
  unfold lastP; rw [take_snoc h]; simp
theorem t101 {l : List Ev} (hb : l.length ≤ 100000000000000000) {H : Heap} {A : Option Addr} {n c : Nat} (h : HasEvs H A n l) {k : Nat} {e : Ev} (he : l[k]? = some e) (w : e.W64) :
    Tr Tryz.prog 101 #[.slice A n c,.int .i64 k] H (fun v H'=>v = .bool (mayP (l.take k) e) ∧ Sub H H'):=by
  have hk:k < l.length:=get_lt he
  obtain ⟨a,ha,hat⟩:=h.at_ k e he
  have hn:=h.len; subst hn
  have hl:(l.take k).length = k:=len_take (by omega)
  apply v101; unfold F101
  have hw:IntKind.i64.wrap ((k:Int) + 1) = (k:Int) + 1:=wrapi (by omega) (by omega)
  rw [hw]
  refine ⟨a,⟨ha,by omega,by omega⟩,_,_,_,_,_,_,_,_,_,hat,_,t20 e w H,fun q=>⟨?_,Sub.refl _⟩,fun q=>?_⟩
  · unfold mayP; rw [hl,if_pos q]
  · have m1 : mayP (l.take k) e = if l.take k = [] then true else if (decide (e.time < (lastP (l.take k)).time) || closeM (lastP (l.take k)).kind || e.kind == 2 && e.a != (l.take k).length) = true then false
        else if (cmdM e.kind && !(e.kind == 16 && e.a == -4) && ((lastP (l.take k)).kind != 2 && !cmdM (lastP (l.take k)).kind || e.time != (lastP (l.take k)).time)) = true then false else namesP (l.take k) e:=by
      conv=>lhs; unfold mayP
      rw [hl,if_neg (by rw [q]; simp)]
    refine ⟨fun q0=>⟨?_,Sub.refl _⟩,fun q0=>?_⟩
    · have : k = 0 := by have : (k : Int) = 0 := by simpa using q0
                         omega
      subst this
      rw [m1]; simp
    · have hk0:k ≠ 0:=by intro e; subst e; simp at q0
      obtain ⟨j,rfl⟩:∃ j,k = j + 1:=⟨k - 1,by omega⟩
      obtain ⟨x,hx⟩:=get_some (l:=l) (i:=j) (by omega)
      obtain ⟨a',ha',hat'⟩:=h.at_ j x hx
      have hw1:IntKind.i64.wrap (((j + 1:Nat):Int) - 1) = (j:Int):=by rw [wrapi (by omega) (by omega)]; omega
      rw [hw1]
      have hne:l.take (j + 1) ≠ []:=fun e0=>by rw [e0] at hl; simp at hl
      rw [if_neg hne,last_take hx,hl] at m1
      refine ⟨a',⟨ha',by omega,by omega⟩,_,_,_,_,_,_,_,_,_,hat',_,t46 x.kind H,fun q1=>⟨?_,Sub.refl _⟩,fun q1=>?_⟩
      · rw [m1,if_pos q1]
      · rw [if_neg (by rw [q1]; simp)] at m1
        refine ⟨_,t47 e.kind H,_,t47 x.kind H,fun q2=>⟨?_,Sub.refl _⟩,fun q2=>⟨_,t133 hb h he,?_,Sub.refl _⟩⟩
        · rw [m1,if_pos q2]
        · rw [m1,if_neg (by rw [q2]; simp)]
structure RCk (l:List Ev) (H:Heap) (i:Int) (H1:Heap):Prop where
  heap:H1 = H
  k:∃ m:Nat,i = m ∧ m ≤ l.length ∧ ∀ j,j < m → ∀ x,l[j]? = some x → mayP (l.take j) x = true
def checkV (l:List Ev):Value:=if stand l < l.length then .tuple #[.int .i64 52,.int .i64 (stand l:Nat)] else .tuple #[.int .i64 0,.int .i64 0]
theorem t44 {l:List Ev} (hb:l.length ≤ 100000000000000000) (w:∀ x ∈ l,x.W64) {H:Heap} {A:Option Addr} {n c:Nat} (h:HasEvs H A n l):Tr Tryz.prog 44 #[.slice A n c] H (fun v H'=>v = checkV l ∧ Sub H H'):=by
  have hn:=h.len; subst hn
  apply v44; unfold F44
  refine ⟨RCk l H,fun i _=>(l.length - i).toNat,⟨rfl,0,rfl,by omega,fun j hj=>absurd hj (by omega)⟩,fun i H1 r=>?_⟩
  have hH:=r.heap; subst hH
  obtain ⟨m,rfl,hm,hs⟩:=r.k
  refine ⟨fun hlt=>?_,fun hge=>⟨?_,Sub.refl _⟩⟩
  · have hlt:=of_decide_eq_true hlt
    obtain ⟨x,hx⟩:=get_some (l:=l) (i:=m) (by omega)
    refine ⟨_,t101 hb h hx (w x (List.mem_of_getElem? hx)),fun q=>⟨?_,Sub.refl _⟩,fun q=>?_⟩
    · have q:mayP (l.take m) x = false:=by simpa using q
      have:stand l = m:=stand_spec hs (by omega) fun y hy=>by rw [hx] at hy; cases hy; exact q
      unfold checkV; rw [this,if_pos (by omega)]
    · have q:mayP (l.take m) x = true:=by simpa using q
      rw [wrapi (by omega) (by omega)]
      refine ⟨⟨rfl,m + 1,by omega,by omega,fun j hj y hy=>?_⟩,?_⟩
      · by_cases hjm:j = m
        · subst hjm; rw [hx] at hy; cases hy; exact q
        · exact hs j (by omega) y hy
      · show (l.length - ((m:Int) + 1)).toNat < (l.length - (m:Int)).toNat
        omega
  · have hge:=of_decide_eq_false hge
    have:m = l.length:=by omega
    subst this
    have:stand l = l.length:=stand_spec hs (by omega) fun y hy=>by rw [List.getElem?_eq_none (Nat.le_refl _)] at hy; cases hy
    unfold checkV; rw [this,if_neg (by omega)]
end Go.Proofs.YtkofafcgcnciaaaGreatDoor
set_option maxRecDepth 100000
namespace Go.Proofs.YtkofafcgcnciaaaGreatDoor
open Go.Ax
def overP (pre:List Ev):Bool:=match pre.getLast? with | some x=>closeM x.kind | none=>false
def marks:List Ev → List (Int × Int):=fun pre=>(pre.map fun x=>(x.kind,x.a)).reverse
theorem marks_snoc (pre:List Ev) (x:Ev):marks (pre ++ [x]) = (x.kind,x.a) :: marks pre:=by simp [marks]
theorem overP_snoc (pre:List Ev) (x:Ev):overP (pre ++ [x]) = closeM x.kind:=by simp [overP]
theorem mem_marks {pre:List Ev} {k a:Int}:(k,a) ∈ marks pre ↔ ∃ x ∈ pre,x.kind = k ∧ x.a = a:=by simp [marks]
structure Book (H:Heap) (b:Nat) (pre:List Ev):Prop where
  out:∃ (A:Option Addr) (n c m:Nat) (es:Array MapEntry) (cl:Nat),H b = some (.cells #[.slice A n c,.map (some m),.bool (overP pre)] 177 (0,0)) ∧ HasEvs H A n pre ∧ H m = some (.map es cl) ∧ Marks es (marks pre)
theorem Book.sub {H H':Heap} {b:Nat} {pre:List Ev} (h:Book H b pre) (k:Sub H H'):Book H' b pre:=by
  obtain ⟨A,n,c,m,es,cl,h1,h2,h3,h4⟩:=h.out
  exact ⟨A,n,c,m,es,cl,k.sub _ _ h1,h2.sub k,k.sub _ _ h3,h4⟩
theorem at_fld {H:Heap} {b:Nat} {c:Array Value} {T:TypeId} {fz:Nat × Nat} (k:Nat) {v:Value} (h:H b = some (.cells c T fz)) (hv:c[k]? = some v):At H (({ block:=b,off:=0 }:Addr).add k) [v]:=by
  have he:({ block:=b,off:=0 }:Addr).add k = ⟨b,k,none⟩:=by cases k <;> simp [Addr.add]
  rw [he]
  refine ⟨⟨c,T,fz,h,rfl,fun j u hj=>?_⟩⟩
  cases j with
  | succ j=>simp at hj
  | zero=>simp at hj; subst hj; exact hv
theorem smMono {P:Program} {s:Sem Value} {H:Heap} {K K':Value → Heap → Prop} (h:Sm P s H K) (k:∀ v H',K v H' → K' v H'):Sm P s H K':=by
  refine ⟨fun w hw=>?_⟩
  obtain ⟨v,H',w',h1,h2,h3⟩:=h.run w hw
  exact ⟨v,H',w',h1,h2,k _ _ h3⟩
theorem t180 {pre : List Ev} (hb : pre.length ≤ 100000000000000000) {H : Heap} {b : Nat} (h : Book H b pre) (id kind : Int) :
    Tr Tryz.prog 180 #[.pointer (some ⟨b,0,none⟩),.int .i64 id,.int .i64 kind] H (fun v H'=>v = .bool (isP pre id kind) ∧ Sub H H'):=by
  obtain ⟨A,n,c,m,es,cl,h1,h2,h3,h4⟩:=h.out
  have hn:=h2.len; subst hn
  apply v180; unfold F180
  refine ⟨_,fun _=>rfl,A,pre.length,c,fun _=>at_fld 0 h1 rfl,_,fun _=>rfl,A,pre.length,c,fun _=>at_fld 0 h1 rfl,?_⟩
  by_cases hid:1 ≤ id ∧ id ≤ pre.length
  · obtain ⟨x,hx⟩:=get_some (l:=pre) (i:=(id - 1).toNat) (by omega)
    obtain ⟨a,ha,hat⟩:=h2.at_ _ x hx
    have hw:IntKind.i64.wrap (id - 1) = id - 1:=wrapi (by omega) (by omega)
    refine ⟨a,fun _=>⟨ha,by omega,by omega⟩,x.kind,fun _=>by rw [hw]; exact at_one 2 hat rfl,?_,Sub.refl _⟩
    unfold isP
    rw [hx]
  · have hf : (decide (id ≥ 1) && decide (id ≤ (pre.length : Int))) = false := by
      cases hc:(decide (id ≥ 1) && decide (id ≤ (pre.length:Int))) with
      | false=>rfl
      | true=>simp at hc; omega
    refine ⟨⟨0,0,none⟩,fun e=>(by rw [hf] at e; cases e),0,fun e=>(by rw [hf] at e; cases e),?_,Sub.refl _⟩
    unfold isP
    rw [hf]; rfl
structure RNo (pre:List Ev) (id:Int) (ks:List Int) (H:Heap) (i:Int) (H1:Heap):Prop where
  heap:H1 = H
  k:∃ m:Nat,i = m ∧ m ≤ ks.length ∧ ∀ j,j < m → ∀ y,ks[j]? = some y → (y,id) ∉ marks pre
theorem any_marks {pre:List Ev} {id:Int} {ks:List Int}:anyP pre id ks = true ↔ ∃ y ∈ ks,(y,id) ∈ marks pre:=by
  unfold anyP
  rw [List.any_eq_true]
  constructor
  · rintro ⟨x,hx,hq⟩
    simp only [Bool.and_eq_true,List.contains_iff_mem,beq_iff_eq] at hq
    exact ⟨x.kind,hq.1,mem_marks.2 ⟨x,hx,rfl,hq.2⟩⟩
  · rintro ⟨y,hy,hm⟩
    obtain ⟨x,hx,h1,h2⟩:=mem_marks.1 hm
    refine ⟨x,hx,?_⟩
    simp only [Bool.and_eq_true,List.contains_iff_mem,beq_iff_eq]
    exact ⟨h1 ▸ hy,h2⟩
theorem t85 {pre : List Ev} {H : Heap} {b : Nat} (h : Book H b pre) (id : Int) {ks : List Int} (hkb : ks.length ≤ 9223372036854775807) {B : Option Addr} {n' c' : Nat} (hI : HasI H B n' ks) :
    Tr Tryz.prog 85 #[.pointer (some ⟨b,0,none⟩),.int .i64 id,.slice B n' c'] H (fun v H'=>v = .bool (!anyP pre id ks) ∧ Sub H H'):=by
  obtain ⟨A,n,c,m,es,cl,h1,h2,h3,h4⟩:=h.out
  have hn:=hI.len; subst hn
  apply v85; unfold F85
  refine ⟨RNo pre id ks H,fun i _=>(ks.length - i).toNat,⟨rfl,0,rfl,by omega,fun j hj=>absurd hj (by omega)⟩,fun i H1 r=>?_⟩
  have hH:=r.heap; subst hH
  obtain ⟨j,rfl,hj,hs⟩:=r.k
  refine ⟨fun hlt=>?_,fun hge=>⟨?_,Sub.refl _⟩⟩
  · have hlt:=of_decide_eq_true hlt
    obtain ⟨y,hy⟩:=get_some (l:=ks) (i:=j) (by omega)
    obtain ⟨a,ha,hat⟩:=hI.at_ j y hy
    refine ⟨a,⟨ha,by omega,by omega⟩,y,hat,_,rfl,some m,at_fld 1 h1 rfl,smMono (sm_lookup h3 h4 y id) fun v H'=>?_⟩
    rintro ⟨rfl,rfl⟩
    refine ⟨_,rfl,fun ht=>⟨?_,Sub.refl _⟩,fun hf=>?_⟩
    · have ht:=of_decide_eq_true ht
      have:anyP pre id ks = true:=any_marks.2 ⟨y,List.mem_of_getElem? hy,ht⟩
      rw [this]; rfl
    · have hf:=of_decide_eq_false hf
      rw [wrapi (by omega) (by omega)]
      refine ⟨⟨rfl,j + 1,by omega,by omega,fun i hi z hz=>?_⟩,?_⟩
      · by_cases hij:i = j
        · subst hij; rw [hy] at hz; cases hz; exact hf
        · exact hs i (by omega) z hz
      · show (ks.length - ((j:Int) + 1)).toNat < (ks.length - (j:Int)).toNat
        omega
  · have hge:=of_decide_eq_false hge
    have:anyP pre id ks = false:=by
      cases hc:anyP pre id ks with
      | false=>rfl
      | true =>
        obtain ⟨y,hy,hm⟩:=any_marks.1 hc
        obtain ⟨i,hi,e⟩:=List.mem_iff_getElem.1 hy
        exact absurd hm (hs i (by omega) y (by rw [List.getElem?_eq_getElem hi,e]))
    rw [this]; rfl
theorem ng {pre : List Ev} (hb : pre.length ≤ 100000000000000000) {H : Heap} {b : Nat} (h : Book H b pre) (id : Int) (ks : List Int) (hk : ks.length ≤ 9223372036854775807) (kd : Int) (r : Bool) (hp : r = (isP pre id kd && !anyP pre id ks)) :
    ∃ b1:Bool,Tr Tryz.prog 180 #[.pointer (some ⟨b,0,none⟩),.int .i64 id,.int .i64 kd] H (fun v H'=>v = .bool b1 ∧ Sub H H') ∧
    (b1 = true → ∀ b2:Nat,H b2 = none → ∀ H1:Heap,H1 = H.upd b2 (.cells (ks.map (Value.int .i64)).toArray 3) → ∃ b3:Bool,
      Tr Tryz.prog 85 #[.pointer (some ⟨b,0,none⟩),.int .i64 id,.slice (some ⟨b2,0,none⟩) ks.length ks.length] H1 (fun v H'=>v = .bool b3 ∧ Sub H1 H') ∧ (Value.bool b3 = .bool r ∧ Sub H H1)) ∧
    (b1 = false → Value.bool false = .bool r ∧ Sub H H):=by
  refine ⟨_,t180 hb h id kd,fun i1 b2 n2 H1 e1=>?_,fun i0=>⟨by rw [hp,i0]; rfl,Sub.refl _⟩⟩
  obtain ⟨s,i⟩:=newI n2 ks e1
  exact ⟨_,t85 (h.sub s) id hk i,by rw [hp,i1]; rfl,s⟩
theorem nb {pre : List Ev} (hb : pre.length ≤ 100000000000000000) {H : Heap} {b : Nat} (h : Book H b pre) (id : Int) (k1 k2 : Int) (kd : Int) (r : Bool) (hp : r = (isP pre id kd && anyP pre id [k1] && !anyP pre id [k2])) :
    ∃ b1:Bool,Tr Tryz.prog 180 #[.pointer (some ⟨b,0,none⟩),.int .i64 id,.int .i64 kd] H (fun v H'=>v = .bool b1 ∧ Sub H H') ∧
    (b1 = true → ∀ b2:Nat,H b2 = none → ∀ H1:Heap,H1 = H.upd b2 (.cells #[.int .i64 k1] 3) → ∃ b3:Bool,
      Tr Tryz.prog 85 #[.pointer (some ⟨b,0,none⟩),.int .i64 id,.slice (some ⟨b2,0,none⟩) 1 1] H1 (fun v H'=>v = .bool b3 ∧ Sub H1 H') ∧
      ((!b3) = true → ∀ b4:Nat,H1 b4 = none → ∀ H2:Heap,H2 = H1.upd b4 (.cells #[.int .i64 k2] 3) → ∃ b5:Bool,
        Tr Tryz.prog 85 #[.pointer (some ⟨b,0,none⟩),.int .i64 id,.slice (some ⟨b4,0,none⟩) 1 1] H2 (fun v H'=>v = .bool b5 ∧ Sub H2 H') ∧ (Value.bool b5 = .bool r ∧ Sub H H2)) ∧
      ((!b3) = false → Value.bool false = .bool r ∧ Sub H H1)) ∧
    (b1 = false → Value.bool false = .bool r ∧ Sub H H):=by
  refine ⟨_,t180 hb h id kd,fun i1 b2 n2 H1 e1=>?_,fun i0=>⟨by rw [hp,i0]; rfl,Sub.refl _⟩⟩
  obtain ⟨s,i⟩:=newI n2 [k1] e1
  refine ⟨_,t85 (h.sub s) id (by simp) i,fun i2 b4 n4 H2 e2=>?_,fun i2=>⟨?_,s⟩⟩
  · obtain ⟨s2,j⟩:=newI n4 [k2] e2
    refine ⟨_,t85 (h.sub (s.trans s2)) id (by simp) j,?_,s.trans s2⟩
    have i2:anyP pre id [k1] = true:=by simpa using i2
    rw [hp,i1,i2]; rfl
  · have i2:anyP pre id [k1] = false:=by simpa using i2
    rw [hp,i2]; simp
theorem t154 {pre : List Ev} (hb : pre.length ≤ 100000000000000000) {H : Heap} {b : Nat} (h : Book H b pre) (e : Ev) :
    Tr Tryz.prog 154 #[.pointer (some ⟨b,0,none⟩),e.val] H (fun v H'=>v = .bool (namesP pre e) ∧ Sub H H'):=by
  apply v154; unfold F154
  refine ⟨fun q=>ng hb h e.a [6,22,23,24] (by decide) 3 _ (by have q:e.kind = 6:=(by simpa using q); unfold namesP; rw [q]; rfl),fun m0=>?_⟩
  refine ⟨fun q=>ng hb h e.a [6,22,23,24] (by decide) 3 _ (by have q:e.kind = 22:=(by simpa using q); unfold namesP; rw [q]; rfl),fun m1=>?_⟩
  refine ⟨fun q=>ng hb h e.a [6,22,23,24] (by decide) 3 _ (by have q:e.kind = 23:=(by simpa using q); unfold namesP; rw [q]; rfl),fun m2=>?_⟩
  refine ⟨fun q=>ng hb h e.a [6,22,23,24] (by decide) 3 _ (by have q:e.kind = 24:=(by simpa using q); unfold namesP; rw [q]; rfl),fun m3=>?_⟩
  refine ⟨fun q=>ng hb h e.a [7,25] (by decide) 4 _ (by have q:e.kind = 7:=(by simpa using q); unfold namesP; rw [q]; rfl),fun m4=>?_⟩
  refine ⟨fun q=>?_,fun m5=>?_⟩
  · have q:e.kind = 25:=by simpa using q
    have hnp:namesP pre e = (isP pre e.a 4 && !anyP pre e.a [7,25] && atTime pre e):=by unfold namesP; rw [q]; rfl
    have main : isP pre e.a 4 = true → ∀ b2 : Nat, H b2 = none → ∀ H1 : Heap, H1 = H.upd b2 (Obj.cells #[Value.int .i64 7, Value.int .i64 25] 3) → Sub H H1 ∧ ∃ b3 : Bool,
        Tr Tryz.prog 85 #[Value.pointer (some ⟨b,0,none⟩),Value.int .i64 e.a,Value.slice (some ⟨b2,0,none⟩) 2 2] H1 (fun v H'=>v = .bool b3 ∧ Sub H1 H') ∧
        ∃ a:Addr,(b3 = true → some (⟨b,0,none⟩:Addr) = some a) ∧ ∃ A n c,(b3 = true → At H1 (a.add 0) [Value.slice A n c]) ∧ ∃ a1:Addr,
          (b3 = true → A = some a1 ∧ (0:Int) ≤ IntKind.i64.wrap (e.a - 1) ∧ IntKind.i64.wrap (e.a - 1) < (n:Int)) ∧ ∃ x:Int,
          (b3 = true → At H1 ((a1.add ((IntKind.i64.wrap (e.a - 1)).toNat * 9)).add 3) [Value.int .i64 x]) ∧ (Value.bool (b3 && decide (e.time ≥ x)) = .bool (namesP pre e) ∧ Sub H H1):=by
      intro i1 b2 n2 H1 e1
      obtain ⟨s,i⟩:=newI n2 [7,25] e1
      obtain ⟨A,n,c,m,es,cl,h1,h2,h3,h4⟩:=h.out
      have hn:=h2.len; subst hn
      obtain ⟨g1,g2,x,g3,g4⟩:=isP_some i1
      obtain ⟨a,ha,hat⟩:=h2.at_ _ x g3
      have hw:IntKind.i64.wrap (e.a - 1) = e.a - 1:=wrapi (by omega) (by omega)
      refine ⟨s,_,t85 (h.sub s) e.a (by decide) i,_,fun _=>rfl,A,pre.length,c,fun _=>(at_fld 0 h1 rfl).sub s,a,fun _=>⟨ha,by omega,by omega⟩,x.a,fun _=>by rw [hw]; exact (at_one 3 hat rfl).sub s,?_,s⟩
      have ht:atTime pre e = decide (e.time ≥ x.a):=by unfold atTime; rw [g3]
      rw [hnp,i1,ht]; rfl
    have no:isP pre e.a 4 = false → Sub H H ∧ Value.bool false = .bool (namesP pre e) ∧ Sub H H:=fun i0=>⟨Sub.refl _,by rw [hnp,i0]; rfl,Sub.refl _⟩
    exact ⟨H,Sub.refl _,_,t180 hb h e.a 4,Sub.refl _,⟨Sub.refl _,main,no⟩,main,no⟩
  refine ⟨fun q=>ng hb h e.a [26,27] (by decide) 5 _ (by have q:e.kind = 26:=(by simpa using q); unfold namesP; rw [q]; rfl),fun m6=>?_⟩
  refine ⟨fun q=>ng hb h e.a [26,27] (by decide) 5 _ (by have q:e.kind = 27:=(by simpa using q); unfold namesP; rw [q]; rfl),fun m7=>?_⟩
  refine ⟨fun q=>nb hb h e.a 26 28 5 _ (by have q:e.kind = 28:=(by simpa using q); unfold namesP; rw [q]; rfl),fun m8=>?_⟩
  refine ⟨fun q=>ng hb h e.a [8,27,28] (by decide) 5 _ (by have q:e.kind = 8:=(by simpa using q); unfold namesP; rw [q]; rfl),fun m9=>?_⟩
  refine ⟨fun q=>⟨_,t180 hb h e.a 5,(by have q:e.kind = 9:=(by simpa using q); unfold namesP; rw [q]; rfl),Sub.refl _⟩,fun m10=>?_⟩
  refine ⟨fun q=>ng hb h e.a [29] (by decide) 9 _ (by have q:e.kind = 29:=(by simpa using q); unfold namesP; rw [q]; rfl),fun m11=>?_⟩
  refine ⟨fun q=>ng hb h e.a [12,13] (by decide) 21 _ (by have q:e.kind = 12:=(by simpa using q); unfold namesP; rw [q]; rfl),fun m12=>?_⟩
  refine ⟨fun q=>ng hb h e.a [12,13] (by decide) 21 _ (by have q:e.kind = 13:=(by simpa using q); unfold namesP; rw [q]; rfl),fun m13=>?_⟩
  refine ⟨fun q=>nb hb h e.a 12 14 21 _ (by have q:e.kind = 14:=(by simpa using q); unfold namesP; rw [q]; rfl),fun m14=>?_⟩
  refine ⟨?_,Sub.refl _⟩
  have z0:¬ e.kind = 6:=by simpa using m0
  have z1:¬ e.kind = 22:=by simpa using m1
  have z2:¬ e.kind = 23:=by simpa using m2
  have z3:¬ e.kind = 24:=by simpa using m3
  have z4:¬ e.kind = 7:=by simpa using m4
  have z5:¬ e.kind = 25:=by simpa using m5
  have z6:¬ e.kind = 26:=by simpa using m6
  have z7:¬ e.kind = 27:=by simpa using m7
  have z8:¬ e.kind = 28:=by simpa using m8
  have z9:¬ e.kind = 8:=by simpa using m9
  have z10:¬ e.kind = 9:=by simpa using m10
  have z11:¬ e.kind = 29:=by simpa using m11
  have z12:¬ e.kind = 12:=by simpa using m12
  have z13:¬ e.kind = 13:=by simpa using m13
  have z14:¬ e.kind = 14:=by simpa using m14
  unfold namesP
  rw [if_neg (by omega),if_neg (by omega),if_neg (by omega),if_neg (by omega),if_neg (by omega),if_neg (by omega),if_neg (by omega),if_neg (by omega),if_neg (by omega),if_neg (by omega)]
theorem may_nil (e:Ev):mayP [] e = !(!validM e || e.id != 1 || !(e.kind == 1)):=by
  unfold mayP
  simp only [List.length_nil]
  cases validM e <;> cases hk:e.kind == 1 <;> cases hi:e.id == 1 <;> simp [bne,hk,hi]
theorem may_ne {pre : List Ev} {e : Ev} (h : pre ≠ []) : mayP pre e = if (!validM e || e.id != pre.length + 1 || e.kind == 1) = true then false
    else if (decide (e.time < (lastP pre).time) || closeM (lastP pre).kind || e.kind == 2 && e.a != pre.length) = true then false
    else if (cmdM e.kind && !(e.kind == 16 && e.a == -4) && ((lastP pre).kind != 2 && !cmdM (lastP pre).kind || e.time != (lastP pre).time)) = true then false
    else namesP pre e:=by
  have hl:pre.length ≠ 0:=by cases pre with
    | nil=>exact absurd rfl h
    | cons _ _=>simp
  have hz:((pre.length:Int) == 0) = false:=by simp; omega
  conv=>lhs; unfold mayP
  rw [hz,if_neg h]
  simp [bne,hz]
theorem lastP_snoc (pre:List Ev) (x:Ev):lastP (pre ++ [x]) = x:=by simp [lastP]
theorem t128 {pre : List Ev} (hb : pre.length ≤ 100000000000000000) {H : Heap} {b : Nat} (h : Book H b pre) (e : Ev) :
    Tr Tryz.prog 128 #[.pointer (some ⟨b,0,none⟩),e.val] H (fun v H'=>v = .bool (mayP pre e) ∧ Sub H H'):=by
  obtain ⟨A,n,c,m,es,cl,h1,h2,h3,h4⟩:=h.out
  have hn:=h2.len; subst hn
  apply v128; unfold F128
  refine ⟨_,rfl,A,pre.length,c,at_fld 0 h1 rfl,?_⟩
  rw [show IntKind.i64.wrap ((pre.length:Int) + 1) = (pre.length:Int) + 1 from wrapi (by omega) (by omega)]
  refine ⟨_,t109 e H,_,fun _=>rfl,overP pre,fun _=>at_fld 2 h1 rfl,?_⟩
  rcases List.eq_nil_or_concat pre with rfl | ⟨p,x,rfl⟩
  · have hv:=may_nil e
    refine ⟨fun q=>⟨?_,Sub.refl _⟩,fun q=>⟨fun _=>⟨?_,Sub.refl _⟩,fun q=>(by simp at q)⟩⟩
    · rw [hv]
      have:(!validM e || e.id != 1 || !(e.kind == 1)) = true:=by simpa [overP] using q
      rw [this]; rfl
    · rw [hv]
      have:(!validM e || e.id != 1 || !(e.kind == 1)) = false:=by simpa [overP] using q
      rw [this]; rfl
  · have hne:p ++ [x] ≠ []:=by simp
    have hv:=may_ne (e:=e) hne
    rw [List.concat_eq_append] at *
    rw [lastP_snoc] at hv
    have hl:(p ++ [x]).length = p.length + 1:=by simp
    have hz:(((p ++ [x]).length:Int) == 0) = false:=by simp; omega
    rw [overP_snoc,hz]
    refine ⟨fun q=>⟨?_,Sub.refl _⟩,fun q=>⟨fun q=>(by cases q),fun _=>?_⟩⟩
    · rw [hv]
      split
      · rfl
      · rename_i hn
        have:closeM x.kind = true:=by
          cases hc:closeM x.kind with
          | true=>rfl
          | false=>exact absurd (by simpa [hc] using q) hn
        rw [this,if_pos (by simp)]
    · have q1 : (!validM e || e.id != ((p ++ [x]).length : Int) + 1 || e.kind == 1) = false := by
        cases hc:(!validM e || e.id != ((p ++ [x]).length:Int) + 1) <;> cases hk:(e.kind == 1) <;> simp_all
      have q2:closeM x.kind = false:=by
        cases hc:closeM x.kind <;> simp_all
      rw [if_neg (by rw [q1]; simp),q2,Bool.or_false] at hv
      have hx:(p ++ [x])[p.length]? = some x:=by simp
      obtain ⟨a',ha',hat'⟩:=h2.at_ _ x hx
      have hw:IntKind.i64.wrap (((p ++ [x]).length:Int) - 1) = (p.length:Int):=by rw [wrapi (by omega) (by omega)]; omega
      rw [hw]
      refine ⟨_,rfl,A,(p ++ [x]).length,c,at_fld 0 h1 rfl,a',⟨ha',by omega,by omega⟩,_,_,_,_,_,_,_,_,_,hat',fun q3=>⟨?_,Sub.refl _⟩,fun q3=>?_⟩
      · rw [hv,if_pos q3]
      · rw [if_neg (by rw [q3]; simp)] at hv
        refine ⟨_,t89 e.kind H,fun q4=>?_,fun q4=>⟨_,t154 hb h e,?_,Sub.refl _⟩⟩
        · rw [q4,Bool.true_and] at hv
          refine ⟨_,fun _=>t89 x.kind H,fun q5=>⟨?_,Sub.refl _⟩,fun q5=>⟨_,t154 hb h e,?_,Sub.refl _⟩⟩
          · rw [hv,if_pos q5]
          · rw [hv,if_neg (by rw [q5]; simp)]
        · rw [hv,if_neg (by rw [q4]; simp)]
end Go.Proofs.YtkofafcgcnciaaaGreatDoor
set_option maxRecDepth 100000
set_option linter.unusedVariables false
namespace Go.Proofs.YtkofafcgcnciaaaGreatDoor
open Go.Ax
noncomputable def c91:Cx:={ P:=Tryz.prog,res:=[],pub:=[],loops:=[],quiet:=[],asm:=true }
def F91 (event:Int) (opts:Int) (input:Int) (now:Int) (H:Heap) (K:Value → Heap → Prop):Prop:=K (.agg #[.int .i64 event,.int .i64 opts,.int .i64 input,.int .i64 now,.int .i64 1,.int .i64 1,.int .i64 now,.int .i64 0,.int .i64 0,.int .i64 0]) H

theorem v91 {event:Int} {opts:Int} {input:Int} {now:Int} {H:Heap} {K:Value → Heap → Prop} (h:F91 event opts input now H K):Tr Tryz.prog 91 #[.int .i64 event,.int .i64 opts,.int .i64 input,.int .i64 now] H K :=
  tr_of_eq (C:=c91) Tryz.func91 (show vcFn c91 Tryz.f91 [.int .i64 event,.int .i64 opts,.int .i64 input,.int .i64 now] H K = F91 event opts input now H K by kernel_rfl) h
noncomputable def c52:Cx:={ P:=Tryz.prog,res:=[],pub:=[],loops:=[],quiet:=[],asm:=true }
def F52 (eId:Int) (eTime:Int) (eKind:Int) (eA:Int) (eB:Int) (eC:Int) (eD:Int) (eE:Int) (eF:Int) (H:Heap) (K:Value → Heap → Prop):Prop:=K (.bool (decide (eKind ≥ 19) || eKind == 16 && eA == (-4))) H

theorem v52 {eId:Int} {eTime:Int} {eKind:Int} {eA:Int} {eB:Int} {eC:Int} {eD:Int} {eE:Int} {eF:Int} {H:Heap} {K:Value → Heap → Prop} (h:F52 eId eTime eKind eA eB eC eD eE eF H K):Tr Tryz.prog 52 #[.agg #[.int .i64 eId,.int .i64 eTime,.int .i64 eKind,.int .i64 eA,.int .i64 eB,.int .i64 eC,.int .i64 eD,.int .i64 eE,.int .i64 eF]] H K :=
  tr_of_eq (C:=c52) Tryz.func52 (show vcFn c52 Tryz.f52 [.agg #[.int .i64 eId,.int .i64 eTime,.int .i64 eKind,.int .i64 eA,.int .i64 eB,.int .i64 eC,.int .i64 eD,.int .i64 eE,.int .i64 eF]] H K = F52 eId eTime eKind eA eB eC eD eE eF H K by kernel_rfl) h
noncomputable def c54:Cx:={ P:=Tryz.prog,res:=[],pub:=[],loops:=[],quiet:=[],asm:=true }
def F54 (id:Int) (now:Int) (H:Heap) (K:Value → Heap → Prop):Prop:=K (.agg #[.int .i64 id,.int .i64 now,.int .i64 16,.int .i64 (-4),.int .i64 0,.int .i64 0,.int .i64 0,.int .i64 0,.int .i64 0]) H

theorem v54 {id:Int} {now:Int} {H:Heap} {K:Value → Heap → Prop} (h:F54 id now H K):Tr Tryz.prog 54 #[.int .i64 id,.int .i64 now] H K :=
  tr_of_eq (C:=c54) Tryz.func54 (show vcFn c54 Tryz.f54 [.int .i64 id,.int .i64 now] H K = F54 id now H K by kernel_rfl) h
noncomputable def c100:Cx:={ P:=Tryz.prog,res:=[],pub:=[],loops:=[],quiet:=[],asm:=true }
def F100 (kind:Int) (H:Heap) (K:Value → Heap → Prop):Prop:=((kind == 15) = true → K (.int .i64 2) H) ∧
 ((kind == 15) = false → ((kind == 16) = true → K (.int .i64 3) H) ∧
 ((kind == 16) = false → ((kind == 17) = true → K (.int .i64 4) H) ∧
 ((kind == 17) = false → ((kind == 30) = true → K (.int .i64 5) H) ∧
 ((kind == 30) = false → ((kind == 31) = true → K (.int .i64 6) H) ∧
 ((kind == 31) = false → K (.int .i64 7) H)))))

theorem v100 {kind:Int} {H:Heap} {K:Value → Heap → Prop} (h:F100 kind H K):Tr Tryz.prog 100 #[.int .i64 kind] H K :=
  tr_of_eq (C:=c100) Tryz.func100 (show vcFn c100 Tryz.f100 [.int .i64 kind] H K = F100 kind H K by kernel_rfl) h
noncomputable def c26:Cx:={ P:=Tryz.prog,res:=[],pub:=[],loops:=[],quiet:=[],asm:=true }
def F26 (rNumber:Int) (rType:Int) (rStatus:Int) (rId:ByteArray) (rBegun:Int) (rEnded:Int) (rDeadline:Int) (rParent:Int) (rEvent:Int) (rSeen:Int) (rValue:Int) (rAttrs0:Int) (rAttrs1:Int) (rAttrs2:Int) (rAttrs3:Int) (rEventsA:Option Addr) (rEventsn rEventsc:Nat) (rActsA:Option Addr) (rActsn rActsc:Nat) (rTimersA:Option Addr) (rTimersn rTimersc:Nat) (rKidsA:Option Addr) (rKidsn rKidsc:Nat) (rUpdatesA:Option Addr) (rUpdatesn rUpdatesc:Nat) (H:Heap) (K:Value → Heap → Prop):Prop:=K (.bool (rStatus == 1)) H

theorem v26 {rNumber:Int} {rType:Int} {rStatus:Int} {rId:ByteArray} {rBegun:Int} {rEnded:Int} {rDeadline:Int} {rParent:Int} {rEvent:Int} {rSeen:Int} {rValue:Int} {rAttrs0:Int} {rAttrs1:Int} {rAttrs2:Int} {rAttrs3:Int} {rEventsA:Option Addr} {rEventsn rEventsc:Nat} {rActsA:Option Addr} {rActsn rActsc:Nat} {rTimersA:Option Addr} {rTimersn rTimersc:Nat} {rKidsA:Option Addr} {rKidsn rKidsc:Nat} {rUpdatesA:Option Addr} {rUpdatesn rUpdatesc:Nat} {H:Heap} {K:Value → Heap → Prop} (h:F26 rNumber rType rStatus rId rBegun rEnded rDeadline rParent rEvent rSeen rValue rAttrs0 rAttrs1 rAttrs2 rAttrs3 rEventsA rEventsn rEventsc rActsA rActsn rActsc rTimersA rTimersn rTimersc rKidsA rKidsn rKidsc rUpdatesA rUpdatesn rUpdatesc H K):Tr Tryz.prog 26 #[.agg #[.int .i64 rNumber,.int .i64 rType,.int .i64 rStatus,.string rId,.int .i64 rBegun,.int .i64 rEnded,.int .i64 rDeadline,.int .i64 rParent,.int .i64 rEvent,.int .i64 rSeen,.int .i64 rValue,.int .i64 rAttrs0,.int .i64 rAttrs1,.int .i64 rAttrs2,.int .i64 rAttrs3,.slice rEventsA rEventsn rEventsc,.slice rActsA rActsn rActsc,.slice rTimersA rTimersn rTimersc,.slice rKidsA rKidsn rKidsc,.slice rUpdatesA rUpdatesn rUpdatesc]] H K :=
  tr_of_eq (C:=c26) Tryz.func26 (show vcFn c26 Tryz.f26 [.agg #[.int .i64 rNumber,.int .i64 rType,.int .i64 rStatus,.string rId,.int .i64 rBegun,.int .i64 rEnded,.int .i64 rDeadline,.int .i64 rParent,.int .i64 rEvent,.int .i64 rSeen,.int .i64 rValue,.int .i64 rAttrs0,.int .i64 rAttrs1,.int .i64 rAttrs2,.int .i64 rAttrs3,.slice rEventsA rEventsn rEventsc,.slice rActsA rActsn rActsc,.slice rTimersA rTimersn rTimersc,.slice rKidsA rKidsn rKidsc,.slice rUpdatesA rUpdatesn rUpdatesc]] H K = F26 rNumber rType rStatus rId rBegun rEnded rDeadline rParent rEvent rSeen rValue rAttrs0 rAttrs1 rAttrs2 rAttrs3 rEventsA rEventsn rEventsc rActsA rActsn rActsc rTimersA rTimersn rTimersc rKidsA rKidsn rKidsc rUpdatesA rUpdatesn rUpdatesc H K by kernel_rfl) h
noncomputable def c96:Cx:={ P:=Tryz.prog,res:=[],pub:=[],loops:=[⟨1,[(16,.int .i64)],[10,17,18,19,20,21,22,23,24,25,26,27,28,29,30,31,32,33,34,35,36,37,38,39,40,41,42,43,44,45,46,47,48,49,50,51,52,53],[]⟩],quiet:=[],draws:=[⟨4,[3,8,13],[],true,true⟩],asm:=true }
def F96 (r:Option Addr) (id:Int) (state:Int) (value:Int) (status:Int) (H:Heap) (K:Value → Heap → Prop):Prop :=
 ∃ (a:Addr),
 r = some a ∧
 ∃ (A:Option Addr) (n c:Nat),
 At H (a.add (nat_lit 19)) [.slice A n c] ∧
 ∃ (Rel:Int → Heap → Prop) (mu:Int → Heap → Nat),
 Rel (0:Int) H ∧
 ∀ (x:Int) (H1:Heap),Rel x H1 → (decide (x < (↑n:Int)) = true →
 ∃ (a1:Addr),
 r = some a1 ∧
 ∃ (A1:Option Addr) (n1 c1:Nat),
 At H1 (a1.add (nat_lit 19)) [.slice A1 n1 c1] ∧
 ∃ (a2:Addr),
 (A1 = some a2 ∧
 (0:Int) ≤ x ∧
 x < (↑n1:Int)) ∧
 ∃ (x1:Int),
 At H1 ((a2.add (x.toNat * nat_lit 4)).add (nat_lit 0)) [.int .i64 x1] ∧
 ((x1 == id) = true →
 ∃ (Hs:Heap),
 Ax.Sub Hs H1 ∧
 ∃ (a3:Addr),
 r = some a3 ∧
 ∃ (a4:Addr),
 r = some a4 ∧
 ∃ (a5:Addr),
 r = some a5 ∧
 ∃ (A2:Option Addr) (n2 c2:Nat),
 At Hs (a3.add (nat_lit 19)) [.slice A2 n2 c2] ∧
 ∃ (A3:Option Addr) (n3 c3:Nat),
 At Hs (a4.add (nat_lit 19)) [.slice A3 n3 c3] ∧
 ∃ (A4:Option Addr) (n4 c4:Nat),
 At Hs (a5.add (nat_lit 19)) [.slice A4 n4 c4] ∧
 ∃ (a6:Addr),
 (A2 = some a6 ∧
 (0:Int) ≤ x ∧
 x < (↑n2:Int)) ∧
 StL H1 ((a6.add (x.toNat * nat_lit 4)).add (nat_lit 1)) [.int .i64 state] fun H1_1=>Ax.Sub Hs H1_1 ∧
 ∃ (a7:Addr),
 (A3 = some a7 ∧
 (0:Int) ≤ x ∧
 x < (↑n3:Int)) ∧
 StL H1_1 ((a7.add (x.toNat * nat_lit 4)).add (nat_lit 2)) [.int .i64 value] fun H11=>Ax.Sub Hs H11 ∧
 ∃ (a8:Addr),
 (A4 = some a8 ∧
 (0:Int) ≤ x ∧
 x < (↑n4:Int)) ∧
 StL H11 ((a8.add (x.toNat * nat_lit 4)).add (nat_lit 3)) [.int .i64 status] fun H12=>Ax.Sub Hs H12 ∧
 Rel (IntKind.i64.wrap (x + 1)) H12 ∧
 mu (IntKind.i64.wrap (x + 1)) H12 < mu x H1) ∧
 ((x1 == id) = false → Rel (IntKind.i64.wrap (x + 1)) H1 ∧
 mu (IntKind.i64.wrap (x + 1)) H1 < mu x H1)) ∧
 (decide (x < (↑n:Int)) = false → K (.tuple #[]) H1)

theorem v96 {r:Option Addr} {id:Int} {state:Int} {value:Int} {status:Int} {H:Heap} {K:Value → Heap → Prop} (h:F96 r id state value status H K):Tr Tryz.prog 96 #[.pointer r,.int .i64 id,.int .i64 state,.int .i64 value,.int .i64 status] H K :=
  tr_of_eq (C:=c96) Tryz.func96 (show vcFn c96 Tryz.f96 [.pointer r,.int .i64 id,.int .i64 state,.int .i64 value,.int .i64 status] H K = F96 r id state value status H K by kernel_rfl) h
noncomputable def c97:Cx:={ P:=Tryz.prog,res:=[],pub:=[],loops:=[⟨1,[(12,.int .i64)],[6,13,14,15,16,17,18,19,20,21,22,23,24,25,26,27,28,29,30,31,32,33],[]⟩],quiet:=[],asm:=true,dyn:=[25] }
def F97 (r:Option Addr) (id:Int) (change:Value) (H:Heap) (K:Value → Heap → Prop):Prop :=
 ∃ (a:Addr),
 r = some a ∧
 ∃ (A:Option Addr) (n c:Nat),
 At H (a.add (nat_lit 18)) [.slice A n c] ∧
 ∃ (Rel:Int → Heap → Prop) (mu:Int → Heap → Nat),
 Rel (0:Int) H ∧
 ∀ (x:Int) (H1:Heap),Rel x H1 → (decide (x < (↑n:Int)) = true →
 ∃ (a1:Addr),
 r = some a1 ∧
 ∃ (A1:Option Addr) (n1 c1:Nat),
 At H1 (a1.add (nat_lit 18)) [.slice A1 n1 c1] ∧
 ∃ (a2:Addr),
 (A1 = some a2 ∧
 (0:Int) ≤ x ∧
 x < (↑n1:Int)) ∧
 ∃ (x1:Int),
 At H1 ((a2.add (x.toNat * nat_lit 5)).add (nat_lit 0)) [.int .i64 x1] ∧
 ((x1 == id) = true →
 ∃ (a3:Addr),
 r = some a3 ∧
 ∃ (A2:Option Addr) (n2 c2:Nat),
 At H1 (a3.add (nat_lit 18)) [.slice A2 n2 c2] ∧
 ∃ (a4:Addr),
 (A2 = some a4 ∧
 (0:Int) ≤ x ∧
 x < (↑n2:Int)) ∧
 ∃ (g:Nat) (all:List Value),
 isFn Tryz.prog change [.pointer (some (a4.add (x.toNat * nat_lit 5)))] g all ∧
 Tr Tryz.prog g { toList:=all } H1 fun v H'=>v = .tuple #[] ∧
 Rel (IntKind.i64.wrap (x + 1)) H' ∧
 mu (IntKind.i64.wrap (x + 1)) H' < mu x H1) ∧
 ((x1 == id) = false → Rel (IntKind.i64.wrap (x + 1)) H1 ∧
 mu (IntKind.i64.wrap (x + 1)) H1 < mu x H1)) ∧
 (decide (x < (↑n:Int)) = false → K (.tuple #[]) H1)

theorem v97 {r:Option Addr} {id:Int} {change:Value} {H:Heap} {K:Value → Heap → Prop} (h:F97 r id change H K):Tr Tryz.prog 97 #[.pointer r,.int .i64 id,change] H K :=
  tr_of_eq (C:=c97) Tryz.func97 (show vcFn c97 Tryz.f97 [.pointer r,.int .i64 id,change] H K = F97 r id change H K by kernel_rfl) h
noncomputable def c43:Cx:={ P:=Tryz.prog,res:=[],pub:=[2,3],loops:=[],quiet:=[52,53,89,91,100],draws:=[⟨1,[0,1,5],[],true,true⟩,⟨7,[0,1,2,3,5,7,9,11],[],true,true⟩,⟨8,[0,1,3],[],true,true⟩,⟨10,[0,1,6,8,10,12],[],true,true⟩,⟨12,[0,1,6,8],[],true,true⟩,⟨14,[0,1,6,8,10],[],true,true⟩,⟨20,[0,1],[],true,true⟩,⟨23,[0,1],[],true,true⟩,⟨29,[0,2,4],[],true,true⟩,⟨31,[0,1,6],[],true,true⟩,⟨45,[0,1,2,4,7,9],[],true,true⟩,⟨46,[0,1],[],true,true⟩],asm:=true,cuts:=[⟨2,[],[6,7,8,9,10,11,12,13,14,15],[]⟩,⟨4,[],[16,17,18,19,20,21,22,23,24,25,26,27,28,29,30,31,32,33],[]⟩,⟨43,[],[4,35,36,37,38,39,40,41,42,43,44,45,46,47,48,49,50,51,52,53,54,55,56,57,58,59,60,61,62,63,64,65,66,67,68,69,70,71,72,73,74,75,76,77,78,79,80,81,82,83,84,85,86,87,88,89,90,91,92,93,94,95,96,97,98,99,100,101,102,103,104,105,106,107,108,109,110,111,112,113,114,115,116,117,118,119,120,121,122,123,124,125,126,127,128,129,130,131,132,133,134,135,136,137,138,139,140,141,142,143,144,145,146,147,148,149,150,151,152,153,154,155,156,157,158,159,160,161,162,163,164,165,166,167,168,169,170,171,172,173,174,175,176,177,178,179,180,181,182,183,184,185,186,187,188,189,190,191,192,193,194,195,196,197,198,199,200,201,202,203,204,205,206,207,208,209,210,211,212,213,214,215,216,217,218,219,220,221,222,223,224,225,226,227,228,229,230],[]⟩] }
def F43 (r:Option Addr) (eId:Int) (eTime:Int) (eKind:Int) (eA:Int) (eB:Int) (eC:Int) (eD:Int) (eE:Int) (eF:Int) (H:Heap) (K:Value → Heap → Prop):Prop:=∀ (b:Nat),H b = none → ∀ (H1:Heap),H1 = H.upd b (Obj.cells #[.pointer r] (65:Nat)) → ∀ (b1:Nat),H1 b1 = none → ∀ (H11:Heap),H11 = H1.upd b1 (Obj.cells #[.int .i64 eId,.int .i64 eTime,.int .i64 eKind,.int .i64 eA,.int .i64 eB,.int .i64 eC,.int .i64 eD,.int .i64 eE,.int .i64 eF] (47:Nat)) →
 ∃ (Mid:Heap → Prop),
 (∃ (Hs:Heap),Ax.Sub Hs H11 ∧
 ∃ (v:Option Addr),
 At Hs (⟨b,0,none⟩:Addr) [.pointer v] ∧
 ∃ (v1:Option Addr),
 At Hs (⟨b,0,none⟩:Addr) [.pointer v1] ∧
 ∃ (a:Addr),
 v1 = some a ∧
 ∃ (x x1 x2 x3 x4 x5 x6 x7 x8:Int),
 At Hs (⟨b1,0,none⟩:Addr) [.int .i64 x,.int .i64 x1,.int .i64 x2,.int .i64 x3,.int .i64 x4,.int .i64 x5,.int .i64 x6,.int .i64 x7,.int .i64 x8] ∧
 (∃ (A:Option Addr),
 ∃ (n c:Nat),
 At H11 (a.add (nat_lit 15)) [.slice A n c] ∧
 Ax.Sub Hs H11 ∧
 Ax.Sub Hs H11 ∧
 appC (47:Nat) (nat_lit 9) (nat_lit 72) H11 A n c [.int .i64 x,.int .i64 x1,.int .i64 x2,.int .i64 x3,.int .i64 x4,.int .i64 x5,.int .i64 x6,.int .i64 x7,.int .i64 x8] (1:Nat) fun (A':Option Addr) (n' c':Nat) (H':Heap)=>Ax.Sub Hs H' ∧
 ∃ (a1:Addr),
 v = some a1 ∧
 StL H' (a1.add (nat_lit 15)) [.slice A' n' c'] fun H12=>Ax.Sub Hs H12 ∧
 Mid H12) ∧
 Ax.Sub Hs H11 ∧
 ∃ (A1:Option Addr) (n1 c2:Nat),
 At H11 (a.add (nat_lit 15)) [.slice A1 n1 c2] ∧
 Ax.Sub Hs H11 ∧
 appC (47:Nat) (nat_lit 9) (nat_lit 72) H11 A1 n1 c2 [.int .i64 x,.int .i64 x1,.int .i64 x2,.int .i64 x3,.int .i64 x4,.int .i64 x5,.int .i64 x6,.int .i64 x7,.int .i64 x8] (1:Nat) fun (A'1:Option Addr) (n'1 c'1:Nat) (H'1:Heap)=>Ax.Sub Hs H'1 ∧
 ∃ (a2:Addr),
 v = some a2 ∧
 StL H'1 (a2.add (nat_lit 15)) [.slice A'1 n'1 c'1] fun H13=>Ax.Sub Hs H13 ∧
 Mid H13) ∧
 ∀ (H1:Heap),Mid H1 →
 ∃ (Mid1:Heap → Prop),
 (∃ (x9:Int),At H1 ((⟨b1,0,none⟩:Addr).add (nat_lit 2)) [.int .i64 x9] ∧
 ∃ (x10:Int),
 ((!x9 == 2) = true → At H1 ((⟨b1,0,none⟩:Addr).add (nat_lit 2)) [.int .i64 x10]) ∧
 ∃ (b2:Bool),
 ((!x9 == 2) = true → Tr Tryz.prog (89:Nat) #[.int .i64 x10] H1 fun v2 H'2=>v2 = .bool b2 ∧
 Ax.Sub H1 H'2) ∧
 ∃ (x11 x12 x13 x14 x15 x16 x17 x18 x19:Int),
 ((!x9 == 2 && b2) = true → At H1 (⟨b1,0,none⟩:Addr) [.int .i64 x11,.int .i64 x12,.int .i64 x13,.int .i64 x14,.int .i64 x15,.int .i64 x16,.int .i64 x17,.int .i64 x18,.int .i64 x19]) ∧
 ∃ (b3:Bool),
 ((!x9 == 2 && b2) = true → Tr Tryz.prog (52:Nat) #[.agg #[.int .i64 x11,.int .i64 x12,.int .i64 x13,.int .i64 x14,.int .i64 x15,.int .i64 x16,.int .i64 x17,.int .i64 x18,.int .i64 x19]] H1 fun v3 H'3=>v3 = .bool b3 ∧
 Ax.Sub H1 H'3) ∧
 ((x9 == 2 || b2 && !b3) = true →
 ∃ (v4:Option Addr),
 At H1 (⟨b,0,none⟩:Addr) [.pointer v4] ∧
 ∃ (x20:Int),
 At H1 ((⟨b1,0,none⟩:Addr).add (nat_lit 0)) [.int .i64 x20] ∧
 ∃ (a3:Addr),
 v4 = some a3 ∧
 StL H1 (a3.add (nat_lit 9)) [.int .i64 x20] fun H14=>Mid1 H14) ∧
 ((x9 == 2 || b2 && !b3) = false → Mid1 H1)) ∧
 ∀ (H2:Heap),Mid1 H2 →
 ∃ (Mid2:Heap → Prop),
 (∃ (x21:Int),At H2 ((⟨b1,0,none⟩:Addr).add (nat_lit 2)) [.int .i64 x21] ∧
 ((x21 == 1) = true →
 ∃ (Hs1:Heap),
 Ax.Sub Hs1 H2 ∧
 ∃ (v5:Option Addr),
 At Hs1 (⟨b,0,none⟩:Addr) [.pointer v5] ∧
 ∃ (v6:Option Addr),
 At Hs1 (⟨b,0,none⟩:Addr) [.pointer v6] ∧
 ∃ (v7:Option Addr),
 At Hs1 (⟨b,0,none⟩:Addr) [.pointer v7] ∧
 ∃ (v8:Option Addr),
 At Hs1 (⟨b,0,none⟩:Addr) [.pointer v8] ∧
 ∃ (x22:Int),
 At Hs1 ((⟨b1,0,none⟩:Addr).add (nat_lit 3)) [.int .i64 x22] ∧
 ∃ (a4:Addr),
 v5 = some a4 ∧
 ∃ (x23:Int),
 At Hs1 ((⟨b1,0,none⟩:Addr).add (nat_lit 5)) [.int .i64 x23] ∧
 ∃ (x24:Int),
 At Hs1 ((⟨b1,0,none⟩:Addr).add (nat_lit 6)) [.int .i64 x24] ∧
 ∃ (x25:Int),
 At Hs1 ((⟨b1,0,none⟩:Addr).add (nat_lit 7)) [.int .i64 x25] ∧
 StL H2 (a4.add (nat_lit 1)) [.int .i64 x22] fun H15=>Ax.Sub Hs1 H15 ∧
 ∃ (a5:Addr),
 v6 = some a5 ∧
 StL H15 (a5.add (nat_lit 6)) [.int .i64 x23] fun H16=>Ax.Sub Hs1 H16 ∧
 ∃ (a6:Addr),
 v7 = some a6 ∧
 StL H16 (a6.add (nat_lit 7)) [.int .i64 x24] fun H17=>Ax.Sub Hs1 H17 ∧
 ∃ (a7:Addr),
 v8 = some a7 ∧
 StL H17 (a7.add (nat_lit 8)) [.int .i64 x25] fun H18=>Ax.Sub Hs1 H18 ∧
 ∃ (Hs2:Heap),
 Ax.Sub Hs2 H18 ∧
 ∃ (v9:Option Addr),
 At Hs2 (⟨b,0,none⟩:Addr) [.pointer v9] ∧
 ∃ (v10:Option Addr),
 At Hs2 (⟨b,0,none⟩:Addr) [.pointer v10] ∧
 ∃ (x26:Int),
 At Hs2 ((⟨b1,0,none⟩:Addr).add (nat_lit 1)) [.int .i64 x26] ∧
 ∃ (a8:Addr),
 v9 = some a8 ∧
 StL H18 (a8.add (nat_lit 4)) [.int .i64 x26] fun H19=>Ax.Sub Hs2 H19 ∧
 ∃ (a9:Addr),
 v10 = some a9 ∧
 StL H19 (a9.add (nat_lit 2)) [.int .i64 1] fun H110=>Ax.Sub Hs2 H110 ∧
 Mid2 H110) ∧
 ((x21 == 1) = false → ((x21 == 3) = true →
 ∃ (Hs3:Heap),
 Ax.Sub Hs3 H2 ∧
 ∃ (v11:Option Addr),
 At Hs3 (⟨b,0,none⟩:Addr) [.pointer v11] ∧
 ∃ (v12:Option Addr),
 At Hs3 (⟨b,0,none⟩:Addr) [.pointer v12] ∧
 ∃ (a10:Addr),
 v12 = some a10 ∧
 ∃ (x27:Int),
 At Hs3 ((⟨b1,0,none⟩:Addr).add (nat_lit 0)) [.int .i64 x27] ∧
 ∃ (x28:Int),
 At Hs3 ((⟨b1,0,none⟩:Addr).add (nat_lit 3)) [.int .i64 x28] ∧
 ∃ (x29:Int),
 At Hs3 ((⟨b1,0,none⟩:Addr).add (nat_lit 4)) [.int .i64 x29] ∧
 ∃ (x30:Int),
 At Hs3 ((⟨b1,0,none⟩:Addr).add (nat_lit 1)) [.int .i64 x30] ∧
 (∃ (A2:Option Addr),
 ∃ (n2 c11:Nat),
 At H2 (a10.add (nat_lit 16)) [.slice A2 n2 c11] ∧
 Ax.Sub Hs3 H2 ∧
 ∃ (x31 x32 x33 x34 x35 x36 x37 x38 x39 x40:Int),
 (Tr Tryz.prog (91:Nat) #[.int .i64 x27,.int .i64 x28,.int .i64 x29,.int .i64 x30] H2 fun v13 H'4=>v13 = .agg #[.int .i64 x31,.int .i64 x32,.int .i64 x33,.int .i64 x34,.int .i64 x35,.int .i64 x36,.int .i64 x37,.int .i64 x38,.int .i64 x39,.int .i64 x40] ∧
 Ax.Sub H2 H'4) ∧
 Ax.Sub Hs3 H2 ∧
 Ax.Sub Hs3 H2 ∧
 appC (53:Nat) (nat_lit 10) (nat_lit 80) H2 A2 n2 c11 [.int .i64 x31,.int .i64 x32,.int .i64 x33,.int .i64 x34,.int .i64 x35,.int .i64 x36,.int .i64 x37,.int .i64 x38,.int .i64 x39,.int .i64 x40] (1:Nat) fun (A'2:Option Addr) (n'2 c'2:Nat) (H'5:Heap)=>Ax.Sub Hs3 H'5 ∧
 ∃ (a11:Addr),
 v11 = some a11 ∧
 StL H'5 (a11.add (nat_lit 16)) [.slice A'2 n'2 c'2] fun H111=>Ax.Sub Hs3 H111 ∧
 Mid2 H111) ∧
 ∃ (x41 x42 x43 x44 x45 x46 x47 x48 x49 x50:Int),
 (Tr Tryz.prog (91:Nat) #[.int .i64 x27,.int .i64 x28,.int .i64 x29,.int .i64 x30] H2 fun v14 H'6=>v14 = .agg #[.int .i64 x41,.int .i64 x42,.int .i64 x43,.int .i64 x44,.int .i64 x45,.int .i64 x46,.int .i64 x47,.int .i64 x48,.int .i64 x49,.int .i64 x50] ∧
 Ax.Sub H2 H'6) ∧
 Ax.Sub Hs3 H2 ∧
 (∃ (A3:Option Addr),
 ∃ (n3 c13:Nat),
 At H2 (a10.add (nat_lit 16)) [.slice A3 n3 c13] ∧
 Ax.Sub Hs3 H2 ∧
 Ax.Sub Hs3 H2 ∧
 appC (53:Nat) (nat_lit 10) (nat_lit 80) H2 A3 n3 c13 [.int .i64 x41,.int .i64 x42,.int .i64 x43,.int .i64 x44,.int .i64 x45,.int .i64 x46,.int .i64 x47,.int .i64 x48,.int .i64 x49,.int .i64 x50] (1:Nat) fun (A'3:Option Addr) (n'3 c'3:Nat) (H'7:Heap)=>Ax.Sub Hs3 H'7 ∧
 ∃ (a12:Addr),
 v11 = some a12 ∧
 StL H'7 (a12.add (nat_lit 16)) [.slice A'3 n'3 c'3] fun H112=>Ax.Sub Hs3 H112 ∧
 Mid2 H112) ∧
 Ax.Sub Hs3 H2 ∧
 ∃ (A4:Option Addr) (n4 c15:Nat),
 At H2 (a10.add (nat_lit 16)) [.slice A4 n4 c15] ∧
 Ax.Sub Hs3 H2 ∧
 appC (53:Nat) (nat_lit 10) (nat_lit 80) H2 A4 n4 c15 [.int .i64 x41,.int .i64 x42,.int .i64 x43,.int .i64 x44,.int .i64 x45,.int .i64 x46,.int .i64 x47,.int .i64 x48,.int .i64 x49,.int .i64 x50] (1:Nat) fun (A'4:Option Addr) (n'4 c'4:Nat) (H'8:Heap)=>Ax.Sub Hs3 H'8 ∧
 ∃ (a13:Addr),
 v11 = some a13 ∧
 StL H'8 (a13.add (nat_lit 16)) [.slice A'4 n'4 c'4] fun H113=>Ax.Sub Hs3 H113 ∧
 Mid2 H113) ∧
 ((x21 == 3) = false → ((x21 == 4) = true →
 ∃ (Hs4:Heap),
 Ax.Sub Hs4 H2 ∧
 ∃ (v15:Option Addr),
 At Hs4 (⟨b,0,none⟩:Addr) [.pointer v15] ∧
 ∃ (v16:Option Addr),
 At Hs4 (⟨b,0,none⟩:Addr) [.pointer v16] ∧
 ∃ (a14:Addr),
 v16 = some a14 ∧
 ∃ (x51:Int),
 At Hs4 ((⟨b1,0,none⟩:Addr).add (nat_lit 0)) [.int .i64 x51] ∧
 ∃ (x52:Int),
 At Hs4 ((⟨b1,0,none⟩:Addr).add (nat_lit 3)) [.int .i64 x52] ∧
 (∃ (A5:Option Addr),
 ∃ (n5 c17:Nat),
 At H2 (a14.add (nat_lit 17)) [.slice A5 n5 c17] ∧
 Ax.Sub Hs4 H2 ∧
 Ax.Sub Hs4 H2 ∧
 appC (83:Nat) (nat_lit 2) (nat_lit 16) H2 A5 n5 c17 [.int .i64 x51,.int .i64 x52] (1:Nat) fun (A'5:Option Addr) (n'5 c'5:Nat) (H'9:Heap)=>Ax.Sub Hs4 H'9 ∧
 ∃ (a15:Addr),
 v15 = some a15 ∧
 StL H'9 (a15.add (nat_lit 17)) [.slice A'5 n'5 c'5] fun H114=>Ax.Sub Hs4 H114 ∧
 Mid2 H114) ∧
 Ax.Sub Hs4 H2 ∧
 ∃ (A6:Option Addr) (n6 c19:Nat),
 At H2 (a14.add (nat_lit 17)) [.slice A6 n6 c19] ∧
 Ax.Sub Hs4 H2 ∧
 appC (83:Nat) (nat_lit 2) (nat_lit 16) H2 A6 n6 c19 [.int .i64 x51,.int .i64 x52] (1:Nat) fun (A'6:Option Addr) (n'6 c'6:Nat) (H'10:Heap)=>Ax.Sub Hs4 H'10 ∧
 ∃ (a16:Addr),
 v15 = some a16 ∧
 StL H'10 (a16.add (nat_lit 17)) [.slice A'6 n'6 c'6] fun H115=>Ax.Sub Hs4 H115 ∧
 Mid2 H115) ∧
 ((x21 == 4) = false → ((x21 == 5) = true →
 ∃ (Hs5:Heap),
 Ax.Sub Hs5 H2 ∧
 ∃ (v17:Option Addr),
 At Hs5 (⟨b,0,none⟩:Addr) [.pointer v17] ∧
 ∃ (v18:Option Addr),
 At Hs5 (⟨b,0,none⟩:Addr) [.pointer v18] ∧
 ∃ (a17:Addr),
 v18 = some a17 ∧
 ∃ (x53:Int),
 At Hs5 ((⟨b1,0,none⟩:Addr).add (nat_lit 0)) [.int .i64 x53] ∧
 ∃ (x54:Int),
 At Hs5 ((⟨b1,0,none⟩:Addr).add (nat_lit 3)) [.int .i64 x54] ∧
 ∃ (x55:Int),
 At Hs5 ((⟨b1,0,none⟩:Addr).add (nat_lit 4)) [.int .i64 x55] ∧
 (∃ (A7:Option Addr),
 ∃ (n7 c21:Nat),
 At H2 (a17.add (nat_lit 18)) [.slice A7 n7 c21] ∧
 Ax.Sub Hs5 H2 ∧
 Ax.Sub Hs5 H2 ∧
 appC (98:Nat) (nat_lit 5) (nat_lit 40) H2 A7 n7 c21 [.int .i64 x53,.int .i64 x54,.int .i64 x55,.int .i64 0,.bool false] (1:Nat) fun (A'7:Option Addr) (n'7 c'7:Nat) (H'11:Heap)=>Ax.Sub Hs5 H'11 ∧
 ∃ (a18:Addr),
 v17 = some a18 ∧
 StL H'11 (a18.add (nat_lit 18)) [.slice A'7 n'7 c'7] fun H116=>Ax.Sub Hs5 H116 ∧
 ∃ (x56:Int),
 At H116 ((⟨b1,0,none⟩:Addr).add (nat_lit 0)) [.int .i64 x56] ∧
 Tr Tryz.prog (90:Nat) #[.int .i64 1,.int .i64 x56,.int .i64 0,.int .i64 0,.int .i64 0,.pointer (some (⟨b,0,none⟩:Addr))] H116 fun v19 H'12 =>
 ∃ (A8:Option Addr) (n8 c23:Nat),
 v19 = .slice A8 n8 c23 ∧
 K (.slice A8 n8 c23) H'12) ∧
 Ax.Sub Hs5 H2 ∧
 ∃ (A9:Option Addr) (n9 c24:Nat),
 At H2 (a17.add (nat_lit 18)) [.slice A9 n9 c24] ∧
 Ax.Sub Hs5 H2 ∧
 appC (98:Nat) (nat_lit 5) (nat_lit 40) H2 A9 n9 c24 [.int .i64 x53,.int .i64 x54,.int .i64 x55,.int .i64 0,.bool false] (1:Nat) fun (A'8:Option Addr) (n'8 c'8:Nat) (H'13:Heap)=>Ax.Sub Hs5 H'13 ∧
 ∃ (a19:Addr),
 v17 = some a19 ∧
 StL H'13 (a19.add (nat_lit 18)) [.slice A'8 n'8 c'8] fun H117=>Ax.Sub Hs5 H117 ∧
 ∃ (x57:Int),
 At H117 ((⟨b1,0,none⟩:Addr).add (nat_lit 0)) [.int .i64 x57] ∧
 Tr Tryz.prog (90:Nat) #[.int .i64 1,.int .i64 x57,.int .i64 0,.int .i64 0,.int .i64 0,.pointer (some (⟨b,0,none⟩:Addr))] H117 fun v20 H'14 =>
 ∃ (A10:Option Addr) (n10 c26:Nat),
 v20 = .slice A10 n10 c26 ∧
 K (.slice A10 n10 c26) H'14) ∧
 ((x21 == 5) = false → ((x21 == 6) = true →
 ∃ (Hs6:Heap),
 Ax.Sub Hs6 H2 ∧
 ∃ (v21:Option Addr),
 At Hs6 (⟨b,0,none⟩:Addr) [.pointer v21] ∧
 ∃ (v22:Option Addr),
 At Hs6 (⟨b,0,none⟩:Addr) [.pointer v22] ∧
 ∃ (a20:Addr),
 v22 = some a20 ∧
 ∃ (A11:Option Addr) (n11 c27:Nat),
 At H2 (a20.add (nat_lit 16)) [.slice A11 n11 c27] ∧
 Ax.Sub Hs6 H2 ∧
 Tr Tryz.prog (92:Nat) #[.slice A11 n11 c27,.func (Fn.func (93:Nat)) #[] #[.pointer (some (⟨b1,0,none⟩:Addr))]] H2 fun v23 H'15 =>
 ∃ (A12:Option Addr) (n12 c28:Nat),
 v23 = .slice A12 n12 c28 ∧
 Ax.Sub Hs6 H'15 ∧
 ∃ (a21:Addr),
 v21 = some a21 ∧
 StL H'15 (a21.add (nat_lit 16)) [.slice A12 n12 c28] fun H118=>Ax.Sub Hs6 H118 ∧
 Mid2 H118) ∧
 ((x21 == 6) = false → ((x21 == 22) = true →
 ∃ (Hs7:Heap),
 Ax.Sub Hs7 H2 ∧
 ∃ (v24:Option Addr),
 At Hs7 (⟨b,0,none⟩:Addr) [.pointer v24] ∧
 ∃ (v25:Option Addr),
 At Hs7 (⟨b,0,none⟩:Addr) [.pointer v25] ∧
 ∃ (a22:Addr),
 v25 = some a22 ∧
 ∃ (A13:Option Addr) (n13 c30:Nat),
 At H2 (a22.add (nat_lit 16)) [.slice A13 n13 c30] ∧
 Ax.Sub Hs7 H2 ∧
 Tr Tryz.prog (92:Nat) #[.slice A13 n13 c30,.func (Fn.func (93:Nat)) #[] #[.pointer (some (⟨b1,0,none⟩:Addr))]] H2 fun v26 H'16 =>
 ∃ (A14:Option Addr) (n14 c31:Nat),
 v26 = .slice A14 n14 c31 ∧
 Ax.Sub Hs7 H'16 ∧
 ∃ (a23:Addr),
 v24 = some a23 ∧
 StL H'16 (a23.add (nat_lit 16)) [.slice A14 n14 c31] fun H119=>Ax.Sub Hs7 H119 ∧
 Mid2 H119) ∧
 ((x21 == 22) = false → ((x21 == 23) = true →
 ∃ (Hs8:Heap),
 Ax.Sub Hs8 H2 ∧
 ∃ (v27:Option Addr),
 At Hs8 (⟨b,0,none⟩:Addr) [.pointer v27] ∧
 ∃ (v28:Option Addr),
 At Hs8 (⟨b,0,none⟩:Addr) [.pointer v28] ∧
 ∃ (a24:Addr),
 v28 = some a24 ∧
 ∃ (A15:Option Addr) (n15 c33:Nat),
 At H2 (a24.add (nat_lit 16)) [.slice A15 n15 c33] ∧
 Ax.Sub Hs8 H2 ∧
 Tr Tryz.prog (92:Nat) #[.slice A15 n15 c33,.func (Fn.func (93:Nat)) #[] #[.pointer (some (⟨b1,0,none⟩:Addr))]] H2 fun v29 H'17 =>
 ∃ (A16:Option Addr) (n16 c34:Nat),
 v29 = .slice A16 n16 c34 ∧
 Ax.Sub Hs8 H'17 ∧
 ∃ (a25:Addr),
 v27 = some a25 ∧
 StL H'17 (a25.add (nat_lit 16)) [.slice A16 n16 c34] fun H120=>Ax.Sub Hs8 H120 ∧
 Mid2 H120) ∧
 ((x21 == 23) = false → ((x21 == 24) = true →
 ∃ (Hs9:Heap),
 Ax.Sub Hs9 H2 ∧
 ∃ (v30:Option Addr),
 At Hs9 (⟨b,0,none⟩:Addr) [.pointer v30] ∧
 ∃ (v31:Option Addr),
 At Hs9 (⟨b,0,none⟩:Addr) [.pointer v31] ∧
 ∃ (a26:Addr),
 v31 = some a26 ∧
 ∃ (A17:Option Addr) (n17 c36:Nat),
 At H2 (a26.add (nat_lit 16)) [.slice A17 n17 c36] ∧
 Ax.Sub Hs9 H2 ∧
 Tr Tryz.prog (92:Nat) #[.slice A17 n17 c36,.func (Fn.func (93:Nat)) #[] #[.pointer (some (⟨b1,0,none⟩:Addr))]] H2 fun v32 H'18 =>
 ∃ (A18:Option Addr) (n18 c37:Nat),
 v32 = .slice A18 n18 c37 ∧
 Ax.Sub Hs9 H'18 ∧
 ∃ (a27:Addr),
 v30 = some a27 ∧
 StL H'18 (a27.add (nat_lit 16)) [.slice A18 n18 c37] fun H121=>Ax.Sub Hs9 H121 ∧
 Mid2 H121) ∧
 ((x21 == 24) = false → ((x21 == 7) = true →
 ∃ (Hs10:Heap),
 Ax.Sub Hs10 H2 ∧
 ∃ (v33:Option Addr),
 At Hs10 (⟨b,0,none⟩:Addr) [.pointer v33] ∧
 ∃ (v34:Option Addr),
 At Hs10 (⟨b,0,none⟩:Addr) [.pointer v34] ∧
 ∃ (a28:Addr),
 v34 = some a28 ∧
 ∃ (A19:Option Addr) (n19 c39:Nat),
 At H2 (a28.add (nat_lit 17)) [.slice A19 n19 c39] ∧
 Ax.Sub Hs10 H2 ∧
 Tr Tryz.prog (94:Nat) #[.slice A19 n19 c39,.func (Fn.func (95:Nat)) #[] #[.pointer (some (⟨b1,0,none⟩:Addr))]] H2 fun v35 H'19 =>
 ∃ (A20:Option Addr) (n20 c40:Nat),
 v35 = .slice A20 n20 c40 ∧
 Ax.Sub Hs10 H'19 ∧
 ∃ (a29:Addr),
 v33 = some a29 ∧
 StL H'19 (a29.add (nat_lit 17)) [.slice A20 n20 c40] fun H122=>Ax.Sub Hs10 H122 ∧
 Mid2 H122) ∧
 ((x21 == 7) = false → ((x21 == 25) = true →
 ∃ (Hs11:Heap),
 Ax.Sub Hs11 H2 ∧
 ∃ (v36:Option Addr),
 At Hs11 (⟨b,0,none⟩:Addr) [.pointer v36] ∧
 ∃ (v37:Option Addr),
 At Hs11 (⟨b,0,none⟩:Addr) [.pointer v37] ∧
 ∃ (a30:Addr),
 v37 = some a30 ∧
 ∃ (A21:Option Addr) (n21 c42:Nat),
 At H2 (a30.add (nat_lit 17)) [.slice A21 n21 c42] ∧
 Ax.Sub Hs11 H2 ∧
 Tr Tryz.prog (94:Nat) #[.slice A21 n21 c42,.func (Fn.func (95:Nat)) #[] #[.pointer (some (⟨b1,0,none⟩:Addr))]] H2 fun v38 H'20 =>
 ∃ (A22:Option Addr) (n22 c43:Nat),
 v38 = .slice A22 n22 c43 ∧
 Ax.Sub Hs11 H'20 ∧
 ∃ (a31:Addr),
 v36 = some a31 ∧
 StL H'20 (a31.add (nat_lit 17)) [.slice A22 n22 c43] fun H123=>Ax.Sub Hs11 H123 ∧
 Mid2 H123) ∧
 ((x21 == 25) = false → ((x21 == 8) = true →
 ∃ (x58:Int),
 At H2 ((⟨b1,0,none⟩:Addr).add (nat_lit 3)) [.int .i64 x58] ∧
 Tr Tryz.prog (90:Nat) #[.int .i64 3,.int .i64 x58,.int .i64 0,.int .i64 0,.int .i64 0,.pointer (some (⟨b,0,none⟩:Addr))] H2 fun v39 H'21 =>
 ∃ (A23:Option Addr) (n23 c45:Nat),
 v39 = .slice A23 n23 c45 ∧
 K (.slice A23 n23 c45) H'21) ∧
 ((x21 == 8) = false → ((x21 == 9) = true →
 ∃ (x59:Int),
 At H2 ((⟨b1,0,none⟩:Addr).add (nat_lit 0)) [.int .i64 x59] ∧
 ∃ (x60:Int),
 At H2 ((⟨b1,0,none⟩:Addr).add (nat_lit 3)) [.int .i64 x60] ∧
 ∃ (x61:Int),
 At H2 ((⟨b1,0,none⟩:Addr).add (nat_lit 4)) [.int .i64 x61] ∧
 ∃ (x62:Int),
 At H2 ((⟨b1,0,none⟩:Addr).add (nat_lit 5)) [.int .i64 x62] ∧
 Tr Tryz.prog (90:Nat) #[.int .i64 2,.int .i64 x59,.int .i64 x60,.int .i64 x61,.int .i64 x62,.pointer (some (⟨b,0,none⟩:Addr))] H2 fun v40 H'22 =>
 ∃ (A24:Option Addr) (n24 c46:Nat),
 v40 = .slice A24 n24 c46 ∧
 K (.slice A24 n24 c46) H'22) ∧
 ((x21 == 9) = false → ((x21 == 10) = true →
 ∃ (Hs12:Heap),
 Ax.Sub Hs12 H2 ∧
 ∃ (v41:Option Addr),
 At Hs12 (⟨b,0,none⟩:Addr) [.pointer v41] ∧
 ∃ (a32:Addr),
 v41 = some a32 ∧
 ∃ (x63:Int),
 At Hs12 ((⟨b1,0,none⟩:Addr).add (nat_lit 3)) [.int .i64 x63] ∧
 ∃ (x64:Int),
 At Hs12 ((⟨b1,0,none⟩:Addr).add (nat_lit 4)) [.int .i64 x64] ∧
 ((0:Int) ≤ x63 ∧
 x63 < (↑(4:Nat):Int)) ∧
 StL H2 ((a32.add (nat_lit 11)).add (x63.toNat * nat_lit 1)) [.int .i64 x64] fun H124=>Ax.Sub Hs12 H124 ∧
 Mid2 H124) ∧
 ((x21 == 10) = false → ((x21 == 21) = true →
 ∃ (Hs13:Heap),
 Ax.Sub Hs13 H2 ∧
 ∃ (v42:Option Addr),
 At Hs13 (⟨b,0,none⟩:Addr) [.pointer v42] ∧
 ∃ (v43:Option Addr),
 At Hs13 (⟨b,0,none⟩:Addr) [.pointer v43] ∧
 ∃ (a33:Addr),
 v43 = some a33 ∧
 ∃ (x65:Int),
 At Hs13 ((⟨b1,0,none⟩:Addr).add (nat_lit 0)) [.int .i64 x65] ∧
 (∃ (A25:Option Addr),
 ∃ (n25 c48:Nat),
 At H2 (a33.add (nat_lit 19)) [.slice A25 n25 c48] ∧
 Ax.Sub Hs13 H2 ∧
 Ax.Sub Hs13 H2 ∧
 appC (107:Nat) (nat_lit 4) (nat_lit 32) H2 A25 n25 c48 [.int .i64 x65,.int .i64 0,.int .i64 0,.int .i64 0] (1:Nat) fun (A'9:Option Addr) (n'9 c'9:Nat) (H'23:Heap)=>Ax.Sub Hs13 H'23 ∧
 ∃ (a34:Addr),
 v42 = some a34 ∧
 StL H'23 (a34.add (nat_lit 19)) [.slice A'9 n'9 c'9] fun H125=>Ax.Sub Hs13 H125 ∧
 Mid2 H125) ∧
 Ax.Sub Hs13 H2 ∧
 ∃ (A26:Option Addr) (n26 c50:Nat),
 At H2 (a33.add (nat_lit 19)) [.slice A26 n26 c50] ∧
 Ax.Sub Hs13 H2 ∧
 appC (107:Nat) (nat_lit 4) (nat_lit 32) H2 A26 n26 c50 [.int .i64 x65,.int .i64 0,.int .i64 0,.int .i64 0] (1:Nat) fun (A'10:Option Addr) (n'10 c'10:Nat) (H'24:Heap)=>Ax.Sub Hs13 H'24 ∧
 ∃ (a35:Addr),
 v42 = some a35 ∧
 StL H'24 (a35.add (nat_lit 19)) [.slice A'10 n'10 c'10] fun H126=>Ax.Sub Hs13 H126 ∧
 Mid2 H126) ∧
 ((x21 == 21) = false → ((x21 == 12) = true →
 ∃ (v44:Option Addr),
 At H2 (⟨b,0,none⟩:Addr) [.pointer v44] ∧
 ∃ (x66:Int),
 At H2 ((⟨b1,0,none⟩:Addr).add (nat_lit 3)) [.int .i64 x66] ∧
 Tr Tryz.prog (96:Nat) #[.pointer v44,.int .i64 x66,.int .i64 1,.int .i64 0,.int .i64 0] H2 fun v45 H'25=>v45 = .tuple #[] ∧
 Mid2 H'25) ∧
 ((x21 == 12) = false → ((x21 == 13) = true →
 ∃ (v46:Option Addr),
 At H2 (⟨b,0,none⟩:Addr) [.pointer v46] ∧
 ∃ (x67:Int),
 At H2 ((⟨b1,0,none⟩:Addr).add (nat_lit 3)) [.int .i64 x67] ∧
 ∃ (x68:Int),
 At H2 ((⟨b1,0,none⟩:Addr).add (nat_lit 4)) [.int .i64 x68] ∧
 Tr Tryz.prog (96:Nat) #[.pointer v46,.int .i64 x67,.int .i64 2,.int .i64 x68,.int .i64 0] H2 fun v47 H'26=>v47 = .tuple #[] ∧
 Mid2 H'26) ∧
 ((x21 == 13) = false → ((x21 == 14) = true →
 ∃ (v48:Option Addr),
 At H2 (⟨b,0,none⟩:Addr) [.pointer v48] ∧
 ∃ (x69:Int),
 At H2 ((⟨b1,0,none⟩:Addr).add (nat_lit 3)) [.int .i64 x69] ∧
 ∃ (x70:Int),
 At H2 ((⟨b1,0,none⟩:Addr).add (nat_lit 4)) [.int .i64 x70] ∧
 ∃ (x71:Int),
 At H2 ((⟨b1,0,none⟩:Addr).add (nat_lit 5)) [.int .i64 x71] ∧
 Tr Tryz.prog (96:Nat) #[.pointer v48,.int .i64 x69,.int .i64 3,.int .i64 x70,.int .i64 x71] H2 fun v49 H'27=>v49 = .tuple #[] ∧
 Mid2 H'27) ∧
 ((x21 == 14) = false → ((x21 == 26) = true →
 ∃ (v50:Option Addr),
 At H2 (⟨b,0,none⟩:Addr) [.pointer v50] ∧
 ∃ (x72:Int),
 At H2 ((⟨b1,0,none⟩:Addr).add (nat_lit 3)) [.int .i64 x72] ∧
 Tr Tryz.prog (97:Nat) #[.pointer v50,.int .i64 x72,.func (Fn.func (98:Nat)) #[] #[.pointer (some (⟨b1,0,none⟩:Addr))]] H2 fun v51 H'28=>v51 = .tuple #[] ∧
 Mid2 H'28) ∧
 ((x21 == 26) = false → ((x21 == 27) = true →
 ∃ (v52:Option Addr),
 At H2 (⟨b,0,none⟩:Addr) [.pointer v52] ∧
 ∃ (x73:Int),
 At H2 ((⟨b1,0,none⟩:Addr).add (nat_lit 3)) [.int .i64 x73] ∧
 Tr Tryz.prog (97:Nat) #[.pointer v52,.int .i64 x73,.func (Fn.func (99:Nat)) #[] #[]] H2 fun v53 H'29=>v53 = .tuple #[] ∧
 Mid2 H'29) ∧
 ((x21 == 27) = false → ((x21 == 28) = true →
 ∃ (v54:Option Addr),
 At H2 (⟨b,0,none⟩:Addr) [.pointer v54] ∧
 ∃ (x74:Int),
 At H2 ((⟨b1,0,none⟩:Addr).add (nat_lit 3)) [.int .i64 x74] ∧
 Tr Tryz.prog (97:Nat) #[.pointer v54,.int .i64 x74,.func (Fn.func (99:Nat)) #[] #[]] H2 fun v55 H'30=>v55 = .tuple #[] ∧
 Mid2 H'30) ∧
 ((x21 == 28) = false → Mid2 H2))))))))))))))))))))) ∧
 ∀ (H3:Heap),Mid2 H3 →
 ∃ (x75:Int),
 At H3 ((⟨b1,0,none⟩:Addr).add (nat_lit 2)) [.int .i64 x75] ∧
 ∃ (b4:Bool),
 (Tr Tryz.prog (53:Nat) #[.int .i64 x75] H3 fun v56 H'31=>v56 = .bool b4 ∧
 Ax.Sub H3 H'31) ∧
 ((!b4) = true → K (.slice none (0:Nat) (0:Nat)) H3) ∧
 ((!b4) = false →
 ∃ (Hs14:Heap),
 Ax.Sub Hs14 H3 ∧
 ∃ (v57:Option Addr),
 At Hs14 (⟨b,0,none⟩:Addr) [.pointer v57] ∧
 ∃ (v58:Option Addr),
 At Hs14 (⟨b,0,none⟩:Addr) [.pointer v58] ∧
 ∃ (v59:Option Addr),
 At Hs14 (⟨b,0,none⟩:Addr) [.pointer v59] ∧
 ∃ (x76:Int),
 At Hs14 ((⟨b1,0,none⟩:Addr).add (nat_lit 2)) [.int .i64 x76] ∧
 ∃ (x77:Int),
 At Hs14 ((⟨b1,0,none⟩:Addr).add (nat_lit 3)) [.int .i64 x77] ∧
 ∃ (x78:Int),
 At Hs14 ((⟨b1,0,none⟩:Addr).add (nat_lit 1)) [.int .i64 x78] ∧
 ∃ (x79:Int),
 (Tr Tryz.prog (100:Nat) #[.int .i64 x76] H3 fun v60 H'32=>v60 = .int .i64 x79 ∧
 Ax.Sub H3 H'32) ∧
 Ax.Sub Hs14 H3 ∧
 ∃ (a36:Addr),
 v57 = some a36 ∧
 StL H3 (a36.add (nat_lit 2)) [.int .i64 x79] fun H127=>Ax.Sub Hs14 H127 ∧
 ∃ (a37:Addr),
 v58 = some a37 ∧
 StL H127 (a37.add (nat_lit 10)) [.int .i64 x77] fun H128=>Ax.Sub Hs14 H128 ∧
 ∃ (a38:Addr),
 v59 = some a38 ∧
 StL H128 (a38.add (nat_lit 5)) [.int .i64 x78] fun H129=>Ax.Sub Hs14 H129 ∧
 ∃ (Hs15:Heap),
 Ax.Sub Hs15 H129 ∧
 ∃ (v61:Option Addr),
 At Hs15 (⟨b,0,none⟩:Addr) [.pointer v61] ∧
 ∃ (a39:Addr),
 v61 = some a39 ∧
 ∃ (v62:Option Addr),
 At Hs15 (⟨b,0,none⟩:Addr) [.pointer v62] ∧
 StL H129 (a39.add (nat_lit 16)) [.slice none (0:Nat) (0:Nat)] fun H130=>Ax.Sub Hs15 H130 ∧
 ∃ (a40:Addr),
 v62 = some a40 ∧
 StL H130 (a40.add (nat_lit 17)) [.slice none (0:Nat) (0:Nat)] fun H131=>Ax.Sub Hs15 H131 ∧
 ∃ (v63:Option Addr),
 At H131 (⟨b,0,none⟩:Addr) [.pointer v63] ∧
 ∃ (a41:Addr),
 v63 = some a41 ∧
 ∃ (x80:Int),
 At H131 (a41.add (nat_lit 7)) [.int .i64 x80] ∧
 ∃ (x81:Int),
 ((!x80 == 0) = true → At H131 ((⟨b1,0,none⟩:Addr).add (nat_lit 2)) [.int .i64 x81]) ∧
 ((x80 == 0 || x81 == 18) = true → K (.slice none (0:Nat) (0:Nat)) H131) ∧
 ((x80 == 0 || x81 == 18) = false → Tr Tryz.prog (90:Nat) #[.int .i64 4,.int .i64 0,.int .i64 0,.int .i64 0,.int .i64 0,.pointer (some (⟨b,0,none⟩:Addr))] H131 fun v64 H'33 =>
 ∃ (A27:Option Addr) (n27 c57:Nat),
 v64 = .slice A27 n27 c57 ∧
 K (.slice A27 n27 c57) H'33))

theorem v43 {r:Option Addr} {eId:Int} {eTime:Int} {eKind:Int} {eA:Int} {eB:Int} {eC:Int} {eD:Int} {eE:Int} {eF:Int} {H:Heap} {K:Value → Heap → Prop} (h:F43 r eId eTime eKind eA eB eC eD eE eF H K):Tr Tryz.prog 43 #[.pointer r,.agg #[.int .i64 eId,.int .i64 eTime,.int .i64 eKind,.int .i64 eA,.int .i64 eB,.int .i64 eC,.int .i64 eD,.int .i64 eE,.int .i64 eF]] H K :=
  tr_of_eq (C:=c43) Tryz.func43 (show vcFn c43 Tryz.f43 [.pointer r,.agg #[.int .i64 eId,.int .i64 eTime,.int .i64 eKind,.int .i64 eA,.int .i64 eB,.int .i64 eC,.int .i64 eD,.int .i64 eE,.int .i64 eF]] H K = F43 r eId eTime eKind eA eB eC eD eE eF H K by kernel_rfl) h
noncomputable def c90:Cx:={ P:=Tryz.prog,res:=[],pub:=[22],loops:=[],quiet:=[],asm:=true }
def F90 (kind:Int) (event:Int) (a:Int) (b:Int) (c:Int) (cap0:Addr) (H:Heap) (K:Value → Heap → Prop):Prop :=
 ∃ (v:Option Addr),
 At H cap0 [.pointer v] ∧
 ∃ (a1:Addr),
 v = some a1 ∧
 ∃ (x:Int),
 At H (a1.add (nat_lit 0)) [.int .i64 x] ∧
 ∀ (b1:Nat),H b1 = none → ∀ (H1:Heap),H1 = H.upd b1 (Obj.cells #[.int .i64 0,.int .i64 kind,.int .i64 x,.int .i64 event,.int .i64 a,.int .i64 b,.int .i64 c] (160:Nat)) → K (.slice (some (⟨b1,0,none⟩:Addr)) (1:Nat) (1:Nat)) H1

theorem v90 {kind:Int} {event:Int} {a:Int} {b:Int} {c:Int} {cap0:Addr} {H:Heap} {K:Value → Heap → Prop} (h:F90 kind event a b c cap0 H K):Tr Tryz.prog 90 #[.int .i64 kind,.int .i64 event,.int .i64 a,.int .i64 b,.int .i64 c,.pointer (some cap0)] H K :=
  tr_of_eq (C:=c90) Tryz.func90 (show vcFn c90 Tryz.f90 [.int .i64 kind,.int .i64 event,.int .i64 a,.int .i64 b,.int .i64 c,.pointer (some cap0)] H K = F90 kind event a b c cap0 H K by kernel_rfl) h
noncomputable def c93:Cx:={ P:=Tryz.prog,res:=[],pub:=[],loops:=[],quiet:=[],asm:=true }
def F93 (aEvent:Int) (aOpts:Int) (aInput:Int) (aAt:Int) (aAttempt:Int) (aPhase:Int) (aSince:Int) (aBeat:Int) (aDetail:Int) (aAgain:Int) (cap0:Addr) (H:Heap) (K:Value → Heap → Prop):Prop :=
 ∃ (x:Int),
 At H (cap0.add (nat_lit 3)) [.int .i64 x] ∧
 K (.bool (aEvent == x)) H

theorem v93 {aEvent:Int} {aOpts:Int} {aInput:Int} {aAt:Int} {aAttempt:Int} {aPhase:Int} {aSince:Int} {aBeat:Int} {aDetail:Int} {aAgain:Int} {cap0:Addr} {H:Heap} {K:Value → Heap → Prop} (h:F93 aEvent aOpts aInput aAt aAttempt aPhase aSince aBeat aDetail aAgain cap0 H K):Tr Tryz.prog 93 #[.agg #[.int .i64 aEvent,.int .i64 aOpts,.int .i64 aInput,.int .i64 aAt,.int .i64 aAttempt,.int .i64 aPhase,.int .i64 aSince,.int .i64 aBeat,.int .i64 aDetail,.int .i64 aAgain],.pointer (some cap0)] H K :=
  tr_of_eq (C:=c93) Tryz.func93 (show vcFn c93 Tryz.f93 [.agg #[.int .i64 aEvent,.int .i64 aOpts,.int .i64 aInput,.int .i64 aAt,.int .i64 aAttempt,.int .i64 aPhase,.int .i64 aSince,.int .i64 aBeat,.int .i64 aDetail,.int .i64 aAgain],.pointer (some cap0)] H K = F93 aEvent aOpts aInput aAt aAttempt aPhase aSince aBeat aDetail aAgain cap0 H K by kernel_rfl) h
noncomputable def c95:Cx:={ P:=Tryz.prog,res:=[],pub:=[],loops:=[],quiet:=[],asm:=true }
def F95 (tEvent:Int) (tAt:Int) (cap0:Addr) (H:Heap) (K:Value → Heap → Prop):Prop :=
 ∃ (x:Int),
 At H (cap0.add (nat_lit 3)) [.int .i64 x] ∧
 K (.bool (tEvent == x)) H

theorem v95 {tEvent:Int} {tAt:Int} {cap0:Addr} {H:Heap} {K:Value → Heap → Prop} (h:F95 tEvent tAt cap0 H K):Tr Tryz.prog 95 #[.agg #[.int .i64 tEvent,.int .i64 tAt],.pointer (some cap0)] H K :=
  tr_of_eq (C:=c95) Tryz.func95 (show vcFn c95 Tryz.f95 [.agg #[.int .i64 tEvent,.int .i64 tAt],.pointer (some cap0)] H K = F95 tEvent tAt cap0 H K by kernel_rfl) h
noncomputable def c98:Cx:={ P:=Tryz.prog,res:=[],pub:=[],loops:=[],quiet:=[],asm:=true }
def F98 (k:Option Addr) (cap0:Addr) (H:Heap) (K:Value → Heap → Prop):Prop :=
 ∃ (x:Int),
 At H (cap0.add (nat_lit 4)) [.int .i64 x] ∧
 ∃ (a:Addr),
 k = some a ∧
 StL H (a.add (nat_lit 3)) [.int .i64 x] fun H1=>K (.tuple #[]) H1

theorem v98 {k:Option Addr} {cap0:Addr} {H:Heap} {K:Value → Heap → Prop} (h:F98 k cap0 H K):Tr Tryz.prog 98 #[.pointer k,.pointer (some cap0)] H K :=
  tr_of_eq (C:=c98) Tryz.func98 (show vcFn c98 Tryz.f98 [.pointer k,.pointer (some cap0)] H K = F98 k cap0 H K by kernel_rfl) h
noncomputable def c99:Cx:={ P:=Tryz.prog,res:=[],pub:=[],loops:=[],quiet:=[],asm:=true }
def F99 (k:Option Addr) (H:Heap) (K:Value → Heap → Prop):Prop :=
 ∃ (a:Addr),
 k = some a ∧
 StL H (a.add (nat_lit 4)) [.bool true] fun H1=>K (.tuple #[]) H1

theorem v99 {k:Option Addr} {H:Heap} {K:Value → Heap → Prop} (h:F99 k H K):Tr Tryz.prog 99 #[.pointer k] H K :=
  tr_of_eq (C:=c99) Tryz.func99 (show vcFn c99 Tryz.f99 [.pointer k] H K = F99 k H K by kernel_rfl) h
noncomputable def c92:Cx:={ P:=Tryz.prog,res:=[],pub:=[],loops:=[],quiet:=[],asm:=true }
def F92 (lA:Option Addr) (ln lc:Nat) (is0:Value) (H:Heap) (K:Value → Heap → Prop):Prop:=Tr Tryz.prog (55:Nat) #[.slice lA ln lc] H fun v H' =>
 ∃ (A:Option Addr) (n c:Nat),
 v = .slice A n c ∧
 Tr Tryz.prog (131:Nat) #[.slice A n c,is0] H' fun v1 H'1 =>
 ∃ (A1:Option Addr) (n1 c1:Nat),
 v1 = .slice A1 n1 c1 ∧
 K (.slice A1 n1 c1) H'1

theorem v92 {lA:Option Addr} {ln lc:Nat} {is0:Value} {H:Heap} {K:Value → Heap → Prop} (h:F92 lA ln lc is0 H K):Tr Tryz.prog 92 #[.slice lA ln lc,is0] H K :=
  tr_of_eq (C:=c92) Tryz.func92 (show vcFn c92 Tryz.f92 [.slice lA ln lc,is0] H K = F92 lA ln lc is0 H K by kernel_rfl) h
noncomputable def c94:Cx:={ P:=Tryz.prog,res:=[],pub:=[],loops:=[],quiet:=[],asm:=true }
def F94 (lA:Option Addr) (ln lc:Nat) (is0:Value) (H:Heap) (K:Value → Heap → Prop):Prop:=Tr Tryz.prog (81:Nat) #[.slice lA ln lc] H fun v H' =>
 ∃ (A:Option Addr) (n c:Nat),
 v = .slice A n c ∧
 Tr Tryz.prog (132:Nat) #[.slice A n c,is0] H' fun v1 H'1 =>
 ∃ (A1:Option Addr) (n1 c1:Nat),
 v1 = .slice A1 n1 c1 ∧
 K (.slice A1 n1 c1) H'1

theorem v94 {lA:Option Addr} {ln lc:Nat} {is0:Value} {H:Heap} {K:Value → Heap → Prop} (h:F94 lA ln lc is0 H K):Tr Tryz.prog 94 #[.slice lA ln lc,is0] H K :=
  tr_of_eq (C:=c94) Tryz.func94 (show vcFn c94 Tryz.f94 [.slice lA ln lc,is0] H K = F94 lA ln lc is0 H K by kernel_rfl) h
noncomputable def c55:Cx:={ P:=Tryz.prog,res:=[],pub:=[5],loops:=[],quiet:=[],asm:=true }
def F55 (sA:Option Addr) (sn sc:Nat) (H:Heap) (K:Value → Heap → Prop):Prop:=(sA.isNone = true → K (.slice none (0:Nat) (0:Nat)) H) ∧
 (sA.isNone = false → ∀ (b:Nat),H b = none → ∀ (H1:Heap),H1 = H.upd b (Obj.cells #[] (53:Nat)) → appS (53:Nat) (nat_lit 10) (nat_lit 80) H1 (some (⟨b,0,none⟩:Addr)) (0:Nat) (0:Nat) sA sn fun (A':Option Addr) (n' c':Nat) (H':Heap)=>K (.slice A' n' c') H')

theorem v55 {sA:Option Addr} {sn sc:Nat} {H:Heap} {K:Value → Heap → Prop} (h:F55 sA sn sc H K):Tr Tryz.prog 55 #[.slice sA sn sc] H K :=
  tr_of_eq (C:=c55) Tryz.func55 (show vcFn c55 Tryz.f55 [.slice sA sn sc] H K = F55 sA sn sc H K by kernel_rfl) h
noncomputable def c81:Cx:={ P:=Tryz.prog,res:=[],pub:=[5],loops:=[],quiet:=[],asm:=true }
def F81 (sA:Option Addr) (sn sc:Nat) (H:Heap) (K:Value → Heap → Prop):Prop:=(sA.isNone = true → K (.slice none (0:Nat) (0:Nat)) H) ∧
 (sA.isNone = false → ∀ (b:Nat),H b = none → ∀ (H1:Heap),H1 = H.upd b (Obj.cells #[] (83:Nat)) → appS (83:Nat) (nat_lit 2) (nat_lit 16) H1 (some (⟨b,0,none⟩:Addr)) (0:Nat) (0:Nat) sA sn fun (A':Option Addr) (n' c':Nat) (H':Heap)=>K (.slice A' n' c') H')

theorem v81 {sA:Option Addr} {sn sc:Nat} {H:Heap} {K:Value → Heap → Prop} (h:F81 sA sn sc H K):Tr Tryz.prog 81 #[.slice sA sn sc] H K :=
  tr_of_eq (C:=c81) Tryz.func81 (show vcFn c81 Tryz.f81 [.slice sA sn sc] H K = F81 sA sn sc H K by kernel_rfl) h
noncomputable def c131:Cx:={ P:=Tryz.prog,res:=[],pub:=[],loops:=[⟨5,[(5,.int .i64),(6,.int .i64)],[7,16,17,18,19,20,21,22,23,24,25,26,27,28,29,30,31,32,33,34,35],[]⟩],quiet:=[],asm:=true,dyn:=[26] }
def F131 (sA:Option Addr) (sn sc:Nat) (del:Value) (H:Heap) (K:Value → Heap → Prop):Prop:=Tr Tryz.prog (159:Nat) #[.slice sA sn sc,del] H fun v H' =>
 ∃ (x:Int),
 v = .int .i64 x ∧
 ((x == (-1)) = true → K (.slice sA sn sc) H') ∧
 ((x == (-1)) = false →
 ∃ (Rel:Int → Int → Heap → Prop) (mu:Int → Int → Heap → Nat),
 Rel x (IntKind.i64.wrap (x + 1)) H' ∧
 ∀ (x1 x2:Int) (H1:Heap),Rel x1 x2 H1 → (decide (x2 < (↑sn:Int)) = true →
 ∃ (a:Addr),
 (sA = some a ∧
 (0:Int) ≤ x2 ∧
 x2 < (↑sn:Int)) ∧
 ∃ (x3 x4 x5 x6 x7 x8 x9 x10 x11 x12:Int),
 At H1 (a.add (x2.toNat * nat_lit 10)) [.int .i64 x3,.int .i64 x4,.int .i64 x5,.int .i64 x6,.int .i64 x7,.int .i64 x8,.int .i64 x9,.int .i64 x10,.int .i64 x11,.int .i64 x12] ∧
 ∃ (g:Nat) (all:List Value),
 isFn Tryz.prog del [.agg #[.int .i64 x3,.int .i64 x4,.int .i64 x5,.int .i64 x6,.int .i64 x7,.int .i64 x8,.int .i64 x9,.int .i64 x10,.int .i64 x11,.int .i64 x12]] g all ∧
 Tr Tryz.prog g { toList:=all } H1 fun v1 H'1 =>
 ∃ (b:Bool),
 v1 = .bool b ∧
 ((!b) = true →
 ∃ (a1:Addr),
 (sA = some a1 ∧
 (0:Int) ≤ x1 ∧
 x1 < (↑sn:Int)) ∧
 StL H'1 (a1.add (x1.toNat * nat_lit 10)) [.int .i64 x3,.int .i64 x4,.int .i64 x5,.int .i64 x6,.int .i64 x7,.int .i64 x8,.int .i64 x9,.int .i64 x10,.int .i64 x11,.int .i64 x12] fun H1_1=>Rel (IntKind.i64.wrap (x1 + 1)) (IntKind.i64.wrap (x2 + 1)) H1_1 ∧
 mu (IntKind.i64.wrap (x1 + 1)) (IntKind.i64.wrap (x2 + 1)) H1_1 < mu x1 x2 H1) ∧
 ((!b) = false → Rel x1 (IntKind.i64.wrap (x2 + 1)) H'1 ∧
 mu x1 (IntKind.i64.wrap (x2 + 1)) H'1 < mu x1 x2 H1)) ∧
 (decide (x2 < (↑sn:Int)) = false → ((0:Int) ≤ x1 ∧
 x1 ≤ (↑sn:Int)) ∧
 Sm Tryz.prog (Builtin.clear_ #[(29:Nat)] (nat_lit 0) #[.slice (if sc = x1.toNat then sA else Option.map (fun (x:Addr)=>x.add (x1.toNat * nat_lit 10)) sA) (sn - x1.toNat) (sc - x1.toNat)]) H1 fun v2 H'2=>((0:Int) ≤ x1 ∧
 x1 ≤ (↑sc:Int)) ∧
 K (.slice (if sc = (0:Nat) then sA else Option.map (fun (x:Addr)=>x.add ((0:Nat) * nat_lit 10)) sA) (x1.toNat - (0:Nat)) (sc - (0:Nat))) H'2))

theorem v131 {sA:Option Addr} {sn sc:Nat} {del:Value} {H:Heap} {K:Value → Heap → Prop} (h:F131 sA sn sc del H K):Tr Tryz.prog 131 #[.slice sA sn sc,del] H K :=
  tr_of_eq (C:=c131) Tryz.func131 (show vcFn c131 Tryz.f131 [.slice sA sn sc,del] H K = F131 sA sn sc del H K by kernel_rfl) h
noncomputable def c132:Cx:={ P:=Tryz.prog,res:=[],pub:=[],loops:=[⟨5,[(5,.int .i64),(6,.int .i64)],[7,16,17,18,19,20,21,22,23,24,25,26,27,28,29,30,31,32,33,34,35],[]⟩],quiet:=[],asm:=true,dyn:=[26] }
def F132 (sA:Option Addr) (sn sc:Nat) (del:Value) (H:Heap) (K:Value → Heap → Prop):Prop:=Tr Tryz.prog (160:Nat) #[.slice sA sn sc,del] H fun v H' =>
 ∃ (x:Int),
 v = .int .i64 x ∧
 ((x == (-1)) = true → K (.slice sA sn sc) H') ∧
 ((x == (-1)) = false →
 ∃ (Rel:Int → Int → Heap → Prop) (mu:Int → Int → Heap → Nat),
 Rel x (IntKind.i64.wrap (x + 1)) H' ∧
 ∀ (x1 x2:Int) (H1:Heap),Rel x1 x2 H1 → (decide (x2 < (↑sn:Int)) = true →
 ∃ (a:Addr),
 (sA = some a ∧
 (0:Int) ≤ x2 ∧
 x2 < (↑sn:Int)) ∧
 ∃ (x3 x4:Int),
 At H1 (a.add (x2.toNat * nat_lit 2)) [.int .i64 x3,.int .i64 x4] ∧
 ∃ (g:Nat) (all:List Value),
 isFn Tryz.prog del [.agg #[.int .i64 x3,.int .i64 x4]] g all ∧
 Tr Tryz.prog g { toList:=all } H1 fun v1 H'1 =>
 ∃ (b:Bool),
 v1 = .bool b ∧
 ((!b) = true →
 ∃ (a1:Addr),
 (sA = some a1 ∧
 (0:Int) ≤ x1 ∧
 x1 < (↑sn:Int)) ∧
 StL H'1 (a1.add (x1.toNat * nat_lit 2)) [.int .i64 x3,.int .i64 x4] fun H1_1=>Rel (IntKind.i64.wrap (x1 + 1)) (IntKind.i64.wrap (x2 + 1)) H1_1 ∧
 mu (IntKind.i64.wrap (x1 + 1)) (IntKind.i64.wrap (x2 + 1)) H1_1 < mu x1 x2 H1) ∧
 ((!b) = false → Rel x1 (IntKind.i64.wrap (x2 + 1)) H'1 ∧
 mu x1 (IntKind.i64.wrap (x2 + 1)) H'1 < mu x1 x2 H1)) ∧
 (decide (x2 < (↑sn:Int)) = false → ((0:Int) ≤ x1 ∧
 x1 ≤ (↑sn:Int)) ∧
 Sm Tryz.prog (Builtin.clear_ #[(30:Nat)] (nat_lit 0) #[.slice (if sc = x1.toNat then sA else Option.map (fun (x:Addr)=>x.add (x1.toNat * nat_lit 2)) sA) (sn - x1.toNat) (sc - x1.toNat)]) H1 fun v2 H'2=>((0:Int) ≤ x1 ∧
 x1 ≤ (↑sc:Int)) ∧
 K (.slice (if sc = (0:Nat) then sA else Option.map (fun (x:Addr)=>x.add ((0:Nat) * nat_lit 2)) sA) (x1.toNat - (0:Nat)) (sc - (0:Nat))) H'2))

theorem v132 {sA:Option Addr} {sn sc:Nat} {del:Value} {H:Heap} {K:Value → Heap → Prop} (h:F132 sA sn sc del H K):Tr Tryz.prog 132 #[.slice sA sn sc,del] H K :=
  tr_of_eq (C:=c132) Tryz.func132 (show vcFn c132 Tryz.f132 [.slice sA sn sc,del] H K = F132 sA sn sc del H K by kernel_rfl) h
noncomputable def c159:Cx:={ P:=Tryz.prog,res:=[],pub:=[],loops:=[⟨2,[(8,.int .i64)],[4,5,9,10,11,12,13,14,15,16,17,18],[]⟩],quiet:=[],asm:=true,dyn:=[11] }
def F159 (sA:Option Addr) (sn sc:Nat) (f:Value) (H:Heap) (K:Value → Heap → Prop):Prop :=
 ∃ (Rel:Int → Heap → Prop) (mu:Int → Heap → Nat),
 Rel (0:Int) H ∧
 ∀ (x:Int) (H1:Heap),Rel x H1 → (decide (x < (↑sn:Int)) = true →
 ∃ (a:Addr),
 (sA = some a ∧
 (0:Int) ≤ x ∧
 x < (↑sn:Int)) ∧
 ∃ (x1 x2 x3 x4 x5 x6 x7 x8 x9 x10:Int),
 At H1 (a.add (x.toNat * nat_lit 10)) [.int .i64 x1,.int .i64 x2,.int .i64 x3,.int .i64 x4,.int .i64 x5,.int .i64 x6,.int .i64 x7,.int .i64 x8,.int .i64 x9,.int .i64 x10] ∧
 ∃ (g:Nat) (all:List Value),
 isFn Tryz.prog f [.agg #[.int .i64 x1,.int .i64 x2,.int .i64 x3,.int .i64 x4,.int .i64 x5,.int .i64 x6,.int .i64 x7,.int .i64 x8,.int .i64 x9,.int .i64 x10]] g all ∧
 Tr Tryz.prog g { toList:=all } H1 fun v H' =>
 ∃ (b:Bool),
 v = .bool b ∧
 (b = true → K (.int .i64 x) H') ∧
 (b = false → Rel (IntKind.i64.wrap (x + 1)) H' ∧
 mu (IntKind.i64.wrap (x + 1)) H' < mu x H1)) ∧
 (decide (x < (↑sn:Int)) = false → K (.int .i64 (-1)) H1)

theorem v159 {sA:Option Addr} {sn sc:Nat} {f:Value} {H:Heap} {K:Value → Heap → Prop} (h:F159 sA sn sc f H K):Tr Tryz.prog 159 #[.slice sA sn sc,f] H K :=
  tr_of_eq (C:=c159) Tryz.func159 (show vcFn c159 Tryz.f159 [.slice sA sn sc,f] H K = F159 sA sn sc f H K by kernel_rfl) h
noncomputable def c160:Cx:={ P:=Tryz.prog,res:=[],pub:=[],loops:=[⟨2,[(8,.int .i64)],[4,5,9,10,11,12,13,14,15,16,17,18],[]⟩],quiet:=[],asm:=true,dyn:=[11] }
def F160 (sA:Option Addr) (sn sc:Nat) (f:Value) (H:Heap) (K:Value → Heap → Prop):Prop :=
 ∃ (Rel:Int → Heap → Prop) (mu:Int → Heap → Nat),
 Rel (0:Int) H ∧
 ∀ (x:Int) (H1:Heap),Rel x H1 → (decide (x < (↑sn:Int)) = true →
 ∃ (a:Addr),
 (sA = some a ∧
 (0:Int) ≤ x ∧
 x < (↑sn:Int)) ∧
 ∃ (x1 x2:Int),
 At H1 (a.add (x.toNat * nat_lit 2)) [.int .i64 x1,.int .i64 x2] ∧
 ∃ (g:Nat) (all:List Value),
 isFn Tryz.prog f [.agg #[.int .i64 x1,.int .i64 x2]] g all ∧
 Tr Tryz.prog g { toList:=all } H1 fun v H' =>
 ∃ (b:Bool),
 v = .bool b ∧
 (b = true → K (.int .i64 x) H') ∧
 (b = false → Rel (IntKind.i64.wrap (x + 1)) H' ∧
 mu (IntKind.i64.wrap (x + 1)) H' < mu x H1)) ∧
 (decide (x < (↑sn:Int)) = false → K (.int .i64 (-1)) H1)

theorem v160 {sA:Option Addr} {sn sc:Nat} {f:Value} {H:Heap} {K:Value → Heap → Prop} (h:F160 sA sn sc f H K):Tr Tryz.prog 160 #[.slice sA sn sc,f] H K :=
  tr_of_eq (C:=c160) Tryz.func160 (show vcFn c160 Tryz.f160 [.slice sA sn sc,f] H K = F160 sA sn sc f H K by kernel_rfl) h
noncomputable def c51:Cx:={ P:=Tryz.prog,res:=[],pub:=[5],loops:=[],quiet:=[],asm:=true }
def F51 (sA:Option Addr) (sn sc:Nat) (H:Heap) (K:Value → Heap → Prop):Prop:=(sA.isNone = true → K (.slice none (0:Nat) (0:Nat)) H) ∧
 (sA.isNone = false → ∀ (b:Nat),H b = none → ∀ (H1:Heap),H1 = H.upd b (Obj.cells #[] (47:Nat)) → appS (47:Nat) (nat_lit 9) (nat_lit 72) H1 (some (⟨b,0,none⟩:Addr)) (0:Nat) (0:Nat) sA sn fun (A':Option Addr) (n' c':Nat) (H':Heap)=>K (.slice A' n' c') H')

theorem v51 {sA:Option Addr} {sn sc:Nat} {H:Heap} {K:Value → Heap → Prop} (h:F51 sA sn sc H K):Tr Tryz.prog 51 #[.slice sA sn sc] H K :=
  tr_of_eq (C:=c51) Tryz.func51 (show vcFn c51 Tryz.f51 [.slice sA sn sc] H K = F51 sA sn sc H K by kernel_rfl) h
end Go.Proofs.YtkofafcgcnciaaaGreatDoor
set_option maxRecDepth 100000
namespace Go.Ax
open Go.RowKit
theorem keepsRow {H:Heap} {w:World} (h:Holds H w) {b:Nat} {c:Array Value} {T:TypeId} (hb:H b = some (.cells c T (0,0))) (c':Array Value):Keeps H w (H.upd b (.cells c' T (0,0))) (w.setRow b c'):=by
  have hw:=h _ _ hb
  refine ⟨fun b' o e=>?_,fun b' hb' e=>?_,by simp,rfl,rfl,rfl⟩
  · by_cases hbb:b' = b
    · subst hbb; rw [Heap.upd_same] at e; injection e with e; subst e; exact setRow_heap w b' c c' T _ hw
    · rw [Heap.upd_other hbb] at e
      exact (setRow_other w b b' c' hbb).trans (h b' o e)
  · have hne:b' ≠ b:=fun q=>by subst q; rw [hb] at e; cases e
    exact ⟨setRow_other w b b' c' hne,by rw [Heap.upd_other hne]; exact e⟩
theorem sm_clear {P : Program} {H : Heap} {b off : Nat} {cur : Array Value} {T t e : TypeId} (hb : H b = some (.cells cur T (0, 0))) (hu : P.underlying t = some (.slice e)) {z : Value} (hz : (P.info? e).bind (·.zero) = some z) (h1 : ∀ v ∈ z.cells.toList, v.oneCell' = true) (n c : Nat) (ho : off + (n + 1) * z.cells.size ≤ cur.size) :
    Sm P (Builtin.clear_ #[t] 0 #[.slice (some ⟨b,off,none⟩) (n + 1) c]) H (fun _ H'=>∃ zs:List Value,zs.length = (n + 1) * z.cells.size ∧ H' = H.upd b (.cells (splice cur off zs) T (0,0))):=by
  refine ⟨fun w hw=>?_⟩
  have hl:(Builtin.zeroCells z.cells (n + 1)).toList.length = (n + 1) * z.cells.size:=by simp [Builtin.zeroCells]
  have hone:∀ v ∈ (Builtin.zeroCells z.cells (n + 1)).toList,v.oneCell' = true:=fun v hv=>by
    simp only [Builtin.zeroCells,Array.toList_map,List.mem_map] at hv
    obtain ⟨i,hi,rfl⟩:=hv
    have hi:i < (n + 1) * z.cells.size:=by simpa using hi
    have hp:0 < z.cells.size:=by
      rcases Nat.eq_zero_or_pos z.cells.size with q | q
      · rw [q] at hi; omega
      · exact q
    have hm:i % z.cells.size < z.cells.size:=Nat.mod_lt _ hp
    rw [getElem!_pos z.cells _ hm]
    exact h1 _ (by simp)
  have hst:=run_storeCells_at P b off T (Builtin.zeroCells z.cells (n + 1)).toList 0 cur w (hw _ _ hb) (by rw [hl]; omega) hone
  cases hq:P.info? e with
  | none=>rw [hq] at hz; cases hz
  | some i =>
    have hz':i.zero = some z:=by simpa [hq] using hz
    refine ⟨.tuple #[],H.upd b (.cells (splice cur off (Builtin.zeroCells z.cells (n + 1)).toList) T (0,0)),_,?_,keepsRow hw hb _,_,hl,rfl⟩
    simp only [Builtin.clear_,List.getElem?_toArray,List.getElem?_cons_zero,Sem.run_bind,run_underlying hu,Result.andThen_ok]
    have hzr:(zeroValue e).run P w = .ok z w:=by simp [zeroValue,typeInfo,hq,hz']
    simp only [hzr,Result.andThen_ok,hst,Sem.run_pure]
    rfl
theorem add0 (a:Addr) (sz:Nat):a.add (0 * sz) = a:=by rw [Nat.zero_mul]; rfl
theorem head0 {A:Option Addr} {c sz:Nat}:(if c = 0 then A else A.map fun x=>x.add (0 * sz)) = A:=by
  split
  · rfl
  · cases A with
    | none=>rfl
    | some a=>rw [Option.map_some,add0]
structure Pred {α:Type} (P:Program) (G:Heap) (del:Value) (cells:α → List Value) (pr:α → Bool):Prop where
  run:∀ (x:α) (H:Heap),Sub G H → ∃ g all,isFn P del [.agg ⟨cells x⟩] g all ∧ Tr P g ⟨all⟩ H fun v H'=>v = .bool (pr x) ∧ Sub H H'
theorem Pred.grow {α:Type} {P:Program} {G G':Heap} {del:Value} {cells:α → List Value} {pr:α → Bool} (h:Pred P G del cells pr) (s:Sub G G'):Pred P G' del cells pr:=⟨fun x H k=>h.run x H (s.trans k)⟩
theorem flat_splice {α : Type} {cells : α → List Value} {sz : Nat} (hsz : ∀ x, (cells x).length = sz) {l : List α} {i : Nat} {x : α} (hi : i < l.length) {cur : Array Value} {off : Nat} (h4 : ∀ (j : Nat) (v : Value), (l.flatMap cells)[j]? = some v → cur[off + j]? = some v) (hs : off + l.length * sz ≤ cur.size) :
    ∀ (j:Nat) (v:Value),((l.set i x).flatMap cells)[j]? = some v → (splice cur (off + i * sz) (cells x))[off + j]? = some v:=by
  intro j v hv
  obtain ⟨t,y,q1,q2,q3⟩:=flat_inv hsz _ j v hv
  have hl3:=get_lt q3
  rw [hsz] at hl3
  have m1:(i + 1) * sz ≤ l.length * sz:=Nat.mul_le_mul_right _ hi
  rw [Nat.add_mul,Nat.one_mul] at m1
  have hroom:(off + i * sz) + (cells x).length ≤ cur.size:=by rw [hsz]; omega
  rw [splice_get hroom,hsz]
  rw [List.getElem?_set] at q1
  by_cases ht:i = t
  · subst ht
    rw [if_pos rfl,if_pos hi] at q1
    cases q1
    rw [if_neg (by omega),if_pos (by omega)]
    rw [← q3]; congr 1; omega
  · rw [if_neg ht] at q1
    have old:=h4 (t * sz + (j - t * sz)) v (flat_at hsz l t y _ v q1 q3)
    have e:off + (t * sz + (j - t * sz)) = off + j:=by omega
    rw [e] at old
    rcases Nat.lt_or_ge t i with q | q
    · have m2:(t + 1) * sz ≤ i * sz:=Nat.mul_le_mul_right _ q
      rw [Nat.add_mul,Nat.one_mul] at m2
      rw [if_pos (by omega)]; exact old
    · have m2:(i + 1) * sz ≤ t * sz:=Nat.mul_le_mul_right _ (by omega)
      rw [Nat.add_mul,Nat.one_mul] at m2
      rw [if_neg (by omega),if_neg (by omega)]; exact old
end Go.Ax
namespace Go.Proofs.YtkofafcgcnciaaaGreatDoor
open Go.Ax
section
variable {α:Type} {cells:α → List Value} {sz:Nat} {G0 H:Heap} {q:SlH} {l:List α}
theorem Hand.flen (hsz:∀ x,(cells x).length = sz) (h0:0 < sz) (hd:Hand G0 H q sz (l.flatMap cells)):q.n = l.length:=by
  have:=hd.sl.len
  rw [flat_size hsz] at this
  exact (Nat.eq_of_mul_eq_mul_right h0 this).symm
theorem Hand.putN (hsz : ∀ x, (cells x).length = sz) (h0 : 0 < sz) (hd : Hand G0 H q sz (l.flatMap cells)) {i : Nat} (hi : i < l.length) (x : α) {a : Addr} (ha : q.A = some a) {Q : Heap → Prop} (r : ∀ H', Hand G0 H' q sz ((l.set i x).flatMap cells) → Q H') :
    ∃ (cur:Array Value) (T:TypeId),H (a.add (i * sz)).block = some (.cells cur T (0,0)) ∧ (a.add (i * sz)).spot = none ∧ (a.add (i * sz)).off + (cells x).length ≤ cur.size ∧ ∀ H1,H1 = H.upd (a.add (i * sz)).block (.cells (splice cur (a.add (i * sz)).off (cells x)) T (0,0)) → Q H1:=by
  have ok:=hd.sl
  have hq:=hd.flen hsz h0
  rcases ok.at_ with ⟨a1,_⟩ | ⟨b,off,cur,T,a1,a2,a3,a4⟩
  · rw [a1] at ha; cases ha
  · rw [a1] at ha; cases ha
    have b0:((⟨b,off,none⟩:Addr).add (i * sz)).block = b:=by unfold Addr.add; split <;> rfl
    have o0:((⟨b,off,none⟩:Addr).add (i * sz)).off = off + i * sz:=by unfold Addr.add; split <;> simp_all
    have s0:((⟨b,off,none⟩:Addr).add (i * sz)).spot = none:=by unfold Addr.add; split <;> rfl
    rw [b0,o0,s0]
    have hcap:q.n * sz ≤ q.c * sz:=Nat.mul_le_mul_right _ ok.cap
    have hs:off + l.length * sz ≤ cur.size:=by rw [← hq]; omega
    have m1:(i + 1) * sz ≤ l.length * sz:=Nat.mul_le_mul_right _ hi
    rw [Nat.add_mul,Nat.one_mul] at m1
    have hsz':off + i * sz + (cells x).length ≤ cur.size:=by rw [hsz]; omega
    have hblk:q.blk = some b:=by unfold SlH.blk; rw [a1]; rfl
    refine ⟨cur,T,a2,rfl,hsz',fun H1 e=>r H1 ?_⟩
    subst e
    refine ⟨base_upd hd.g (hd.free b hblk) _,⟨?_,ok.cap,.inr ⟨b,off,_,T,a1,Heap.upd_same,by rw [splice_size hsz']; exact a3,flat_splice hsz hi a4 hs⟩⟩,hd.free⟩
    rw [flat_size hsz,List.length_set,hq]
theorem Hand.cut (hsz : ∀ x, (cells x).length = sz) (h0 : 0 < sz) (hd : Hand G0 H q sz (l.flatMap cells)) {i : Nat} (hi : i < l.length) {P : Program} {t e : TypeId} (hu : P.underlying t = some (.slice e)) {z : Value} (hz : (P.info? e).bind (·.zero) = some z) (h1 : ∀ v ∈ z.cells.toList, v.oneCell' = true) (hzs : z.cells.size = sz)
    {K:Heap → Prop} (k:∀ H',Hand G0 H' ⟨q.A,i,q.c⟩ sz ((l.take i).flatMap cells) → K H') :
    Sm P (Builtin.clear_ #[t] 0 #[.slice (if q.c = i then q.A else q.A.map fun x=>x.add (i * sz)) (q.n - i) (q.c - i)]) H fun _ H'=>K H':=by
  have ok:=hd.sl
  have hq:=hd.flen hsz h0
  have hc:=ok.cap
  rcases ok.at_ with ⟨a1,a2,a3⟩ | ⟨b,off,cur,T,a1,a2,a3,a4⟩
  · omega
  · have hne:¬ q.c = i:=by omega
    have hA:(if q.c = i then q.A else q.A.map fun x=>x.add (i * sz)) = some ⟨b,off + i * sz,none⟩:=by
      rw [if_neg hne,a1,Option.map_some,addr_add]
    rw [hA,show q.n - i = (q.n - i - 1) + 1 by omega]
    have hcap:q.n * sz ≤ q.c * sz:=Nat.mul_le_mul_right _ ok.cap
    have hm:i * sz + (q.n - i) * sz = q.n * sz:=by rw [← Nat.add_mul]; congr 1; omega
    have hr:off + i * sz + (q.n - i - 1 + 1) * z.cells.size ≤ cur.size:=by rw [hzs,show q.n - i - 1 + 1 = q.n - i by omega]; omega
    refine smMono (sm_clear a2 hu hz h1 (q.n - i - 1) (q.c - i) hr) fun _ H' ⟨zs,hl,e⟩=>k H' ?_
    subst e
    have hblk:q.blk = some b:=by unfold SlH.blk; rw [a1]; rfl
    refine ⟨base_upd hd.g (hd.free b hblk) _,⟨?_,by show i ≤ q.c; omega,.inr ⟨b,off,_,T,a1,Heap.upd_same,by rw [splice_size (by rw [hl]; omega)]; exact a3,fun j v hv=>?_⟩⟩,hd.free⟩
    · rw [flat_size hsz,List.length_take]; show min i l.length * sz = i * sz; rw [Nat.min_eq_left (by omega)]
    · have hj:=get_lt hv
      rw [flat_size hsz,List.length_take,Nat.min_eq_left (by omega)] at hj
      rw [splice_get (by rw [hl]; omega),if_pos (by omega)]
      refine a4 j v ?_
      have hsplit:l.flatMap cells = (l.take i).flatMap cells ++ (l.drop i).flatMap cells:=by rw [← List.flatMap_append,List.take_append_drop]
      rw [hsplit,List.getElem?_append_left (get_lt hv)]; exact hv
end
theorem clone_in {G : Heap} {A : Option Addr} {n sz bytes : Nat} {T : TypeId} {cs : List Value} (hs : Src G A cs) (hlen : cs.length = n * sz) (hn : A = none → n = 0) (h1 : allOne cs = true) (hb : n * bytes ≤ 140737488355328) (hl : n ≤ 9223372036854775807) {K : Value → Heap → Prop} (k : ∀ q H', q.n = n → Hand G H' q sz cs → K q.v H') :
    (A.isNone = true → K (.slice none 0 0) G) ∧ (A.isNone = false → ∀ b,G b = none → ∀ H1,H1 = G.upd b (.cells #[] T (0,0)) → appS T sz bytes H1 (some ⟨b,0,none⟩) 0 0 A n fun A' n' c' H'=>K (.slice A' n' c') H'):=by
  refine ⟨fun e=>?_,fun e b hb0 H1 e1=>⟨cs,src_sub hs (by rw [e1]; exact Sub.upd_new hb0),hlen,⟨[],.inl rfl,by simp,hlen,h1,by rw [Nat.zero_add]; exact hb,by omega,fun hle=>?_,fun hlt b' cap rest hbn hle hr=>?_⟩⟩⟩
  · have hA:A = none:=by simpa using e
    have h0:=hn hA
    subst h0
    have hcs:cs = []:=List.length_eq_zero_iff.1 (by omega)
    subst hcs
    exact k ⟨none,0,0⟩ G rfl (Hand.nil (Sub.refl _) sz)
  · have h0:n = 0:=by omega
    subst h0
    have hcs:cs = []:=List.length_eq_zero_iff.1 (by omega)
    subst hcs
    refine .inl ⟨rfl,k ⟨some ⟨b,0,none⟩,0,0⟩ H1 rfl ⟨by rw [e1]; exact Sub.upd_new hb0,⟨by simp,Nat.le_refl _,.inr ⟨b,0,#[],T,rfl,by rw [e1]; exact Heap.upd_same,by simp,fun j v hv=>by simp at hv⟩⟩,fun i hi=>?_⟩⟩
    unfold SlH.blk at hi; cases hi; exact hb0
  · have s1:Sub G H1:=by rw [e1]; exact Sub.upd_new hb0
    refine k ⟨some ⟨b',0,none⟩,0 + n,cap⟩ _ (by simp) ⟨s1.trans (Sub.upd_new hbn),⟨by show cs.length = (0 + n) * sz; rw [Nat.zero_add]; exact hlen,hle,.inr ⟨b',0,_,T,rfl,Heap.upd_same,?_,fun j v hv=>?_⟩⟩,fun i hi=>?_⟩
    · simp only [List.size_toArray,List.length_append,List.length_nil,hr,hlen,Nat.zero_add]
      rw [← Nat.add_mul]
      have:n + (cap - (0 + n)) = cap:=by omega
      rw [Nat.zero_add] at this
      rw [this]; exact Nat.le_refl _
    · have hj:=get_lt hv
      simp only [List.nil_append,List.getElem?_toArray,Nat.zero_add]
      rw [List.getElem?_append_left hj]; exact hv
    · unfold SlH.blk at hi; cases hi; exact none_below s1 hbn
end Go.Proofs.YtkofafcgcnciaaaGreatDoor
set_option maxRecDepth 100000
namespace Go.Proofs.YtkofafcgcnciaaaGreatDoor
open Go.Ax
section
variable {α:Type} {cells:α → List Value} {sz:Nat} {P:Program} {G0 H:Heap} {q:SlH} {l:List α} {del:Value} {pr:α → Bool}
structure RIdx (pr:α → Bool) (l:List α) (H:Heap) (x:Int) (H1:Heap):Prop where
  s:Sub H H1
  k:∃ k:Nat,x = k ∧ k ≤ l.length ∧ ∀ j y,j < k → l[j]? = some y → pr y = false
structure IxR (pr:α → Bool) (l:List α) (H:Heap) (v:Value) (H1:Heap):Prop where
  s:Sub H H1
  out:(v = .int .i64 (-1) ∧ ∀ y ∈ l,pr y = false) ∨ ∃ (i:Nat) (x:α),v = .int .i64 (i:Int) ∧ l[i]? = some x ∧ pr x = true ∧ ∀ j y,j < i → l[j]? = some y → pr y = false
theorem RIdx.zero:RIdx pr l H 0 H:=⟨Sub.refl _,0,rfl,Nat.zero_le _,fun j _ h=>absurd h (by omega)⟩
theorem RIdx.next {H1 H2 : Heap} {k : Nat} (r : RIdx pr l H k H1) (s : Sub H1 H2) (hb : l.length ≤ 9223372036854775806) {x : α} (hx : l[k]? = some x) (hp : pr x = false) :
    RIdx pr l H (IntKind.i64.wrap ((k:Int) + 1)) H2 ∧ ((l.length:Int) - IntKind.i64.wrap ((k:Int) + 1)).toNat < ((l.length:Int) - (k:Int)).toNat:=by
  obtain ⟨k',hk',_,hs⟩:=r.k
  have:k' = k:=by omega
  subst this
  have:=get_lt hx
  rw [wrapi (by omega) (by omega)]
  refine ⟨⟨r.s.trans s,k' + 1,by omega,by omega,fun j y hj hy=>?_⟩,by omega⟩
  by_cases h:j = k'
  · subst h; rw [hx] at hy; cases hy; exact hp
  · exact hs j y (by omega) hy
theorem RIdx.done {H1:Heap} {k:Nat} (r:RIdx pr l H k H1) (hk:l.length ≤ k):IxR pr l H (.int .i64 (-1)) H1:=by
  obtain ⟨k',hk',_,hs⟩:=r.k
  refine ⟨r.s,.inl ⟨rfl,fun y hy=>?_⟩⟩
  obtain ⟨j,hj⟩:=List.getElem?_of_mem hy
  exact hs j y (by have:=get_lt hj; omega) hj
theorem RIdx.hit {H1 H2:Heap} {k:Nat} (r:RIdx pr l H k H1) (s:Sub H1 H2) {x:α} (hx:l[k]? = some x) (hp:pr x = true):IxR pr l H (.int .i64 (k:Int)) H2:=by
  obtain ⟨k',hk',_,hs⟩:=r.k
  have:k' = k:=by omega
  subst this
  exact ⟨r.s.trans s,.inr ⟨k',x,rfl,hx,hp,hs⟩⟩
structure RDel (cells:α → List Value) (sz:Nat) (pr:α → Bool) (G0:Heap) (q:SlH) (l:List α) (x y:Int) (H1:Heap):Prop where
  out:∃ (i j:Nat) (arr:List α),x = i ∧ y = j ∧ i < j ∧ j ≤ l.length ∧ arr.length = l.length ∧ Hand G0 H1 q sz (arr.flatMap cells) ∧ arr.take i = (l.take j).filter (fun z=>!pr z) ∧ ∀ t,j ≤ t → arr[t]? = l[t]?
theorem RDel.start {H1:Heap} (hd:Hand G0 H1 q sz (l.flatMap cells)) {i:Nat} {x:α} (hx:l[i]? = some x) (hp:pr x = true) (hf:∀ j y,j < i → l[j]? = some y → pr y = false):RDel cells sz pr G0 q l i ((i + 1:Nat):Int) H1:=by
  refine ⟨i,i + 1,l,rfl,rfl,by omega,get_lt hx,rfl,hd,?_,fun _ _=>rfl⟩
  rw [List.take_add_one,hx,List.filter_append]
  have e1:(l.take i).filter (fun z=>!pr z) = l.take i:=List.filter_eq_self.2 fun y hy=>by
    obtain ⟨j,hj⟩:=List.getElem?_of_mem hy
    have hlt:=get_lt hj
    rw [List.length_take] at hlt
    rw [List.getElem?_take_of_lt (by omega)] at hj
    rw [hf j y (by omega) hj]; rfl
  rw [e1]
  simp [hp]
theorem RDel.keep {H1 : Heap} {i j : Nat} {arr : List α} (hj : j < l.length) (hij : i < j) (hlen : arr.length = l.length) (hd : Hand G0 H1 q sz (arr.flatMap cells)) (ht : arr.take i = (l.take j).filter (fun z => !pr z)) (hr : ∀ t, j ≤ t → arr[t]? = l[t]?) {x : α} (hx : l[j]? = some x) (hp : pr x = true) :
    RDel cells sz pr G0 q l i ((j + 1:Nat):Int) H1:=by
  refine ⟨i,j + 1,arr,rfl,rfl,by omega,by omega,hlen,hd,?_,fun t h=>hr t (by omega)⟩
  rw [List.take_add_one,hx,List.filter_append,ht]
  simp [hp]
theorem RDel.move {H1 : Heap} {i j : Nat} {arr : List α} (hj : j < l.length) (hij : i < j) (hlen : arr.length = l.length) {x : α} (hd : Hand G0 H1 q sz ((arr.set i x).flatMap cells)) (ht : arr.take i = (l.take j).filter (fun z => !pr z)) (hr : ∀ t, j ≤ t → arr[t]? = l[t]?) (hx : l[j]? = some x) (hp : pr x = false) :
    RDel cells sz pr G0 q l ((i + 1:Nat):Int) ((j + 1:Nat):Int) H1:=by
  refine ⟨i + 1,j + 1,arr.set i x,rfl,rfl,by omega,by omega,by rw [List.length_set]; exact hlen,hd,?_,fun t h=>?_⟩
  · rw [List.take_add_one,List.take_add_one,hx,List.filter_append,← ht,List.take_set_of_le (by omega)]
    rw [List.getElem?_set,if_pos rfl,if_pos (by omega)]
    simp [hp]
  · rw [List.getElem?_set,if_neg (by omega)]; exact hr t (by omega)
theorem RDel.ended {H1:Heap} {i j:Nat} {arr:List α} (hj:l.length ≤ j) (ht:arr.take i = (l.take j).filter (fun z=>!pr z)) (hd:Hand G0 H1 ⟨q.A,i,q.c⟩ sz ((arr.take i).flatMap cells)):Hand G0 H1 ⟨q.A,i,q.c⟩ sz ((l.filter fun z=>!pr z).flatMap cells):=by
  rw [ht,List.take_of_length_le hj] at hd; exact hd
theorem filter_all (h:∀ y ∈ l,pr y = false):(l.filter fun z=>!pr z) = l:=List.filter_eq_self.2 fun y hy=>by rw [h y hy]; rfl
end
section
variable {G0 H:Heap} {q:SlH} {del:Value}
theorem t159 {l:List AcM} {pr:AcM → Bool} (hd:Hand G0 H q 10 (l.flatMap AcM.cells)) (hp:Pred Tryz.prog G0 del AcM.cells pr) (hb:l.length ≤ 9223372036854775806):Tr Tryz.prog 159 #[q.v,del] H fun v H'=>IxR pr l H v H':=by
  have hn:=hd.flen (cells:=AcM.cells) (fun _=>rfl) (by decide)
  apply v159; unfold F159
  refine ⟨RIdx pr l H,fun x _=>((l.length:Int) - x).toNat,RIdx.zero,fun x H1 r=>?_⟩
  obtain ⟨k,rfl,hk,-⟩:=r.k
  refine ⟨fun hlt=>?_,fun hge=>r.done (by have:=of_decide_eq_false hge; omega)⟩
  have hlt:(k:Int) < (q.n:Int):=of_decide_eq_true hlt
  obtain ⟨x,hx⟩:=get_some (l:=l) (i:=k) (by omega)
  obtain ⟨a,ha,hat⟩:=src_elem (cells:=AcM.cells) (sz:=10) (fun _=>rfl) (by decide) (src_sub hd.sl.src r.s) k x hx
  obtain ⟨g,all,hf,ht⟩:=hp.run x H1 (hd.g.trans r.s)
  exact ⟨a,⟨ha,by omega,hlt⟩,_,_,_,_,_,_,_,_,_,_,hat,g,all,hf,ht.mono fun v H2 ⟨hv,s⟩=>⟨_,hv,fun e=>r.hit s hx e,fun e=>r.next s hb hx e⟩⟩
theorem t160 {l:List TmM} {pr:TmM → Bool} (hd:Hand G0 H q 2 (l.flatMap TmM.cells)) (hp:Pred Tryz.prog G0 del TmM.cells pr) (hb:l.length ≤ 9223372036854775806):Tr Tryz.prog 160 #[q.v,del] H fun v H'=>IxR pr l H v H':=by
  have hn:=hd.flen (cells:=TmM.cells) (fun _=>rfl) (by decide)
  apply v160; unfold F160
  refine ⟨RIdx pr l H,fun x _=>((l.length:Int) - x).toNat,RIdx.zero,fun x H1 r=>?_⟩
  obtain ⟨k,rfl,hk,-⟩:=r.k
  refine ⟨fun hlt=>?_,fun hge=>r.done (by have:=of_decide_eq_false hge; omega)⟩
  have hlt:(k:Int) < (q.n:Int):=of_decide_eq_true hlt
  obtain ⟨x,hx⟩:=get_some (l:=l) (i:=k) (by omega)
  obtain ⟨a,ha,hat⟩:=src_elem (cells:=TmM.cells) (sz:=2) (fun _=>rfl) (by decide) (src_sub hd.sl.src r.s) k x hx
  obtain ⟨g,all,hf,ht⟩:=hp.run x H1 (hd.g.trans r.s)
  exact ⟨a,⟨ha,by omega,hlt⟩,_,_,hat,g,all,hf,ht.mono fun v H2 ⟨hv,s⟩=>⟨_,hv,fun e=>r.hit s hx e,fun e=>r.next s hb hx e⟩⟩
structure DelR {α:Type} (cells:α → List Value) (sz:Nat) (pr:α → Bool) (G0:Heap) (l:List α) (v:Value) (H':Heap):Prop where
  out:∃ q:SlH,v = q.v ∧ Hand G0 H' q sz ((l.filter fun z=>!pr z).flatMap cells)
theorem zcells {e:TypeId} {n:Nat} {cs:List Value} (h:((Tryz.prog.info? e).bind (·.zero)).map (fun z=>z.cells.toList) = some cs) (hn:cs.length = n) (h1:allOne cs = true):∃ z,(Tryz.prog.info? e).bind (·.zero) = some z ∧ (∀ v ∈ z.cells.toList,v.oneCell' = true) ∧ z.cells.size = n:=by
  cases hz:(Tryz.prog.info? e).bind (·.zero) with
  | none=>rw [hz] at h; cases h
  | some z =>
    rw [hz] at h
    injection h with h
    subst h
    exact ⟨z,rfl,fun v hv=>one_cell (allOne_mem _ h1 v hv),by rw [← hn]; simp⟩
theorem t131 {l:List AcM} {pr:AcM → Bool} (hd:Hand G0 H q 10 (l.flatMap AcM.cells)) (hp:Pred Tryz.prog G0 del AcM.cells pr) (hb:l.length ≤ 9223372036854775806):Tr Tryz.prog 131 #[q.v,del] H fun v H'=>DelR AcM.cells 10 pr G0 l v H':=by
  have hn:=hd.flen (cells:=AcM.cells) (fun _=>rfl) (by decide)
  have hcap:=hd.sl.cap
  apply v131; unfold F131
  refine (t159 hd hp hb).mono fun v H1 ix=>?_
  rcases ix.out with ⟨hv,hall⟩ | ⟨i,x,hv,hx,hpx,hf⟩
  · exact ⟨_,hv,fun _=>⟨q,rfl,by rw [filter_all hall]; exact hd.sub ix.s⟩,fun e=>absurd e (by simp)⟩
  have hil:=get_lt hx
  refine ⟨_,hv,fun e=>absurd e (by simp),fun _=>⟨RDel AcM.cells 10 pr G0 q l,fun _ y _=>((l.length:Int) - y).toNat,?_,fun x1 x2 H2 r=>?_⟩⟩
  · rw [show IntKind.i64.wrap ((i:Int) + 1) = ((i + 1:Nat):Int) by rw [wrapi (by omega) (by omega)]; rfl]
    exact RDel.start (hd.sub ix.s) hx hpx hf
  obtain ⟨i,j,arr,rfl,rfl,hij,hjl,hlen,hd2,ht,hr⟩:=r.out
  have hw2:IntKind.i64.wrap ((j:Int) + 1) = ((j + 1:Nat):Int):=by rw [wrapi (by omega) (by omega)]; rfl
  have hw1:IntKind.i64.wrap ((i:Int) + 1) = ((i + 1:Nat):Int):=by rw [wrapi (by omega) (by omega)]; rfl
  have ms:((l.length:Int) - ((j + 1:Nat):Int)).toNat < ((l.length:Int) - (j:Int)).toNat ∨ ¬ j < l.length:=by omega
  rw [hw2,hw1]
  refine ⟨fun hlt=>?_,fun hge=>?_⟩
  · have hlt:(j:Int) < (q.n:Int):=of_decide_eq_true hlt
    have hjl:j < l.length:=by omega
    have ms:=ms.resolve_right (by omega)
    obtain ⟨x,hx⟩:=get_some (l:=l) (i:=j) hjl
    obtain ⟨a,ha,hat⟩:=src_elem (cells:=AcM.cells) (sz:=10) (fun _=>rfl) (by decide) hd2.sl.src j x (by rw [hr j (Nat.le_refl _)]; exact hx)
    obtain ⟨g,all,hfn,htr⟩:=hp.run x H2 hd2.g
    refine ⟨a,⟨ha,by omega,hlt⟩,_,_,_,_,_,_,_,_,_,_,hat,g,all,hfn,htr.mono fun v H3 ⟨hv,s⟩=>⟨_,hv,fun e=>⟨a,⟨ha,by omega,by omega⟩,?_⟩,fun e=>⟨RDel.keep hjl hij hlen (hd2.sub s) ht hr hx (by simpa using e),ms⟩⟩⟩
    exact (hd2.sub s).putN (cells:=AcM.cells) (fun _=>rfl) (by decide) (i:=i) (by omega) x ha fun H4 hd4=>⟨RDel.move hjl hij hlen hd4 ht hr hx (by simpa using e),ms⟩
  · have hge:¬ (j:Int) < (q.n:Int):=of_decide_eq_false hge
    obtain ⟨z,hz,hz1,hzs⟩:=zcells (e:=53) (n:=10) (cs:=AcM.cells ⟨0,0,0,0,0,0,0,0,0,0⟩) (by kernel_rfl) rfl rfl
    refine ⟨⟨by omega,by omega⟩,hd2.cut (cells:=AcM.cells) (fun _=>rfl) (by decide) (i:=i) (by omega) Tryz.underlying29 hz hz1 hzs fun H3 hd3=>⟨⟨by omega,by omega⟩,⟨q.A,i,q.c⟩,?_,RDel.ended (by omega) ht hd3⟩⟩
    rw [head0]; rfl
theorem t132 {l:List TmM} {pr:TmM → Bool} (hd:Hand G0 H q 2 (l.flatMap TmM.cells)) (hp:Pred Tryz.prog G0 del TmM.cells pr) (hb:l.length ≤ 9223372036854775806):Tr Tryz.prog 132 #[q.v,del] H fun v H'=>DelR TmM.cells 2 pr G0 l v H':=by
  have hn:=hd.flen (cells:=TmM.cells) (fun _=>rfl) (by decide)
  have hcap:=hd.sl.cap
  apply v132; unfold F132
  refine (t160 hd hp hb).mono fun v H1 ix=>?_
  rcases ix.out with ⟨hv,hall⟩ | ⟨i,x,hv,hx,hpx,hf⟩
  · exact ⟨_,hv,fun _=>⟨q,rfl,by rw [filter_all hall]; exact hd.sub ix.s⟩,fun e=>absurd e (by simp)⟩
  have hil:=get_lt hx
  refine ⟨_,hv,fun e=>absurd e (by simp),fun _=>⟨RDel TmM.cells 2 pr G0 q l,fun _ y _=>((l.length:Int) - y).toNat,?_,fun x1 x2 H2 r=>?_⟩⟩
  · rw [show IntKind.i64.wrap ((i:Int) + 1) = ((i + 1:Nat):Int) by rw [wrapi (by omega) (by omega)]; rfl]
    exact RDel.start (hd.sub ix.s) hx hpx hf
  obtain ⟨i,j,arr,rfl,rfl,hij,hjl,hlen,hd2,ht,hr⟩:=r.out
  have hw2:IntKind.i64.wrap ((j:Int) + 1) = ((j + 1:Nat):Int):=by rw [wrapi (by omega) (by omega)]; rfl
  have hw1:IntKind.i64.wrap ((i:Int) + 1) = ((i + 1:Nat):Int):=by rw [wrapi (by omega) (by omega)]; rfl
  have ms:((l.length:Int) - ((j + 1:Nat):Int)).toNat < ((l.length:Int) - (j:Int)).toNat ∨ ¬ j < l.length:=by omega
  rw [hw2,hw1]
  refine ⟨fun hlt=>?_,fun hge=>?_⟩
  · have hlt:(j:Int) < (q.n:Int):=of_decide_eq_true hlt
    have hjl:j < l.length:=by omega
    have ms:=ms.resolve_right (by omega)
    obtain ⟨x,hx⟩:=get_some (l:=l) (i:=j) hjl
    obtain ⟨a,ha,hat⟩:=src_elem (cells:=TmM.cells) (sz:=2) (fun _=>rfl) (by decide) hd2.sl.src j x (by rw [hr j (Nat.le_refl _)]; exact hx)
    obtain ⟨g,all,hfn,htr⟩:=hp.run x H2 hd2.g
    refine ⟨a,⟨ha,by omega,hlt⟩,_,_,hat,g,all,hfn,htr.mono fun v H3 ⟨hv,s⟩=>⟨_,hv,fun e=>⟨a,⟨ha,by omega,by omega⟩,?_⟩,fun e=>⟨RDel.keep hjl hij hlen (hd2.sub s) ht hr hx (by simpa using e),ms⟩⟩⟩
    exact (hd2.sub s).putN (cells:=TmM.cells) (fun _=>rfl) (by decide) (i:=i) (by omega) x ha fun H4 hd4=>⟨RDel.move hjl hij hlen hd4 ht hr hx (by simpa using e),ms⟩
  · have hge:¬ (j:Int) < (q.n:Int):=of_decide_eq_false hge
    obtain ⟨z,hz,hz1,hzs⟩:=zcells (e:=83) (n:=2) (cs:=TmM.cells ⟨0,0⟩) (by kernel_rfl) rfl rfl
    refine ⟨⟨by omega,by omega⟩,hd2.cut (cells:=TmM.cells) (fun _=>rfl) (by decide) (i:=i) (by omega) Tryz.underlying30 hz hz1 hzs fun H3 hd3=>⟨⟨by omega,by omega⟩,⟨q.A,i,q.c⟩,?_,RDel.ended (by omega) ht hd3⟩⟩
    rw [head0]; rfl
theorem acs_one:∀ l:List AcM,allOne (l.flatMap AcM.cells) = true
  | []=>rfl
  | x :: l=>by rw [List.flatMap_cons]; exact acs_one l
theorem tms_one:∀ l:List TmM,allOne (l.flatMap TmM.cells) = true
  | []=>rfl
  | x :: l=>by rw [List.flatMap_cons]; exact tms_one l
theorem _root_.Go.Ax.SlOk.nil_n {H:Heap} {h:SlH} {sz:Nat} {cs:List Value} (k:SlOk H h sz cs) (e:h.A = none):h.n = 0:=by
  rcases k.at_ with a | ⟨b,off,cur,T,a1,_⟩
  · exact a.2.1
  · rw [a1] at e; cases e
theorem t92 {G:Heap} {l:List AcM} {pr:AcM → Bool} (hs:SlOk G q 10 (l.flatMap AcM.cells)) (hp:Pred Tryz.prog G del AcM.cells pr) (hb:l.length * 80 ≤ 140737488355328):Tr Tryz.prog 92 #[q.v,del] G fun v H'=>DelR AcM.cells 10 pr G l v H':=by
  have hl:(l.flatMap AcM.cells).length = l.length * 10:=flat_size (cells:=AcM.cells) (sz:=10) (fun _=>rfl) _
  have hn:q.n = l.length:=by have:=hs.len; omega
  apply v92; unfold F92
  refine Tr.mono (K:=fun v H1=>∃ q1:SlH,v = q1.v ∧ Hand G H1 q1 10 (l.flatMap AcM.cells)) ?_ fun v H1 ⟨q1,hv,hd⟩=>⟨_,_,_,hv,(t131 hd hp (by omega)).mono fun v H2 ⟨q2,hv2,hd2⟩=>⟨_,_,_,hv2,⟨q2,rfl,hd2⟩⟩⟩
  apply v55; unfold F55
  exact clone_in (bytes:=80) (K:=fun v H1=>∃ q1:SlH,v = q1.v ∧ Hand G H1 q1 10 (l.flatMap AcM.cells)) hs.src hs.len hs.nil_n (acs_one _) (by omega) (by omega) fun q1 H1 _ hd=>⟨q1,rfl,hd⟩
theorem t94 {G:Heap} {l:List TmM} {pr:TmM → Bool} (hs:SlOk G q 2 (l.flatMap TmM.cells)) (hp:Pred Tryz.prog G del TmM.cells pr) (hb:l.length * 16 ≤ 140737488355328):Tr Tryz.prog 94 #[q.v,del] G fun v H'=>DelR TmM.cells 2 pr G l v H':=by
  have hl:(l.flatMap TmM.cells).length = l.length * 2:=flat_size (cells:=TmM.cells) (sz:=2) (fun _=>rfl) _
  have hn:q.n = l.length:=by have:=hs.len; omega
  apply v94; unfold F94
  refine Tr.mono (K:=fun v H1=>∃ q1:SlH,v = q1.v ∧ Hand G H1 q1 2 (l.flatMap TmM.cells)) ?_ fun v H1 ⟨q1,hv,hd⟩=>⟨_,_,_,hv,(t132 hd hp (by omega)).mono fun v H2 ⟨q2,hv2,hd2⟩=>⟨_,_,_,hv2,⟨q2,rfl,hd2⟩⟩⟩
  apply v81; unfold F81
  exact clone_in (bytes:=16) (K:=fun v H1=>∃ q1:SlH,v = q1.v ∧ Hand G H1 q1 2 (l.flatMap TmM.cells)) hs.src hs.len hs.nil_n (tms_one _) (by omega) (by omega) fun q1 H1 _ hd=>⟨q1,rfl,hd⟩
end
end Go.Proofs.YtkofafcgcnciaaaGreatDoor
set_option maxRecDepth 100000
namespace Go.Ax
def mapTo {α:Type} (f:α → α) (j:Nat) (l:List α):List α:=(l.take j).map f ++ l.drop j
section
variable {α:Type} {f:α → α}
theorem mapTo_get {j:Nat} {l:List α} {x:α} (h:l[j]? = some x):(mapTo f j l)[j]? = some x:=by
  unfold mapTo
  have hj:=get_lt h
  have hl:((l.take j).map f).length = j:=by rw [List.length_map,List.length_take]; omega
  rw [List.getElem?_append_right (by omega),hl,Nat.sub_self,List.getElem?_drop]
  exact h
theorem mapTo_next {j:Nat} {l:List α} {x:α} (h:l[j]? = some x):mapTo f (j + 1) l = (mapTo f j l).set j (f x):=by
  have hj:=get_lt h
  have hl:((l.take j).map f).length = j:=by rw [List.length_map,List.length_take]; omega
  have hd:l.drop j = x :: l.drop (j + 1):=(List.drop_eq_getElem_cons hj).trans (by rw [List.getElem?_eq_getElem hj] at h; injection h with h; rw [h])
  unfold mapTo
  rw [List.set_append_right _ _ (by omega),hl,Nat.sub_self,hd,List.set_cons_zero,List.take_add_one,h]
  simp
theorem mapTo_all {j:Nat} {l:List α} (h:l.length ≤ j):mapTo f j l = l.map f:=by unfold mapTo; rw [List.take_of_length_le h,List.drop_of_length_le h,List.append_nil]
theorem mapTo_zero (l:List α):mapTo f 0 l = l:=by unfold mapTo; simp
theorem set_id {i:Nat} {l:List α} {x:α} (h:l[i]? = some x):l.set i x = l:=by
  apply List.ext_getElem?
  intro j
  rw [List.getElem?_set]
  by_cases hj:i = j
  · subst hj; rw [if_pos rfl,if_pos (get_lt h),h]
  · rw [if_neg hj]
def selfH (H:Heap) (b:Nat):Heap:=fun i=>if i = b then H i else none
theorem selfH_sub {H H':Heap} {b:Nat} (e:H' b = H b):Sub (selfH H b) H':=⟨fun i o h=>by
  unfold selfH at h
  split at h
  · rename_i q; rw [q] at h ⊢; rw [e]; exact h
  · cases h⟩
end
end Go.Ax
namespace Go.Proofs.YtkofafcgcnciaaaGreatDoor
open Go.Ax
section
variable {G H:Heap} {b:Nat} {sl:Nat → SlH} {R:RS}
theorem RunX.len0 (h:RunX G H b sl R):(sl 0).n = R.events.length:=by
  have:=(h.ok 0 (by decide)).len
  rw [show contR R 0 = R.events.flatMap Ev.cells from rfl,flat_size (cells:=Ev.cells) (sz:=9) (fun _=>rfl),show szR 0 = 9 from rfl] at this; omega
theorem RunX.len1 (h:RunX G H b sl R):(sl 1).n = R.acts.length:=by
  have:=(h.ok 1 (by decide)).len
  rw [show contR R 1 = R.acts.flatMap AcM.cells from rfl,flat_size (cells:=AcM.cells) (sz:=10) (fun _=>rfl),show szR 1 = 10 from rfl] at this; omega
theorem RunX.len2 (h:RunX G H b sl R):(sl 2).n = R.timers.length:=by
  have:=(h.ok 2 (by decide)).len
  rw [show contR R 2 = R.timers.flatMap TmM.cells from rfl,flat_size (cells:=TmM.cells) (sz:=2) (fun _=>rfl),show szR 2 = 2 from rfl] at this; omega
theorem RunX.len3 (h:RunX G H b sl R):(sl 3).n = R.kids.length:=by
  have:=(h.ok 3 (by decide)).len
  rw [show contR R 3 = R.kids.flatMap KdM.cells from rfl,flat_size (cells:=KdM.cells) (sz:=5) (fun _=>rfl),show szR 3 = 5 from rfl] at this; omega
theorem RunX.len4 (h:RunX G H b sl R):(sl 4).n = R.updates.length:=by
  have:=(h.ok 4 (by decide)).len
  rw [show contR R 4 = R.updates.flatMap UpM.cells from rfl,flat_size (cells:=UpM.cells) (sz:=4) (fun _=>rfl),show szR 4 = 4 from rfl] at this; omega
theorem RunX.kd (h:RunX G H b sl R) {i:Nat} {k:KdM} (hk:R.kids[i]? = some k):∃ a,(sl 3).A = some a ∧ At H (a.add (i * 5)) k.cells:=src_elem (cells:=KdM.cells) (sz:=5) (fun _=>rfl) (by decide) (h.ok 3 (by decide)).src i k hk
theorem RunX.up (h:RunX G H b sl R) {i:Nat} {u:UpM} (hu:R.updates[i]? = some u):∃ a,(sl 4).A = some a ∧ At H (a.add (i * 4)) u.cells:=src_elem (cells:=UpM.cells) (sz:=4) (fun _=>rfl) (by decide) (h.ok 4 (by decide)).src i u hu
theorem RunX.self (h:RunX G H b sl R) {k:Nat} {v:Value} (hv:(rCells sl R)[k]? = some v):At (selfH H b) ((⟨b,0,none⟩:Addr).add k) [v]:=by
  refine ⟨⟨⟨rCells sl R⟩,_,_,by rw [add_block]; unfold selfH; rw [if_pos rfl]; exact h.hb,add_spot _ _,fun j u hj=>?_⟩⟩
  rw [add_off]
  cases j with
  | succ j=>simp at hj
  | zero=>simp at hj; subst hj; simpa using hv
theorem RunX.wrUp (h:RunX G H b sl R) {i:Nat} {u w:UpM} (hu:R.updates[i]? = some u) {a:Addr} (ha:(sl 4).A = some a) {j:Nat} (hj:j < 4) {v:Value} (e:u.cells.set j v = w.cells) {Q:Heap → Prop} (q:∀ H',RunX G H' b sl { R with updates:=R.updates.set i w } → Q H'):Wr H ((a.add (i * 4)).add j) v Q:=by
  have hi:=get_lt hu
  have hcl:(contR R 4).length = R.updates.length * 4:=flat_size (cells:=UpM.cells) (sz:=4) (fun _=>rfl) _
  rw [add_add]
  refine h.put (c:=4) (by decide) ha (k:=i * 4 + j) (by rw [hcl]; omega) { R with updates:=R.updates.set i w } (flat_set (cells:=UpM.cells) (sz:=4) (fun _=>rfl) R.updates i u w j v hu hj e).symm (fun c' hc' hne=>?_) rfl h.attrs q
  unfold contR
  by_cases c0:c' = 0; · rw [if_pos c0,if_pos c0]
  by_cases c1:c' = 1; · rw [if_neg c0,if_neg c0,if_pos c1,if_pos c1]
  by_cases c2:c' = 2; · rw [if_neg c0,if_neg c0,if_neg c1,if_neg c1,if_pos c2,if_pos c2]
  rw [if_neg c0,if_neg c0,if_neg c1,if_neg c1,if_neg c2,if_neg c2,if_pos (by omega),if_pos (by omega)]
theorem RunX.wrKd (h:RunX G H b sl R) {i:Nat} {u w:KdM} (hu:R.kids[i]? = some u) {a:Addr} (ha:(sl 3).A = some a) {j:Nat} (hj:j < 5) {v:Value} (e:u.cells.set j v = w.cells) {Q:Heap → Prop} (q:∀ H',RunX G H' b sl { R with kids:=R.kids.set i w } → Q H'):Wr H ((a.add (i * 5)).add j) v Q:=by
  have hi:=get_lt hu
  have hcl:(contR R 3).length = R.kids.length * 5:=flat_size (cells:=KdM.cells) (sz:=5) (fun _=>rfl) _
  rw [add_add]
  refine h.put (c:=3) (by decide) ha (k:=i * 5 + j) (by rw [hcl]; omega) { R with kids:=R.kids.set i w } (flat_set (cells:=KdM.cells) (sz:=5) (fun _=>rfl) R.kids i u w j v hu hj e).symm (fun c' hc' hne=>?_) rfl h.attrs q
  unfold contR
  by_cases c0:c' = 0; · rw [if_pos c0,if_pos c0]
  by_cases c1:c' = 1; · rw [if_neg c0,if_neg c0,if_pos c1,if_pos c1]
  by_cases c2:c' = 2; · rw [if_neg c0,if_neg c0,if_neg c1,if_neg c1,if_pos c2,if_pos c2]
  rw [if_neg c0,if_neg c0,if_neg c1,if_neg c1,if_neg c2,if_neg c2,if_neg hne,if_neg hne]
structure RUp (f:UpM → UpM) (G:Heap) (b:Nat) (sl:Nat → SlH) (R:RS) (x:Int) (H1:Heap):Prop where
  out:∃ k:Nat,x = k ∧ k ≤ R.updates.length ∧ RunX G H1 b sl { R with updates:=mapTo f k R.updates }
structure RKd (f:KdM → KdM) (G:Heap) (b:Nat) (sl:Nat → SlH) (R:RS) (x:Int) (H1:Heap):Prop where
  out:∃ k:Nat,x = k ∧ k ≤ R.kids.length ∧ RunX G H1 b sl { R with kids:=mapTo f k R.kids }
theorem t96 (h:RunX G H b sl R) (id st v k:Int) (hb:R.updates.length ≤ 9223372036854775806):Tr Tryz.prog 96 #[.pointer (some ⟨b,0,none⟩),.int .i64 id,.int .i64 st,.int .i64 v,.int .i64 k] H fun r H'=>r = .tuple #[] ∧ RunX G H' b sl { R with updates:=R.updates.map (upd1 id st v k) }:=by
  have hn:=h.len4
  apply v96; unfold F96
  refine ⟨_,rfl,_,_,_,h.cell (k:=19) rfl,RUp (upd1 id st v k) G b sl R,fun x _=>((R.updates.length:Int) - x).toNat,⟨0,rfl,Nat.zero_le _,by rw [mapTo_zero]; exact h⟩,fun x H1 r=>?_⟩
  obtain ⟨j,rfl,hj,h1⟩:=r.out
  have hw:IntKind.i64.wrap ((j:Int) + 1) = ((j + 1:Nat):Int):=by rw [wrapi (by omega) (by omega)]; rfl
  rw [hw]
  refine ⟨fun hlt=>?_,fun hge=>⟨rfl,?_⟩⟩
  · have hlt:(j:Int) < ((sl 4).n:Int):=of_decide_eq_true hlt
    obtain ⟨u,hu⟩:=get_some (l:=R.updates) (i:=j) (by omega)
    have hu1:(mapTo (upd1 id st v k) j R.updates)[j]? = some u:=mapTo_get hu
    have hnx:=mapTo_next (f:=upd1 id st v k) hu
    obtain ⟨a,ha,hat⟩:=h1.up hu1
    have bd:(sl 4).A = some a ∧ (0:Int) ≤ (j:Int) ∧ (j:Int) < ((sl 4).n:Int):=⟨ha,by omega,hlt⟩
    have ms:((R.updates.length:Int) - ((j + 1:Nat):Int)).toNat < ((R.updates.length:Int) - (j:Int)).toNat:=by omega
    refine ⟨_,rfl,_,_,_,h1.cell (k:=19) rfl,a,bd,u.event,at_one 0 hat rfl,fun e=>?_,fun e=>⟨⟨j + 1,rfl,by omega,?_⟩,ms⟩⟩
    · refine ⟨selfH H1 b,selfH_sub rfl,_,rfl,_,rfl,_,rfl,_,_,_,h1.self (k:=19) rfl,_,_,_,h1.self (k:=19) rfl,_,_,_,h1.self (k:=19) rfl,a,bd,?_⟩
      refine h1.wrUp (w:={ u with state:=st }) hu1 ha (j:=1) (by decide) rfl fun H2 h2=>⟨selfH_sub (h2.hb.trans h1.hb.symm),a,bd,?_⟩
      have hlen:j < (mapTo (upd1 id st v k) j R.updates).length:=get_lt hu1
      have s2:∀ w:UpM,((mapTo (upd1 id st v k) j R.updates).set j w)[j]? = some w:=fun w=>List.getElem?_set_self hlen
      refine h2.wrUp (w:={ u with state:=st,value:=v }) (s2 _) ha (j:=2) (by decide) rfl fun H3 h3=>⟨selfH_sub (h3.hb.trans h1.hb.symm),a,bd,?_⟩
      have h3:RunX G H3 b sl { R with updates:=(mapTo (upd1 id st v k) j R.updates).set j { u with state:=st,value:=v } }:=by
        have:=h3
        simp only [List.set_set] at this; exact this
      refine h3.wrUp (w:={ u with state:=st,value:=v,status:=k }) (s2 _) ha (j:=3) (by decide) rfl fun H4 h4=>⟨selfH_sub (h4.hb.trans h1.hb.symm),⟨j + 1,rfl,by omega,?_⟩,ms⟩
      have hf:upd1 id st v k u = { u with state:=st,value:=v,status:=k }:=by unfold upd1; rw [if_pos e]
      rw [hnx,hf]
      have:=h4
      simp only [List.set_set] at this; exact this
    · have hf:upd1 id st v k u = u:=by unfold upd1; rw [if_neg (by rw [e]; decide)]
      rw [hnx,hf,set_id hu1]; exact h1
  · have hge:¬ (j:Int) < ((sl 4).n:Int):=of_decide_eq_false hge
    rw [mapTo_all (by omega)] at h1; exact h1
structure Chg (G:Heap) (b:Nat) (sl:Nat → SlH) (change:Value) (f:KdM → KdM):Prop where
  run:∀ (R:RS) (H:Heap),RunX G H b sl R → ∀ i k a,R.kids[i]? = some k → (sl 3).A = some a → ∃ g all,isFn Tryz.prog change [.pointer (some (a.add (i * 5)))] g all ∧ Tr Tryz.prog g ⟨all⟩ H fun v H'=>v = .tuple #[] ∧ RunX G H' b sl { R with kids:=R.kids.set i (f k) }
def kidF (id:Int) (f:KdM → KdM) (k:KdM):KdM:=if (k.event == id) = true then f k else k
theorem t97 (h:RunX G H b sl R) (id:Int) {change:Value} {f:KdM → KdM} (hc:Chg G b sl change f) (hb:R.kids.length ≤ 9223372036854775806):Tr Tryz.prog 97 #[.pointer (some ⟨b,0,none⟩),.int .i64 id,change] H fun r H'=>r = .tuple #[] ∧ RunX G H' b sl { R with kids:=R.kids.map (kidF id f) }:=by
  have hn:=h.len3
  apply v97; unfold F97
  refine ⟨_,rfl,_,_,_,h.cell (k:=18) rfl,RKd (kidF id f) G b sl R,fun x _=>((R.kids.length:Int) - x).toNat,⟨0,rfl,Nat.zero_le _,by rw [mapTo_zero]; exact h⟩,fun x H1 r=>?_⟩
  obtain ⟨j,rfl,hj,h1⟩:=r.out
  have hw:IntKind.i64.wrap ((j:Int) + 1) = ((j + 1:Nat):Int):=by rw [wrapi (by omega) (by omega)]; rfl
  rw [hw]
  refine ⟨fun hlt=>?_,fun hge=>⟨rfl,?_⟩⟩
  · have hlt:(j:Int) < ((sl 3).n:Int):=of_decide_eq_true hlt
    obtain ⟨u,hu⟩:=get_some (l:=R.kids) (i:=j) (by omega)
    have hu1:(mapTo (kidF id f) j R.kids)[j]? = some u:=mapTo_get hu
    have hnx:=mapTo_next (f:=kidF id f) hu
    obtain ⟨a,ha,hat⟩:=h1.kd hu1
    have bd:(sl 3).A = some a ∧ (0:Int) ≤ (j:Int) ∧ (j:Int) < ((sl 3).n:Int):=⟨ha,by omega,hlt⟩
    have ms:((R.kids.length:Int) - ((j + 1:Nat):Int)).toNat < ((R.kids.length:Int) - (j:Int)).toNat:=by omega
    refine ⟨_,rfl,_,_,_,h1.cell (k:=18) rfl,a,bd,u.event,at_one 0 hat rfl,fun e=>?_,fun e=>⟨⟨j + 1,rfl,by omega,?_⟩,ms⟩⟩
    · obtain ⟨g,all,hf,ht⟩:=hc.run _ H1 h1 j u a hu1 ha
      refine ⟨_,rfl,_,_,_,h1.cell (k:=18) rfl,a,bd,g,all,hf,ht.mono fun v H2 ⟨hv,h2⟩=>⟨hv,⟨j + 1,rfl,by omega,?_⟩,ms⟩⟩
      have hf:kidF id f u = f u:=by unfold kidF; rw [if_pos e]
      rw [hnx,hf]; exact h2
    · have hf:kidF id f u = u:=by unfold kidF; rw [if_neg (by rw [e]; decide)]
      rw [hnx,hf,set_id hu1]; exact h1
  · have hge:¬ (j:Int) < ((sl 3).n:Int):=of_decide_eq_false hge
    rw [mapTo_all (by omega)] at h1; exact h1
theorem chg_run {eb:Nat} {e:Ev} (he:At G ⟨eb,0,none⟩ e.cells):Chg G b sl (.func (.func 98) #[] #[.pointer (some ⟨eb,0,none⟩)]) fun k=>{ k with run:=e.b }:=by
  refine ⟨fun R H h i k a hk ha=>⟨98,_,⟨⟨_,_,rfl,rfl⟩,rfl⟩,?_⟩⟩
  apply v98; unfold F98
  refine ⟨e.b,at_one 4 (he.sub h.gh) rfl,_,rfl,?_⟩
  exact h.wrKd (w:={ k with run:=e.b }) hk ha (j:=3) (by decide) rfl fun H' h'=>⟨rfl,h'⟩
theorem chg_over:Chg G b sl (.func (.func 99) #[] #[]) fun k=>{ k with over:=true }:=by
  refine ⟨fun R H h i k a hk ha=>⟨99,_,⟨⟨_,_,rfl,rfl⟩,rfl⟩,?_⟩⟩
  apply v99; unfold F99
  exact ⟨_,rfl,h.wrKd (w:={ k with over:=true }) hk ha (j:=4) (by decide) rfl fun H' h'=>⟨rfl,h'⟩⟩
end
end Go.Proofs.YtkofafcgcnciaaaGreatDoor
set_option maxRecDepth 100000
namespace Go.Proofs.YtkofafcgcnciaaaGreatDoor
open Go.Ax
theorem five {P:Nat → Prop} (h0:P 0) (h1:P 1) (h2:P 2) (h3:P 3) (h4:P 4):∀ c,c < 5 → P c:=fun c hc=>by
  rcases (show c = 0 ∨ c = 1 ∨ c = 2 ∨ c = 3 ∨ c = 4 by omega) with rfl | rfl | rfl | rfl | rfl
  · exact h0
  · exact h1
  · exact h2
  · exact h3
  · exact h4
structure RS.Small (R:RS):Prop where
  e:R.events.length ≤ 1000000
  a:R.acts.length ≤ R.events.length
  t:R.timers.length ≤ R.events.length
  k:R.kids.length ≤ R.events.length
  u:R.updates.length ≤ R.events.length
structure RunE (G H:Heap) (b:Nat) (R:RS):Prop where
  out:∃ sl,RunX G H b sl R
theorem RunX.e {G H:Heap} {b:Nat} {sl:Nat → SlH} {R:RS} (h:RunX G H b sl R):RunE G H b R:=⟨sl,h⟩
section
variable {G H:Heap} {b:Nat} {sl:Nat → SlH} {R:RS}
theorem RunX.push (h : RunX G H b sl R) {c : Nat} (hc : c < 5) {T : TypeId} {bytes : Nat} {new : List Value} (hk : new.length = szR c) (h1 : allOne new = true) (hb : ((sl c).n + 1) * bytes ≤ 140737488355328) (hl : (sl c).n + 1 ≤ 9223372036854775807) (R' : RS)
    (e:∀ hn:SlH,(rCells sl R).set (15 + c) hn.v = rCells (setH sl c hn) R') (e0:contR R' c = contR R c ++ new) (ec:∀ c',c' < 5 → c' ≠ c → contR R' c' = contR R c') (ea:R'.attrs.length = 4) {Q:Heap → Prop} (q:∀ H',RunE G H' b R' → Q H') :
    appC T (szR c) bytes H (sl c).A (sl c).n (sl c).c new 1 fun A' n' c' H'=>Sub G H' ∧ ∃ a,some (⟨b,0,none⟩:Addr) = some a ∧ Wr H' (a.add (15 + c)) (.slice A' n' c') fun H''=>Sub G H'' ∧ Q H'' :=
  h.app hc (by rw [hk,Nat.one_mul]) h1 hb hl fun _ _ _ h' r=>⟨h'.gh,_,rfl,h'.wrSl hc r (by omega) R' (e _) e0 ec ea fun _ h''=>⟨h''.gh,q _ h''.e⟩⟩
theorem RunX.give (h : RunX G H b sl R) {H' : Heap} {c : Nat} (hc : c < 5) {q : SlH} {cs : List Value} (hd : Hand H H' q (szR c) cs) (R' : RS) (e : (rCells sl R).set (15 + c) q.v = rCells (setH sl c q) R') (e0 : contR R' c = cs) (ec : ∀ c', c' < 5 → c' ≠ c → contR R' c' = contR R c') (ea : R'.attrs.length = 4) {Q : Heap → Prop}
    (k:∀ H',RunE G H' b R' → Q H'):Sub G H' ∧ ∃ a,some (⟨b,0,none⟩:Addr) = some a ∧ Wr H' (a.add (15 + c)) q.v fun H''=>Sub G H'' ∧ Q H'' :=
  have h':=h.grow hd.g
  ⟨h'.gh,_,rfl,h'.wrSl hc ⟨hd.sl,fun _ hi=>h.new_free (hd.free _ hi)⟩ (by omega) R' e e0 ec ea fun _ h''=>⟨h''.gh,k _ h''.e⟩⟩
theorem RunX.drop (h : RunX G H b sl R) {c : Nat} (hc : c < 5) (R' : RS) (e : (rCells sl R).set (15 + c) (.slice none 0 0) = rCells (setH sl c ⟨none, 0, 0⟩) R') (e0 : contR R' c = []) (ec : ∀ c', c' < 5 → c' ≠ c → contR R' c' = contR R c') (ea : R'.attrs.length = 4) {Q : Heap → Prop}
    (k:∀ sl' H',RunX G H' b sl' R' → Q H'):Wr H ((⟨b,0,none⟩:Addr).add (15 + c)) (.slice none 0 0) Q :=
  h.wrSl (hn:=⟨none,0,0⟩) hc ⟨(Hand.nil (Sub.refl H) (szR c)).sl,fun i hi=>by cases hi⟩ (by omega) R' e e0 ec ea fun _ h''=>k _ _ h''
theorem t91 (event opts input now:Int) (H:Heap):Tr Tryz.prog 91 #[.int .i64 event,.int .i64 opts,.int .i64 input,.int .i64 now] H fun v H'=>v = .agg ⟨(AcM.new event opts input now).cells⟩ ∧ Sub H H':=v91 (show _ from ⟨rfl,Sub.refl _⟩)
theorem t52 (e:Ev) (H:Heap):Tr Tryz.prog 52 #[e.val] H fun v H'=>v = .bool (outR e) ∧ Sub H H':=v52 (show _ from ⟨rfl,Sub.refl _⟩)
theorem t100 (k:Int) (H:Heap):Tr Tryz.prog 100 #[.int .i64 k] H fun v H'=>v = .int .i64 (statusM k) ∧ Sub H H':=by
  apply v100; unfold F100
  refine ⟨fun q=>⟨?_,Sub.refl _⟩,fun n1=>⟨fun q=>⟨?_,Sub.refl _⟩,fun n2=>⟨fun q=>⟨?_,Sub.refl _⟩,fun n3=>⟨fun q=>⟨?_,Sub.refl _⟩,fun n4=>⟨fun q=>⟨?_,Sub.refl _⟩,fun n5=>⟨?_,Sub.refl _⟩⟩⟩⟩⟩⟩
  all_goals unfold statusM
  · rw [if_pos (by simpa using q)]
  · rw [if_neg (by simpa using n1),if_pos (by simpa using q)]
  · rw [if_neg (by simpa using n1),if_neg (by simpa using n2),if_pos (by simpa using q)]
  · rw [if_neg (by simpa using n1),if_neg (by simpa using n2),if_neg (by simpa using n3),if_pos (by simpa using q)]
  · rw [if_neg (by simpa using n1),if_neg (by simpa using n2),if_neg (by simpa using n3),if_neg (by simpa using n4),if_pos (by simpa using q)]
  · rw [if_neg (by simpa using n1),if_neg (by simpa using n2),if_neg (by simpa using n3),if_neg (by simpa using n4),if_neg (by simpa using n5)]
structure TellR (G:Heap) (b:Nat) (R:RS) (l:List OutM) (v:Value) (H':Heap):Prop where
  out:∃ A n c,v = .slice A n c ∧ RunE G H' b R ∧ n = l.length ∧ Src H' A (l.flatMap OutM.cells)
theorem t90 (h:RunX G H b sl R) {rb:Nat} (hr:At G ⟨rb,0,none⟩ [.pointer (some ⟨b,0,none⟩)]) (kind event a b1 c:Int):Tr Tryz.prog 90 #[.int .i64 kind,.int .i64 event,.int .i64 a,.int .i64 b1,.int .i64 c,.pointer (some ⟨rb,0,none⟩)] H fun v H'=>TellR G b R [⟨0,kind,R.number,event,a,b1,c⟩] v H':=by
  apply v90; unfold F90
  refine ⟨_,hr.sub h.gh,_,rfl,R.number,h.cell (k:=0) rfl,fun i hi H1 e1=>?_⟩
  subst e1
  refine ⟨_,_,_,rfl,(h.grow (Sub.upd_new hi)).e,rfl,.inr ⟨_,rfl,⟨⟨_,_,_,Heap.upd_same,rfl,fun j v hv=>?_⟩⟩⟩⟩
  have e0:([⟨0,kind,R.number,event,a,b1,c⟩]:List OutM).flatMap OutM.cells = OutM.cells ⟨0,kind,R.number,event,a,b1,c⟩:=by simp
  rw [e0] at hv
  simpa [OutM.cells] using hv
structure BookR (G:Heap) (b:Nat) (R:RS) (e:Ev) (v:Value) (H':Heap):Prop where
  out:∃ A n c,v = .slice A n c ∧ RunE G H' b (R.book e) ∧ n = (R.tells e).length ∧ Src H' A ((R.tells e).flatMap OutM.cells)
theorem RS.see_eq (R:RS) (e:Ev):∃ s,R.see e = { R with seen:=s }:=by
  unfold RS.see; split
  · exact ⟨_,rfl⟩
  · exact ⟨R.seen,rfl⟩
theorem pred_ac {e:Ev} {eb:Nat} (he:At G ⟨eb,0,none⟩ e.cells):Pred Tryz.prog G (.func (.func 93) #[] #[.pointer (some ⟨eb,0,none⟩)]) AcM.cells fun x=>x.event == e.a:=by
  refine ⟨fun x H s=>⟨93,_,⟨⟨_,_,rfl,rfl⟩,rfl⟩,?_⟩⟩
  apply v93; unfold F93
  exact ⟨e.a,at_one 3 (he.sub s) rfl,rfl,Sub.refl _⟩
theorem pred_tm {e:Ev} {eb:Nat} (he:At G ⟨eb,0,none⟩ e.cells):Pred Tryz.prog G (.func (.func 95) #[] #[.pointer (some ⟨eb,0,none⟩)]) TmM.cells fun x=>x.event == e.a:=by
  refine ⟨fun x H s=>⟨95,_,⟨⟨_,_,rfl,rfl⟩,rfl⟩,?_⟩⟩
  apply v95; unfold F95
  exact ⟨e.a,at_one 3 (he.sub s) rfl,rfl,Sub.refl _⟩
end
end Go.Proofs.YtkofafcgcnciaaaGreatDoor
set_option maxRecDepth 100000
namespace Go.Proofs.YtkofafcgcnciaaaGreatDoor
open Go.Ax
structure MidB (G H:Heap) (b:Nat) (R:RS) (e:Ev):Prop where
  n5:e.kind ≠ 5
  n8:e.kind ≠ 8
  n9:e.kind ≠ 9
  out:RunE G H b R
theorem RS.sw_all {Q : RS → Prop} (R : RS) (e : Ev) (h1 : Q { R with type := e.a, deadline := e.c, parent := e.d, event := e.e, begun := e.time, status := 1 }) (h3 : Q { R with acts := R.acts ++ [AcM.new e.id e.a e.b e.time] }) (h4 : Q { R with timers := R.timers ++ [⟨e.id, e.a⟩] }) (h5 : Q { R with kids := R.kids ++ [⟨e.id, e.a, e.b, 0, false⟩] })
    (h6:Q { R with acts:=R.acts.filter fun a=>!(a.event == e.a) }) (h7:Q { R with timers:=R.timers.filter fun a=>!(a.event == e.a) }) (h10:Q { R with attrs:=R.attrs.set e.a.toNat e.b }) (h21:Q { R with updates:=R.updates ++ [⟨e.id,0,0,0⟩] }) (h12:∀ st v k,Q { R with updates:=R.updates.map (upd1 e.a st v k) })
    (h26:Q { R with kids:=R.kids.map (kidR e.a e.b) }) (h27:Q { R with kids:=R.kids.map (kidO e.a) }) (h0:Q R):Q (R.sw e):=by
  have c:∀ {P:Prop} [Decidable P] {x y:RS},Q x → Q y → Q (if P then x else y):=fun h1 h2=>by split; exact h1; exact h2
  unfold RS.sw
  exact c h1 (c h3 (c h4 (c h5 (c h6 (c h7 (c h10 (c h21 (c (h12 _ _ _) (c (h12 _ _ _) (c (h12 _ _ _) (c h26 (c h27 h0))))))))))))
theorem RS.sw_rest (R:RS) (e:Ev) (h:e.kind ≠ 1):(R.sw e).number = R.number ∧ (R.sw e).parent = R.parent:=by
  have:e.kind = 1 ∨ ((R.sw e).number = R.number ∧ (R.sw e).parent = R.parent):=by
    by_cases h1:e.kind = 1
    · exact .inl h1
    · right
      have e1:R.sw e = if e.kind = 1 then R else R.sw e:=by rw [if_neg h1]
      rw [e1]
      unfold RS.sw
      rw [if_neg h1,if_neg h1]
      have c:∀ {P:Prop} [Decidable P] {x y:RS},(x.number = R.number ∧ x.parent = R.parent) → (y.number = R.number ∧ y.parent = R.parent) → ((if P then x else y).number = R.number ∧ (if P then x else y).parent = R.parent):=fun h1 h2=>by split; exact h1; exact h2
      exact c ⟨rfl,rfl⟩ (c ⟨rfl,rfl⟩ (c ⟨rfl,rfl⟩ (c ⟨rfl,rfl⟩ (c ⟨rfl,rfl⟩ (c ⟨rfl,rfl⟩ (c ⟨rfl,rfl⟩ (c ⟨rfl,rfl⟩ (c ⟨rfl,rfl⟩ (c ⟨rfl,rfl⟩ (c ⟨rfl,rfl⟩ (c ⟨rfl,rfl⟩ ⟨rfl,rfl⟩)))))))))))
  exact this.resolve_left h
theorem t43 {G H:Heap} {b:Nat} {sl:Nat → SlH} {R:RS} (h:RunX G H b sl R) (sm:R.Small) (e:Ev) (h10:e.kind = 10 → 0 ≤ e.a ∧ e.a < 4):Tr Tryz.prog 43 #[.pointer (some ⟨b,0,none⟩),e.val] H fun v H'=>BookR G b R e v H':=by
  obtain ⟨sE,sA,sT,sK,sU⟩:=sm
  apply v43; unfold F43
  intro rb hrb H1 e1 eb heb H2 e2
  have hG1:G rb = none:=none_below h.gh hrb
  have x1:=h.ext hrb (.cells #[.pointer (some ⟨b,0,none⟩)] 65 (0,0))
  rw [← e1] at x1
  have hG2:(G.upd rb (.cells #[.pointer (some ⟨b,0,none⟩)] 65 (0,0))) eb = none:=none_below x1.gh heb
  have x2:=x1.ext heb (.cells ⟨e.cells⟩ 47 (0,0))
  have gg:Sub G ((G.upd rb (.cells #[.pointer (some ⟨b,0,none⟩)] 65 (0,0))).upd eb (.cells ⟨e.cells⟩ 47 (0,0))):=(Sub.upd_new hG1).trans (Sub.upd_new hG2)
  have hr:At ((G.upd rb (.cells #[.pointer (some ⟨b,0,none⟩)] 65 (0,0))).upd eb (.cells ⟨e.cells⟩ 47 (0,0))) ⟨rb,0,none⟩ [.pointer (some ⟨b,0,none⟩)]:=(⟨⟨_,_,_,Heap.upd_same,rfl,fun j v hv=>by simpa using hv⟩⟩:At (G.upd rb (.cells #[.pointer (some ⟨b,0,none⟩)] 65 (0,0))) ⟨rb,0,none⟩ [.pointer (some ⟨b,0,none⟩)]).sub (Sub.upd_new hG2)
  have he:At ((G.upd rb (.cells #[.pointer (some ⟨b,0,none⟩)] 65 (0,0))).upd eb (.cells ⟨e.cells⟩ 47 (0,0))) ⟨eb,0,none⟩ e.cells:=⟨⟨_,_,_,Heap.upd_same,rfl,fun j v hv=>by simpa using hv⟩⟩
  have e2:H2 = H1.upd eb (.cells ⟨e.cells⟩ 47 (0,0)):=e2
  rw [← e2] at x2
  generalize ((G.upd rb (.cells #[.pointer (some ⟨b,0,none⟩)] 65 (0,0))).upd eb (.cells ⟨e.cells⟩ 47 (0,0))) = G1 at x2 gg hr he
  clear e1 e2 x1 hG1 hG2 hrb heb
  have ee:∀ {H':Heap},Sub G1 H' → ∀ {k:Nat} {v:Value},e.cells[k]? = some v → At H' ((⟨eb,0,none⟩:Addr).add k) [v]:=fun s k v hv=>at_one k (he.sub s) hv
  have l0:=x2.len0
  refine ⟨fun H'=>RunE G1 H' b (R.add e),?_,fun H3 ⟨sl3,x3⟩=>⟨fun H'=>RunE G1 H' b ((R.add e).see e),?_,fun H4 ⟨sl4,x4⟩=>⟨fun H'=>MidB G1 H' b (((R.add e).see e).sw e) e,?_,fun H5 m5=>?_⟩⟩⟩
  · have core:=x2.push (c:=0) (by decide) (T:=47) (bytes:=72) (new:=e.cells) rfl rfl (by omega) (by omega) (R.add e) (fun _=>rfl) (by show (R.events ++ [e]).flatMap Ev.cells = _; rw [List.flatMap_append,List.flatMap_singleton]; rfl) (five (P:=fun c'=>c' ≠ 0 → contR (R.add e) c' = contR R c') (fun q=>absurd rfl q) (fun _=>rfl) (fun _=>rfl) (fun _=>rfl) (fun _=>rfl)) h.attrs (Q:=fun H'=>RunE G1 H' b (R.add e)) fun H' h'=>h'
    exact ⟨G1,x2.gh,_,hr,_,hr,_,rfl,_,_,_,_,_,_,_,_,_,he,⟨_,_,_,x2.cell (k:=15) rfl,x2.gh,x2.gh,core⟩,x2.gh,_,_,_,x2.cell (k:=15) rfl,x2.gh,core⟩
  · refine ⟨e.kind,ee x3.gh (k:=2) rfl,e.kind,fun _=>ee x3.gh (k:=2) rfl,_,fun _=>t89 e.kind H3,_,_,_,_,_,_,_,_,_,fun _=>he.sub x3.gh,_,fun _=>t52 e H3,fun q=>?_,fun q=>?_⟩
    · refine ⟨_,hr.sub x3.gh,e.id,ee x3.gh (k:=0) rfl,_,rfl,?_⟩
      have hs:(R.add e).see e = { R.add e with seen:=e.id }:=by unfold RS.see; rw [if_pos q]
      rw [hs]
      exact x3.wr (k:=9) (by decide) { R.add e with seen:=e.id } rfl (fun _=>rfl) x3.attrs fun H' h'=>h'.e
    · have hs:(R.add e).see e = R.add e:=by unfold RS.see; rw [if_neg (by rw [q]; decide)]
      rw [hs]; exact x3.e
  · obtain ⟨s,hs⟩:=RS.see_eq (R.add e) e
    have ra:((R.add e).see e).acts = R.acts:=by rw [hs]; rfl
    have rt:((R.add e).see e).timers = R.timers:=by rw [hs]; rfl
    have rk:((R.add e).see e).kids = R.kids:=by rw [hs]; rfl
    have ru:((R.add e).see e).updates = R.updates:=by rw [hs]; rfl
    have rn:((R.add e).see e).number = R.number:=by rw [hs]; rfl
    have rp:((R.add e).see e).parent = R.parent:=by rw [hs]; rfl
    have bk:R.book e = (((R.add e).see e).sw e).close e:=rfl
    generalize (R.add e).see e = S at x4 ra rt rk ru rn rp bk ⊢
    have l1:=x4.len1
    have l2:=x4.len2
    have l3:=x4.len3
    have l4:=x4.len4
    rw [ra] at l1
    rw [rt] at l2
    rw [rk] at l3
    rw [ru] at l4
    have r2:=hr.sub x4.gh
    -- what is told,and nothing closes
    have told:∀ {H':Heap} {l:List OutM} {v:Value},TellR G1 b (S.sw e) l v H' → (S.sw e).close e = S.sw e → R.tells e = l → BookR G b R e v H':=fun {H' l v} ⟨A,n,c,hv,⟨sl',x'⟩,hn,hsrc⟩ hc ht=>⟨A,n,c,hv,by rw [bk,hc]; exact (x'.weaken gg).e,by rw [ht]; exact hn,by rw [ht]; exact hsrc⟩
    refine ⟨e.kind,ee x4.gh (k:=2) rfl,fun q=>?_,fun n1=>⟨fun q=>?_,fun n3=>⟨fun q=>?_,fun n4=>⟨fun q=>?_,fun n5=>?_⟩⟩⟩⟩
    · -- begun
      have hk:e.kind = 1:=by simpa using q
      have hw:S.sw e = { S with type:=e.a,deadline:=e.c,parent:=e.d,event:=e.e,begun:=e.time,status:=1 }:=by unfold RS.sw; rw [if_pos hk]
      rw [hw]
      refine ⟨G1,x4.gh,_,hr,_,hr,_,hr,_,hr,e.a,ee (Sub.refl _) (k:=3) rfl,_,rfl,e.c,ee (Sub.refl _) (k:=5) rfl,e.d,ee (Sub.refl _) (k:=6) rfl,e.e,ee (Sub.refl _) (k:=7) rfl,?_⟩
      refine x4.wr (k:=1) (by decide) { S with type:=e.a } rfl (fun _=>rfl) x4.attrs fun H6 y6=>⟨y6.gh,_,rfl,?_⟩
      refine y6.wr (k:=6) (by decide) { S with type:=e.a,deadline:=e.c } rfl (fun _=>rfl) x4.attrs fun H7 y7=>⟨y7.gh,_,rfl,?_⟩
      refine y7.wr (k:=7) (by decide) { S with type:=e.a,deadline:=e.c,parent:=e.d } rfl (fun _=>rfl) x4.attrs fun H8 y8=>⟨y8.gh,_,rfl,?_⟩
      refine y8.wr (k:=8) (by decide) { S with type:=e.a,deadline:=e.c,parent:=e.d,event:=e.e } rfl (fun _=>rfl) x4.attrs fun H9 y9=>⟨y9.gh,?_⟩
      refine ⟨G1,y9.gh,_,hr,_,hr,e.time,ee (Sub.refl _) (k:=1) rfl,_,rfl,?_⟩
      refine y9.wr (k:=4) (by decide) { S with type:=e.a,deadline:=e.c,parent:=e.d,event:=e.e,begun:=e.time } rfl (fun _=>rfl) x4.attrs fun H10 y10=>⟨y10.gh,_,rfl,?_⟩
      exact y10.wr (k:=2) (by decide) { S with type:=e.a,deadline:=e.c,parent:=e.d,event:=e.e,begun:=e.time,status:=1 } rfl (fun _=>rfl) x4.attrs fun H11 y11=>⟨y11.gh,by omega,by omega,by omega,y11.e⟩
    · -- an activity
      have hk:e.kind = 3:=by simpa using q
      have hw:S.sw e = { S with acts:=S.acts ++ [AcM.new e.id e.a e.b e.time] }:=by unfold RS.sw; rw [hk]; rfl
      rw [hw]
      have core:=x4.push (c:=1) (by decide) (T:=53) (bytes:=80) (new:=(AcM.new e.id e.a e.b e.time).cells) rfl rfl (by omega) (by omega) { S with acts:=S.acts ++ [AcM.new e.id e.a e.b e.time] } (fun _=>rfl) (by show (S.acts ++ [_]).flatMap AcM.cells = _; rw [List.flatMap_append,List.flatMap_singleton]; rfl) (five (P:=fun c'=>c' ≠ 1 → contR { S with acts:=S.acts ++ [AcM.new e.id e.a e.b e.time] } c' = contR S c') (fun _=>rfl) (fun q=>absurd rfl q) (fun _=>rfl) (fun _=>rfl) (fun _=>rfl)) x4.attrs
        (Q:=fun H'=>MidB G1 H' b { S with acts:=S.acts ++ [AcM.new e.id e.a e.b e.time] } e) fun H' h'=>⟨by omega,by omega,by omega,h'⟩
      have nw:=t91 e.id e.a e.b e.time H4
      exact ⟨G1,x4.gh,_,hr,_,hr,_,rfl,e.id,ee (Sub.refl _) (k:=0) rfl,e.a,ee (Sub.refl _) (k:=3) rfl,e.b,ee (Sub.refl _) (k:=4) rfl,e.time,ee (Sub.refl _) (k:=1) rfl,⟨_,_,_,x4.cell (k:=16) rfl,x4.gh,_,_,_,_,_,_,_,_,_,_,nw,x4.gh,x4.gh,core⟩,_,_,_,_,_,_,_,_,_,_,nw,x4.gh,⟨_,_,_,x4.cell (k:=16) rfl,x4.gh,x4.gh,core⟩,x4.gh,_,_,_,x4.cell (k:=16) rfl,x4.gh,core⟩
    · -- a timer
      have hk:e.kind = 4:=by simpa using q
      have hw:S.sw e = { S with timers:=S.timers ++ [⟨e.id,e.a⟩] }:=by unfold RS.sw; rw [hk]; rfl
      rw [hw]
      have core:=x4.push (c:=2) (by decide) (T:=83) (bytes:=16) (new:=(TmM.mk e.id e.a).cells) rfl rfl (by omega) (by omega) { S with timers:=S.timers ++ [⟨e.id,e.a⟩] } (fun _=>rfl) (by show (S.timers ++ [_]).flatMap TmM.cells = _; rw [List.flatMap_append,List.flatMap_singleton]; rfl) (five (P:=fun c'=>c' ≠ 2 → contR { S with timers:=S.timers ++ [⟨e.id,e.a⟩] } c' = contR S c') (fun _=>rfl) (fun _=>rfl) (fun q=>absurd rfl q) (fun _=>rfl) (fun _=>rfl)) x4.attrs
        (Q:=fun H'=>MidB G1 H' b { S with timers:=S.timers ++ [⟨e.id,e.a⟩] } e) fun H' h'=>⟨by omega,by omega,by omega,h'⟩
      exact ⟨G1,x4.gh,_,hr,_,hr,_,rfl,e.id,ee (Sub.refl _) (k:=0) rfl,e.a,ee (Sub.refl _) (k:=3) rfl,⟨_,_,_,x4.cell (k:=17) rfl,x4.gh,x4.gh,core⟩,x4.gh,_,_,_,x4.cell (k:=17) rfl,x4.gh,core⟩
    · -- a child
      have hk:e.kind = 5:=by simpa using q
      have hw:S.sw e = { S with kids:=S.kids ++ [⟨e.id,e.a,e.b,0,false⟩] }:=by unfold RS.sw; rw [hk]; rfl
      have hcl:(S.sw e).close e = S.sw e:=by unfold RS.close; rw [hk]; rfl
      have htl:R.tells e = [⟨0,1,R.number,e.id,0,0,0⟩]:=by unfold RS.tells; rw [hk]; rfl
      have core:=x4.push (c:=3) (by decide) (T:=98) (bytes:=40) (new:=(KdM.mk e.id e.a e.b 0 false).cells) rfl rfl (by omega) (by omega) (S.sw e) (fun _=>by rw [hw]; rfl) (by rw [hw]; show (S.kids ++ [_]).flatMap KdM.cells = _; rw [List.flatMap_append,List.flatMap_singleton]; rfl) (by rw [hw]; exact five (P:=fun c'=>c' ≠ 3 → contR { S with kids:=S.kids ++ [⟨e.id,e.a,e.b,0,false⟩] } c' = contR S c') (fun _=>rfl) (fun _=>rfl) (fun _=>rfl) (fun q=>absurd rfl q) (fun _=>rfl)) (by rw [hw]; exact x4.attrs)
        (Q:=fun H'=>∃ x:Int,At H' ((⟨eb,0,none⟩:Addr).add 0) [.int .i64 x] ∧ Tr Tryz.prog 90 #[.int .i64 1,.int .i64 x,.int .i64 0,.int .i64 0,.int .i64 0,.pointer (some ⟨rb,0,none⟩)] H' fun v H''=>∃ A n c,v = .slice A n c ∧ BookR G b R e (.slice A n c) H'') fun H' ⟨sl',h'⟩=>by
          refine ⟨e.id,ee h'.gh (k:=0) rfl,(t90 h' hr 1 e.id 0 0 0).mono fun v H'' t=>?_⟩
          have hnum:(S.sw e).number = R.number:=by rw [hw]; exact rn
          rw [hnum] at t
          obtain ⟨A,n,c,hv,-⟩:=t.out
          exact ⟨A,n,c,hv,by rw [← hv]; exact told t hcl htl⟩
      exact ⟨G1,x4.gh,_,hr,_,hr,_,rfl,e.id,ee (Sub.refl _) (k:=0) rfl,e.a,ee (Sub.refl _) (k:=3) rfl,e.b,ee (Sub.refl _) (k:=4) rfl,⟨_,_,_,x4.cell (k:=18) rfl,x4.gh,x4.gh,core⟩,x4.gh,_,_,_,x4.cell (k:=18) rfl,x4.gh,core⟩
    · have n5:e.kind ≠ 5:=by simpa using n5
      have acs : (e.kind = 6 ∨ e.kind = 22 ∨ e.kind = 23 ∨ e.kind = 24) → ∃ Hs : Heap, Sub Hs H4 ∧ ∃ v, At Hs (⟨rb, 0, none⟩ : Addr) [.pointer v] ∧ ∃ v1, At Hs (⟨rb, 0, none⟩ : Addr) [.pointer v1] ∧ ∃ a, v1 = some a ∧ ∃ A n c, At H4 (a.add 16) [.slice A n c] ∧ Sub Hs H4 ∧
          Tr Tryz.prog 92 #[.slice A n c,.func (.func 93) #[] #[.pointer (some ⟨eb,0,none⟩)]] H4 fun v2 H'=>∃ A n c,v2 = .slice A n c ∧ Sub Hs H' ∧ ∃ a,v = some a ∧ Wr H' (a.add 16) (.slice A n c) fun H''=>Sub Hs H'' ∧ MidB G1 H'' b (S.sw e) e:=fun hk=>by
        have hw:S.sw e = { S with acts:=S.acts.filter fun a=>!(a.event == e.a) }:=by unfold RS.sw; rcases hk with hk | hk | hk | hk <;> rw [hk] <;> rfl
        rw [hw]
        refine ⟨G1,x4.gh,_,hr,_,hr,_,rfl,_,_,_,x4.cell (k:=16) rfl,x4.gh,(t92 (q:=sl4 1) (l:=S.acts) (x4.ok 1 (by decide)) ((pred_ac he).grow x4.gh) (by rw [ra]; omega)).mono fun v2 H' ⟨q,hv,hd⟩=>⟨_,_,_,hv,?_⟩⟩
        exact x4.give (c:=1) (by decide) hd { S with acts:=S.acts.filter fun a=>!(a.event == e.a) } rfl rfl (five (P:=fun c'=>c' ≠ 1 → contR { S with acts:=S.acts.filter fun a=>!(a.event == e.a) } c' = contR S c') (fun _=>rfl) (fun q=>absurd rfl q) (fun _=>rfl) (fun _=>rfl) (fun _=>rfl)) x4.attrs fun H'' h'=>⟨by omega,by omega,by omega,h'⟩
      have tms : (e.kind = 7 ∨ e.kind = 25) → ∃ Hs : Heap, Sub Hs H4 ∧ ∃ v, At Hs (⟨rb, 0, none⟩ : Addr) [.pointer v] ∧ ∃ v1, At Hs (⟨rb, 0, none⟩ : Addr) [.pointer v1] ∧ ∃ a, v1 = some a ∧ ∃ A n c, At H4 (a.add 17) [.slice A n c] ∧ Sub Hs H4 ∧
          Tr Tryz.prog 94 #[.slice A n c,.func (.func 95) #[] #[.pointer (some ⟨eb,0,none⟩)]] H4 fun v2 H'=>∃ A n c,v2 = .slice A n c ∧ Sub Hs H' ∧ ∃ a,v = some a ∧ Wr H' (a.add 17) (.slice A n c) fun H''=>Sub Hs H'' ∧ MidB G1 H'' b (S.sw e) e:=fun hk=>by
        have hw:S.sw e = { S with timers:=S.timers.filter fun a=>!(a.event == e.a) }:=by unfold RS.sw; rcases hk with hk | hk <;> rw [hk] <;> rfl
        rw [hw]
        refine ⟨G1,x4.gh,_,hr,_,hr,_,rfl,_,_,_,x4.cell (k:=17) rfl,x4.gh,(t94 (q:=sl4 2) (l:=S.timers) (x4.ok 2 (by decide)) ((pred_tm he).grow x4.gh) (by rw [rt]; omega)).mono fun v2 H' ⟨q,hv,hd⟩=>⟨_,_,_,hv,?_⟩⟩
        exact x4.give (c:=2) (by decide) hd { S with timers:=S.timers.filter fun a=>!(a.event == e.a) } rfl rfl (five (P:=fun c'=>c' ≠ 2 → contR { S with timers:=S.timers.filter fun a=>!(a.event == e.a) } c' = contR S c') (fun _=>rfl) (fun _=>rfl) (fun q=>absurd rfl q) (fun _=>rfl) (fun _=>rfl)) x4.attrs fun H'' h'=>⟨by omega,by omega,by omega,h'⟩
      have upd:∀ st v k,S.sw e = { S with updates:=S.updates.map (upd1 e.a st v k) } → e.kind ≠ 8 → e.kind ≠ 9 → Tr Tryz.prog 96 #[.pointer (some ⟨b,0,none⟩),.int .i64 e.a,.int .i64 st,.int .i64 v,.int .i64 k] H4 fun v H'=>v = .tuple #[] ∧ MidB G1 H' b (S.sw e) e:=fun st v k hw n8 n9=>by
        rw [hw]
        exact (t96 x4 e.a st v k (by rw [ru]; omega)).mono fun v H' ⟨hv,h'⟩=>⟨hv,n5,n8,n9,h'.e⟩
      have over:S.sw e = { S with kids:=S.kids.map (kidO e.a) } → e.kind ≠ 8 → e.kind ≠ 9 → Tr Tryz.prog 97 #[.pointer (some ⟨b,0,none⟩),.int .i64 e.a,.func (.func 99) #[] #[]] H4 fun v H'=>v = .tuple #[] ∧ MidB G1 H' b (S.sw e) e:=fun hw n8 n9=>by
        rw [hw]
        exact (t97 x4 e.a chg_over (by rw [rk]; omega)).mono fun v H' ⟨hv,h'⟩=>⟨hv,n5,n8,n9,h'.e⟩
      refine ⟨fun q=>acs (.inl (by simpa using q)),fun n6=>⟨fun q=>acs (.inr (.inl (by simpa using q))),fun n22=>⟨fun q=>acs (.inr (.inr (.inl (by simpa using q)))),fun n23=>⟨fun q=>acs (.inr (.inr (.inr (by simpa using q)))),fun n24=>⟨fun q=>tms (.inl (by simpa using q)),fun n7=>⟨fun q=>tms (.inr (by simpa using q)),fun n25=>⟨fun q=>?_,fun n8=>⟨fun q=>?_,fun n9=>?_⟩⟩⟩⟩⟩⟩⟩⟩
      · -- a child is called off
        have hk:e.kind = 8:=by simpa using q
        have hw:S.sw e = S:=by unfold RS.sw; rw [hk]; rfl
        have hcl:(S.sw e).close e = S.sw e:=by unfold RS.close; rw [hk]; rfl
        refine ⟨e.a,ee x4.gh (k:=3) rfl,(t90 x4 hr 3 e.a 0 0 0).mono fun v H' t=>?_⟩
        rw [rn,← hw] at t
        obtain ⟨A,n,c,hv,-⟩:=t.out
        exact ⟨A,n,c,hv,by rw [← hv]; exact told t hcl (by unfold RS.tells; rw [hk]; rfl)⟩
      · -- a telling
        have hk:e.kind = 9:=by simpa using q
        have hw:S.sw e = S:=by unfold RS.sw; rw [hk]; rfl
        have hcl:(S.sw e).close e = S.sw e:=by unfold RS.close; rw [hk]; rfl
        refine ⟨e.id,ee x4.gh (k:=0) rfl,e.a,ee x4.gh (k:=3) rfl,e.b,ee x4.gh (k:=4) rfl,e.c,ee x4.gh (k:=5) rfl,(t90 x4 hr 2 e.id e.a e.b e.c).mono fun v H' t=>?_⟩
        rw [rn,← hw] at t
        obtain ⟨A,n,c,hv,-⟩:=t.out
        exact ⟨A,n,c,hv,by rw [← hv]; exact told t hcl (by unfold RS.tells; rw [hk]; rfl)⟩
      have n8:e.kind ≠ 8:=by simpa using n8
      have n9:e.kind ≠ 9:=by simpa using n9
      refine ⟨fun q=>?_,fun n10=>⟨fun q=>?_,fun n21=>⟨fun q=>?_,fun n12=>⟨fun q=>?_,fun n13=>⟨fun q=>?_,fun n14=>⟨fun q=>?_,fun n26=>⟨fun q=>?_,fun n27=>⟨fun q=>?_,fun n28=>⟨n5,n8,n9,?_⟩⟩⟩⟩⟩⟩⟩⟩⟩
      · -- an attribute
        have hk:e.kind = 10:=by simpa using q
        obtain ⟨ha,hb⟩:=h10 hk
        have hw:S.sw e = { S with attrs:=S.attrs.set e.a.toNat e.b }:=by unfold RS.sw; rw [hk]; rfl
        rw [hw]
        refine ⟨G1,x4.gh,_,hr,_,rfl,e.a,ee (Sub.refl _) (k:=3) rfl,e.b,ee (Sub.refl _) (k:=4) rfl,⟨ha,hb⟩,?_⟩
        have hx:((⟨b,0,none⟩:Addr).add 11).add (e.a.toNat * 1) = (⟨b,0,none⟩:Addr).add (11 + e.a.toNat):=by rw [Nat.mul_one]; exact add2 b 11 _
        show Wr H4 (((⟨b,0,none⟩:Addr).add 11).add (e.a.toNat * 1)) _ _
        rw [hx]
        refine x4.wr (k:=11 + e.a.toNat) (by omega) { S with attrs:=S.attrs.set e.a.toNat e.b } ?_ (fun _=>rfl) (by show (S.attrs.set _ _).length = 4; rw [List.length_set]; exact x4.attrs) fun H' h'=>⟨h'.gh,n5,n8,n9,h'.e⟩
        unfold rCells
        rw [List.set_append_left _ _ (by simp [cellsV]; omega),List.set_append_right _ _ (by simp),← cellsV_set x4.attrs (by omega)]
        simp
      · -- an update
        have hk:e.kind = 21:=by simpa using q
        have hw:S.sw e = { S with updates:=S.updates ++ [⟨e.id,0,0,0⟩] }:=by unfold RS.sw; rw [hk]; rfl
        rw [hw]
        have core:=x4.push (c:=4) (by decide) (T:=107) (bytes:=32) (new:=(UpM.mk e.id 0 0 0).cells) rfl rfl (by omega) (by omega) { S with updates:=S.updates ++ [⟨e.id,0,0,0⟩] } (fun _=>rfl) (by show (S.updates ++ [_]).flatMap UpM.cells = _; rw [List.flatMap_append,List.flatMap_singleton]; rfl) (five (P:=fun c'=>c' ≠ 4 → contR { S with updates:=S.updates ++ [⟨e.id,0,0,0⟩] } c' = contR S c') (fun _=>rfl) (fun _=>rfl) (fun _=>rfl) (fun _=>rfl) (fun q=>absurd rfl q)) x4.attrs
          (Q:=fun H'=>MidB G1 H' b { S with updates:=S.updates ++ [⟨e.id,0,0,0⟩] } e) fun H' h'=>⟨n5,n8,n9,h'⟩
        exact ⟨G1,x4.gh,_,hr,_,hr,_,rfl,e.id,ee (Sub.refl _) (k:=0) rfl,⟨_,_,_,x4.cell (k:=19) rfl,x4.gh,x4.gh,core⟩,x4.gh,_,_,_,x4.cell (k:=19) rfl,x4.gh,core⟩
      · have hk:e.kind = 12:=by simpa using q
        exact ⟨_,r2,e.a,ee x4.gh (k:=3) rfl,upd 1 0 0 (by unfold RS.sw; rw [hk]; rfl) n8 n9⟩
      · have hk:e.kind = 13:=by simpa using q
        exact ⟨_,r2,e.a,ee x4.gh (k:=3) rfl,e.b,ee x4.gh (k:=4) rfl,upd 2 e.b 0 (by unfold RS.sw; rw [hk]; rfl) n8 n9⟩
      · have hk:e.kind = 14:=by simpa using q
        exact ⟨_,r2,e.a,ee x4.gh (k:=3) rfl,e.b,ee x4.gh (k:=4) rfl,e.c,ee x4.gh (k:=5) rfl,upd 3 e.b e.c (by unfold RS.sw; rw [hk]; rfl) n8 n9⟩
      · have hk:e.kind = 26:=by simpa using q
        have hw:S.sw e = { S with kids:=S.kids.map (kidR e.a e.b) }:=by unfold RS.sw; rw [hk]; rfl
        refine ⟨_,r2,e.a,ee x4.gh (k:=3) rfl,?_⟩
        rw [hw]
        exact (t97 x4 e.a (chg_run he) (by rw [rk]; omega)).mono fun v H' ⟨hv,h'⟩=>⟨hv,n5,n8,n9,h'.e⟩
      · have hk:e.kind = 27:=by simpa using q
        exact ⟨_,r2,e.a,ee x4.gh (k:=3) rfl,over (by unfold RS.sw; rw [hk]; rfl) n8 n9⟩
      · have hk:e.kind = 28:=by simpa using q
        exact ⟨_,r2,e.a,ee x4.gh (k:=3) rfl,over (by unfold RS.sw; rw [hk]; rfl) n8 n9⟩
      · have hw : S.sw e = S := by
          unfold RS.sw
          have m:∀ {k:Int},(e.kind == k) = false → e.kind ≠ k:=fun q=>by simpa using q
          have m1:=m n1; have m3:=m n3; have m4:=m n4; have m6:=m n6; have m22:=m n22; have m23:=m n23; have m24:=m n24; have m7:=m n7; have m25:=m n25
          have m10:=m n10; have m21:=m n21; have m12:=m n12; have m13:=m n13; have m14:=m n14; have m26:=m n26; have m27:=m n27; have m28:=m n28
          rw [if_neg m1,if_neg m3,if_neg m4,if_neg n5,if_neg (by omega),if_neg (by omega),if_neg m10,if_neg m21,if_neg m12,if_neg m13,if_neg m14,if_neg m26,if_neg (by omega)]
        rw [hw]; exact x4.e
  · -- does it close the run?
    obtain ⟨n5,n8,n9,⟨sl5,x5⟩⟩:=m5
    obtain ⟨s,hs⟩:=RS.see_eq (R.add e) e
    have bk:R.book e = (((R.add e).see e).sw e).close e:=rfl
    have nil:∀ {H':Heap},RunE G1 H' b (R.book e) → R.tells e = [] → BookR G b R e (.slice none 0 0) H':=fun ⟨sl',x'⟩ ht=>⟨none,0,0,rfl,(x'.weaken gg).e,by rw [ht]; rfl,by rw [ht]; exact .inl rfl⟩
    have tl:R.tells e = if (closeM e.kind && !(R.parent == 0 || e.kind == 18)) = true then [⟨0,4,R.number,0,0,0,0⟩] else []:=by unfold RS.tells; rw [if_neg n5,if_neg n8,if_neg n9]
    refine ⟨e.kind,ee x5.gh (k:=2) rfl,_,t53 e.kind H5,fun q=>?_,fun q=>?_⟩
    · have hc:closeM e.kind = false:=by simpa using q
      refine nil ?_ (by rw [tl,hc]; rfl)
      have:R.book e = ((R.add e).see e).sw e:=by rw [bk]; unfold RS.close; rw [if_neg (by rw [hc]; decide)]
      rw [this]; exact x5.e
    · have hc:closeM e.kind = true:=by simpa using q
      have h1:e.kind ≠ 1:=fun k=>by rw [k] at hc; cases hc
      obtain ⟨hnum,hpar⟩:=RS.sw_rest ((R.add e).see e) e h1
      have hnum:(((R.add e).see e).sw e).number = R.number:=by rw [hnum,hs]; rfl
      have hpar:(((R.add e).see e).sw e).parent = R.parent:=by rw [hpar,hs]; rfl
      have hcl:R.book e = { ((R.add e).see e).sw e with status:=statusM e.kind,value:=e.a,ended:=e.time,acts:=[],timers:=[] }:=by rw [bk]; unfold RS.close; rw [if_pos hc]
      generalize ((R.add e).see e).sw e = S at x5 hnum hpar hcl bk
      refine ⟨G1,x5.gh,_,hr,_,hr,_,hr,e.kind,ee (Sub.refl _) (k:=2) rfl,e.a,ee (Sub.refl _) (k:=3) rfl,e.time,ee (Sub.refl _) (k:=1) rfl,_,t100 e.kind H5,x5.gh,_,rfl,?_⟩
      refine x5.wr (k:=2) (by decide) { S with status:=statusM e.kind } rfl (fun _=>rfl) x5.attrs fun H6 y6=>⟨y6.gh,_,rfl,?_⟩
      refine y6.wr (k:=10) (by decide) { S with status:=statusM e.kind,value:=e.a } rfl (fun _=>rfl) x5.attrs fun H7 y7=>⟨y7.gh,_,rfl,?_⟩
      refine y7.wr (k:=5) (by decide) { S with status:=statusM e.kind,value:=e.a,ended:=e.time } rfl (fun _=>rfl) x5.attrs fun H8 y8=>⟨y8.gh,?_⟩
      refine ⟨G1,y8.gh,_,hr,_,rfl,_,hr,?_⟩
      refine y8.drop (c:=1) (by decide) { S with status:=statusM e.kind,value:=e.a,ended:=e.time,acts:=[] } rfl rfl (five (P:=fun c'=>c' ≠ 1 → contR { S with status:=statusM e.kind,value:=e.a,ended:=e.time,acts:=[] } c' = contR { S with status:=statusM e.kind,value:=e.a,ended:=e.time } c') (fun _=>rfl) (fun q=>absurd rfl q) (fun _=>rfl) (fun _=>rfl) (fun _=>rfl)) x5.attrs fun sl9 H9 y9=>⟨y9.gh,_,rfl,?_⟩
      refine y9.drop (c:=2) (by decide) (R.book e) (by rw [hcl]; rfl) (by rw [hcl]; rfl) (by rw [hcl]; exact five (P:=fun c'=>c' ≠ 2 → contR { S with status:=statusM e.kind,value:=e.a,ended:=e.time,acts:=[],timers:=[] } c' = contR { S with status:=statusM e.kind,value:=e.a,ended:=e.time,acts:=[] } c') (fun _=>rfl) (fun _=>rfl) (fun q=>absurd rfl q) (fun _=>rfl) (fun _=>rfl)) (by rw [hcl]; exact x5.attrs) fun sl10 H10 y10=>⟨y10.gh,?_⟩
      have bpar:(R.book e).parent = R.parent:=by rw [hcl]; exact hpar
      have bnum:(R.book e).number = R.number:=by rw [hcl]; exact hnum
      refine ⟨_,hr.sub y10.gh,_,rfl,R.parent,y10.cell (k:=7) (by rw [← bpar]; rfl),e.kind,fun _=>ee y10.gh (k:=2) rfl,fun q=>nil y10.e ?_,fun q=>?_⟩
      · rw [tl,hc,q]; rfl
      · refine (t90 y10 hr 4 0 0 0 0).mono fun v H' t=>?_
        rw [bnum] at t
        obtain ⟨A,n,c,hv,⟨sl',x'⟩,hn,hsrc⟩:=t.out
        have ht:R.tells e = [⟨0,4,R.number,0,0,0,0⟩]:=by rw [tl,hc,q]; rfl
        exact ⟨A,n,c,hv,A,n,c,rfl,(x'.weaken gg).e,by rw [ht]; exact hn,by rw [ht]; exact hsrc⟩
end Go.Proofs.YtkofafcgcnciaaaGreatDoor
set_option maxRecDepth 100000
set_option linter.unusedVariables false
namespace Go.Proofs.YtkofafcgcnciaaaGreatDoor
open Go.Ax
noncomputable def c21:Cx:={ P:=Tryz.prog,res:=[],pub:=[7],loops:=[],quiet:=[],asm:=true }
def F21 (number:Int) (id:ByteArray) (xId:Int) (xTime:Int) (xKind:Int) (xA:Int) (xB:Int) (xC:Int) (xD:Int) (xE:Int) (xF:Int) (H:Heap) (K:Value → Heap → Prop):Prop:=∀ (b:Nat),H b = none → ∀ (H1:Heap),H1 = H.upd b (Obj.cells #[.int .i64 0,.int .i64 0,.int .i64 0,.string ({ data:=#[] }:ByteArray),.int .i64 0,.int .i64 0,.int .i64 0,.int .i64 0,.int .i64 0,.int .i64 0,.int .i64 0,.int .i64 0,.int .i64 0,.int .i64 0,.int .i64 0,.slice none (0:Nat) (0:Nat),.slice none (0:Nat) (0:Nat),.slice none (0:Nat) (0:Nat),.slice none (0:Nat) (0:Nat),.slice none (0:Nat) (0:Nat)] (34:Nat)) → StL H1 (⟨b,0,none⟩:Addr) [.int .i64 number,.int .i64 0,.int .i64 0,.string id,.int .i64 0,.int .i64 0,.int .i64 0,.int .i64 0,.int .i64 0,.int .i64 0,.int .i64 0,.int .i64 0,.int .i64 0,.int .i64 0,.int .i64 0,.slice none (0:Nat) (0:Nat),.slice none (0:Nat) (0:Nat),.slice none (0:Nat) (0:Nat),.slice none (0:Nat) (0:Nat),.slice none (0:Nat) (0:Nat)] fun H11=>Tr Tryz.prog (43:Nat) #[.pointer (some (⟨b,0,none⟩:Addr)),.agg #[.int .i64 1,.int .i64 xTime,.int .i64 1,.int .i64 xA,.int .i64 xB,.int .i64 xC,.int .i64 xD,.int .i64 xE,.int .i64 xF]] H11 fun v H' =>
 ∃ (A:Option Addr) (n c1:Nat),
 v = .slice A n c1 ∧
 ∃ (x x1 x2:Int) (s:ByteArray) (x3 x4 x5 x6 x7 x8 x9 x10 x11 x12 x13:Int) (A1:Option Addr) (n1 c2:Nat) (A2:Option Addr) (n2 c3:Nat) (A3:Option Addr) (n3 c4:Nat) (A4:Option Addr) (n4 c5:Nat) (A5:Option Addr) (n5 c6:Nat),
 At H' (⟨b,0,none⟩:Addr) [.int .i64 x,.int .i64 x1,.int .i64 x2,.string s,.int .i64 x3,.int .i64 x4,.int .i64 x5,.int .i64 x6,.int .i64 x7,.int .i64 x8,.int .i64 x9,.int .i64 x10,.int .i64 x11,.int .i64 x12,.int .i64 x13,.slice A1 n1 c2,.slice A2 n2 c3,.slice A3 n3 c4,.slice A4 n4 c5,.slice A5 n5 c6] ∧
 K (.agg #[.int .i64 x,.int .i64 x1,.int .i64 x2,.string s,.int .i64 x3,.int .i64 x4,.int .i64 x5,.int .i64 x6,.int .i64 x7,.int .i64 x8,.int .i64 x9,.int .i64 x10,.int .i64 x11,.int .i64 x12,.int .i64 x13,.slice A1 n1 c2,.slice A2 n2 c3,.slice A3 n3 c4,.slice A4 n4 c5,.slice A5 n5 c6]) H'

theorem v21 {number:Int} {id:ByteArray} {xId:Int} {xTime:Int} {xKind:Int} {xA:Int} {xB:Int} {xC:Int} {xD:Int} {xE:Int} {xF:Int} {H:Heap} {K:Value → Heap → Prop} (h:F21 number id xId xTime xKind xA xB xC xD xE xF H K):Tr Tryz.prog 21 #[.int .i64 number,.string id,.agg #[.int .i64 xId,.int .i64 xTime,.int .i64 xKind,.int .i64 xA,.int .i64 xB,.int .i64 xC,.int .i64 xD,.int .i64 xE,.int .i64 xF]] H K :=
  tr_of_eq (C:=c21) Tryz.func21 (show vcFn c21 Tryz.f21 [.int .i64 number,.string id,.agg #[.int .i64 xId,.int .i64 xTime,.int .i64 xKind,.int .i64 xA,.int .i64 xB,.int .i64 xC,.int .i64 xD,.int .i64 xE,.int .i64 xF]] H K = F21 number id xId xTime xKind xA xB xC xD xE xF H K by kernel_rfl) h
noncomputable def c16:Cx:={ P:=Tryz.prog,res:=[],pub:=[],loops:=[],quiet:=[26,36,52,53],draws:=[⟨6,[5],[],false,true⟩,⟨10,[1,4],[],false,true⟩,⟨11,[1,3],[],false,true⟩],asm:=true,cuts:=[⟨7,[(9,.int .i64)],[10,29,30,31,32,33,34,35,36,37,38,39,40],[]⟩] }
def F16 (r:Option Addr) (eId:Int) (eTime:Int) (eKind:Int) (eA:Int) (eB:Int) (eC:Int) (eD:Int) (eE:Int) (eF:Int) (now:Int) (H:Heap) (K:Value → Heap → Prop):Prop:=(r.isNone = true → K (.tuple #[.int .i64 0,.slice none (0:Nat) (0:Nat),.int .i64 42]) H) ∧
 (r.isNone = false →
 ∃ (a:Addr),
 r = some a ∧
 ∃ (x x1 x2:Int) (s:ByteArray) (x3 x4 x5 x6 x7 x8 x9 x10 x11 x12 x13:Int) (A:Option Addr) (n c:Nat) (A1:Option Addr) (n1 c1:Nat) (A2:Option Addr) (n2 c2:Nat) (A3:Option Addr) (n3 c3:Nat) (A4:Option Addr) (n4 c4:Nat),
 At H a [.int .i64 x,.int .i64 x1,.int .i64 x2,.string s,.int .i64 x3,.int .i64 x4,.int .i64 x5,.int .i64 x6,.int .i64 x7,.int .i64 x8,.int .i64 x9,.int .i64 x10,.int .i64 x11,.int .i64 x12,.int .i64 x13,.slice A n c,.slice A1 n1 c1,.slice A2 n2 c2,.slice A3 n3 c3,.slice A4 n4 c4] ∧
 ∃ (b:Bool),
 (Tr Tryz.prog (26:Nat) #[.agg #[.int .i64 x,.int .i64 x1,.int .i64 x2,.string s,.int .i64 x3,.int .i64 x4,.int .i64 x5,.int .i64 x6,.int .i64 x7,.int .i64 x8,.int .i64 x9,.int .i64 x10,.int .i64 x11,.int .i64 x12,.int .i64 x13,.slice A n c,.slice A1 n1 c1,.slice A2 n2 c2,.slice A3 n3 c3,.slice A4 n4 c4]] H fun v H'=>v = .bool b ∧
 Ax.Sub H H') ∧
 ((!b) = true → K (.tuple #[.int .i64 0,.slice none (0:Nat) (0:Nat),.int .i64 46]) H) ∧
 ((!b) = false →
 ∃ (a1:Addr),
 r = some a1 ∧
 ∃ (A5:Option Addr) (n5 c5:Nat),
 At H (a1.add (nat_lit 15)) [.slice A5 n5 c5] ∧
 ∃ (Mid:Int → Heap → Prop),
 (∃ (a2:Addr),r = some a2 ∧
 (∃ (A6:Option Addr),
 ∃ (n6 c6:Nat),
 At H (a2.add (nat_lit 15)) [.slice A6 n6 c6] ∧
 (Tr Tryz.prog (51:Nat) #[.slice A6 n6 c6] H fun v1 H'1 =>
 ∃ (A7:Option Addr) (n7 c7:Nat),
 v1 = .slice A7 n7 c7 ∧
 appC (47:Nat) (nat_lit 9) (nat_lit 72) H'1 A7 n7 c7 [.int .i64 (IntKind.i64.wrap ((↑n5:Int) + 1)),.int .i64 now,.int .i64 eKind,.int .i64 eA,.int .i64 eB,.int .i64 eC,.int .i64 eD,.int .i64 eE,.int .i64 eF] (1:Nat) fun (A':Option Addr) (n' c':Nat) (H'2:Heap) =>
 ∃ (x14 x15:Int),
 (Tr Tryz.prog (36:Nat) #[.slice A' n' c'] H'2 fun v2 H'3=>v2 = .tuple #[.int .i64 x14,.int .i64 x15] ∧
 Ax.Sub H'2 H'3) ∧
 Mid x14 H'2) ∧
 Tr Tryz.prog (51:Nat) #[.slice A6 n6 c6] H fun v3 H'4 =>
 ∃ (A8:Option Addr) (n8 c8:Nat),
 v3 = .slice A8 n8 c8 ∧
 appC (47:Nat) (nat_lit 9) (nat_lit 72) H'4 A8 n8 c8 [.int .i64 (IntKind.i64.wrap ((↑n5:Int) + 1)),.int .i64 now,.int .i64 eKind,.int .i64 eA,.int .i64 eB,.int .i64 eC,.int .i64 eD,.int .i64 eE,.int .i64 eF] (1:Nat) fun (A'1:Option Addr) (n'1 c'1:Nat) (H'5:Heap) =>
 ∃ (x16 x17:Int),
 (Tr Tryz.prog (36:Nat) #[.slice A'1 n'1 c'1] H'5 fun v4 H'6=>v4 = .tuple #[.int .i64 x16,.int .i64 x17] ∧
 Ax.Sub H'5 H'6) ∧
 Mid x16 H'5) ∧
 ∃ (A9:Option Addr) (n9 c9:Nat),
 At H (a2.add (nat_lit 15)) [.slice A9 n9 c9] ∧
 Tr Tryz.prog (51:Nat) #[.slice A9 n9 c9] H fun v5 H'7 =>
 ∃ (A10:Option Addr) (n10 c10:Nat),
 v5 = .slice A10 n10 c10 ∧
 appC (47:Nat) (nat_lit 9) (nat_lit 72) H'7 A10 n10 c10 [.int .i64 (IntKind.i64.wrap ((↑n5:Int) + 1)),.int .i64 now,.int .i64 eKind,.int .i64 eA,.int .i64 eB,.int .i64 eC,.int .i64 eD,.int .i64 eE,.int .i64 eF] (1:Nat) fun (A'2:Option Addr) (n'2 c'2:Nat) (H'8:Heap) =>
 ∃ (x18 x19:Int),
 (Tr Tryz.prog (36:Nat) #[.slice A'2 n'2 c'2] H'8 fun v6 H'9=>v6 = .tuple #[.int .i64 x18,.int .i64 x19] ∧
 Ax.Sub H'8 H'9) ∧
 Mid x18 H'8) ∧
 ∀ (x20:Int) (H1:Heap),Mid x20 H1 →
 ∃ (b1:Bool),
 (Tr Tryz.prog (52:Nat) #[.agg #[.int .i64 (IntKind.i64.wrap ((↑n5:Int) + 1)),.int .i64 now,.int .i64 eKind,.int .i64 eA,.int .i64 eB,.int .i64 eC,.int .i64 eD,.int .i64 eE,.int .i64 eF]] H1 fun v7 H'10=>v7 = .bool b1 ∧
 Ax.Sub H1 H'10) ∧
 ((!b1 || x20 != 0) = true → K (.tuple #[.int .i64 0,.slice none (0:Nat) (0:Nat),.int .i64 54]) H1) ∧
 ((!b1 || x20 != 0) = false →
 ∃ (b2:Bool),
 ((IntKind.i64.wrap ((↑n5:Int) + 1) == 256) = true → Tr Tryz.prog (53:Nat) #[.int .i64 eKind] H1 fun v8 H'11=>v8 = .bool b2 ∧
 Ax.Sub H1 H'11) ∧
 ((IntKind.i64.wrap ((↑n5:Int) + 1) == 256 && !b2) = true → Tr Tryz.prog (54:Nat) #[.int .i64 (IntKind.i64.wrap ((↑n5:Int) + 1)),.int .i64 now] H1 fun v9 H'12 =>
 ∃ (x21 x22 x23 x24 x25 x26 x27 x28 x29:Int),
 v9 = .agg #[.int .i64 x21,.int .i64 x22,.int .i64 x23,.int .i64 x24,.int .i64 x25,.int .i64 x26,.int .i64 x27,.int .i64 x28,.int .i64 x29] ∧
 Tr Tryz.prog (43:Nat) #[.pointer r,.agg #[.int .i64 x21,.int .i64 x22,.int .i64 x23,.int .i64 x24,.int .i64 x25,.int .i64 x26,.int .i64 x27,.int .i64 x28,.int .i64 x29]] H'12 fun v10 H'13 =>
 ∃ (A11:Option Addr) (n11 c11:Nat),
 v10 = .slice A11 n11 c11 ∧
 K (.tuple #[.int .i64 (IntKind.i64.wrap ((↑n5:Int) + 1)),.slice A11 n11 c11,.int .i64 49]) H'13) ∧
 ((IntKind.i64.wrap ((↑n5:Int) + 1) == 256 && !b2) = false → Tr Tryz.prog (43:Nat) #[.pointer r,.agg #[.int .i64 (IntKind.i64.wrap ((↑n5:Int) + 1)),.int .i64 now,.int .i64 eKind,.int .i64 eA,.int .i64 eB,.int .i64 eC,.int .i64 eD,.int .i64 eE,.int .i64 eF]] H1 fun v11 H'14 =>
 ∃ (A12:Option Addr) (n12 c12:Nat),
 v11 = .slice A12 n12 c12 ∧
 K (.tuple #[.int .i64 (IntKind.i64.wrap ((↑n5:Int) + 1)),.slice A12 n12 c12,.int .i64 0]) H'14))))

theorem v16 {r:Option Addr} {eId:Int} {eTime:Int} {eKind:Int} {eA:Int} {eB:Int} {eC:Int} {eD:Int} {eE:Int} {eF:Int} {now:Int} {H:Heap} {K:Value → Heap → Prop} (h:F16 r eId eTime eKind eA eB eC eD eE eF now H K):Tr Tryz.prog 16 #[.pointer r,.agg #[.int .i64 eId,.int .i64 eTime,.int .i64 eKind,.int .i64 eA,.int .i64 eB,.int .i64 eC,.int .i64 eD,.int .i64 eE,.int .i64 eF],.int .i64 now] H K :=
  tr_of_eq (C:=c16) Tryz.func16 (show vcFn c16 Tryz.f16 [.pointer r,.agg #[.int .i64 eId,.int .i64 eTime,.int .i64 eKind,.int .i64 eA,.int .i64 eB,.int .i64 eC,.int .i64 eD,.int .i64 eE,.int .i64 eF],.int .i64 now] H K = F16 r eId eTime eKind eA eB eC eD eE eF now H K by kernel_rfl) h
noncomputable def c18:Cx:={ P:=Tryz.prog,res:=[],pub:=[],loops:=[⟨16,[],[],[(3,0,.sl)]⟩],quiet:=[26],draws:=[⟨6,[0,1],[],false,true⟩,⟨7,[0,1],[],false,true⟩,⟨18,[1,2],[3],false,true⟩],asm:=true,rfs:=[⟨16,[([.int .i64],false),([.int .i64,.int .i64,.int .i64,.int .i64,.int .i64,.int .i64,.int .i64,.int .i64,.int .i64],true)]⟩] }
def F18 (r:Option Addr) (pFuncsA:Option Addr) (pFuncsn pFuncsc:Nat) (pOptsA:Option Addr) (pOptsn pOptsc:Nat) (now:Int) (draw:Int) (next:Int) (H:Heap) (K:Value → Heap → Prop):Prop :=
 ∃ (a:Addr),
 ((!(r.isNone || decide (now < 0) || decide (now > 1099511627776))) = true → r = some a) ∧
 ∃ (A:Option Addr) (n c:Nat),
 ((!(r.isNone || decide (now < 0) || decide (now > 1099511627776))) = true → At H (a.add (nat_lit 15)) [.slice A n c]) ∧
 ∃ (a1:Addr),
 ((!(r.isNone || decide (now < 0) || decide (now > 1099511627776)) && decide ((↑n:Int) > 0)) = true → r = some a1) ∧
 ∃ (A1:Option Addr) (n1 c1:Nat),
 ((!(r.isNone || decide (now < 0) || decide (now > 1099511627776)) && decide ((↑n:Int) > 0)) = true → At H (a1.add (nat_lit 15)) [.slice A1 n1 c1]) ∧
 ∃ (a2:Addr),
 ((!(r.isNone || decide (now < 0) || decide (now > 1099511627776)) && decide ((↑n:Int) > 0)) = true → r = some a2) ∧
 ∃ (A2:Option Addr) (n2 c2:Nat),
 ((!(r.isNone || decide (now < 0) || decide (now > 1099511627776)) && decide ((↑n:Int) > 0)) = true → At H (a2.add (nat_lit 15)) [.slice A2 n2 c2]) ∧
 ∃ (a3:Addr),
 ((!(r.isNone || decide (now < 0) || decide (now > 1099511627776)) && decide ((↑n:Int) > 0)) = true → A1 = some a3 ∧
 (0:Int) ≤ IntKind.i64.wrap ((↑n2:Int) - 1) ∧
 IntKind.i64.wrap ((↑n2:Int) - 1) < (↑n1:Int)) ∧
 ∃ (x:Int),
 ((!(r.isNone || decide (now < 0) || decide (now > 1099511627776)) && decide ((↑n:Int) > 0)) = true → At H ((a3.add ((IntKind.i64.wrap ((↑n2:Int) - 1)).toNat * nat_lit 9)).add (nat_lit 1)) [.int .i64 x]) ∧
 ((r.isNone || decide (now < 0) || decide (now > 1099511627776) || decide ((↑n:Int) > 0) && decide (now < x)) = true → K (.tuple #[.slice none (0:Nat) (0:Nat),.int .i64 42]) H) ∧
 ((r.isNone || decide (now < 0) || decide (now > 1099511627776) || decide ((↑n:Int) > 0) && decide (now < x)) = false →
 ∃ (a4:Addr),
 r = some a4 ∧
 ∃ (x1 x2 x3:Int) (s:ByteArray) (x4 x5 x6 x7 x8 x9 x10 x11 x12 x13 x14:Int) (A3:Option Addr) (n3 c3:Nat) (A4:Option Addr) (n4 c4:Nat) (A5:Option Addr) (n5 c5:Nat) (A6:Option Addr) (n6 c6:Nat) (A7:Option Addr) (n7 c7:Nat),
 At H a4 [.int .i64 x1,.int .i64 x2,.int .i64 x3,.string s,.int .i64 x4,.int .i64 x5,.int .i64 x6,.int .i64 x7,.int .i64 x8,.int .i64 x9,.int .i64 x10,.int .i64 x11,.int .i64 x12,.int .i64 x13,.int .i64 x14,.slice A3 n3 c3,.slice A4 n4 c4,.slice A5 n5 c5,.slice A6 n6 c6,.slice A7 n7 c7] ∧
 ∃ (b:Bool),
 (Tr Tryz.prog (26:Nat) #[.agg #[.int .i64 x1,.int .i64 x2,.int .i64 x3,.string s,.int .i64 x4,.int .i64 x5,.int .i64 x6,.int .i64 x7,.int .i64 x8,.int .i64 x9,.int .i64 x10,.int .i64 x11,.int .i64 x12,.int .i64 x13,.int .i64 x14,.slice A3 n3 c3,.slice A4 n4 c4,.slice A5 n5 c5,.slice A6 n6 c6,.slice A7 n7 c7]] H fun v H'=>v = .bool b ∧
 Ax.Sub H H') ∧
 ((!b) = true → K (.tuple #[.slice none (0:Nat) (0:Nat),.int .i64 46]) H) ∧
 ((!b) = false →
 ∃ (a5:Addr),
 r = some a5 ∧
 ∃ (A8:Option Addr) (n8 c8:Nat),
 At H (a5.add (nat_lit 15)) [.slice A8 n8 c8] ∧
 (decide ((↑n8:Int) > 254) = true →
 ∃ (a6:Addr),
 r = some a6 ∧
 ∃ (A9:Option Addr) (n9 c9:Nat),
 At H (a6.add (nat_lit 15)) [.slice A9 n9 c9] ∧
 Tr Tryz.prog (54:Nat) #[.int .i64 (IntKind.i64.wrap ((↑n9:Int) + 1)),.int .i64 now] H fun v1 H'1 =>
 ∃ (x15 x16 x17 x18 x19 x20 x21 x22 x23:Int),
 v1 = .agg #[.int .i64 x15,.int .i64 x16,.int .i64 x17,.int .i64 x18,.int .i64 x19,.int .i64 x20,.int .i64 x21,.int .i64 x22,.int .i64 x23] ∧
 Tr Tryz.prog (43:Nat) #[.pointer r,.agg #[.int .i64 x15,.int .i64 x16,.int .i64 x17,.int .i64 x18,.int .i64 x19,.int .i64 x20,.int .i64 x21,.int .i64 x22,.int .i64 x23]] H'1 fun v2 H'2 =>
 ∃ (A10:Option Addr) (n10 c10:Nat),
 v2 = .slice A10 n10 c10 ∧
 K (.tuple #[.slice A10 n10 c10,.int .i64 49]) H'2) ∧
 (decide ((↑n8:Int) > 254) = false →
 ∃ (a7:Addr),
 r = some a7 ∧
 ∃ (A11:Option Addr) (n11 c11:Nat),
 At H (a7.add (nat_lit 15)) [.slice A11 n11 c11] ∧
 Tr Tryz.prog (23:Nat) #[.agg #[.slice pFuncsA pFuncsn pFuncsc,.slice pOptsA pOptsn pOptsc],.slice A11 n11 c11] H fun v3 H'3 =>
 ∃ (v4:Option Addr) (x24 x25:Int),
 v3 = .tuple #[.pointer v4,.int .i64 x24,.int .i64 x25] ∧
 ((x24 != 0) = true → K (.tuple #[.slice none (0:Nat) (0:Nat),.int .i64 x24]) H'3) ∧
 ((x24 != 0) = false → Tr Tryz.prog (56:Nat) #[.pointer v4,.int .i64 now,.int .i64 draw] H'3 fun v5 H'4 =>
 ∃ (A12:Option Addr) (n12 c12:Nat) (x26:Int),
 v5 = .tuple #[.slice A12 n12 c12,.int .i64 x26] ∧
 ((x26 != 0) = true → K (.tuple #[.slice none (0:Nat) (0:Nat),.int .i64 x26]) H'4) ∧
 ((x26 != 0) = false → Tr Tryz.prog (42:Nat) #[.slice A12 n12 c12,.slice none (0:Nat) (0:Nat)] H'4 fun v6 H'5 =>
 ∃ (v7:Value),
 v6 = v7 ∧
 ∃ (g:Nat) (caps:List Value),
 (v7 = .func (Fn.func g) #[] { toList:=caps } ∧
 canCall Tryz.prog g = true) ∧
 ∃ (HI:Heap) (m:Nat) (E:Nat → Int × Int × Int × Int × Int × Int × Int × Int × Int × Int × PUnit) (ys:List Nat),
 Ax.Sub HI H'5 ∧
 It Tryz.prog g caps HI m (fun (i:Nat)=>[.int .i64 (E i).fst,.agg #[.int .i64 (E i).snd.fst,.int .i64 (E i).snd.snd.fst,.int .i64 (E i).snd.snd.snd.fst,.int .i64 (E i).snd.snd.snd.snd.fst,.int .i64 (E i).snd.snd.snd.snd.snd.fst,.int .i64 (E i).snd.snd.snd.snd.snd.snd.fst,.int .i64 (E i).snd.snd.snd.snd.snd.snd.snd.fst,.int .i64 (E i).snd.snd.snd.snd.snd.snd.snd.snd.fst,.int .i64 (E i).snd.snd.snd.snd.snd.snd.snd.snd.snd.fst]]) ys ∧
 ∃ (Rel:List Nat → Option Addr → Nat → Nat → Heap → Prop),
 Rel [] none (0:Nat) (0:Nat) H'5 ∧
 (∀ (pre:List Nat) (i:Nat),i < m → pre.length < ys.length → ∀ (A13:Option Addr) (n13 c13:Nat) (H1:Heap),Rel pre A13 n13 c13 H1 → Ax.Sub HI H1 → NCs H'5 H1 → ∀ (x27 x28 x29 x30 x31 x32 x33 x34 x35 x36:Int),E i = (x27,x28,x29,x30,x31,x32,x33,x34,x35,x36,()) → (NCs H'5 H1 ∧
 Ax.Sub HI H1) ∧
 ((x30 == 18) = true → (Tr Tryz.prog (43:Nat) #[.pointer r,.agg #[.int .i64 x28,.int .i64 x29,.int .i64 x30,.int .i64 x31,.int .i64 next,.int .i64 x33,.int .i64 x34,.int .i64 x35,.int .i64 x36]] H1 fun v8 H'6 =>
 ∃ (A14:Option Addr) (n14 c14:Nat),
 v8 = .slice A14 n14 c14 ∧
 appS (160:Nat) (nat_lit 7) (nat_lit 56) H'6 A13 n13 c13 A14 n14 fun (A':Option Addr) (n' c':Nat) (H'7:Heap)=>Rel (pre ++ [i]) A' n' c' (cutN H'5 H'7) ∧
 Ax.Sub HI H'7) ∧
 Tr Tryz.prog (43:Nat) #[.pointer r,.agg #[.int .i64 x28,.int .i64 x29,.int .i64 x30,.int .i64 x31,.int .i64 next,.int .i64 x33,.int .i64 x34,.int .i64 x35,.int .i64 x36]] H1 fun v9 H'8 =>
 ∃ (A15:Option Addr) (n15 c15:Nat),
 v9 = .slice A15 n15 c15 ∧
 appS (160:Nat) (nat_lit 7) (nat_lit 56) H'8 A13 n13 c13 A15 n15 fun (A'1:Option Addr) (n'1 c'1:Nat) (H'9:Heap)=>Rel (pre ++ [i]) A'1 n'1 c'1 (cutN H'5 H'9) ∧
 Ax.Sub HI H'9) ∧
 ((x30 == 18) = false → (Tr Tryz.prog (43:Nat) #[.pointer r,.agg #[.int .i64 x28,.int .i64 x29,.int .i64 x30,.int .i64 x31,.int .i64 x32,.int .i64 x33,.int .i64 x34,.int .i64 x35,.int .i64 x36]] H1 fun v10 H'10 =>
 ∃ (A16:Option Addr) (n16 c16:Nat),
 v10 = .slice A16 n16 c16 ∧
 appS (160:Nat) (nat_lit 7) (nat_lit 56) H'10 A13 n13 c13 A16 n16 fun (A'2:Option Addr) (n'2 c'2:Nat) (H'11:Heap)=>Rel (pre ++ [i]) A'2 n'2 c'2 (cutN H'5 H'11) ∧
 Ax.Sub HI H'11) ∧
 Tr Tryz.prog (43:Nat) #[.pointer r,.agg #[.int .i64 x28,.int .i64 x29,.int .i64 x30,.int .i64 x31,.int .i64 x32,.int .i64 x33,.int .i64 x34,.int .i64 x35,.int .i64 x36]] H1 fun v11 H'12 =>
 ∃ (A17:Option Addr) (n17 c17:Nat),
 v11 = .slice A17 n17 c17 ∧
 appS (160:Nat) (nat_lit 7) (nat_lit 56) H'12 A13 n13 c13 A17 n17 fun (A'3:Option Addr) (n'3 c'3:Nat) (H'13:Heap)=>Rel (pre ++ [i]) A'3 n'3 c'3 (cutN H'5 H'13) ∧
 Ax.Sub HI H'13)) ∧
 ∀ (A18:Option Addr) (n18 c18:Nat) (H2:Heap),Rel ys A18 n18 c18 H2 → NCs H'5 H2 → K (.tuple #[.slice A18 n18 c18,.int .i64 0]) H2)))))

theorem v18 {r:Option Addr} {pFuncsA:Option Addr} {pFuncsn pFuncsc:Nat} {pOptsA:Option Addr} {pOptsn pOptsc:Nat} {now:Int} {draw:Int} {next:Int} {H:Heap} {K:Value → Heap → Prop} (h:F18 r pFuncsA pFuncsn pFuncsc pOptsA pOptsn pOptsc now draw next H K):Tr Tryz.prog 18 #[.pointer r,.agg #[.slice pFuncsA pFuncsn pFuncsc,.slice pOptsA pOptsn pOptsc],.int .i64 now,.int .i64 draw,.int .i64 next] H K :=
  tr_of_eq (C:=c18) Tryz.func18 (show vcFn c18 Tryz.f18 [.pointer r,.agg #[.slice pFuncsA pFuncsn pFuncsc,.slice pOptsA pOptsn pOptsc],.int .i64 now,.int .i64 draw,.int .i64 next] H K = F18 r pFuncsA pFuncsn pFuncsc pOptsA pOptsn pOptsc now draw next H K by kernel_rfl) h
noncomputable def c10:Cx:={ P:=Tryz.prog,res:=[],pub:=[],loops:=[],quiet:=[40],asm:=true }
def F10 (number:Int) (event:Int) (H:Heap) (K:Value → Heap → Prop):Prop :=
 ∃ (s:ByteArray),
 (Tr Tryz.prog (40:Nat) #[.int .i64 number] H fun v H'=>v = .string s ∧
 Ax.Sub H H') ∧
 s.size + ({ data:=#[(46:UInt8)] }:ByteArray).size ≤ (9223372036854775807:Nat) ∧
 ∃ (s1:ByteArray),
 (Tr Tryz.prog (40:Nat) #[.int .i64 event] H fun v1 H'1=>v1 = .string s1 ∧
 Ax.Sub H H'1) ∧
 (s ++ ({ data:=#[(46:UInt8)] }:ByteArray)).size + s1.size ≤ (9223372036854775807:Nat) ∧
 K (.string (s ++ ({ data:=#[(46:UInt8)] }:ByteArray) ++ s1)) H

theorem v10 {number:Int} {event:Int} {H:Heap} {K:Value → Heap → Prop} (h:F10 number event H K):Tr Tryz.prog 10 #[.int .i64 number,.int .i64 event] H K :=
  tr_of_eq (C:=c10) Tryz.func10 (show vcFn c10 Tryz.f10 [.int .i64 number,.int .i64 event] H K = F10 number event H K by kernel_rfl) h
noncomputable def c39:Cx:={ P:=Tryz.prog,res:=[],pub:=[6,8],loops:=[],quiet:=[],asm:=true }
def F39 (H:Heap) (K:Value → Heap → Prop):Prop:=∀ (b:Nat),H b = none → ∀ (H1:Heap),H1 = H.upd b (Obj.cells #[.int .i64 0,.int .i64 4,.int .i64 21,.int .i64 0,.int .i64 23,.int .i64 0,.int .i64 1,.int .i64 0,.int .i64 36,.int .i64 0] (179:Nat)) → ∀ (b1:Nat),H1 b1 = none → ∀ (H11:Heap),H11 = H1.upd b1 (Obj.cells #[.int .i64 0,.int .i64 0,.slice (some (⟨b,0,none⟩:Addr)) (5:Nat) (5:Nat)] (132:Nat)) → K (.agg #[.slice (some (⟨b1,0,none⟩:Addr)) (1:Nat) (1:Nat),.slice none (0:Nat) (0:Nat)]) H11

theorem v39 {H:Heap} {K:Value → Heap → Prop} (h:F39  H K):Tr Tryz.prog 39 #[] H K :=
  tr_of_eq (C:=c39) Tryz.func39 (show vcFn c39 Tryz.f39 [] H K = F39  H K by kernel_rfl) h
noncomputable def c9:Cx:={ P:=Tryz.prog,res:=[],pub:=[1],loops:=[],quiet:=[10,26],asm:=true }
def F9 (H:Heap) (K:Value → Heap → Prop):Prop:=Tr Tryz.prog (21:Nat) #[.int .i64 3,.string ({ data:=#[(97:UInt8)] }:ByteArray),.agg #[.int .i64 0,.int .i64 5,.int .i64 0,.int .i64 0,.int .i64 0,.int .i64 0,.int .i64 0,.int .i64 0,.int .i64 0]] H fun v H' =>
 ∃ (x x1 x2:Int) (s:ByteArray) (x3 x4 x5 x6 x7 x8 x9 x10 x11 x12 x13:Int) (A:Option Addr) (n c:Nat) (A1:Option Addr) (n1 c1:Nat) (A2:Option Addr) (n2 c2:Nat) (A3:Option Addr) (n3 c3:Nat) (A4:Option Addr) (n4 c4:Nat),
 v = .agg #[.int .i64 x,.int .i64 x1,.int .i64 x2,.string s,.int .i64 x3,.int .i64 x4,.int .i64 x5,.int .i64 x6,.int .i64 x7,.int .i64 x8,.int .i64 x9,.int .i64 x10,.int .i64 x11,.int .i64 x12,.int .i64 x13,.slice A n c,.slice A1 n1 c1,.slice A2 n2 c2,.slice A3 n3 c3,.slice A4 n4 c4] ∧
 ∀ (b:Nat),H' b = none → ∀ (H1:Heap),H1 = H'.upd b (Obj.cells #[.int .i64 0,.int .i64 0,.int .i64 0,.string ({ data:=#[] }:ByteArray),.int .i64 0,.int .i64 0,.int .i64 0,.int .i64 0,.int .i64 0,.int .i64 0,.int .i64 0,.int .i64 0,.int .i64 0,.int .i64 0,.int .i64 0,.slice none (0:Nat) (0:Nat),.slice none (0:Nat) (0:Nat),.slice none (0:Nat) (0:Nat),.slice none (0:Nat) (0:Nat),.slice none (0:Nat) (0:Nat)] (34:Nat)) → StL H1 (⟨b,0,none⟩:Addr) [.int .i64 x,.int .i64 x1,.int .i64 x2,.string s,.int .i64 x3,.int .i64 x4,.int .i64 x5,.int .i64 x6,.int .i64 x7,.int .i64 x8,.int .i64 x9,.int .i64 x10,.int .i64 x11,.int .i64 x12,.int .i64 x13,.slice A n c,.slice A1 n1 c1,.slice A2 n2 c2,.slice A3 n3 c3,.slice A4 n4 c4] fun H11=>Tr Tryz.prog (39:Nat) #[] H11 fun v1 H'1 =>
 ∃ (A5:Option Addr) (n5 c6:Nat) (A6:Option Addr) (n6 c7:Nat),
 v1 = .agg #[.slice A5 n5 c6,.slice A6 n6 c7] ∧
 Tr Tryz.prog (18:Nat) #[.pointer (some (⟨b,0,none⟩:Addr)),.agg #[.slice A5 n5 c6,.slice A6 n6 c7],.int .i64 5,.int .i64 0,.int .i64 9] H'1 fun v2 H'2 =>
 ∃ (A7:Option Addr) (n7 c8:Nat) (x14:Int),
 v2 = .tuple #[.slice A7 n7 c8,.int .i64 x14] ∧
 ∃ (A8:Option Addr) (n8 c9:Nat),
 At H'2 ((⟨b,0,none⟩:Addr).add (nat_lit 17)) [.slice A8 n8 c9] ∧
 ∃ (A9:Option Addr) (n9 c10:Nat),
 ((!(↑n8:Int) != 1) = true → At H'2 ((⟨b,0,none⟩:Addr).add (nat_lit 17)) [.slice A9 n9 c10]) ∧
 ∃ (a:Addr),
 ((!(↑n8:Int) != 1) = true → A9 = some a ∧
 (0:Int) ≤ (0:Int) ∧
 (0:Int) < (↑n9:Int)) ∧
 ∃ (x15:Int),
 ((!(↑n8:Int) != 1) = true → At H'2 ((a.add (Int.toNat (0:Int) * nat_lit 2)).add (nat_lit 1)) [.int .i64 x15]) ∧
 ∃ (x16:Int),
 ((!((↑n8:Int) != 1 || x15 != 9)) = true → At H'2 ((⟨b,0,none⟩:Addr).add (nat_lit 9)) [.int .i64 x16]) ∧
 (((↑n8:Int) != 1 || x15 != 9 || x16 != 3) = true → K (.bool false) H'2) ∧
 (((↑n8:Int) != 1 || x15 != 9 || x16 != 3) = false → Tr Tryz.prog (16:Nat) #[.pointer (some (⟨b,0,none⟩:Addr)),.agg #[.int .i64 0,.int .i64 0,.int .i64 25,.int .i64 3,.int .i64 0,.int .i64 0,.int .i64 0,.int .i64 0,.int .i64 0],.int .i64 8] H'2 fun v3 H'3 =>
 ∃ (x17:Int) (A10:Option Addr) (n10 c11:Nat) (x18:Int),
 v3 = .tuple #[.int .i64 x17,.slice A10 n10 c11,.int .i64 x18] ∧
 Tr Tryz.prog (16:Nat) #[.pointer (some (⟨b,0,none⟩:Addr)),.agg #[.int .i64 0,.int .i64 0,.int .i64 25,.int .i64 3,.int .i64 0,.int .i64 0,.int .i64 0,.int .i64 0,.int .i64 0],.int .i64 9] H'3 fun v4 H'4 =>
 ∃ (x19:Int) (A11:Option Addr) (n11 c12:Nat) (x20:Int),
 v4 = .tuple #[.int .i64 x19,.slice A11 n11 c12,.int .i64 x20] ∧
 Tr Tryz.prog (39:Nat) #[] H'4 fun v5 H'5 =>
 ∃ (A12:Option Addr) (n12 c13:Nat) (A13:Option Addr) (n13 c14:Nat),
 v5 = .agg #[.slice A12 n12 c13,.slice A13 n13 c14] ∧
 Tr Tryz.prog (18:Nat) #[.pointer (some (⟨b,0,none⟩:Addr)),.agg #[.slice A12 n12 c13,.slice A13 n13 c14],.int .i64 9,.int .i64 0,.int .i64 9] H'5 fun v6 H'6 =>
 ∃ (A14:Option Addr) (n14 c15:Nat) (x21:Int),
 v6 = .tuple #[.slice A14 n14 c15,.int .i64 x21] ∧
 ∃ (s1:ByteArray),
 (Tr Tryz.prog (10:Nat) #[.int .i64 12,.int .i64 7] H'6 fun v7 H'7=>v7 = .string s1 ∧
 Ax.Sub H'6 H'7) ∧
 ∃ (x22 x23 x24:Int) (s2:ByteArray) (x25 x26 x27 x28 x29 x30 x31 x32 x33 x34 x35:Int) (A15:Option Addr) (n15 c16:Nat) (A16:Option Addr) (n16 c17:Nat) (A17:Option Addr) (n17 c18:Nat) (A18:Option Addr) (n18 c19:Nat) (A19:Option Addr) (n19 c20:Nat),
 At H'6 (⟨b,0,none⟩:Addr) [.int .i64 x22,.int .i64 x23,.int .i64 x24,.string s2,.int .i64 x25,.int .i64 x26,.int .i64 x27,.int .i64 x28,.int .i64 x29,.int .i64 x30,.int .i64 x31,.int .i64 x32,.int .i64 x33,.int .i64 x34,.int .i64 x35,.slice A15 n15 c16,.slice A16 n16 c17,.slice A17 n17 c18,.slice A18 n18 c19,.slice A19 n19 c20] ∧
 ∃ (b1:Bool),
 (Tr Tryz.prog (26:Nat) #[.agg #[.int .i64 x22,.int .i64 x23,.int .i64 x24,.string s2,.int .i64 x25,.int .i64 x26,.int .i64 x27,.int .i64 x28,.int .i64 x29,.int .i64 x30,.int .i64 x31,.int .i64 x32,.int .i64 x33,.int .i64 x34,.int .i64 x35,.slice A15 n15 c16,.slice A16 n16 c17,.slice A17 n17 c18,.slice A18 n18 c19,.slice A19 n19 c20]] H'6 fun v8 H'8=>v8 = .bool b1 ∧
 Ax.Sub H'6 H'8) ∧
 ∃ (A20:Option Addr) (n20 c21:Nat),
 ((x14 == 0 && x18 == 54 && x20 == 0 && x19 == 4 && x21 == 0) = true → At H'6 ((⟨b,0,none⟩:Addr).add (nat_lit 15)) [.slice A20 n20 c21]) ∧
 K (.bool (x14 == 0 && x18 == 54 && x20 == 0 && x19 == 4 && x21 == 0 && (↑n20:Int) == 6 && !b1 && beqS s1 ({ data:=#[(49:UInt8),(50:UInt8),(46:UInt8),(55:UInt8)] }:ByteArray))) H'6)

theorem v9 {H:Heap} {K:Value → Heap → Prop} (h:F9  H K):Tr Tryz.prog 9 #[] H K :=
  tr_of_eq (C:=c9) Tryz.func9 (show vcFn c9 Tryz.f9 [] H K = F9  H K by kernel_rfl) h
end Go.Proofs.YtkofafcgcnciaaaGreatDoor
set_option maxRecDepth 100000
namespace Go.Proofs.YtkofafcgcnciaaaGreatDoor
open Go.Ax
theorem own_upd {H H1:Heap} {A:Option Addr} {n c sz:Nat} {cs:List Value} (h:OwnS H H1 A n c sz cs) {b:Nat} (o:Obj) (hb:H b ≠ none):OwnS (H.upd b o) (H1.upd b o) A n c sz cs:=by
  refine ⟨⟨fun i o' e=>?_⟩,h.len,h.cap,?_⟩
  · by_cases hi:i = b
    · subst hi; rw [Heap.upd_same] at e ⊢; exact e
    · rw [Heap.upd_other hi] at e ⊢; exact h.sub.sub i o' e
  · rcases h.at_ with q | ⟨bb,cur,T,q0,q1,q2,q3,q4⟩
    · exact .inl q
    · have hne:bb ≠ b:=fun e=>by subst e; exact hb q1
      exact .inr ⟨bb,cur,T,q0,by rw [Heap.upd_other hne]; exact q1,by rw [Heap.upd_other hne]; exact q2,q3,q4⟩
theorem sub_upd_none {H H1:Heap} (h:Sub H H1) {b:Nat} (o:Obj) (hb:H b = none):Sub H (H1.upd b o):=⟨fun i o' e=>by
  have hne:i ≠ b:=fun q=>by subst q; rw [hb] at e; cases e
  rw [Heap.upd_other hne]; exact h.sub i o' e⟩
structure Rd (l:List Ev) (H:Heap) (b b1:Nat) (x:Int) (Hc:Heap):Prop where
  out:∃ m:Nat,x = m ∧ m ≤ l.length ∧ (∀ j,j < m → ∀ y,l[j]? = some y → mayP (l.take j) y = true) ∧ ∃ (A:Option Addr) (n c:Nat) (es:Array MapEntry) (cl:Nat),
    Hc b1 = some (.cells #[.slice A n c,.map (some b),.bool (overP (l.take m))] 177 (0,0)) ∧ Hc b = some (.map es cl) ∧ Marks es (marks (l.take m)) ∧ ∃ Ho:Heap,Sub H Ho ∧ Ho b ≠ none ∧ Ho b1 ≠ none ∧ OwnS Ho Hc A n c 9 ((l.take m).flatMap Ev.cells)
theorem keep_at {Ho H1 H2:Heap} {b:Nat} {o:Obj} (h:Ho b ≠ none) (s1:Sub Ho H1) (s2:Sub Ho H2) (e:H1 b = some o):H2 b = some o:=by
  cases hh:Ho b with
  | none=>exact absurd hh h
  | some o' =>
    have:=s1.sub b o' hh
    rw [e] at this; cases this
    exact s2.sub b _ hh
def ReadV (l:List Ev) (H:Heap) (v:Value) (H':Heap):Prop:=∃ b1:Nat,v = .tuple #[.pointer (some ⟨b1,0,none⟩),.int .i64 (stand l:Nat)] ∧ Book H' b1 (l.take (stand l)) ∧ Sub H H'
theorem t84 {l:List Ev} (hb:l.length * 72 ≤ 140737488355328) {H:Heap} {A:Option Addr} {n c:Nat} (h:HasEvs H A n l):Tr Tryz.prog 84 #[.slice A n c] H (ReadV l H):=by
  have hn:=h.len; subst hn
  apply v84; unfold F84
  intro b hb0 H1 e1 b1 hb1 H11 e11
  have hbb:b ≠ b1:=fun e=>by subst e; rw [e1,Heap.upd_same] at hb1; cases hb1
  have hHb1:H b1 = none:=by rw [e1,Heap.upd_other hbb.symm] at hb1; exact hb1
  have s11:Sub H H11:=by subst e1; subst e11; exact sub_upd_none (sub_upd_none (Sub.refl _) _ hb0) _ hHb1
  refine ⟨Rd l H b b1,fun i _=>(l.length - i).toNat,⟨0,rfl,by omega,fun j hj=>absurd hj (by omega),none,0,0,#[],0,?_,?_,Marks.nil,H11,s11,?_,?_,OwnS.nil _ _⟩,fun x Hc r=>?_⟩
  · subst e11; exact Heap.upd_same
  · subst e11; subst e1; rw [Heap.upd_other hbb,Heap.upd_same]
  · subst e11; subst e1; rw [Heap.upd_other hbb,Heap.upd_same]; simp
  · subst e11; rw [Heap.upd_same]; simp
  obtain ⟨m,rfl,hm,hs,B,n,c',es,cl,g1,g2,g3,Ho,k1,k2,k3,o⟩:=r.out
  have ho:=OwnS.evs o
  have hn:n = m:=by rw [ho.len,len_take hm]
  subst hn
  have bk:Book Hc b1 (l.take n):=⟨B,n,c',b,es,cl,g1,ho,g2,g3⟩
  have sc:Sub H Hc:=k1.trans o.sub
  refine ⟨fun hlt=>?_,fun hge=>?_⟩
  · have hlt:=of_decide_eq_true hlt
    obtain ⟨x,hx⟩:=get_some (l:=l) (i:=n) (by omega)
    obtain ⟨a,ha,hat⟩:=h.at_ n x hx
    refine ⟨a,⟨ha,by omega,by omega⟩,_,_,_,_,_,_,_,_,_,hat.sub sc,_,t128 (by rw [len_take hm]; omega) bk x,fun q=>?_,fun q=>?_⟩
    · have q:mayP (l.take n) x = false:=by simpa using q
      have hst:stand l = n:=stand_spec hs (by omega) fun y hy=>by rw [hx] at hy; cases hy; exact q
      exact ⟨b1,by rw [hst],by rw [hst]; exact bk,sc⟩
    · have q:mayP (l.take n) x = true:=by simpa using q
      have hk : ∀ (A' : Option Addr) (c'' : Nat) (H' : Heap), OwnS Ho H' A' (n + 1) c'' 9 ((l.take n).flatMap Ev.cells ++ x.cells) →
          ∃ a2:Addr,some (⟨b1,0,none⟩:Addr) = some a2 ∧ ∃ (c1:Array Value) (T:TypeId),H' (a2.add 0).block = some (Obj.cells c1 T) ∧ (a2.add 0).spot = none ∧ (a2.add 0).off + [Value.slice A' (n + 1) c''].length ≤ c1.size ∧
          ∀ H12:Heap,H12 = H'.upd (a2.add 0).block (Obj.cells (splice c1 (a2.add 0).off [Value.slice A' (n + 1) c'']) T) →
          ∃ a3:Addr,some (⟨b1,0,none⟩:Addr) = some a3 ∧ ∃ v1:Option Nat,At H12 (a3.add 1) [Value.map v1] ∧
          Sm Tryz.prog (updU (Instr.mapUpdate 175 (Value.map v1) (Value.agg #[Value.int .i64 x.kind,Value.int .i64 x.a]) (Value.bool true))) H12 fun v2 H'2=>∃ b3:Bool,
            (Tr Tryz.prog 53 #[Value.int .i64 x.kind] H'2 fun v3 H'3=>v3 = Value.bool b3 ∧ Sub H'2 H'3) ∧ ∃ a4:Addr,some (⟨b1,0,none⟩:Addr) = some a4 ∧ ∃ (c2:Array Value) (T1:TypeId),H'2 (a4.add 2).block = some (Obj.cells c2 T1) ∧ (a4.add 2).spot = none ∧
            (a4.add 2).off + [Value.bool b3].length ≤ c2.size ∧ ∀ H13:Heap,H13 = H'2.upd (a4.add 2).block (Obj.cells (splice c2 (a4.add 2).off [Value.bool b3]) T1) →
            Rd l H b b1 (IntKind.i64.wrap ((n:Int) + 1)) H13 ∧ (l.length - IntKind.i64.wrap ((n:Int) + 1)).toNat < (l.length - (n:Int)).toNat:=by
        intro A' c'' H' o'
        have g1':=keep_at k3 o.sub o'.sub g1
        have g2':=keep_at k2 o.sub o'.sub g2
        refine ⟨_,rfl,#[.slice B n c',.map (some b),.bool (overP (l.take n))],177,g1',rfl,by show 0 + 1 ≤ 3; omega,fun H12 e12=>?_⟩
        have e12:H12 = H'.upd b1 (.cells #[.slice A' (n + 1) c'',.map (some b),.bool (overP (l.take n))] 177 (0,0)):=e12
        have g3':H12 b = some (.map es cl):=by rw [e12,Heap.upd_other hbb]; exact g2'
        refine ⟨_,rfl,some b,at_fld (T:=177) (fz:=(0,0)) (c:=#[.slice A' (n + 1) c'',.map (some b),.bool (overP (l.take n))]) 1 (by rw [e12]; exact Heap.upd_same) rfl,smMono (sm_update g3' g3 x.kind x.a) fun v Hu=>?_⟩
        rintro ⟨es',cl',hm',eu⟩
        have g4:Hu b1 = some (.cells #[.slice A' (n + 1) c'',.map (some b),.bool (overP (l.take n))] 177 (0,0)):=by rw [eu,Heap.upd_other hbb.symm,e12]; exact Heap.upd_same
        refine ⟨_,t53 x.kind _,_,rfl,#[.slice A' (n + 1) c'',.map (some b),.bool (overP (l.take n))],177,g4,rfl,by show 2 + 1 ≤ 3; omega,fun H13 e13=>?_⟩
        have e13:H13 = Hu.upd b1 (.cells #[.slice A' (n + 1) c'',.map (some b),.bool (closeM x.kind)] 177 (0,0)):=e13
        rw [wrapi (by omega) (by omega)]
        refine ⟨⟨n + 1,by omega,by omega,fun j hj y hy=>?_,A',n + 1,c'',es',cl',?_,?_,?_,((Ho.upd b1 (.cells #[.slice A' (n + 1) c'',.map (some b),.bool (overP (l.take n))] 177 (0,0))).upd b (.map es' cl')).upd b1 (.cells #[.slice A' (n + 1) c'',.map (some b),.bool (closeM x.kind)] 177 (0,0)),?_,?_,?_,?_⟩,?_⟩
        · by_cases hjn:j = n
          · subst hjn; rw [hx] at hy; cases hy; exact q
          · exact hs j (by omega) y hy
        · rw [take_snoc hx,overP_snoc,e13]; exact Heap.upd_same
        · rw [e13,Heap.upd_other hbb,eu]; exact Heap.upd_same
        · rw [take_snoc hx,marks_snoc]; exact hm'
        · exact sub_upd_none (sub_upd_none (sub_upd_none k1 _ hHb1) _ hb0) _ hHb1
        · rw [Heap.upd_other hbb,Heap.upd_same]; simp
        · rw [Heap.upd_same]; simp
        · rw [e13,eu,e12,take_snoc hx,List.flatMap_append]
          have:[x].flatMap Ev.cells = x.cells:=by simp
          rw [this]
          refine own_upd (own_upd (own_upd o' _ k3) _ ?_) _ ?_
          · rw [Heap.upd_other hbb]; exact k2
          · rw [Heap.upd_other hbb.symm,Heap.upd_same]; simp
        · omega
      refine ⟨_,rfl,⟨B,n,c',at_fld 0 g1 rfl,own_app o (m:=1) (by rfl) (by rfl) (Nat.le_trans (Nat.mul_le_mul_right 72 (show n + 1 ≤ l.length by omega)) hb) (by omega) hk⟩,⟨B,n,c',at_fld 0 g1 rfl,own_app o (m:=1) (by rfl) (by rfl) (Nat.le_trans (Nat.mul_le_mul_right 72 (show n + 1 ≤ l.length by omega)) hb) (by omega) hk⟩⟩
  · have hge:=of_decide_eq_false hge
    have hnl:n = l.length:=by omega
    have hst:stand l = n:=stand_spec hs (by omega) fun y hy=>by rw [hnl,List.getElem?_eq_none (Nat.le_refl _)] at hy; cases hy
    exact ⟨b1,by rw [hst,hnl],by rw [hst]; exact bk,sc⟩
theorem t36 {l:List Ev} (hb:l.length * 72 ≤ 140737488355328) {H:Heap} {A:Option Addr} {n c:Nat} (h:HasEvs H A n l):Tr Tryz.prog 36 #[.slice A n c] H (fun v H'=>v = checkV l ∧ Sub H H'):=by
  have hn:=h.len; subst hn
  apply v36; unfold F36
  refine (t84 hb h).mono fun v H'=>?_
  rintro ⟨b1,rfl,bk,s⟩
  refine ⟨_,_,rfl,fun q=>⟨?_,s⟩,fun q=>⟨?_,s⟩⟩
  · have q:=of_decide_eq_true q
    unfold checkV; rw [if_pos (by omega)]
  · have q:=of_decide_eq_false q
    unfold checkV; rw [if_neg (by omega)]
theorem t130 {l : List Int} (hb : l.length ≤ 9223372036854775807) {H : Heap} {A : Option Addr} {n c : Nat} (h : HasI H A n l) (v : Int) :
    ∃ x:Int,(decide (x ≥ 0) = l.contains v) ∧ Tr Tryz.prog 130 #[.slice A n c,.int .i64 v] H (fun r H'=>r = .int .i64 x ∧ Sub H H'):=by
  have hn:=h.len; subst hn
  by_cases hv:v ∈ l
  · obtain ⟨k, hk, hkv⟩ : ∃ k : Nat, l[k]? = some v ∧ ∀ j, j < k → ∀ x, l[j]? = some x → x ≠ v := by
      refine ⟨l.idxOf v,?_,fun j hj x hx e=>?_⟩
      · have:=List.idxOf_lt_length_of_mem hv
        rw [List.getElem?_eq_getElem this,List.getElem_idxOf this]
      · subst e
        have hjl:=get_lt hx
        have:=List.not_of_lt_findIdx (p:=(· == x)) (xs:=l) (i:=j) hj
        rw [List.getElem?_eq_getElem hjl] at hx
        cases hx
        simp at this
    refine ⟨k,by simp [hv],?_⟩
    have hkl:=get_lt hk
    apply v130; unfold F130
    refine ⟨fun i H1=>H1 = H ∧ ∃ m:Nat,i = m ∧ m ≤ k,fun i _=>(l.length - i).toNat,⟨rfl,0,rfl,by omega⟩,fun i H1 r=>?_⟩
    obtain ⟨hH,m,rfl,hm⟩:=r
    subst hH
    refine ⟨fun hlt=>?_,fun hge=>?_⟩
    · have hlt:=of_decide_eq_true hlt
      obtain ⟨x,hx⟩:=get_some (l:=l) (i:=m) (by omega)
      obtain ⟨a,ha,hat⟩:=h.at_ m x hx
      refine ⟨a,⟨ha,by omega,by omega⟩,x,hat,fun q=>⟨?_,Sub.refl _⟩,fun q=>?_⟩
      · have q:v = x:=by simpa using q
        have:m = k:=by
          by_cases e:m < k
          · exact absurd q.symm (hkv m e x hx)
          · omega
        rw [this]
      · have q:v ≠ x:=by simpa using q
        have:m ≠ k:=fun e=>by subst e; rw [hk] at hx; cases hx; exact q rfl
        rw [wrapi (by omega) (by omega)]
        refine ⟨⟨rfl,m + 1,by omega,by omega⟩,?_⟩
        show (l.length - ((m:Int) + 1)).toNat < (l.length - (m:Int)).toNat
        omega
    · have hge:=of_decide_eq_false hge
      omega
  · refine ⟨-1,by simp [hv],?_⟩
    apply v130; unfold F130
    refine ⟨fun i H1=>H1 = H ∧ ∃ m:Nat,i = m ∧ m ≤ l.length,fun i _=>(l.length - i).toNat,⟨rfl,0,rfl,by omega⟩,fun i H1 r=>?_⟩
    obtain ⟨hH,m,rfl,hm⟩:=r
    subst hH
    refine ⟨fun hlt=>?_,fun hge=>⟨rfl,Sub.refl _⟩⟩
    have hlt:=of_decide_eq_true hlt
    obtain ⟨x,hx⟩:=get_some (l:=l) (i:=m) (by omega)
    obtain ⟨a,ha,hat⟩:=h.at_ m x hx
    refine ⟨a,⟨ha,by omega,by omega⟩,x,hat,fun q=>?_,fun q=>?_⟩
    · have q:v = x:=by simpa using q
      subst q; exact absurd (List.mem_of_getElem? hx) hv
    · rw [wrapi (by omega) (by omega)]
      refine ⟨⟨rfl,m + 1,by omega,by omega⟩,?_⟩
      show (l.length - ((m:Int) + 1)).toNat < (l.length - (m:Int)).toNat
      omega
theorem t88 {l : List Int} (hb : l.length ≤ 9223372036854775807) {H : Heap} {A : Option Addr} {n c : Nat} (h : HasI H A n l) (v : Int) :
    Tr Tryz.prog 88 #[.slice A n c,.int .i64 v] H (fun r H'=>r = .bool (l.contains v) ∧ Sub H H'):=by
  obtain ⟨x,hx,ht⟩:=t130 (c:=c) hb h v
  apply v88; unfold F88
  exact ⟨x,ht,by rw [hx],Sub.refl _⟩
end Go.Proofs.YtkofafcgcnciaaaGreatDoor
set_option maxRecDepth 100000
namespace Go.Proofs.YtkofafcgcnciaaaGreatDoor
open Go.Ax
theorem check_one {l:List Ev}:(checkV l = .tuple #[.int .i64 52,.int .i64 (stand l:Nat)] ∧ stand l < l.length) ∨ (checkV l = .tuple #[.int .i64 0,.int .i64 0] ∧ ¬ stand l < l.length):=by
  unfold checkV
  split
  · rename_i h; exact .inl ⟨rfl,h⟩
  · rename_i h; exact .inr ⟨rfl,h⟩
end Go.Proofs.YtkofafcgcnciaaaGreatDoor
