/- Lemmas that the claim needs, in order. Conditions: those of each lemma. -/
import Derived.Test.YtkofafcgcnciaaaGreatDoorWya
namespace Go.Ax
open Go.RowKit
def toA:Exit→Option AE
 | .normal=>some .normal
 | .exit id=>some (.exit id)
 | .ret=>some .ret
 | _=>none
def Post (ds:List Nat) (p:Pro) (z:Nat→Value) (zb:ZB) (H0:Heap) (w0:World) (bs:List Nat) (Q:AE→AS→Prop):Exit→Act→World→Prop:=fun e a w =>
 ∃bs' S' e' ds',(p.top=false→ds'=ds)∧bs <+: bs'∧FC ds' p z bs' S' a∧WC ds' p zb H0 w0 bs' S'.bx S'.H w∧toA e=some e'∧Q e' S'
theorem Post.up {ds ds1:List Nat} {p:Pro} {z:Nat→Value} {zb:ZB} {H0:Heap} {w0:World} {bs bs':List Nat} {Q:AE→AS→Prop} {e:Exit} {a:Act} {w:World} (hd:p.top=false→ds1=ds) (hp:bs <+: bs') (h:Post ds1 p z zb H0 w0 bs' Q e a w):Post ds p z zb H0 w0 bs Q e a w:=by
 obtain ⟨b,S,e',d',h0,h1,h2⟩:=h
 exact ⟨b,S,e',d',fun ht=>(h0 ht).trans (hd ht),hp.trans h1,h2⟩
section
variable {ds:List Nat} {p:Pro} {z:Nat→Value} {zb:ZB} {H0:Heap} {w0:World} {bs:List Nat} {S:AS} {a:Act}
theorem FC.enter (hF:FC ds p z bs S a):FC ds p z bs S.enter a:=by
 refine ⟨hF.size,hF.defers,fun t=>?_,fun t e s w x hx=>?_,hF.zs,hF.okn⟩
 ·have hs:=hF.slots t
  show SRel bs a.tmps (S.ep+1) (look S.fr t) _
  cases hl:look S.fr t with
  | ifs e s w x =>
   have:=(hF.eps t e s w x hl).1
   intro he
   omega
  | _=>rw [hl] at hs; exact hs
 ·have:=(hF.eps t e s w x hx).1
  exact ⟨by show e≤S.ep+1; omega,fun he=>by have he:e=S.ep+1:=he; omega⟩
theorem getV_sound (bs:List Nat) (f:Nat→Value):∀(l:List Sh) (xs:List AV) (v:V l),getV l xs=some v→(∀(j:Nat) x,xs[j]?=some x→BRel bs x (f j))→∀j,j<l.length→(enc l v)[j]?=some (f j)
 | [],_,_,_,_,j,hj=>by simp at hj
 | sh::l,xs,v,h,hr,j,hj=>by
  have ih:∀(xs':List AV) (r:V l),getV l xs'=some r→(∀(j:Nat) x,xs'[j]?=some x→BRel bs x (f (j+1)))→∀j,j<l.length→(enc l r)[j]?=some (f (j+1)):=fun xs' r h' hr' j hj=>getV_sound bs (fun j=>f (j+1)) l xs' r h' hr' j hj
  cases xs with
  | nil=>cases sh<;>simp [getV] at h
  | cons x xs =>
   have h0:=hr 0 x rfl
   have hr':∀(j:Nat) y,xs[j]?=some y→BRel bs y (f (j+1)):=fun j y hy=>hr (j+1) y hy
   cases sh with
   | int k =>
    cases x with
    | v y =>
     cases y<;>simp only [getV] at h<;>try cases h
     rename_i k' n
     cases hk:kb k k' with
     | false=>simp [hk] at h
     | true =>
      simp only [hk] at h
      have hkk:=kb_eq hk
      subst hkk
      cases hg:getV l xs with
      | none=>simp [hg] at h
      | some r =>
       simp only [hg] at h
       have h:=Option.some.inj h
       subst h
       cases j with
       | zero=>simp [enc]; exact h0.symm
       | succ j=>simp [enc]; exact ih xs r hg hr' j (by simpa using hj)
    | _=>simp [getV] at h
   | bool =>
    simp only [getV] at h
    cases hb:asB x with
    | none=>simp [hb] at h
    | some b =>
     simp only [hb] at h
     cases hg:getV l xs with
     | none=>simp [hg] at h
     | some r =>
      simp only [hg] at h
      have h:=Option.some.inj h
      subst h
      cases j with
      | zero=>simp [enc]; exact (asB_some hb h0).symm
      | succ j=>simp [enc]; exact ih xs r hg hr' j (by simpa using hj)
   | str =>
    cases x with
    | v y =>
     cases y<;>simp only [getV] at h<;>try cases h
     cases hg:getV l xs with
     | none=>simp [hg] at h
     | some r =>
      simp only [hg] at h
      have h:=Option.some.inj h
      subst h
      cases j with
      | zero=>simp [enc]; exact h0.symm
      | succ j=>simp [enc]; exact ih xs r hg hr' j (by simpa using hj)
    | _=>simp [getV] at h
   | sl =>
    cases x with
    | v y =>
     cases y<;>simp only [getV] at h<;>try cases h
     cases hg:getV l xs with
     | none=>simp [hg] at h
     | some r =>
      simp only [hg] at h
      have h:=Option.some.inj h
      subst h
      cases j with
      | zero=>simp [enc]; exact h0.symm
      | succ j=>simp [enc]; exact ih xs r hg hr' j (by simpa using hj)
    | _=>simp [getV] at h
   | ptr =>
    cases x with
    | v y =>
     cases y<;>simp only [getV] at h<;>try cases h
     cases hg:getV l xs with
     | none=>simp [hg] at h
     | some r =>
      simp only [hg] at h
      have h:=Option.some.inj h
      subst h
      cases j with
      | zero=>simp [enc]; exact h0.symm
      | succ j=>simp [enc]; exact ih xs r hg hr' j (by simpa using hj)
    | _=>simp [getV] at h
   | mp =>
    cases x with
    | v y =>
     cases y<;>simp only [getV] at h<;>try cases h
     cases hg:getV l xs with
     | none=>simp [hg] at h
     | some r =>
      simp only [hg] at h
      have h:=Option.some.inj h
      subst h
      cases j with
      | zero=>simp [enc]; exact h0.symm
      | succ j=>simp [enc]; exact ih xs r hg hr' j (by simpa using hj)
    | _=>simp [getV] at h
   | val =>
    cases x with
    | v y =>
     simp only [getV] at h
     cases hg:getV l xs with
     | none=>simp [hg] at h
     | some r =>
      simp only [hg] at h
      have h:=Option.some.inj h
      subst h
      cases j with
      | zero=>simp [enc]; exact h0.symm
      | succ j=>simp [enc]; exact ih xs r hg hr' j (by simpa using hj)
    | _=>simp [getV] at h
   | fn =>
    cases x with
    | v y =>
     cases y<;>(try simp only [getV] at h)<;>try cases h
     rename_i g f c
     cases g<;>(try simp only [getV] at h)<;>try cases h
     cases hg:getV l xs with
     | none=>simp [hg] at h
     | some r =>
      simp only [hg] at h
      have h:=Option.some.inj h
      subst h
      cases j with
      | zero=>simp [enc]; exact h0.symm
      | succ j=>simp [enc]; exact ih xs r hg hr' j (by simpa using hj)
    | _=>simp [getV] at h
theorem look_append:∀(l m:List (Nat×AV)) (t:Nat),look (l++m) t=if t∈l.map (·.1) then look l t else look m t
 | [],m,t=>by simp
 | q::l,m,t=>by
  simp only [List.cons_append,look]
  cases hk:Nat.beq q.1 t with
  | true=>have:=Nat.eq_of_beq_eq_true hk; simp [this]
  | false =>
   have hne:t≠q.1:=fun e=>by subst e; simp at hk
   simp only [look_append l m t,List.map_cons,List.mem_cons,hne,false_or]
theorem zipF_keys:∀(l:List (Nat×Sh)) (vs:List Value),(zipF l vs).map (·.1)=l.map (·.1)
 | [],vs=>by cases vs<;>rfl
 | q::l,[]=>by simp [zipF,zipF_keys l []]
 | q::l,x::xs=>by simp [zipF,zipF_keys l xs]
theorem zipF_brel (bs:List Nat) (tm:Nat→Value):∀(l:List (Nat×Sh)) (vs:List Value) (t:Nat),t∈l.map (·.1)→(∀(j:Nat) q,l[j]?=some q→∀x,vs[j]?=some x→tm q.1=x)→BRel bs (look (zipF l vs) t) (tm t)
 | [],vs,t,ht,_=>by simp at ht
 | q::l,[],t,ht,h=>by
  simp only [zipF,look]
  cases hk:Nat.beq q.1 t with
  | true=>trivial
  | false =>
   have hne:t≠q.1:=fun e=>by subst e; simp at hk
   exact zipF_brel bs tm l [] t (by simpa [hne] using ht) (fun j q hq x hx=>by simp at hx)
 | q::l,x::xs,t,ht,h=>by
  simp only [zipF,look]
  cases hk:Nat.beq q.1 t with
  | true =>
   have:=Nat.eq_of_beq_eq_true hk
   subst this
   exact h 0 q rfl x rfl
  | false =>
   have hne:t≠q.1:=fun e=>by subst e; simp at hk
   exact zipF_brel bs tm l xs t (by simpa [hne] using ht) (fun j q' hq x' hx=>h (j+1) q' hq x' hx)
theorem zipF_noifs:∀(l:List (Nat×Sh)) (vs:List Value) (t:Nat) e s w x,t∈l.map (·.1)→look (zipF l vs) t≠.ifs e s w x
 | [],vs,t,e,s,w,x,ht=>by simp at ht
 | q::l,[],t,e,s,w,x,ht=>by
  simp only [zipF,look]
  cases hk:Nat.beq q.1 t with
  | true=>intro h; cases h
  | false =>
   have hne:t≠q.1:=fun e=>by subst e; simp at hk
   exact zipF_noifs l [] t e s w x (by simpa [hne] using ht)
 | q::l,y::xs,t,e,s,w,x,ht=>by
  simp only [zipF,look]
  cases hk:Nat.beq q.1 t with
  | true=>intro h; cases h
  | false =>
   have hne:t≠q.1:=fun e=>by subst e; simp at hk
   exact zipF_noifs l xs t e s w x (by simpa [hne] using ht)
theorem look_dead:∀(l:List Nat) (t:Nat),t∈l→look (l.map fun d=>(d,AV.any)) t=.any
 | [],t,h=>by cases h
 | d::l,t,h=>by
  simp only [List.map_cons,look]
  cases hk:Nat.beq d t with
  | true=>rfl
  | false =>
   have hne:t≠d:=fun e=>by subst e; simp at hk
   exact look_dead l t (by simpa [hne] using h)
theorem head_look (L:LS) (S:AS) (vs:List Value) (H:Heap) (t:Nat):look (L.head S vs H).fr t=if t∈L.vars.map (·.1) then look (zipF L.vars vs) t else if t∈L.dead then .any else look S.fr t:=by
 simp only [LS.head,List.append_assoc,look_append,zipF_keys]
 have hd:(L.dead.map fun d=>(d,AV.any)).map (·.1)=L.dead:=by simp [List.map_map,Function.comp_def]
 rw [hd]
 split
 ·rfl
 ·split
  ·rename_i h; exact look_dead _ _ h
  ·rfl
theorem allOk_mem:∀(l:List Nat),allOk p l=true→∀d∈l,p.ok d=true
 | [],_,d,h=>by cases h
 | x::l,h,d,hd=>by
  simp only [allOk,Bool.and_eq_true] at h
  rcases List.mem_cons.1 hd with rfl|hd
  ·exact h.1
  ·exact allOk_mem l h.2 d hd
theorem allOkb_mem {k:Nat}:∀(l:List (Nat×Nat×Sh)),allOkb p k l=true→∀q∈l,p.okb q.1 q.2.1=true∧q.1<k
 | [],_,d,h=>by cases h
 | x::l,h,d,hd=>by
  simp only [allOkb,Bool.and_eq_true] at h
  rcases List.mem_cons.1 hd with rfl|hd
  ·exact ⟨h.1.1,Nat.le_of_ble_eq_true h.1.2⟩
  ·exact allOkb_mem l h.2 d hd
theorem hasC_iff:∀(l:List (Nat×Nat×Sh)) (i j:Nat),hasC l i j=true↔∃q∈l,q.1=i∧q.2.1=j
 | [],i,j=>by simp [hasC]
 | x::l,i,j=>by
  simp only [hasC]
  cases hk:Nat.beq x.1 i&&Nat.beq x.2.1 j with
  | true =>
   rw [Bool.and_eq_true] at hk
   have h1:=Nat.eq_of_beq_eq_true hk.1
   have h2:=Nat.eq_of_beq_eq_true hk.2
   exact ⟨fun _=>⟨x,by simp,h1,h2⟩,fun _=>rfl⟩
  | false =>
   rw [hasC_iff l i j]
   constructor
   ·rintro ⟨q,h1,h2⟩; exact ⟨q,List.mem_cons_of_mem _ h1,h2⟩
   ·rintro ⟨q,h1,h2,h3⟩
    rcases List.mem_cons.1 h1 with rfl|h1
    ·subst h2; subst h3; simp at hk
    ·exact ⟨q,h1,h2,h3⟩
theorem FC.head (L : LS) (hF : FC ds p z bs S a) (hok : allOk p L.slots=true) {S2 : AS} {a2 : Act} {bs2 : List Nat} {v : V L.shapes} {H : Heap} (hs2 : a2.tmps.size=p.n) (hd2 : a2.defers=dfs ds)
  (hsl:∀t,BRel bs2 (look S2.fr t) (a2.tmps.getD t undef)) (hg:getV L.shapes (L.read S2)=some v) {cells:Nat→Value}
  (hcl:∀(j:Nat) q,L.cells[j]?=some q→BRel bs2 (cellAt S2.bx q.1 q.2.1) (cells j)) (hz:∀t,hasN L.slots t=false→a2.tmps.getD t undef=a.tmps.getD t undef) (k:Nat) :
  FC ds (L.pro p k) (fun t=>a.tmps.getD t undef) bs (L.head S (enc L.shapes v) H) a2:=by
 have hread:∀(j:Nat) q,L.vars[j]?=some q→∀x,(enc L.shapes v)[j]?=some x→a2.tmps.getD q.1 undef=x:=by
  intro j q hq x hx
  have hj:j<L.vars.length:=(List.getElem?_eq_some_iff.1 hq).1
  let f:Nat→Value:=fun i=>if i<L.vars.length then a2.tmps.getD ((L.vars.map (·.1)).getD i 0) undef else cells (i-L.vars.length)
  have:=getV_sound bs2 f L.shapes (L.read S2) v hg (fun i y hy=>by
   by_cases hi:i<L.vars.length
   ·simp only [LS.read] at hy
    rw [List.getElem?_append_left (by simpa using hi)] at hy
    simp only [List.getElem?_map,Option.map_eq_some_iff] at hy
    obtain ⟨q',hq',rfl⟩:=hy
    have hq2:L.vars[i]=q':=Option.some.inj ((List.getElem?_eq_getElem hi).symm.trans hq')
    have hf:f i=a2.tmps.getD q'.1 undef:=by simp [f,hi,List.getD,hq2]
    rw [hf]
    exact hsl q'.1
   ·simp only [LS.read] at hy
    rw [List.getElem?_append_right (by simpa using Nat.le_of_not_lt hi)] at hy
    simp only [List.getElem?_map,Option.map_eq_some_iff,List.length_map] at hy
    obtain ⟨q',hq',rfl⟩:=hy
    have hf:f i=cells (i-L.vars.length):=by simp [f,hi]
    rw [hf]
    exact hcl _ q' hq') j (by simp [LS.shapes]; omega)
  rw [this] at hx
  injection hx with hx
  rw [←hx]
  have hq2:L.vars[j]=q:=Option.some.inj ((List.getElem?_eq_getElem hj).symm.trans hq)
  simp [f,hj,List.getD,hq2]
 refine ⟨hs2,hd2,fun t=>?_,fun t e s w x hx=>?_,fun t ht=>hz t ht,fun t ht=>?_⟩
 ·rw [head_look]
  show SRel bs a2.tmps (S.ep+1) _ _
  split
  ·rename_i ht
   have hb:=zipF_brel bs (fun t=>a2.tmps.getD t undef) L.vars (enc L.shapes v) t ht hread
   have hni:=zipF_noifs L.vars (enc L.shapes v) t
   cases hl:look (zipF L.vars (enc L.shapes v)) t with
   | ifs e s w x=>exact absurd hl (hni e s w x ht)
   | _=>rw [hl] at hb; exact hb
  ·split
   ·trivial
   ·rename_i h1 h2
    have hn:hasN L.slots t=false:=by
     cases hh:hasN L.slots t with
     | false=>rfl
     | true=>have:=(hasN_iff _ _).1 hh; simp only [LS.slots,List.mem_append] at this; exact absurd this (by rintro (h|h); exact h1 h; exact h2 h)
    rw [hz t hn]
    have hs:=hF.slots t
    cases hl:look S.fr t with
    | ifs e s w x =>
     have:=(hF.eps t e s w x hl).1
     intro he; omega
    | _=>rw [hl] at hs; exact hs
 ·rw [head_look] at hx
  split at hx
  ·rename_i ht; exact absurd hx (zipF_noifs L.vars (enc L.shapes v) t e s w x ht)
  ·split at hx
   ·cases hx
   ·have:=(hF.eps t e s w x hx).1
    exact ⟨by show e≤S.ep+1; omega,fun he=>by have he:e=S.ep+1:=he; omega⟩
 ·exact hF.okn t (allOk_mem _ hok t ((hasN_iff _ _).1 ht))
def cellV (w:World) (bs:List Nat) (i j:Nat):Option Value:=match bs[i]? with
 | some b=>match w.heap[b]? with
  | some (.cells c _ _)=>c[j]?
  | _=>none
 | none=>none
theorem WC.cellV {bx:List (List AV)} {H:Heap} {w:World} (hW:WC ds p zb H0 w0 bs bx H w) (i j:Nat):BRel bs (cellAt bx i j) ((Ax.cellV w bs i j).getD undef):=by
 unfold cellAt
 cases hl:bx[i]? with
 | none=>trivial
 | some l =>
  simp only
  cases hx:l[j]? with
  | none=>trivial
  | some x =>
   have hi:i<bs.length:=by rw [hW.blen]; exact (List.getElem?_eq_some_iff.1 hl).1
   have hb:=List.getElem?_eq_getElem hi
   obtain ⟨_,_,c,T,h3,_,h5,_⟩:=hW.boxes i _ l hb hl
   obtain ⟨y,y1,y2⟩:=h5 j x hx
   simp only [Ax.cellV,hb,h3,y1,Option.getD_some]
   exact y2
def zbAt (w:World) (bs:List Nat) (bx:List (List AV)) (bb:List Nat):ZB:=⟨Ax.cellV w bs,fun i=>(bx[i]?).map (·.length),bb⟩
theorem WC.inner {bx:List (List AV)} {H:Heap} {w:World} (hW:WC ds p zb H0 w0 bs bx H w) (L:LS):WC ds (L.pro p bx.length) (zbAt w bs bx zb.bb) H0 w0 bs bx H w:=by
 refine ⟨hW.blen,hW.nodup,fun i b cs hb hcs=>?_,fun i j hi=>?_,fun i hi=>?_,hW.keeps,hW.dq,hW.dn,hW.bk⟩
 ·obtain ⟨h1,h2,c,T,h3,h4,h5,h6⟩:=hW.boxes i b cs hb hcs
  refine ⟨h1,h2,c,T,h3,h4,h5,fun j hj _=>?_,fun m hm=>?_⟩
  ·simp [zbAt,Ax.cellV,hb,h3]
  ·simp only [zbAt,hcs,Option.map_some,Option.some.injEq] at hm
   omega
 ·show (Nat.ble bx.length i||_)=true
  rw [Nat.ble_eq_true_of_le hi]
  rfl
 ·simp [zbAt,List.getElem?_eq_none hi]
theorem setCell_get (bx:List (List AV)) (i0 j0:Nat) (x0:AV) (i j:Nat):((setCell bx i0 j0 x0)[i]?).bind (·[j]?)=if i0=i∧j0=j then ((bx[i]?).bind (·[j]?)).map fun _=>x0 else (bx[i]?).bind (·[j]?):=by
 unfold setCell
 rw [List.getElem?_modify]
 cases hb:bx[i]? with
 | none=>simp
 | some l =>
  by_cases hi:i0=i
  ·subst hi
   simp only [if_true,true_and]
   show (l.set j0 x0)[j]?=if j0=j then (l[j]?).map (fun _=>x0) else l[j]?
   rw [List.getElem?_set]
   by_cases hj:j0=j
   ·subst hj
    by_cases hlt:j0<l.length
    ·simp [hlt]
    ·simp [hlt]
   ·simp [hj]
  ·simp [hi]
theorem setCell_len (bx:List (List AV)) (i0 j0:Nat) (x0:AV) (i:Nat):((setCell bx i0 j0 x0)[i]?).map (·.length)=(bx[i]?).map (·.length):=by
 unfold setCell
 rw [List.getElem?_modify]
 cases hb:bx[i]? with
 | none=>simp
 | some l=>by_cases hi:i0=i<;>simp [hi]
theorem setCells_len:∀(l:List (Nat×Nat×Sh)) (bx:List (List AV)) (vs:List Value) (i:Nat),((setCells bx l vs)[i]?).map (·.length)=(bx[i]?).map (·.length)
 | [],bx,vs,i=>by cases vs<;>rfl
 | q::l,bx,[],i=>by simp only [setCells]; rw [setCells_len l,setCell_len]
 | q::l,bx,x::xs,i=>by simp only [setCells]; rw [setCells_len l,setCell_len]
theorem setCells_rel (R : Nat→Nat→AV→Prop) (hany : ∀i j, R i j .any) : ∀(l : List (Nat×Nat×Sh)) (bx : List (List AV)) (vs : List Value),
  (∀i j x,(bx[i]?).bind (·[j]?)=some x→hasC l i j=true∨R i j x)→(∀(k:Nat) q x,l[k]?=some q→vs[k]?=some x→R q.1 q.2.1 (.v x)) →
  ∀i j x,((setCells bx l vs)[i]?).bind (·[j]?)=some x→R i j x
 | [],bx,vs,h,_,i,j,x,hx=>by
  have:setCells bx [] vs=bx:=by cases vs<;>rfl
  rw [this] at hx
  rcases h i j x hx with hh|hh
  ·simp [hasC] at hh
  ·exact hh
 | q::l,bx,vs,h,hv,i,j,x,hx=>by
  have step:∀(x0:AV),R q.1 q.2.1 x0→∀i j x,((setCell bx q.1 q.2.1 x0)[i]?).bind (·[j]?)=some x→hasC l i j=true∨R i j x:=by
   intro x0 hx0 i j x hx
   rw [setCell_get] at hx
   split at hx
   ·rename_i hc
    obtain ⟨rfl,rfl⟩:=hc
    simp only [Option.map_eq_some_iff] at hx
    obtain ⟨_,_,rfl⟩:=hx
    exact .inr hx0
   ·rename_i hc
    rcases h i j x hx with hh|hh
    ·left
     rw [hasC_iff] at hh ⊢
     obtain ⟨q',h1,h2,h3⟩:=hh
     rcases List.mem_cons.1 h1 with rfl|h1
     ·exact absurd ⟨h2,h3⟩ hc
     ·exact ⟨q',h1,h2,h3⟩
    ·exact .inr hh
  cases vs with
  | nil =>
   simp only [setCells] at hx
   exact setCells_rel R hany l _ [] (step _ (hany _ _)) (fun k q x _ h=>by simp at h) i j x hx
  | cons y ys =>
   simp only [setCells] at hx
   exact setCells_rel R hany l _ ys (step _ (hv 0 q y rfl rfl)) (fun k q' x' h1 h2=>hv (k+1) q' x' h1 h2) i j x hx
theorem WC.head {w : World} (L : LS) (hW : WC ds p zb H0 w0 bs S.bx S.H w) {bs2 : List Nat} {S2 : AS} {w2 : World} (hp : bs <+: bs2)
  (h2:WC ds (L.pro p S.bx.length) (zbAt w bs S.bx zb.bb) H0 w0 bs2 S2.bx S2.H w2) {v:V L.shapes} (hg:getV L.shapes (L.read S2)=some v) {a2:Act} (hsl:∀t,BRel bs2 (look S2.fr t) (a2.tmps.getD t undef)) :
  WC ds (L.pro p S.bx.length) (zbAt w bs S.bx zb.bb) H0 w0 bs (L.head S (enc L.shapes v) S2.H).bx S2.H w2:=by
 have hvals:∀(k:Nat) q x,L.cells[k]?=some q→((enc L.shapes v).drop L.vars.length)[k]?=some x→(Ax.cellV w2 bs2 q.1 q.2.1).getD undef=x:=by
  intro k q x hq hx
  have hk:k<L.cells.length:=(List.getElem?_eq_some_iff.1 hq).1
  let f:Nat→Value:=fun i=>if i<L.vars.length then a2.tmps.getD ((L.vars.map (·.1)).getD i 0) undef else (match L.cells[i-L.vars.length]? with|some q=>(Ax.cellV w2 bs2 q.1 q.2.1).getD undef|none=>undef)
  have:=getV_sound bs2 f L.shapes (L.read S2) v hg (fun i y hy=>by
   by_cases hi:i<L.vars.length
   ·simp only [LS.read] at hy
    rw [List.getElem?_append_left (by simpa using hi)] at hy
    simp only [List.getElem?_map,Option.map_eq_some_iff] at hy
    obtain ⟨q',hq',rfl⟩:=hy
    have hq2:L.vars[i]=q':=Option.some.inj ((List.getElem?_eq_getElem hi).symm.trans hq')
    have hf:f i=a2.tmps.getD q'.1 undef:=by simp [f,hi,List.getD,hq2]
    rw [hf]
    exact hsl q'.1
   ·simp only [LS.read] at hy
    rw [List.getElem?_append_right (by simpa using Nat.le_of_not_lt hi)] at hy
    simp only [List.getElem?_map,Option.map_eq_some_iff,List.length_map] at hy
    obtain ⟨q',hq',rfl⟩:=hy
    have hf:f i=(Ax.cellV w2 bs2 q'.1 q'.2.1).getD undef:=by simp only [f,if_neg hi,hq']
    rw [hf]
    exact h2.cellV _ _) (L.vars.length+k) (by simp [LS.shapes]; omega)
  rw [List.getElem?_drop,this] at hx
  injection hx with hx
  rw [←hx]
  simp only [f]
  rw [if_neg (by omega),Nat.add_sub_cancel_left,hq]
 have hlen2:bs.length≤bs2.length:=hp.length_le
 have up:∀{i b:Nat},bs[i]?=some b→bs2[i]?=some b:=by
  intro i b hb
  obtain ⟨t,rfl⟩:=hp
  rw [List.getElem?_append_left (List.getElem?_eq_some_iff.1 hb).1]
  exact hb
 have hlens:∀i:Nat,((setCells S.bx L.cells ((enc L.shapes v).drop L.vars.length))[i]?).map (·.length)=(S.bx[i]?).map (·.length):=setCells_len L.cells S.bx _
 have hsame:(setCells S.bx L.cells ((enc L.shapes v).drop L.vars.length)).length=S.bx.length:=by
  rcases Nat.lt_trichotomy (setCells S.bx L.cells ((enc L.shapes v).drop L.vars.length)).length S.bx.length with h|h|h
  ·have:=hlens (setCells S.bx L.cells ((enc L.shapes v).drop L.vars.length)).length
   rw [List.getElem?_eq_none (Nat.le_refl _),List.getElem?_eq_getElem h] at this
   cases this
  ·exact h
  ·have:=hlens S.bx.length
   rw [List.getElem?_eq_none (Nat.le_refl S.bx.length),List.getElem?_eq_getElem h] at this
   cases this
 show WC _ _ _ H0 w0 bs (setCells S.bx L.cells ((enc L.shapes v).drop L.vars.length)) S2.H w2
 refine ⟨by rw [hsame]; exact hW.blen,hW.nodup,fun i b cs hb hcs=>?_,fun i j hi=>?_,fun i hi=>?_,h2.keeps,h2.dq,h2.dn,h2.bk⟩
 ·have hb2:=up hb
  have hib:i<bs.length:=(List.getElem?_eq_some_iff.1 hb).1
  have hi2:i<S2.bx.length:=by rw [←h2.blen]; omega
  have hi1:i<S.bx.length:=by rw [←hW.blen]; exact hib
  obtain ⟨g1,g2,c,T,g3,g4,g5,g6,g7⟩:=h2.boxes i b _ hb2 (List.getElem?_eq_getElem hi2)
  have hsz:c.size=(S.bx[i]).length:=g7 _ (by simp [zbAt,hi1])
  have hcl:cs.length=(S.bx[i]).length:=by
   have:=hlens i
   rw [hcs,List.getElem?_eq_getElem hi1] at this
   simpa using this
  refine ⟨g1,g2,c,T,g3,by omega,fun j x hx=>?_,g6,g7⟩
  have hj:j<cs.length:=(List.getElem?_eq_some_iff.1 hx).1
  have hjc:j<c.size:=by omega
  refine ⟨c[j],Array.getElem?_eq_getElem hjc,?_⟩
  have hcv:Ax.cellV w2 bs2 i j=some c[j]:=by simp [Ax.cellV,hb2,g3,hjc]
  have key:=setCells_rel (fun i' j' x'=>i'=i→j'=j→BRel bs x' c[j]) (fun _ _ _ _=>trivial) L.cells S.bx ((enc L.shapes v).drop L.vars.length) ?_ ?_ i j x (by rw [hcs]; exact hx) rfl rfl
  ·exact key
  ·intro i' j' x' hx'
   by_cases hc:hasC L.cells i' j'=true
   ·exact .inl hc
   ·refine .inr ?_
    rintro rfl rfl
    have hkeep:=g6 j' hjc (by
     show (Nat.ble S.bx.length i'||hasC L.cells i' j')=false
     have h1:Nat.ble S.bx.length i'=false:=by
      cases hh:Nat.ble S.bx.length i' with
      | false=>rfl
      | true=>have:=Nat.le_of_ble_eq_true hh; omega
     rw [h1]
     simpa using hc)
    obtain ⟨_,_,c0,T0,k3,k4,k5,_⟩:=hW.boxes i' b _ hb (List.getElem?_eq_getElem hi1)
    rw [List.getElem?_eq_getElem hi1] at hx'
    obtain ⟨y,y1,y2⟩:=k5 j' x' hx'
    have:(zbAt w bs S.bx zb.bb).cell i' j'=some y:=by simp [zbAt,Ax.cellV,hb,k3,y1]
    rw [this,Array.getElem?_eq_getElem hjc] at hkeep
    injection hkeep with hkeep
    rw [hkeep]
    exact y2
  ·intro k q x' hq hx' e1 e2
   have:=hvals k q x' hq hx'
   rw [e1,e2,hcv] at this
   exact this
 ·show (Nat.ble S.bx.length i||_)=true
  rw [Nat.ble_eq_true_of_le (by rw [←hsame]; exact hi)]
  rfl
 ·simp [zbAt,List.getElem?_eq_none (by rw [←hsame]; exact hi:S.bx.length≤i)]
theorem WC.outer {w : World} (L : LS) (hW : WC ds p zb H0 w0 bs S.bx S.H w) (hok : allOkb p S.bx.length L.cells=true) {bs2 : List Nat} {bx2 : List (List AV)} {H2 : Heap} {w2 : World} (hp : bs <+: bs2)
  (h2:WC ds (L.pro p S.bx.length) (zbAt w bs S.bx zb.bb) H0 w0 bs2 bx2 H2 w2):WC ds p zb H0 w0 bs2 bx2 H2 w2:=by
 have hge:S.bx.length≤bx2.length:=by rw [←hW.blen,←h2.blen]; exact hp.length_le
 refine ⟨h2.blen,h2.nodup,fun i b cs hb hcs=>?_,fun i j hi=>hW.okf i j (by omega),fun i hi=>hW.lnf i (by omega),h2.keeps,h2.dq,h2.dn,h2.bk⟩
 obtain ⟨g1,g2,c,T,g3,g4,g5,g6,g7⟩:=h2.boxes i b cs hb hcs
 have old:i<S.bx.length→bs[i]?=some b:=by
  intro hi
  obtain ⟨t,rfl⟩:=hp
  rwa [List.getElem?_append_left (by rw [hW.blen]; exact hi)] at hb
 refine ⟨g1,g2,c,T,g3,g4,g5,fun j hj hf=>?_,fun m hm=>?_⟩
 ·have hi : i<S.bx.length := by
   rcases Nat.lt_or_ge i S.bx.length with h|h
   ·exact h
   ·rw [hW.okf i j h] at hf; cases hf
  have hnc:hasC L.cells i j=false:=by
   cases hh:hasC L.cells i j with
   | false=>rfl
   | true =>
    obtain ⟨q,q1,rfl,rfl⟩:=(hasC_iff _ _ _).1 hh
    rw [(allOkb_mem _ hok q q1).1] at hf
    cases hf
  have h1:Nat.ble S.bx.length i=false:=by
   cases hh:Nat.ble S.bx.length i with
   | false=>rfl
   | true=>have:=Nat.le_of_ble_eq_true hh; omega
  have e:=g6 j hj (by show (Nat.ble S.bx.length i||hasC L.cells i j)=false; rw [h1,hnc]; rfl)
  rw [e]
  have hb0:=old hi
  obtain ⟨_,_,c0,T0,k3,k4,k5,k6,k7⟩:=hW.boxes i b _ hb0 (List.getElem?_eq_getElem hi)
  have:(zbAt w bs S.bx zb.bb).cell i j=c0[j]?:=by simp [zbAt,Ax.cellV,hb0,k3]
  rw [this]
  have hsz:c.size=(S.bx[i]).length:=g7 _ (by simp [zbAt,hi])
  exact k6 j (by omega) hf
 ·have hi : i<S.bx.length := by
   rcases Nat.lt_or_ge i S.bx.length with h|h
   ·exact h
   ·rw [hW.lnf i h] at hm; cases hm
  have hb0:=old hi
  obtain ⟨_,_,c0,T0,k3,k4,k5,k6,k7⟩:=hW.boxes i b _ hb0 (List.getElem?_eq_getElem hi)
  have hsz:c.size=(S.bx[i]).length:=g7 _ (by simp [zbAt,hi])
  have:=k7 m hm
  omega
end
end Go.Ax
namespace Go.Ax
open Go.RowKit
def Fz (r:Option Nat):Fence:={ Fence.wide with round:=r }
theorem callsIn_fz {r:Option Nat} {n:Nat} {P:Program} {f:FuncId} {args:Array Value} {w:World} {R:Ending→World→Prop}:CallsIn (Fz r) n P f args w R↔Calls P f args w R :=
 (show CallsIn (Fz r) n P f args w R↔CallsIn Fence.wide n P f args w R from Iff.rfl).trans callsIn_wide
section
variable {P:Program} {r:Option Nat} {n:Nat} {Q:Exit→Act→World→Prop}
theorem semAt_fz {o:Oper} (h:noDefer o=true) (ρ:Operand→Value):o.semAt (Fz r).round ρ=execOp ρ o :=
 Oper.semAt_eq _ _ _ fun c e=>by unfold noDefer at h; rw [e] at h; cases h
theorem fz_depth (h:(Fz r).depth.isSome=true):1≤n:=by simp [Fz,Fence.wide] at h
theorem rowsIn_fz {row:String} {args:Array Value} {w:World} {R:Value→World→Prop} (h:Rows P row args w R):RowsIn (Fz r) n P row args w R :=
 fun c cs _=>let ⟨v,w',q,s⟩:=h c cs; ⟨v,w',q,stepsIn_wide.2 s⟩
theorem wpIn_of_wp {o:Oper} {a:Act} {w:World} {K:Act→World→Prop} (hd:noDefer o=true) (h:o.wp P a w K Q):o.wpIn (Fz r) n P a w K Q:=by
 refine ⟨fun _ _=>trivial,?_⟩
 rw [semAt_fz hd]
 unfold Oper.wp at h
 generalize (execOp a.eval o).run P w=res at *
 cases res with
 | ok x w' =>
  cases x<;>simp only [Oper.upon,Oper.uponIn] at h ⊢<;>first
   | exact h
   | exact ⟨fz_depth,callsIn_fz.2 h⟩
   | exact ⟨fz_depth,rowsIn_fz h⟩
 | halt x w'=>cases x<;>simp only [Oper.upon,Oper.uponIn] at h ⊢<;>exact h
theorem noDefs_mem:∀(l:List Oper),noDefs l=true→∀o∈l,noDefer o=true
 | [],_,o,h=>by cases h
 | x::l,h,o,ho=>by
  simp only [noDefs,Bool.and_eq_true] at h
  rcases List.mem_cons.1 ho with rfl|ho
  ·exact h.1
  ·exact noDefs_mem l h.2 o ho
theorem listIn {ops:Array Oper} (hL:¬LetsOut Q):∀(l:List Oper) (a:Act) (w:World),noDefs l=true→wpList P ops Q l a w→wpListIn (Fz r) n P ops Q l a w
 | [],a,w,_,h=>h
 | o::l,a,w,hd,h=>by
  simp only [noDefs,Bool.and_eq_true] at hd
  unfold wpList at h
  unfold wpListIn
  split at h
  ·rename_i hw
   rw [if_pos hw]
   rcases h with h|⟨_,h⟩
   ·exact Oper.wpIn_mono (fun a w h=>listIn hL l a w hd.2 h) (wpIn_of_wp hd.1 h)
   ·exact absurd h hL
  ·rename_i hw
   rw [if_neg hw]
   exact ⟨fun _ _=>trivial,listIn hL l _ w hd.2 h⟩
theorem anyIn {md:Region.Mode} {ops:Array Oper} (hL:¬LetsOut Q) (hd:noDefs ops.toList=true):∀(fuel:Nat) (listed:Array Bool) (a:Act) (w:World),wpAny P md ops Q fuel listed a w→wpAnyIn (Fz r) n P md ops Q fuel listed a w
 | 0,listed,a,w,h=>h
 | fuel+1,listed,a,w,h=>by
  refine ⟨h.1,fun i hi=>?_⟩
  have h:=h.2 i hi
  unfold wpOp at h
  unfold wpOpIn
  split
  ·rename_i ho
   rw [ho] at h
   exact anyIn hL hd fuel _ a w h
  ·rename_i o ho
   rw [ho] at h
   simp only at h
   have hdo:=noDefs_mem _ hd o (by
    have:=List.mem_of_getElem? (l:=ops.toList) (i:=i) (a:=o) (by simpa using ho)
    exact this)
   split
   ·rename_i hw
    rw [if_pos hw] at h
    rcases h with h|⟨_,h⟩
    ·exact Oper.wpIn_mono (fun a w h=>anyIn hL hd fuel _ a w h) (wpIn_of_wp hdo h)
    ·exact absurd h hL
   ·rename_i hw
    rw [if_neg hw] at h
    exact ⟨fun _ _=>trivial,anyIn hL hd fuel _ _ w h⟩
theorem scopeIn {c:Code} {a:Act} {w:World} (h:c.wpIn (Fz r) n P (Exit.noGoto Q) a w):(Code.scope c).wpIn (Fz r) n P Q a w:=by
 intro b k cs hro hb hr
 obtain ⟨e,a1,w1,hq,harr⟩:=h b (.inScope c::k) cs hro hb hr
 have s1:StepsIn (Machine.fenced P (Fz r)) P (lone (b.atR a (.code (.scope c)::k)) cs w) (lone (b.atR a (.code c::.inScope c::k)) cs w) :=
  .one (fenced_calm hb hr rfl) (step_lone_go (by simp [stepG,stepG.exec,Frame.atR]))
 have s2:StepsIn (Machine.fenced P (Fz r)) P (lone (b.atR a1 (.inScope c::k)) cs w1) (lone (b.atR a1 k) cs w1) :=
  .one (fenced_calm hb hr rfl) (step_lone_go (by simp [stepG,stepG.exec,Frame.atR]))
 cases e with
 | normal=>exact ⟨.normal,a1,w1,hq,StepsIn.trans s1 (StepsIn.trans harr s2)⟩
 | exit id => exact ⟨.exit id, a1, w1, hq, ⟨fun k' hk => StepsIn.trans s1 (harr.1 k' (by simp [exitTo, hk])), fun hr' hk => by
   obtain ⟨k1,hk1,hs⟩:=harr.2 hr' (by simp [exitTo,hk])
   exact ⟨k1,hk1,StepsIn.trans s1 hs⟩⟩⟩
 | goto l=>exact hq.elim
 | ret=>exact ⟨_,a1,w1,hq,.of_steps s1 harr⟩
 | panic ch=>exact ⟨_,a1,w1,hq,.of_steps s1 harr⟩
 | outgrown=>exact ⟨_,a1,w1,hq,.of_steps s1 harr⟩
theorem rf_law {α : Type} {g : Operand} {ps : Array Tmp} {assign body : Code} {a : Act} {w : World} {gf : Nat} {lb : Array Value} (hg : a.eval g = .func (.func gf) #[] lb) (eg : ∀ (args : Array Value) (w : World), (callFunc gf args).run P w = .ok (.enter gf args) w)
    {encs:α→Array Value} {Kp:World→World→Prop} {S Sp:List α→Prop} {N:Nat} (hseq:SeqStopsK (Fz none) 1 P gf lb encs Kp S Sp N w)
    (hKt:∀{A B C:World},Kp A B→Kp B C→Kp A C) (hKb:∀(W:World) (l:Nat) (o:Obj),w.heap.size≤l→Kp W (W.putObj l o)) (hps:∀x,(encs x).size=ps.size)
    (I:List α→World→Prop) (Ix:Code×List α→World→Prop) (hI:OwnFrom w.heap.size I) (hIx:OwnFrom w.heap.size Ix) (h0:I [] w)
    (round:∀(l:Nat) (pre:List α) (x:α) (W:World),w.heap.size≤l→I pre W→pre.length<N →
      assign.wpIn (Fz (some l)) 0 P (Exit.then (fun a1 W1=>KeepsFrom w.heap.size W W1∧Kp W W1∧∀rec,W1.heap[l]?=some (.loop rec)→∀rec',body.wpIn (Fz (some l)) 0 P (ownPostG w.heap.size Kp I (fun c xs=>Ix (c,xs)) (pre++[x]) (W1.putObj l (.loop rec'))) a1 (W1.putObj l (.loop rec'))) (fun _ _ _=>False))
        { tmps:=(ps.zip (encs x)).foldl (fun t (p,v)=>t.setIfInBounds p v) a.tmps,defers:=[] } W)
    (hdone:∀(xs:List α) (D:Nat) (W:World),w.heap.size≤D→S xs→I xs W→W.heap[D]?=some (.deferred (some []))→Q .normal { a with defers:={ target:=.collected D,args:=#[] }::a.defers } W)
    (hstop:∀(c:Code) (xs:List α) (D:Nat) (W:World),w.heap.size≤D→Sp xs→Ix (c,xs) W→W.heap[D]?=some (.deferred (some []))→c.wpIn (Fz none) 2 P Q { a with defers:={ target:=.collected D,args:=#[] }::a.defers } W) :
    (Code.rangeFunc g ps assign body).wpIn (Fz none) 2 P Q a w:=by
  refine wpIn_rangeFunc fun fn _=>?_
  let rc:LoopState→Option Code→Loop:=fun st pe=>{ state:=st,pending:=pe,fn,tmps:=a.tmps,params:=ps,assign,body,defers:=w.heap.size }
  let W1:=(w.alloc (.deferred (some []))).alloc (.loop (rc .ready none))
  have szD:(w.alloc (.deferred (some []))).heap.size=w.heap.size+1:=World.size_alloc _ _
  have hL1:W1.heap[w.heap.size+1]?=some (.loop (rc .ready none)):=by
    have:=World.alloc_heap_new (w.alloc (.deferred (some []))) (.loop (rc .ready none))
    rwa [szD] at this
  have hD1:W1.heap[w.heap.size]?=some (.deferred (some [])):=(Below.heap_alloc _ _ _ (by rw [szD]; omega)).trans (World.alloc_heap_new w _)
  have hI1:I [] W1:=hI.alloc _ (hI.alloc _ h0)
  have hb1:Below w.heap.size w W1:=((Below.refl _ w).alloc (Nat.le_refl _) _).alloc (by rw [szD]; omega) _
  have size1:w.heap.size≤W1.heap.size:=hb1.size
  refine ⟨w.heap.size+1,[{ target:=.collected w.heap.size,args:=#[] }],W1,{ target:=.fn (.func gf) lb,args:=#[.func (.yield (w.heap.size+1)) #[] #[]] },W1,gf,
    #[.func (.yield (w.heap.size+1)) #[] #[]]++lb,W1,run_enterLoop_outer _ _ _ _ _,?_,fun _ _=>trivial,?_,fun _=>by decide,?_⟩
  · simp only [resolve,hg]; simp [go_sem]
  · simp [invoke,go_sem,eg]
  have walk:∀{A:World} {row:Option Nat},(∀r,row=some r→W1.heap.size≤r∧∃o:Obj,A.heap[r]?=some o∧o.isWalk=true)→∀r,row=some r→w.heap.size≤r∧∃o:Obj,A.heap[r]?=some o∧o.isCells=false :=
    fun hr r e=>by obtain ⟨hB,o,ho,hw⟩:=hr r e; exact ⟨Nat.le_trans size1 hB,o,ho,Obj.not_cells_of_walk hw⟩
  refine (hseq (w.heap.size+1) (fun pre W=>I pre W∧W.heap[w.heap.size+1]?=some (.loop (rc .ready none))∧W.heap[w.heap.size]?=some (.deferred (some [])))
    (fun s W=>∃c,Ix (c,s) W∧W.heap[w.heap.size+1]?=some (.loop (rc .done (some c)))∧W.heap[w.heap.size]?=some (.deferred (some []))) W1 hb1
    (fun s A B row hs hgr hr=>⟨hI s A B row hs.1 hgr (walk hr),(grownBy_keeps hgr (fun r e=>(hr r e).2) hs.2.1 rfl).trans hs.2.1,(grownBy_keeps hgr (fun r e=>(hr r e).2) hs.2.2 rfl).trans hs.2.2⟩)
    (fun s A B row hs hgr hr=>by
      obtain ⟨c,hc,hl,hk⟩:=hs
      exact ⟨c,hIx (c,s) A B row hc hgr (walk hr),(grownBy_keeps hgr (fun r e=>(hr r e).2) hl rfl).trans hl,(grownBy_keeps hgr (fun r e=>(hr r e).2) hk rfl).trans hk⟩)
    ?_ ⟨hI1,hL1,hD1⟩).mono ?_
  · rintro pre x W ⟨hi,hl,hk⟩ hlen
    refine ⟨fn,_,assign,body,run_yield (P:=P) hl (hps x),roundIn_of_wpIn trivial (wpIn_mono (round (w.heap.size+1) pre x W (by omega) hi hlen) ?_)⟩
    intro e a1 Wa hq
    cases e with
    | normal =>
      obtain ⟨k1,kp1,hbody⟩:=hq
      have hl1:=k1.same _ _ (by omega) hl rfl
      have hk1:=k1.same _ _ (Nat.le_refl _) hk rfl
      have hlt:w.heap.size+1<Wa.heap.size:=(Array.getElem?_eq_some_iff.1 hl1).1
      refine ⟨_,run_beginRound hl1 rfl,wpIn_mono (hbody _ hl1 _) ?_⟩
      have hl2:(Wa.putObj (w.heap.size+1) (.loop { rc .ready none with state:=.busy })).heap[w.heap.size+1]?=some (.loop { rc .ready none with state:=.busy }):=World.putObj_heap_same hlt
      have hk2:(Wa.putObj (w.heap.size+1) (.loop { rc .ready none with state:=.busy })).heap[w.heap.size]?=some (.deferred (some [])):=(World.putObj_heap_other (by omega)).trans hk1
      have leave : ∀ (jump : Option Code) (W3 : World), KeepsFrom w.heap.size (Wa.putObj (w.heap.size + 1) (.loop { rc .ready none with state := .busy })) W3 →
          (Instr.endRound (w.heap.size+1) jump).run P W3=.ok (.bool jump.isNone) (W3.putObj (w.heap.size+1) (.loop (rc (if jump.isNone then .ready else .done) jump))) ∧
          W3.heap[w.heap.size+1]?=some (.loop { rc .ready none with state:=.busy }) ∧
          (W3.putObj (w.heap.size+1) (.loop (rc (if jump.isNone then .ready else .done) jump))).heap[w.heap.size+1]?=some (.loop (rc (if jump.isNone then .ready else .done) jump)) ∧
          (W3.putObj (w.heap.size+1) (.loop (rc (if jump.isNone then .ready else .done) jump))).heap[w.heap.size]?=some (.deferred (some [])):=fun jump W3 k3=>by
        have hl3:=k3.same _ _ (by omega) hl2 rfl
        exact ⟨run_endRound (P:=P) jump hl3,hl3,World.putObj_heap_same (Array.getElem?_eq_some_iff.1 hl3).1,(World.putObj_heap_other (by omega)).trans (k3.same _ _ (Nat.le_refl _) hk2 rfl)⟩
      intro e a3 W3 hp
      cases e with
      | normal =>
        obtain ⟨k3,kp3,i3⟩:=hp
        obtain ⟨q1,q2,q3,q4⟩:=leave none W3 k3
        exact ⟨_,_,q1,.inl ⟨rfl,⟨hI.putObj _ i3 (by omega) q2 rfl,q3,q4⟩,hKt kp1 (hKt (hKb _ _ _ (by omega)) (hKt kp3 (hKb _ _ _ (by omega))))⟩⟩
      | ret =>
        obtain ⟨k3,i3⟩:=hp
        obtain ⟨q1,q2,q3,q4⟩:=leave (some .ret) W3 k3
        exact ⟨_,_,q1,.inr ⟨rfl,.ret,hIx.putObj _ i3 (by omega) q2 rfl,q3,q4⟩⟩
      | exit id =>
        obtain ⟨k3,i3⟩:=hp
        obtain ⟨q1,q2,q3,q4⟩:=leave (some (.exit id)) W3 k3
        exact ⟨_,_,q1,.inr ⟨rfl,.exit id,hIx.putObj _ i3 (by omega) q2 rfl,q3,q4⟩⟩
      | goto t =>
        obtain ⟨k3,i3⟩:=hp
        obtain ⟨q1,q2,q3,q4⟩:=leave (some (.goto t)) W3 k3
        exact ⟨_,_,q1,.inr ⟨rfl,.goto t,hIx.putObj _ i3 (by omega) q2 rfl,q3,q4⟩⟩
      | panic ch=>exact hp.elim
      | outgrown=>exact hp.elim
    | _=>exact hq.elim
  · rintro e W ⟨⟨v,rfl⟩,hh⟩
    rcases hh with ⟨xs,hS,hi,hl,hk⟩|⟨pre,hsp,c,hx,hl,hk⟩
    · exact ⟨none,_,run_endLoop hl (by simp [rc]),hdone xs _ _ (Nat.le_refl _) hS (hI.putObj _ hi (by omega) hl rfl) ((World.putObj_heap_other (by omega)).trans hk)⟩
    · exact ⟨some c,_,run_endLoop hl (by simp [rc]),hstop c pre _ _ (Nat.le_refl _) hsp (hIx.putObj _ hx (by omega) hl rfl) ((World.putObj_heap_other (by omega)).trans hk)⟩
end
end Go.Ax
namespace Go.Ax
open Go.RowKit
section
variable {C:Cx} {ds:List Nat} {p:Pro} {z:Nat→Value} {zb:ZB} {H0:Heap} {w0:World} {bs:List Nat} {S:AS} {a:Act} {G:Option Bool} {Q:Exit→Act→World→Prop}
def QRun (C:Cx) (W:World→Prop) (bs:List Nat) (o:Oper) (a:Act) (K:AV→Prop):Prop:=∃x v,BRel bs x v∧K x∧∀w,W w→(execOp a.eval o).run C.P w=.ok (.value v) w
theorem QRun.of_run {W:World→Prop} {o:Oper} {K:AV→Prop} (h:∃x v,BRel bs x v∧K x∧∀w,W w→(execOp a.eval o).run C.P w=.ok (.value v) w):QRun C W bs o a K:=h
theorem QRun.of_yl {W:World→Prop} {o:Oper} {K:AV→Prop} {s:Sem Value} (he:execOp a.eval o=(do pure (.value (←s)))) (h:YlC C.P bs W s K):QRun C W bs o a K:=by
 obtain ⟨x,v,h1,h2,h3⟩:=h
 refine ⟨x,v,h1,h2,fun w hw=>?_⟩
 rw [he]
 simp [h3 w hw]
theorem QRun.of_val {W:World→Prop} {o:Oper} {K:AV→Prop} (v:Value) (hk:K (.v v)) (he:∀w,(execOp a.eval o).run C.P w=.ok (.value v) w):QRun C W bs o a K:=⟨.v v,v,rfl,hk,fun w _=>he w⟩
theorem valR_sound (hF : FC ds p z bs S a) {anc : List (Nat×Bool)} (ha : ∀q∈anc, a.tmps.getD q.1 undef=.bool q.2) (hG : ∀g, G=some g→g=true) {o : Oper} {w : World} (hW : loadO C o=true→WC ds p zb H0 w0 bs S.bx S.H w)
  {K:AV→Prop} (hc:callO o=false) (h:valA C G S anc o K):QRun C (fun w=>loadO C o=true→WC ds p zb H0 w0 bs S.bx S.H w) bs o a K:=by
 have ev:=evA_sound hF ha
 obtain ⟨dst,op,type,pos,after,guard⟩:=o
 unfold valA at h
 split at h
 ·rename_i x heq
  simp only at heq; subst heq
  exact .of_run ⟨_,_,ev x,h,fun w _=>by simp [execOp]⟩
 ·rename_i x heq
  simp only at heq; subst heq
  exact .of_run ⟨_,_,ev x,h,fun w _=>by simp [execOp]⟩
 ·rename_i c x y heq
  simp only at heq; subst heq
  obtain ⟨av,v,h1,h2,g,h3,h4⟩:=pickA_sound hF ha h
  exact .of_run ⟨av,v,h1,h2,fun w _=>by subst h4; cases g<;>simp [execOp,h3,asBool]⟩
 ·rename_i op t x y yt heq
  simp only at heq; subst heq
  exact .of_yl rfl (binF_sound hG (ev x) (ev y) h).c
 ·rename_i t x heq
  simp only at heq; subst heq
  split at h
  ·rename_i b hb
   have hv:=asB_some hb (ev x)
   exact .of_val _ h fun w=>by simp [execOp,hv,Op.unary]
  ·exact h.elim
 ·rename_i t x heq
  simp only at heq; subst heq
  split at h
  ·rename_i k n hx
   have hv:=ev x
   rw [hx] at hv
   have hv:a.eval x=.int k n:=hv
   exact .of_val _ h fun w=>by simp [execOp,hv,Op.unary,Op.intArith]
  ·exact h.elim
 ·rename_i src dst' x heq
  simp only at heq; subst heq
  have hv:=ev x
  split at h
  ·rename_i d k k' n h1 h2 hx
   rw [hx] at hv
   have hv:a.eval x=.int k' n:=hv
   exact .of_val _ h fun w=>by
    simp [execOp,hv,convert,run_underlying h1,run_underlying h2,Conv.intToInt]
  ·rename_i s h1 h2 hx
   rw [hx] at hv
   have hv:a.eval x=.string s:=hv
   exact .of_val _ h fun w=>by simp [execOp,hv,convert,run_underlying h1,run_underlying h2]
  ·rename_i e A n c h1 h2 hx
   rw [hx] at hv
   have hv:a.eval x=.slice A n c:=hv
   split at h
   ·rename_i hu
    obtain ⟨st,g1,g2⟩:=h
    have g1:=ob_of hG g1
    refine .of_run ⟨.v (.string st),.string st,rfl,g2,fun w' hw'=>?_⟩
    have hw':=hw' (by simp [loadO,isSlT,h1])
    have hr:=bytes_run (src:=src) (dst:=dst') (c:=c) hw'.keeps.holds h1 hu h2 g1
    simp only [execOp,hv]
    rw [Sem.run_bind,hr]
    simp only [Result.andThen_ok,Sem.run_pure]
   ·exact h.elim
  ·exact h.elim
 ·rename_i st x f heq
  simp only at heq; subst heq
  have hv:=ev x
  split at h
  ·rename_i fd hfd
   have hst:∃fs,C.P.underlying st=some (.struct fs)∧fs[f]?=some fd:=by
    unfold fieldOf at hfd
    split at hfd
    ·exact ⟨_,by assumption,hfd⟩
    ·cases hfd
   obtain ⟨fs,hu,hf⟩:=hst
   split at h
   ·exact h.elim
   ·rename_i hsz
    have hsz:C.P.cellsOf fd.type≠0:=fun e=>by rw [e] at hsz; cases hsz
    have hinfo:(C.P.info? fd.type).isSome=true:=by
     cases hi:C.P.info? fd.type with
     | none=>exact absurd (by simp [Program.cellsOf,hi]) hsz
     | some i=>rfl
    have hfp:∀(ad:Addr) (w:World),(fieldPlace ad fd).run C.P w=.ok (ad.add fd.offset) w:=fun ad w=>by simp [fieldPlace,size_run hinfo w,hsz]
    split at h
    ·rename_i i off hx
     rw [hx] at hv
     obtain ⟨b,hb,hv⟩:=hv
     refine .of_run ⟨.loc i (off+fd.offset),.pointer (some ⟨b,off+fd.offset,none⟩),⟨b,hb,rfl⟩,h,fun w _=>?_⟩
     simp [execOp,Instr.fieldAt,run_underlying hu,hf,hv,Instr.sureAddr,hfp,addr_add]
    ·rename_i ad hx
     rw [hx] at hv
     have hv:a.eval x=.pointer (some ad):=hv
     exact .of_val _ h fun w=>by simp [execOp,Instr.fieldAt,run_underlying hu,hf,hv,Instr.sureAddr,hfp]
    ·exact h.elim
  ·exact h.elim
 ·rename_i st x f heq
  simp only at heq; subst heq
  have hv:=ev x
  split at h
  ·rename_i fd cs hfd hx
   rw [hx] at hv
   have hv:a.eval x=.agg cs:=hv
   have hst:∃fs,C.P.underlying st=some (.struct fs)∧fs[f]?=some fd:=by
    unfold fieldOf at hfd
    split at hfd
    ·exact ⟨_,by assumption,hfd⟩
    ·cases hfd
   obtain ⟨fs,hu,hf⟩:=hst
   split at h
   ·rename_i hag hinfo
    rw [Bool.and_eq_true] at hinfo
    obtain ⟨hinfo,hd⟩:=hinfo
    obtain ⟨d,hd⟩:=Option.isSome_iff_exists.1 hd
    refine .of_val _ h fun w=>?_
    have e1:=isAgg_run hd w
    rw [hag] at e1
    simp [execOp,Instr.field,run_underlying hu,hf,hv,asAgg,part,e1,size_run hinfo w]
    apply Array.ext'
    simp [List.take_drop]
   ·rename_i hag hinfo
    split at h
    ·rename_i y hy
     rw [nthO_eq] at hy
     have hy':cs[fd.offset]?=some y:=by simpa using hy
     rw [Bool.and_eq_true] at hinfo
     obtain ⟨d,hd⟩:=Option.isSome_iff_exists.1 hinfo.2
     refine .of_val _ h fun w=>?_
     have e1:=isAgg_run hd w
     rw [hag] at e1
     simp [execOp,Instr.field,run_underlying hu,hf,hv,asAgg,part,e1,hy']
    ·exact h.elim
   ·exact h.elim
  ·exact h.elim
 ·rename_i t x i heq
  simp only at heq; subst heq
  have hv:=ev x
  have hvi:=ev i
  split at h
  ·rename_i e A n c k ix hu hx hi
   rw [hx] at hv
   rw [hi] at hvi
   have hv:a.eval x=.slice A n c:=hv
   have hvi:a.eval i=.int k ix:=hvi
   split at h
   ·rename_i hinfo
    obtain ⟨ad,h1,h2⟩:=h
    obtain ⟨h1,h3,h4⟩:=ob_of hG h1
    exact .of_val _ h2 fun w=>by simp [execOp,Instr.indexAt,hvi,hv,asIntOf,run_underlying hu,h1,h3,h4,size_run hinfo w]
   ·exact h.elim
  ·rename_i n e ad k ix hu hx hi
   rw [hx] at hv
   rw [hi] at hvi
   have hv:a.eval x=.pointer (some ad):=hv
   have hvi:a.eval i=.int k ix:=hvi
   split at h
   ·rename_i hinfo
    obtain ⟨h1,h2⟩:=h
    obtain ⟨h3,h4⟩:=ob_of hG h1
    exact .of_val _ h2 fun w=>by simp [execOp,Instr.indexAt,hvi,hv,asIntOf,run_underlying hu,Instr.sureAddr,h3,h4,size_run hinfo w]
   ·exact h.elim
  ·exact h.elim
 ·rename_i t x i heq
  simp only at heq; subst heq
  have hv:=ev x
  have hvi:=ev i
  split at h
  ·rename_i s k ix hu hx hi
   rw [hx] at hv
   rw [hi] at hvi
   have hv:a.eval x=.string s:=hv
   have hvi:a.eval i=.int k ix:=hvi
   obtain ⟨b,h1,h2⟩:=h
   obtain ⟨h3,h4⟩:=ob_of hG h1
   refine .of_val _ h2 fun w=>?_
   have hlt:ix.toNat<s.size:=by
    rcases Nat.lt_or_ge ix.toNat s.data.toList.length with hh|hh
    ·simpa using hh
    ·rw [List.getElem?_eq_none hh] at h4; cases h4
   have hr:=run_index_string (P:=C.P) w t s k ix hu
   rw [dif_pos ⟨h3,by omega⟩] at hr
   have hb:s[ix.toNat]'hlt=b:=by
    have h5:s.data.toList[ix.toNat]?=some (s.data.toList[ix.toNat]'(by simpa using hlt)):=List.getElem?_eq_getElem _
    rw [h5] at h4
    exact Option.some.inj h4
   rw [hb] at hr
   simp only [execOp,hv,hvi]
   rw [Sem.run_bind,hr]
   simp only [Result.andThen_ok,Sem.run_pure]
  ·rename_i n e cs k ix hu hx hi
   rw [hx] at hv
   rw [hi] at hvi
   have hv:a.eval x=.agg cs:=hv
   have hvi:a.eval i=.int k ix:=hvi
   split at h
   ·rename_i l hl hinfo h2
    rw [Bool.and_eq_true] at hinfo
    obtain ⟨d,hd⟩:=Option.isSome_iff_exists.1 hinfo.2
    have h2:aggT C.P e=true∨C.P.cellsOf e=1:=by
     rw [Bool.or_eq_true] at h2
     exact h2.imp id Nat.eq_of_beq_eq_true
    obtain ⟨r,h3,h4⟩:=(exV_iff _ _).1 h
    have h3:=ob_of hG h3
    refine .of_val _ h4 fun w=>?_
    have hr:=index_arr_run (k:=k) hu hd hinfo.1 h2 h3 (by rw [enc_length,shp_length hl]) w
    simp only [execOp,hv,hvi]
    rw [Sem.run_bind,hr]
    simp only [Result.andThen_ok,Sem.run_pure]
   ·exact h.elim
  ·exact h.elim
 ·rename_i t x lo hi heq
  simp only at heq; subst heq
  split at h
  ·rename_i hok
   refine .of_yl rfl (sliceA_sound hG (ev x) (vlo:=lo.map a.eval) (vhi:=hi.map a.eval) (opt_sound hF ha lo) (opt_sound hF ha hi) h (fun e he=>?_)).c
   simpa [sliceOk,he] using hok
  ·exact h.elim
 ·rename_i t x lo hi mx heq
  simp only at heq; subst heq
  split at h
  ·rename_i hok
   refine .of_yl rfl (slice3A_sound hG (ev x) (vlo:=lo.map a.eval) (opt_sound hF ha lo) (ev hi) (ev mx) h (fun e he=>?_)).c
   simpa [sliceOk,he] using hok
  ·exact h.elim
 ·rename_i x i heq
  simp only at heq; subst heq
  have hv:=ev x
  split at h
  ·rename_i vs hx
   rw [hx] at hv
   have hv:a.eval x=.tuple vs:=hv
   split at h
   ·rename_i y hy
    rw [nthO_eq] at hy
    have hy':vs[i]?=some y:=by simpa using hy
    exact .of_val _ h fun w=>by simp [execOp,Instr.extract,hv,hy']
   ·exact h.elim
  ·exact h.elim
 ·rename_i t x heq
  simp only at heq; subst heq
  obtain ⟨ad,h1,h2⟩:=loadA_sound hG (hW rfl) (ev x) h
  refine .of_yl (s:=loadVar t ad) ?_ (let ⟨x,v,q1,q2,q3⟩:=h2; ⟨x,v,q1,q2,fun w hw=>q3 w (hw rfl)⟩)
  simp [execOp,h1,Instr.loadAt,Instr.sureAddr]
 ·rename_i x heq
  simp only at heq; subst heq
  have hv:=ev x
  split at h
  ·rename_i i off hx
   rw [hx] at hv
   obtain ⟨b,hb,hv⟩:=hv
   exact .of_run ⟨.loc i off,.pointer (some ⟨b,off,none⟩),⟨b,hb,rfl⟩,h,fun w _=>by simp [execOp,hv]⟩
  ·rename_i q hx
   rw [hx] at hv
   have hv:a.eval x=.pointer q:=hv
   obtain ⟨ad,h1,h2⟩:=h
   have h1:=ob_of hG h1
   subst h1
   exact .of_val _ h2 fun w=>by simp [execOp,hv]
  ·rename_i g first cap hx
   rw [hx] at hv
   have hv:a.eval x=.func (.func g) first cap:=hv
   exact .of_val _ h fun w=>by simp [execOp,hv]
  ·exact h.elim
 ·rename_i t ps heq
  simp only at heq; subst heq
  split at h
  ·rename_i l hl
   have hp:=parts_sound hF ha ps.toList l hl
   split at h
   ·rename_i cs hcs
    refine .of_val _ h fun w=>?_
    have hr:=run_build (P:=C.P) w t (ps.map fun (i,x)=>(i,a.eval x)) cs (by
     have:(ps.map fun (i,x)=>(i,a.eval x)).toList=l:=by rw [←hp]; simp
     rw [this]; exact hcs)
    simp only [execOp]
    rw [Sem.run_bind,hr]
    rfl
   ·exact h.elim
  ·exact h.elim
 ·rename_i fn first cap heq
  simp only at heq; subst heq
  split at h
  ·rename_i l1 l2 h1 h2
   have e1:=evAll_sound hF ha first.toList l1 h1
   have e2:=evAll_sound hF ha cap.toList l2 h2
   have e1':first.map a.eval=⟨l1⟩:=by apply Array.ext'; simpa using e1
   have e2':cap.map a.eval=⟨l2⟩:=by apply Array.ext'; simpa using e2
   exact .of_val _ h fun w=>by simp [execOp,Instr.makeFunc,e1',e2']
  ·exact h.elim
 ·rename_i b args ats heq
  simp only at heq; subst heq
  obtain ⟨hlen,hget⟩:=evAll_get hF ha args.toList
  refine .of_run ?_
  obtain ⟨x,v,h1,h2,h3⟩:=bltA_sound (bs:=bs) (ats:=ats) (ty:=type) (cs:=args.map fun|.const _=>true|_=>false) (vs:=args.map a.eval) (xs:=evAll S anc args.toList) (fun j x hx=>by
   obtain ⟨y,hy,hb⟩:=hget j x hx
   exact ⟨y,by simpa using hy,hb⟩) (by simp [hlen]) h
  exact ⟨x,v,h1,h2,fun w _=>by rw [BigFrame.execOp_builtin]; exact h3 w⟩
 ·rename_i fo args ats heq
  simp only at heq; subst heq
  simp [callO] at hc
 ·exact h.elim
theorem val_stepR (hF : FC ds p z bs S a) {ops : Array Oper} {o : Oper} {K : AS→Prop} (he : isEff C o=false) (hc : callO o=false) {w : World} (hW : loadO C o=true→WC ds p zb H0 w0 bs S.bx S.H w) (h : vcOp C p ops.toList o K S) :
  ∃v S',YieldsIf C.P ops (fun w=>loadO C o=true→WC ds p zb H0 w0 bs S.bx S.H w) o v a∧FC ds p z bs S' (a.put o.dst v)∧S'.bx=S.bx∧S'.H=S.H∧K S':=by
 unfold vcOp at h
 split at h
 ·rename_i hg
  unfold vcRun at h
  rw [he] at h
  obtain ⟨x,v,h1,h2,h3⟩:=valR_sound (anc:=[]) hF (by simp) (by simp) hW hc h
  obtain ⟨S',f⟩:=finish_sound hF h1 h2
  exact ⟨v,S',.inl ⟨by simp [Region.wanted,hg],h3⟩,f⟩
 ·rename_i jw hg
  split at h
  ·rename_i s hs
   have hw:=wanted_iff hg hs a.tmps
   split at h
   ·rename_i b hb
    have hsl:=hF.slots s
    rw [hb] at hsl
    have hsl:a.tmps.getD s undef=.bool b:=hsl
    split at h
    ·rename_i hq
     have:jw.2=b:=by cases h1:jw.2<;>cases b<;>simp_all [bq]
     subst this
     unfold vcRun at h
     rw [he] at h
     obtain ⟨x,v,h1,h2,h3⟩:=valR_sound hF (ancs_sound hF 8 s jw.2 hsl) (by simp) hW hc h
     obtain ⟨S',f⟩:=finish_sound hF h1 h2
     exact ⟨v,S',.inl ⟨hw.2 hsl,h3⟩,f⟩
    ·rename_i hq
     obtain ⟨S',f⟩:=finish_sound (v:=undef) hF (x:=.any) trivial h
     refine ⟨undef,S',.inr ⟨?_,rfl⟩,f⟩
     cases hww:Region.wanted o (yielded ops a.tmps) with
     | true =>
      have:=hw.1 hww
      rw [hsl] at this; injection this with this; subst this
      cases h1:jw.2<;>rw [h1] at hq<;>cases hq
     | false=>rfl
   ·split at h
    ·by_cases hsv:a.tmps.getD s undef=.bool jw.2
     ·obtain ⟨x,v,h1,h2,h3⟩:=valR_sound hF (ancs_sound hF 8 s jw.2 hsv) (fun g hgg=>gB_sound hF 8 s jw.2 g hgg hsv) hW hc h
      obtain ⟨S',f⟩:=finishG_sound hF ⟨fun _=>h1,fun hne=>absurd hsv hne⟩ h2
      exact ⟨v,S',.inl ⟨hw.2 hsv,h3⟩,f⟩
     ·obtain ⟨x,hx⟩:=valA_any h
      obtain ⟨S',f⟩:=finishG_sound hF ⟨fun e=>absurd e hsv,fun _=>rfl⟩ hx
      refine ⟨undef,S',.inr ⟨?_,rfl⟩,f⟩
      cases hww:Region.wanted o (yielded ops a.tmps) with
      | true=>exact absurd (hw.1 hww) hsv
      | false=>rfl
    ·rename_i h1 _; rw [he] at h1; cases h1
    ·rename_i h1 _; rw [he] at h1; cases h1
  ·exact h.elim
def storedAt (S:AS) (o:Oper) (i:Nat):Bool:=match o.op with
 | .store _ a _=>(match evA S [] a with|.loc k _=>Nat.beq k i|_=>false)
 | _=>false
def KeepB (o:Oper) (S:AS) (bx:List (List AV)):Prop:=∀i cs,S.bx[i]?=some cs→∃cs',bx[i]?=some cs'∧cs'.length=cs.length∧(storedAt S o i=false→cs'=cs)
theorem KeepB.same {o:Oper} {bx:List (List AV)} (h:bx=S.bx):KeepB o S bx:=fun i cs hi=>⟨cs,by rw [h]; exact hi,rfl,fun _=>rfl⟩
theorem KeepB.app {o:Oper} {bx l:List (List AV)} (h:bx=S.bx++l):KeepB o S bx:=fun i cs hi=>⟨cs,by
 rw [h,List.getElem?_append_left (by
  rcases Nat.lt_or_ge i S.bx.length with h|h
  ·exact h
  ·rw [List.getElem?_eq_none h] at hi; cases hi)]
 exact hi,rfl,fun _=>rfl⟩
theorem appC.mono {e : TypeId} {sz bytes : Nat} {H : Heap} {A : Option Addr} {n c : Nat} {new : List Value} {m : Nat} {K K' : Option Addr→Nat→Nat→Heap→Prop} (k : ∀A n c H, K A n c H→K' A n c H)
  (h:appC e sz bytes H A n c new m K):appC e sz bytes H A n c new m K':=by
 obtain ⟨old,h1,h2,h3,h4,h5,h6,h7,h8⟩:=h.out
 refine ⟨⟨old,h1,h2,h3,h4,h5,h6,fun hc=>?_,fun hc b cap rest x1 x2 x3=>k _ _ _ _ (h8 hc b cap rest x1 x2 x3)⟩⟩
 rcases h7 hc with ⟨q1,q2⟩|⟨ad,cur,T,q1,q2,q3,q4,q5⟩
 ·exact .inl ⟨q1,k _ _ _ _ q2⟩
 ·exact .inr ⟨ad,cur,T,q1,q2,q3,q4,k _ _ _ _ q5⟩
theorem appS.mono {e : TypeId} {sz bytes : Nat} {H : Heap} {A : Option Addr} {n c : Nat} {B : Option Addr} {m : Nat} {K K' : Option Addr→Nat→Nat→Heap→Prop} (k : ∀A n c H, K A n c H→K' A n c H)
  (h:appS e sz bytes H A n c B m K):appS e sz bytes H A n c B m K':=by
 obtain ⟨new,h1,h2,h3⟩:=h.out
 exact ⟨⟨new,h1,h2,h3.mono k⟩⟩
theorem newBox_mono {o:Oper} {d t:Nat} {l:List AV} {K K':AV→AS→Prop} (k:∀x S',K x S'→KeepB o S S'.bx→K' x S') (h:newBox C S d t l K):newBox C S d t l K':=by
 unfold newBox at h ⊢
 split at h
 ·split at h
  ·exact fun b hb=>hup_mono (fun _ h=>k _ _ h (.same rfl)) (h b hb)
  ·exact h.elim
 ·exact k _ _ h (.app rfl)
theorem effA_mono {o:Oper} {K K':AV→AS→Prop} (k:∀x S',K x S'→KeepB o S S'.bx→K' x S') (h:effA C p S o K):effA C p S o K':=by
 obtain ⟨dst,op,type,pos,after,guard⟩:=o
 have sem:∀{t:TypeId} {s:Sem Value},semE C S t s K→semE C S t s K':=by
  intro t s h
  unfold semE at h ⊢
  split at h
  ·refine ⟨fun w hw=>?_⟩
   obtain ⟨v,H',w',hr,hk,hv⟩:=h.run w hw
   obtain ⟨r,e1,e2⟩:=(exV_iff _ _).1 hv
   exact ⟨v,H',w',hr,hk,(exV_iff _ _).2 ⟨r,e1,k _ _ e2 (.same rfl)⟩⟩
  ·exact h.elim
 have semu:∀{s:Sem Unit},semU C S s K→semU C S s K':=by
  intro s h
  refine ⟨fun w hw=>?_⟩
  obtain ⟨v,H',w',hr,hk,hv⟩:=Sm.run h w hw
  exact ⟨v,H',w',hr,hk,k _ _ hv (.same rfl)⟩
 unfold effA at h ⊢
 split at h
 ·exact fun b hb=>hup_mono (fun _ h=>k _ _ h (.same rfl)) (h b hb)
 ·split at h
  ·exact sem h
  ·exact h.elim
 ·split at h
  ·exact sem h
  ·exact h.elim
 ·split at h
  ·exact semu h
  ·exact h.elim
 ·split at h
  ·exact semu h
  ·exact h.elim
 ·split at h
  ·exact sem h
  ·exact h.elim
 ·split at h
  ·refine ⟨fun w hw=>?_⟩
   obtain ⟨v,H',w',hr,hk,hv⟩:=h.run w hw
   exact ⟨v,H',w',hr,hk,k _ _ hv (.same rfl)⟩
  ·exact h.elim
 ·split at h
  ·exact newBox_mono k h
  ·exact h.elim
 ·split at h
  ·split at h
   ·exact newBox_mono k h
   ·exact h.elim
  ·exact h.elim
 ·rename_i t x y heq
  simp only at heq; subst heq
  unfold storeA at h ⊢
  split at h
  ·split at h
   ·split at h
    ·rename_i i off ha
     split at h
     ·rename_i old ho
      split at h
      ·rename_i hb _
       refine k _ _ h fun j cs hj=>?_
       by_cases hij:i=j
       ·subst hij
        rw [ho] at hj; cases hj
        have hlt:=(List.getElem?_eq_some_iff.1 ho).1
        refine ⟨_,by simp [hlt]; rfl,?_,fun hs=>?_⟩
        ·have:=Nat.le_of_ble_eq_true hb
         simp [spliceL]; omega
        ·have:Nat.beq i i=true:=Nat.beq_refl i
         simp [storedAt,ha] at hs
       ·exact ⟨cs,by simp [hij,hj],rfl,fun _=>rfl⟩
      ·exact h.elim
     ·exact h.elim
    ·split at h
     ·obtain ⟨c,T,h1,h2,h3,h4⟩:=h
      exact ⟨c,T,h1,h2,h3,hup_mono (fun _ h=>k _ _ h (.same rfl)) h4⟩
     ·exact h.elim
    ·exact h.elim
   ·exact h.elim
  ·exact h.elim
 ·split at h
  ·split at h
   ·split at h
    ·split at h
     ·exact fun b hb=>hup_mono (fun _ h=>k _ _ h (.same rfl)) (h b hb)
     ·exact k _ _ h (.app rfl)
    ·exact h.elim
   ·exact h.elim
  ·exact h.elim
 ·split at h
  ·unfold appA at h ⊢
   split at h
   ·split at h
    ·split at h
     ·split at h
      ·split at h
       ·split at h
        ·split at h
         ·exact appC.mono (fun _ _ _ _ q=>k _ _ q (.same rfl)) h
         ·exact h.elim
        ·exact h.elim
       ·split at h
        ·exact appS.mono (fun _ _ _ _ q=>k _ _ q (.same rfl)) h
        ·exact h.elim
       ·split at h
        ·exact appC.mono (fun _ _ _ _ q=>k _ _ q (.same rfl)) h
        ·exact h.elim
       ·exact h.elim
      ·exact h.elim
     ·exact h.elim
    ·exact h.elim
   ·exact h.elim
  ·exact h.elim
 ·split at h
  ·split at h
   ·unfold callE at h ⊢
    split at h
    ·split at h
     ·refine h.mono fun v H' hv=>?_
      obtain ⟨r,e1,e2⟩:=(exV_iff _ _).1 hv
      exact (exV_iff _ _).2 ⟨r,e1,k _ _ e2 (.same rfl)⟩
     ·exact h.elim
    ·exact h.elim
   ·exact h.elim
  ·unfold callD at h ⊢
   split at h
   ·obtain ⟨g,all,hfn,hT⟩:=h
    refine ⟨g,all,hfn,hT.mono fun v H' hv=>?_⟩
    obtain ⟨r,e1,e2⟩:=(exV_iff _ _).1 hv
    exact (exV_iff _ _).2 ⟨r,e1,k _ _ e2 (.same rfl)⟩
   ·exact h.elim
  ·exact h.elim
 ·exact h.elim
theorem storedAt_ok {S:AS} {o:Oper} (h:gOk o=true) (i:Nat):storedAt S o i=false:=by
 unfold gOk at h; unfold storedAt
 split at h
 ·cases h
 ·rename_i hne
  split
  ·rename_i t a x heq; exact absurd heq (hne t a x)
  ·rfl
theorem spl_mono {bx0:List (List AV)} {T T' Fl Fl':AS→Prop}:∀(f:Nat) {S:AS} {s:Nat} {w:Bool},S.bx=bx0→(∀S',S'.bx=bx0→T S'→T' S')→(∀S',S'.bx=bx0→Fl S'→Fl' S')→spl f S s w T Fl→spl f S s w T' Fl'
 | 0,_,_,_,_,_,_,h=>h.elim
 | f+1,S,s,w,e,k1,k2,h=>by
  unfold spl at h ⊢
  split at h
  ·split at h
   ·exact k1 _ e h
   ·exact k2 _ e h
  ·exact ⟨fun g=>k1 _ e (h.1 g),fun g=>k2 _ e (h.2 g)⟩
  ·split at h
   ·exact spl_mono (T:=fun S'=>spl f S' s w T Fl) (T':=fun S'=>spl f S' s w T' Fl') f e (fun S' e' h'=>spl_mono f e' k1 k2 h') k2 h
   ·exact h.elim
  ·exact h.elim
theorem finish_and {o:Oper} {x:AV} {K:AS→Prop} {R:List (List AV)→Prop} (h:finish p o x S K) (r:R S.bx):finish p o x S (fun S'=>K S'∧R S'.bx):=by
 unfold finish at h ⊢
 split at h
 ·exact ⟨h,r⟩
 ·split at h
  ·exact ⟨h,r⟩
  ·exact h.elim
theorem eff_step2 (hF : FC ds p z bs S a) {w : World} (hW : WC ds p zb H0 w0 bs S.bx S.H w) {ops : Array Oper} {o : Oper} {K : AS→Prop} (he : isEff C o=true) (h : vcOp C p ops.toList o K S) {next : Act→World→Prop}
  (hn:∀v w' bs' S',bs <+: bs'→FC ds p z bs' S' (a.put o.dst v)→WC ds p zb H0 w0 bs' S'.bx S'.H w'→K S'→KeepB o S S'.bx→next (a.put o.dst v) w') :
  (Region.wanted o (yielded ops a.tmps)=true→o.wp C.P a w next Q)∧(Region.wanted o (yielded ops a.tmps)=false→next (a.put o.dst undef) w):=by
 refine eff_step (ops:=ops) (K:=fun S'=>K S'∧KeepB o S S'.bx) hF hW he ?_ fun v w' bs' S' h1 h2 h3 h4=>hn v w' bs' S' h1 h2 h3 h4.1 h4.2
 unfold vcOp at h ⊢
 split at h
 ·unfold vcRun at h ⊢
  rw [he] at h ⊢
  exact effA_mono (fun x S' h1 h2=>finish_and h1 h2) h
 ·split at h
  ·split at h
   ·split at h
    ·unfold vcRun at h ⊢
     rw [he] at h ⊢
     exact effA_mono (fun x S' h1 h2=>finish_and h1 h2) h
    ·exact finish_and h (.same rfl)
   ·rw [he] at h ⊢
    split at h
    ·rename_i hx; cases hx
    ·rename_i hok
     refine spl_mono 4 rfl (fun S' e h=>?_) (fun S' e h=>?_) h
     ·exact effA_mono (fun x S'' h1 h2 => finish_and h1 (fun i cs hi => by
       obtain ⟨cs',q1,q2,q3⟩:=h2 i cs (by rw [e]; exact hi)
       exact ⟨cs',q1,q2,fun _=>q3 (storedAt_ok hok i)⟩)) h
     ·exact finish_and h (.same e)
    ·exact h.elim
  ·exact h.elim
def Wk (bl:List Nat) (bx0 bx:List (List AV)):Prop:=∀i cs,bx0[i]?=some cs→∃cs',bx[i]?=some cs'∧cs'.length=cs.length∧(hasN bl i=false→cs'=cs)
theorem blank_get {bl:List Nat}:∀(l:List (List AV)) (k i:Nat),(blankB bl k l)[i]?=(l[i]?).map fun cs=>match hasN bl (k+i) with|true=>cs.map fun _=>.any|false=>cs
 | [],k,i=>by simp [blankB]
 | x::l,k,0=>by simp [blankB]; rfl
 | x::l,k,i+1=>by
  simp only [blankB,List.getElem?_cons_succ]
  rw [blank_get l (k+1) i,show k+1+i=k+(i+1) by omega]
theorem blank_len {bl:List Nat} (l:List (List AV)) (k:Nat):(blankB bl k l).length=l.length:=by
 induction l generalizing k with
 | nil=>rfl
 | cons x l ih=>simp [blankB,ih]
theorem BRel.weak {bs bs':List Nat} (hp:bs <+: bs') {x:AV} {y:Value} (hx:∀j off,(x=.loc j off∨∃n c,x=.lsl j off n c)→j<bs.length) (h:BRel bs' x y):BRel bs x y:=by
 have get:∀j b,j<bs.length→bs'[j]?=some b→bs[j]?=some b:=fun j b hj hb=>by
  obtain ⟨t,rfl⟩:=hp
  rwa [List.getElem?_append_left hj] at hb
 cases x with
 | loc j off=>obtain ⟨b,hb,e⟩:=h; exact ⟨b,get j b (hx j off (.inl rfl)) hb,e⟩
 | lsl j off n c=>obtain ⟨b,hb,e⟩:=h; exact ⟨b,get j b (hx j off (.inr ⟨n,c,rfl⟩)) hb,e⟩
 | _=>exact h
theorem BRel.lt {bs:List Nat} {x:AV} {y:Value} (h:BRel bs x y):∀j off,(x=.loc j off∨∃n c,x=.lsl j off n c)→j<bs.length:=by
 rintro j off (rfl|⟨n,c,rfl⟩)
 ·obtain ⟨b,hb,_⟩:=h; exact (List.getElem?_eq_some_iff.1 hb).1
 ·obtain ⟨b,hb,_⟩:=h; exact (List.getElem?_eq_some_iff.1 hb).1
theorem wc_weak {bs0 : List Nat} {bx0 bx : List (List AV)} {bl : List Nat} {H Hs Hst : Heap} {w wst : World} (hst : WC ds p zb H0 w0 bs0 bx0 Hst wst) (hW : WC ds p zb H0 w0 bs bx H w) (hp : bs0 <+: bs) (hk : Wk bl bx0 bx) (hs : Sub Hs H) :
  WC ds p zb H0 w0 bs0 (blankB bl 0 bx0) Hs w:=by
 refine ⟨by rw [blank_len]; exact hst.blen,hst.nodup,fun i b cs hb hcs=>?_,fun i j hi=>hst.okf i j (by rw [blank_len] at hi; exact hi),fun i hi=>hst.lnf i (by rw [blank_len] at hi; exact hi),?_,fun D hD=>?_,hW.dn,hW.bk⟩
 ·rw [blank_get,Nat.zero_add] at hcs
  cases hx0:bx0[i]? with
  | none=>rw [hx0] at hcs; cases hcs
  | some cs0 =>
   rw [hx0] at hcs
   obtain ⟨cs',h1,h2,h3⟩:=hk i cs0 hx0
   have hb':bs[i]?=some b:=by
    obtain ⟨t,rfl⟩:=hp
    rw [List.getElem?_append_left (List.getElem?_eq_some_iff.1 hb).1]; exact hb
   obtain ⟨q1,q2,c,T,q3,q4,q5,q6,q7⟩:=hW.boxes i b cs' hb' h1
   obtain ⟨-,-,c0,T0,-,-,r5,-,-⟩:=hst.boxes i b cs0 hb hx0
   have hn:Hs b=none:=by
    cases hh:Hs b with
    | none=>rfl
    | some o=>rw [hs.sub b o hh] at q2; cases q2
   refine ⟨q1,hn,c,T,q3,?_,?_,q6,q7⟩
   ·simp only [Option.map_some,Option.some.injEq] at hcs
    subst hcs
    split
    ·simp; omega
    ·omega
   ·simp only [Option.map_some,Option.some.injEq] at hcs
    subst hcs
    intro j x hx
    split at hx
    ·rename_i hbl
     simp only [List.getElem?_map,Option.map_eq_some_iff] at hx
     obtain ⟨x0,hx0',rfl⟩:=hx
     have hj:j<c.size:=by
      have:=(List.getElem?_eq_some_iff.1 hx0').1
      omega
     exact ⟨c[j],Array.getElem?_eq_getElem hj,trivial⟩
    ·rename_i hbl
     have hbl:hasN bl i=false:=by simpa using hbl
     have e:=h3 hbl
     subst e
     obtain ⟨y,y1,y2⟩:=q5 j x hx
     obtain ⟨y0,_,z2⟩:=r5 j x hx
     exact ⟨y,y1,y2.weak hp z2.lt⟩
 ·refine ⟨hW.keeps.holds.sub hs,fun b hb e=>⟨(hW.keeps.old b hb e).1,?_⟩,hW.keeps.size,hW.keeps.tape,hW.keeps.os,hW.keeps.output⟩
  cases hh:Hs b with
  | none=>rfl
  | some o=>have:=(hW.keeps.old b hb e).2; rw [hs.sub b o hh] at this; cases this
 ·obtain ⟨d1,d2,d3⟩:=hW.dq D hD
  refine ⟨d1,?_,d3⟩
  cases hh:Hs D with
  | none=>rfl
  | some o=>rw [hs.sub D o hh] at d2; cases d2
theorem nthL_eq:∀(l:List Oper) (i:Nat),nthL l i=l[i]?
 | [],i=>by simp [nthL]
 | o::l,0=>by simp [nthL]
 | o::l,i+1=>by simp [nthL,nthL_eq l i]
theorem pickN_some {f:Nat→Bool}:∀{l:List Nat} {i:Nat},pickN f l=some i→i∈l∧f i=true
 | [],i,h=>by simp [pickN] at h
 | k::l,i,h=>by
  unfold pickN at h
  split at h
  ·rename_i hk; cases h; exact ⟨List.mem_cons_self ..,hk⟩
  ·have:=pickN_some h; exact ⟨List.mem_cons_of_mem _ this.1,this.2⟩
theorem allI_mem {q:Nat→Prop}:∀{l:List Nat},allI l q→∀i∈l,q i
 | [],_,i,h=>by cases h
 | [k],h,i,hi=>by simp at hi; subst hi; exact h
 | k::j::l,h,i,hi=>by
  have h:q k∧allI (j::l) q:=h
  rcases List.mem_cons.1 hi with rfl|hi
  ·exact h.1
  ·exact allI_mem h.2 i hi
theorem yields_weaken {P:Program} {ops:Array Oper} {T T':World→Prop} {o:Oper} {v:Value} {a:Act} (h:YieldsIf P ops T o v a) (k:∀w,T' w→T w):YieldsIf P ops T' o v a :=
 h.imp (fun ⟨h1,h2⟩=>⟨h1,fun w hw=>h2 w (k w hw)⟩) id
theorem FC.bxH (hF:FC ds p z bs S a) (bx:List (List AV)) (H:Heap):FC ds p z bs { S with bx:=bx,H:=H } a:=⟨hF.size,hF.defers,hF.slots,hF.eps,hF.zs,hF.okn⟩
theorem restL_get:∀(l:List Oper) (bs:List Bool) (i:Nat) (o:Oper),restL C l bs=true→l[i]?=some o→bs[i]?=some false→isEff C o=false
 | [],_,i,o,_,h,_=>by simp at h
 | _::_,[],i,o,_,_,h=>by simp at h
 | x::l,b::bs,0,o,h,h1,h2=>by
  simp only [restL,Bool.and_eq_true] at h
  simp at h1 h2
  subst h1; subst h2
  simpa using h.1
 | x::l,b::bs,i+1,o,h,h1,h2=>by
  simp only [restL,Bool.and_eq_true] at h
  exact restL_get l bs i o h.2 (by simpa using h1) (by simpa using h2)
theorem restL_set:∀(l:List Oper) (bs:List Bool) (i:Nat),restL C l bs=true→restL C l (bs.set i true)=true
 | [],_,i,_=>by simp [restL]
 | _::_,[],i,_=>by simp [restL]
 | x::l,b::bs,0,h=>by
  simp only [restL,Bool.and_eq_true] at h
  simp [restL,h.2]
 | x::l,b::bs,i+1,h=>by
  simp only [restL,Bool.and_eq_true] at h
  simp only [List.set_cons_succ,restL,Bool.and_eq_true]
  exact ⟨h.1,restL_set l bs i h.2⟩
theorem wpAnyH_of_quiet {P : Program} {md : Region.Mode} {ops : Array Oper} {CC S : World→Prop} {Qf : Act→Prop} {Q' : Exit→Act→World→Prop} (hS : ∀w, CC w→S w) (hQ : ∀a w, CC w→Qf a→Q' .normal a w) : ∀(fuel : Nat) (listed : Array Bool) (a : Act) (w : World), CC w →
  wpAnyQ P md ops CC Qf fuel listed a→wpAnyH P md ops Q' S fuel listed a w
 | 0,_,_,_,hw,h=>⟨h.1,hQ _ _ hw h.2⟩
 | fuel+1,_,_,_,hw,h=>⟨fun h0=>hQ _ _ hw (h.1 h0),fun i hi=>wpOp_of_qOp hw (fun a' w' hw' h'=>⟨hS w' hw',wpAnyH_of_quiet hS hQ fuel _ a' w' hw' h'⟩) (h.2 i hi)⟩
theorem rest_sound {ops : Array Oper} {K : AS→Prop} {bs : List Nat} {bx : List (List AV)} {H : Heap} {w : World} (hW : WC ds p zb H0 w0 bs bx H w) {Qf : Act→Prop} (hsel : Region.noSelect ops=true) :
  ∀(fuel:Nat) (listed:Array Bool) {S:AS} {a:Act},vcRest C p ops K fuel listed S→restL C ops.toList listed.toList=true→FC ds p z bs S a→S.bx=bx→S.H=H →
   (∀S' a',FC ds p z bs S' a'→S'.bx=bx→S'.H=H→K S'→Qf a')→wpAnyQ C.P .any ops (WC ds p zb H0 w0 bs bx H) Qf fuel listed a
 | 0,listed,S,a,h,hr,hF,e1,e2,hQ=>by
  unfold vcRest at h
  split at h
  ·rename_i hrd; exact ⟨hrd,hQ S a hF e1 e2 h⟩
  ·exact h.elim
 | fuel+1,listed,S,a,h,hr,hF,e1,e2,hQ=>by
  unfold vcRest at h
  split at h
  ·rename_i hrd; exact ⟨fun _=>hQ S a hF e1 e2 h,by rw [hrd]; simp⟩
  ·rename_i r rs hrd
   split at h
   ·rename_i i hi
    split at h
    ·rename_i o ho
     have hoi:ops[i]?=some o:=by rw [nthL_eq] at ho; simpa using ho
     have hm:=(pickN_some hi)
     have hmf:=hm.2
     simp only [mayFirst,Bool.and_eq_true] at hmf
     obtain ⟨⟨h4,h5⟩,h6⟩:=hmf
     have hrdy:i∈Region.ready .any ops listed:=by simpa using h5
     have hun:=(mem_ready.1 hrdy).1
     have hun':listed.toList[i]?=some false:=by
      rcases Nat.lt_or_ge i listed.size with h'|h'
      ·simp [h'] at hun ⊢; exact hun
      ·simp [Array.getD,Nat.not_lt.2 h'] at hun
     have he:=restL_get ops.toList listed.toList i o hr (by simpa using hoi) hun'
     subst e1; subst e2
     obtain ⟨h1,h2⟩:=val_step hF hW he h
     have go:∀v S',YieldsIn C.P ops (WC ds p zb H0 w0 bs S.bx S.H) o v a→FC ds p z bs S' (a.put o.dst v)→S'.bx=S.bx→S'.H=S.H→vcRest C p ops K fuel (listed.setIfInBounds i true) S'→wpAnyQ C.P .any ops (WC ds p zb H0 w0 bs S.bx S.H) Qf (fuel+1) listed a:=by
      intro v S' hy f1 f2 f3 f4
      exact wpAnyQ_first hoi (Region.noSelect_spec hsel) fuel listed a (Region.free_spec hoi h4) hrdy hy
       (rest_sound hW hsel fuel _ f4 (by simpa using restL_set ops.toList listed.toList i hr) f1 f2 f3 hQ)
     cases hw:Region.wanted o (yielded ops a.tmps) with
     | true =>
      obtain ⟨v,q1,S',f1,f2,f3,f4⟩:=h1 hw
      exact go v S' (.inl ⟨hw,q1⟩) f1 f2 f3 f4
     | false =>
      obtain ⟨S',f1,f2,f3,f4⟩:=h2 hw
      exact go undef S' (.inr ⟨hw,rfl⟩) f1 f2 f3 f4
    ·exact h.elim
   ·exact h.elim
theorem canRest_sel {ops:Array Oper} {fuel:Nat} {listed:Array Bool} {r:Nat} {rs:List Nat} (hr:Region.ready .any ops listed=r::rs) (h:canRest ops (fuel+1) listed=true):Region.noSelect ops=true:=by
 unfold canRest at h
 rw [hr] at h
 simp only at h
 split at h
 ·rename_i i hi
  have:=(pickN_some hi).2
  simp only [mayFirst,Bool.and_eq_true] at this
  exact this.2
 ·cases h
theorem any_sound {ops : Array Oper} {d : DS} {Hs Hst : Heap} {wst : World} {bs0 : List Nat} {bx0 : List (List AV)} {K : AS → Prop} (hst : WC ds p zb H0 w0 bs0 bx0 Hst wst) (hpub : d.pub = false → ∀ H, Sub Hs H)
    (hQp:∀c a w,¬Q (.panic c) a w) (hQ:∀bs' S' a' w',bs0 <+: bs'→FC ds p z bs' S' a'→WC ds p zb H0 w0 bs' S'.bx S'.H w'→K S'→Q .normal a' w') :
    ∀(fuel:Nat) (ph:Bool) (listed:Array Bool) (S:AS) (a:Act) (w:World) (bs:List Nat),vcAny C p ops d Hs bx0.length K fuel ph listed S→FC ds p z bs S a→WC ds p zb H0 w0 bs S.bx S.H w→bs0 <+: bs→Wk d.bl bx0 S.bx→Sub Hs S.H →
      (ph=true→bs=bs0∧S.bx=bx0)→wpAnyH C.P .any ops Q (WC ds p zb H0 w0 bs0 (blankB d.bl 0 bx0) Hs) fuel listed a w:=by
  intro fuel
  induction fuel with
  | zero =>
    intro ph listed S a w bs h hF hW hp hk hs hph
    unfold vcAny at h
    split at h
    · rename_i hr
      exact ⟨hr,hQ bs S a w hp hF hW h⟩
    · exact h.elim
  | succ fuel ih =>
    intro ph listed S a w bs h hF hW hp hk hs hph
    have hS:=wc_weak hst hW hp hk hs
    unfold vcAny at h
    split at h
    · rename_i hr
      exact wpAnyH_done hr (hQ bs S a w hp hF hW h) _
    · rename_i r rs hr
      split at h
      · rename_i hrest
        simp only [Bool.and_eq_true] at hrest
        refine wpAnyH_of_quiet (CC:=WC ds p zb H0 w0 bs S.bx S.H) (Qf:=fun a'=>∃S',FC ds p z bs S' a'∧S'.bx=S.bx∧S'.H=S.H∧K S') (fun w' hw'=>wc_weak hst hw' hp hk hs) ?_ (fuel+1) listed a w hW
          (rest_sound hW (canRest_sel hr hrest.2) (fuel+1) listed h hrest.1.2 hF rfl rfl (fun S' a' f1 f2 f3 f4=>⟨S',f1,f2,f3,f4⟩))
        rintro a' w' hw' ⟨S',f1,f2,f3,f4⟩
        exact hQ bs S' a' w' hp f1 (by rw [f2,f3]; exact hw') f4
      split at h
      · rename_i i hi
        have hpi:=(pickN_some hi).2
        unfold pureAt at hpi
        split at hpi
        · rename_i o ho
          rw [ho] at h
          simp only [Bool.and_eq_true,mayFirst] at hpi
          obtain ⟨⟨⟨h1,h2⟩,h3⟩,⟨h4,h5⟩,h6⟩:=hpi
          have hoi:ops[i]?=some o:=by rw [nthL_eq] at ho; simpa using ho
          have hlo:loadO C o=false:=by simpa using h2
          obtain ⟨v,S',hy,f1,f2,f3,f4⟩:=val_stepR (zb:=zb) (H0:=H0) (w0:=w0) hF (by simpa using h1) (by simpa using h3) (w:=w) (fun e=>by rw [hlo] at e; cases e) h
          exact wpAnyH_take hoi h6 h4 h5 (fun c a w hq=>absurd hq (hQp _ _ _)) (yields_weaken hy fun w _ e=>by rw [hlo] at e; cases e) hS
            (ih ph _ S' _ w bs f4 f1 (by rw [f2,f3]; exact hW) hp (by rw [f2]; exact hk) (by rw [f3]; exact hs) (fun e=>by rw [f2]; exact hph e))
        · cases hpi
      · split at h
        · rename_i i hi
          have hpi:=(pickN_some hi).2
          obtain ⟨e1,e2⟩:=hph rfl
          subst e1
          unfold loadAt at hpi
          split at hpi
          · rename_i o ho
            rw [ho] at h
            simp only [Bool.and_eq_true,mayFirst] at hpi
            obtain ⟨⟨⟨_,h1⟩,h3⟩,⟨h4,h5⟩,h6⟩:=hpi
            have hoi:ops[i]?=some o:=by rw [nthL_eq] at ho; simpa using ho
            rw [←e2] at hS
            obtain ⟨v,S',hy,f1,f2,f3,f4⟩:=val_stepR (hF.bxH (blankB d.bl 0 S.bx) Hs) (by simpa using h1) (by simpa using h3) (w:=w) (fun _=>hS) h
            refine wpAnyH_take hoi h6 h4 h5 (fun c a w hq=>absurd hq (hQp _ _ _)) (yields_weaken hy fun w hw _=>by rw [←e2] at hw; exact hw) (by rw [←e2]; exact hS)
              (ih true _ { S' with bx:=S.bx,H:=S.H } _ w bs f4 (f1.bxH _ _) hW hp hk hs (fun _=>⟨rfl,e2⟩))
          · cases hpi
        · refine wpAnyH_all hr (by simp) fun i hi=>?_
          have h:=allI_mem h i hi
          split at h
          · rename_i o ho
            split at h
            · rename_i hso
              have hoi:ops[i]?=some o:=by rw [nthL_eq] at ho; simpa using ho
              have rc : ∀ (v : Value) (w' : World) (bs' : List Nat) (S' : AS), bs <+: bs' → FC ds p z bs' S' (a.put o.dst v) → WC ds p zb H0 w0 bs' S'.bx S'.H w' → subIf d.pub Hs S'.H (vcAny C p ops d Hs bx0.length K fuel false (listed.setIfInBounds i true) S') → KeepB o S S'.bx →
                  WC ds p zb H0 w0 bs0 (blankB d.bl 0 bx0) Hs w'∧wpAnyH C.P .any ops Q (WC ds p zb H0 w0 bs0 (blankB d.bl 0 bx0) Hs) fuel (listed.setIfInBounds i true) (a.put o.dst v) w':=by
                intro v w' bs' S' g1 g2 g3 g4 g5
                have g6:Sub Hs S'.H∧vcAny C p ops d Hs bx0.length K fuel false (listed.setIfInBounds i true) S':=by
                  unfold subIf at g4
                  split at g4
                  · exact g4
                  · rename_i hp'; exact ⟨hpub hp' _,g4⟩
                have g7:Wk d.bl bx0 S'.bx:=by
                  intro j cs hj
                  obtain ⟨cs1,k1,k2,k3⟩:=hk j cs hj
                  obtain ⟨cs2,l1,l2,l3⟩:=g5 j cs1 k1
                  refine ⟨cs2,l1,l2.trans k2,fun hb=>?_⟩
                  rw [l3 ?_,k3 hb]
                  unfold storedAt
                  unfold storeOk at hso
                  split
                  · rename_i t ad x heq
                    rw [heq] at hso
                    simp only at hso
                    split
                    · rename_i k off hev
                      rw [hev] at hso
                      simp only [Bool.or_eq_true] at hso
                      cases hkj:Nat.beq k j with
                      | false=>rfl
                      | true =>
                        have:=Nat.eq_of_beq_eq_true hkj
                        subst this
                        rcases hso with hso|hso
                        · rw [hb] at hso; cases hso
                        · have:=Nat.le_of_ble_eq_true hso
                          have:=(List.getElem?_eq_some_iff.1 hj).1
                          omega
                    · rfl
                  · rfl
                exact ⟨wc_weak hst g3 (hp.trans g1) g7 g6.1,ih false _ S' _ w' bs' g6.2 g2 g3 (hp.trans g1) g7 g6.1 (fun e=>by cases e)⟩
              unfold wpOp
              simp only [hoi]
              cases he:isEff C o with
              | true =>
                obtain ⟨hwp,hsk⟩:=eff_step2 (Q:=Q) (next:=fun a' w'=>WC ds p zb H0 w0 bs0 (blankB d.bl 0 bx0) Hs w'∧wpAnyH C.P .any ops Q (WC ds p zb H0 w0 bs0 (blankB d.bl 0 bx0) Hs) fuel (listed.setIfInBounds i true) a' w') hF hW he h rc
                split
                · rename_i hw; exact .inl (hwp hw)
                · rename_i hw; exact hsk (by simpa using hw)
              | false =>
                obtain ⟨h1,h2⟩:=val_step hF hW he h
                split
                · rename_i hw
                  obtain ⟨v,q1,S',f1,f2,f3,f4⟩:=h1 hw
                  refine .inl (Oper.wp_of_quiet (C:=WC ds p zb H0 w0 bs S.bx S.H) (K:=fun a'=>a'=a.put o.dst v) hW ?_ ⟨v,q1,rfl⟩)
                  rintro a' w' hw' rfl
                  exact rc v w' bs S' List.prefix_rfl f1 (by rw [f2,f3]; exact hw') f4 (.same f2)
                · rename_i hw
                  obtain ⟨S',f1,f2,f3,f4⟩:=h2 (by simpa using hw)
                  exact rc undef w bs S' List.prefix_rfl f1 (by rw [f2,f3]; exact hW) f4 (.same f2)
            · exact h.elim
          · exact h.elim
theorem draw_any {ops : Array Oper} {d : DS} {K : AS→Prop} {w : World} (h : vcDraw C p ops d K S) (hF : FC ds p z bs S a) (hW : WC ds p zb H0 w0 bs S.bx S.H w)
  (hQp:∀c a w,¬Q (.panic c) a w) (hQ:∀bs' S' a' w',bs <+: bs'→FC ds p z bs' S' a'→WC ds p zb H0 w0 bs' S'.bx S'.H w'→K S'→Q .normal a' w') :
  C.P.follows .mixedOrders=true∧wpAny C.P .any ops Q ops.size (Array.replicate ops.size false) a { w with drawn:=w.drawn+1 }:=by
 unfold vcDraw at h
 split at h
 ·rename_i hm hpub
  obtain ⟨Hs,hs,h⟩:=h
  exact ⟨hm,wpAny_of_held _ _ _ _ (any_sound hW (fun e=>by rw [hpub] at e; cases e) hQp hQ _ _ _ S a _ bs h hF hW.drew List.prefix_rfl (fun i cs hi=>⟨cs,hi,rfl,fun _=>rfl⟩) hs (fun _=>⟨rfl,rfl⟩))⟩
 ·rename_i hm hpub
  exact ⟨hm,wpAny_of_held _ _ _ _ (any_sound (Hs:=fun _=>none) hW (fun _ H=>⟨fun b o e=>by cases e⟩) hQp hQ _ _ _ S a _ bs h hF hW.drew List.prefix_rfl (fun i cs hi=>⟨cs,hi,rfl,fun _=>rfl⟩) ⟨fun b o e=>by cases e⟩ (fun _=>⟨rfl,rfl⟩))⟩
 ·exact h.elim
end
end Go.Ax
namespace Go.Ax
open Go.RowKit
section
variable {C:Cx} {H0:Heap} {w0:World}
theorem known_bx {S:AS} {c:Operand} {b:Bool}:(known C S c b).bx=S.bx:=by unfold known; split<;>rfl
theorem known_H {S:AS} {c:Operand} {b:Bool}:(known C S c b).H=S.H:=by unfold known; split<;>rfl
theorem FC.known {ds:List Nat} {p:Pro} {z:Nat→Value} {bs:List Nat} {S:AS} {a:Act} {c:Operand} {b:Bool} (hF:FC ds p z bs S a) (h:a.eval c=.bool b):FC ds p z bs (known C S c b) a:=by
 unfold Ax.known
 split
 ·rename_i t _
  have h:a.tmps.getD t undef=.bool b:=h
  refine ⟨hF.size,hF.defers,fun u=>?_,fun u e s w x hu=>?_,hF.zs,hF.okn⟩
  ·show SRel bs a.tmps S.ep (look ((t,AV.bl b)::S.fr) u) _
   simp only [look]
   cases hk:Nat.beq t u with
   | true=>have:=Nat.eq_of_beq_eq_true hk; subst this; exact h
   | false=>exact hF.slots u
  ·have hu:look ((t,AV.bl b)::S.fr) u=_:=hu
   simp only [look] at hu
   cases hk:Nat.beq t u with
   | true=>rw [hk] at hu; cases hu
   | false=>rw [hk] at hu; exact hF.eps u e s w x hu
 ·exact hF
def markH (bs:List Nat) (H:Heap):Heap:=fun b=>if b∈bs then some (.deferred none) else H b
theorem mark_none {bs:List Nat} {H:Heap} {b:Nat} (h:markH bs H b=none):b ∉ bs∧H b=none:=by
 unfold markH at h
 split at h
 ·cases h
 ·rename_i hb; exact ⟨hb,h⟩
theorem mark_of {bs:List Nat} {H:Heap} {b:Nat} (h1:b ∉ bs) (h2:H b=none):markH bs H b=none:=by
 unfold markH; rw [if_neg h1]; exact h2
section
variable {ds:List Nat} {p:Pro} {z:Nat→Value} {zb:ZB} {bs:List Nat} {S:AS} {a:Act} {bx:List (List AV)} {H:Heap} {w:World}
theorem WC.box {b:Nat} (h:WC ds p zb H0 w0 bs bx H w) (hb:b∈bs):(w0.heap.size≤b∨b∈zb.bb)∧H b=none∧∃o,w.heap[b]?=some o∧o.isCells=true:=by
 obtain ⟨i,hi,rfl⟩:=List.mem_iff_getElem.1 hb
 have hx:i<bx.length:=by rw [←h.blen]; exact hi
 obtain ⟨h1,h2,c,T,h3,_⟩:=h.boxes i bs[i] _ (List.getElem?_eq_getElem hi) (List.getElem?_eq_getElem hx)
 exact ⟨h1,h2,_,h3,rfl⟩
theorem WC.congr {p':Pro} (h:WC ds p zb H0 w0 bs bx H w) (e:p'.okb=p.okb):WC ds p' zb H0 w0 bs bx H w :=
 ⟨h.blen,h.nodup,by rw [e]; exact h.boxes,by rw [e]; exact h.okf,h.lnf,h.keeps,h.dq,h.dn,h.bk⟩
theorem WC.less {H':Heap} (h:WC ds p zb H0 w0 bs bx H w) (hs:Sub H' H):WC ds p zb H0 w0 bs bx H' w:=by
 have none':∀b,H b=none→H' b=none:=fun b e=>by
  cases hh:H' b with
  | none=>rfl
  | some o=>rw [hs.sub b o hh] at e; cases e
 exact ⟨h.blen,h.nodup,fun i b cs hb hc=>by obtain ⟨h1,h2,h3⟩:=h.boxes i b cs hb hc; exact ⟨h1,none' b h2,h3⟩,h.okf,h.lnf,
  ⟨h.keeps.holds.sub hs,fun b hb e=>⟨(h.keeps.old b hb e).1,none' b (h.keeps.old b hb e).2⟩,h.keeps.size,h.keeps.tape,h.keeps.os,h.keeps.output⟩,
  fun D hD=>by obtain ⟨h1,h2,h3⟩:=h.dq D hD; exact ⟨h1,none' D h2,h3⟩,h.dn,h.bk⟩
theorem WC.rebase {w2:World} (h:WC ds p zb H0 w0 bs bx H w) (hsame:∀b,(b∈bs∨(H b).isSome=true)→w2.heap[b]?=w.heap[b]?):WC [] p { zb with bb:=bs } (markH bs H) w2 bs bx H w2:=by
 refine ⟨h.blen,h.nodup,fun i b cs hb hc=>?_,h.okf,h.lnf,⟨fun b o e=>?_,fun b _ e=>⟨rfl,(mark_none e).2⟩,Nat.le_refl _,rfl,rfl,rfl⟩,fun D hD=>(by cases hD),List.nodup_nil,fun b hb=>?_⟩
 ·obtain ⟨h1,h2,c,T,h3,h4⟩:=h.boxes i b cs hb hc
  exact ⟨.inr (List.mem_of_getElem? hb),h2,c,T,(hsame b (.inl (List.mem_of_getElem? hb))).trans h3,h4⟩
 ·exact (hsame b (.inr (by rw [e]; rfl))).trans (h.keeps.holds b o e)
 ·unfold markH; rw [if_pos hb]; rfl
theorem WC.grown {w2 : World} {row : Option Nat} {B : Nat} (h : WC ds p zb H0 w0 bs bx H w) (hg : w.grownBy w2 row) (hr : ∀r, row=some r→B≤r∧∃o : Obj, w.heap[r]?=some o∧o.isCells=false)
  (hB:w0.heap.size≤B) (hH:∀b o,H b=some o→o.isCells=false→b<B) (hds:∀D∈ds,D<B):WC ds p zb H0 w0 bs bx H w2:=by
 have same:∀b o,w.heap[b]?=some o→(∀r,row=some r→b≠r)→w2.heap[b]?=some o:=fun b o e hne =>
  (hg.block b (Array.getElem?_eq_some_iff.1 e).1 (fun e'=>hne b e'.symm rfl)).trans e
 refine ⟨h.blen,h.nodup,fun i b cs hb hc=>?_,h.okf,h.lnf,⟨fun b o e=>?_,fun b hb e=>?_,Nat.le_trans h.keeps.size hg.size,hg.tape.trans h.keeps.tape,hg.os.trans h.keeps.os,hg.output.trans h.keeps.output⟩,fun D hD=>?_,h.dn,h.bk⟩
 ·obtain ⟨h1,h2,c,T,h3,h4⟩:=h.boxes i b cs hb hc
  refine ⟨h1,h2,c,T,same b _ h3 fun r e e'=>?_,h4⟩
  subst e'
  obtain ⟨_,o,ho,hn⟩:=hr b e
  rw [h3] at ho; cases ho; cases hn
 ·have ho:=h.keeps.holds b o e
  refine same b o ho fun r e' e2=>?_
  subst e2
  obtain ⟨hb,o',ho',hn⟩:=hr b e'
  rw [ho] at ho'; cases ho'
  have:=hH b o e hn
  omega
 ·obtain ⟨a1,a2⟩:=h.keeps.old b hb e
  refine ⟨(hg.block b (Nat.lt_of_lt_of_le hb h.keeps.size) fun e'=>?_).trans a1,a2⟩
  have:=(hr b e'.symm).1
  omega
 ·obtain ⟨d1,d2,d3⟩:=h.dq D hD
  refine ⟨d1,d2,same D _ d3 fun r e e2=>?_⟩
  subst e2
  have:=(hr D e).1; have:=hds D hD
  omega
theorem WC.absorb {bs1:List Nat} {bx1:List (List AV)} {H1:Heap} {w1:World} (hO:WC ds p zb H0 w0 bs bx H w) (hA:WC [] p { zb with bb:=bs } (markH bs H) w bs1 bx1 H1 w1):WC ds p zb H0 w0 bs1 bx1 H1 w1:=by
 have notin:∀b,b<w0.heap.size→H0 b=none→b ∉ bs:=fun b hb e hm=>by
  rcases (hO.box hm).1 with h|h
  ·omega
  ·have:=hO.bk b h; rw [e] at this; cases this
 refine ⟨hA.blen,hA.nodup,fun i b cs hb hc=>?_,hA.okf,hA.lnf,⟨hA.keeps.holds,fun b hb e=>?_,Nat.le_trans hO.keeps.size hA.keeps.size,hA.keeps.tape.trans hO.keeps.tape,hA.keeps.os.trans hO.keeps.os,hA.keeps.output.trans hO.keeps.output⟩,fun D hD=>?_,hO.dn,hO.bk⟩
 ·obtain ⟨h1,h2⟩:=hA.boxes i b cs hb hc
  refine ⟨?_,h2⟩
  rcases h1 with h1|h1
  ·exact .inl (Nat.le_trans hO.keeps.size h1)
  ·exact (hO.box h1).1
 ·obtain ⟨a1,a2⟩:=hO.keeps.old b hb e
  obtain ⟨b1,b2⟩:=hA.keeps.old b (Nat.lt_of_lt_of_le hb hO.keeps.size) (mark_of (notin b hb e) a2)
  exact ⟨b1.trans a1,b2⟩
 ·obtain ⟨d1,d2,d3⟩:=hO.dq D hD
  have hn:D ∉ bs:=fun hm=>by
   obtain ⟨_,_,o,ho,hc⟩:=hO.box hm
   rw [d3] at ho; cases ho; cases hc
  obtain ⟨b1,b2⟩:=hA.keeps.old D (Array.getElem?_eq_some_iff.1 d3).1 (mark_of hn d2)
  exact ⟨d1,b2,b1.trans d3⟩
theorem WC.addD {D:Nat} (h:WC ds p zb H0 w0 bs bx H w) (h1:w0.heap.size≤D) (h2:H D=none) (h3:w.heap[D]?=some (.deferred (some []))) (h4:D ∉ ds):WC (D::ds) p zb H0 w0 bs bx H w :=
 ⟨h.blen,h.nodup,h.boxes,h.okf,h.lnf,h.keeps,fun E hE=>by
  rcases List.mem_cons.1 hE with rfl|hE
  ·exact ⟨h1,h2,h3⟩
  ·exact h.dq E hE,List.nodup_cons.2 ⟨h4,h.dn⟩,h.bk⟩
theorem WC.takeD {D:Nat} (h:WC (D::ds) p zb H0 w0 bs bx H w):WC ds p zb H0 w0 bs bx H (w.putObj D (.deferred none)):=by
 obtain ⟨d1,d2,d3⟩:=h.dq D (List.mem_cons_self ..)
 have other:∀b,b≠D→(w.putObj D (.deferred none)).heap[b]?=w.heap[b]?:=fun b hb=>World.putObj_heap_other hb
 refine ⟨h.blen,h.nodup,fun i b cs hb hc=>?_,h.okf,h.lnf,⟨fun b o e=>?_,fun b hb e=>?_,by simpa using h.keeps.size,h.keeps.tape,h.keeps.os,h.keeps.output⟩,fun E hE=>?_,(List.nodup_cons.1 h.dn).2,h.bk⟩
 ·obtain ⟨h1,h2,c,T,h3,h4⟩:=h.boxes i b cs hb hc
  exact ⟨h1,h2,c,T,(other b fun e=>by subst e; rw [d3] at h3; cases h3).trans h3,h4⟩
 ·exact (other b fun e'=>by subst e'; rw [d2] at e; cases e).trans (h.keeps.holds b o e)
 ·obtain ⟨a1,a2⟩:=h.keeps.old b hb e
  exact ⟨(other b (by omega)).trans a1,a2⟩
 ·obtain ⟨e1,e2,e3⟩:=h.dq E (List.mem_cons_of_mem _ hE)
  exact ⟨e1,e2,(other E fun e=>by subst e; exact (List.nodup_cons.1 h.dn).1 hE).trans e3⟩
theorem cutN_sub {H0' H':Heap}:Sub (cutN H0' H') H':=⟨fun b o e=>by
 unfold cutN at e
 split at e
 ·rename_i o' ho
  split at e
  ·cases e; exact ho
  ·cases e
 ·cases e⟩
theorem cutN_ncs {H0' H':Heap}:NCs H0' (cutN H0' H'):=⟨fun b o e hn=>by
 unfold cutN at e
 split at e
 ·split at e
  ·rename_i hb; cases e
   rw [hn] at hb; simpa using hb
  ·cases e
 ·cases e⟩
theorem cutN_keep {H0' H' HI:Heap} (h1:Sub HI H0') (h2:Sub HI H'):Sub HI (cutN H0' H'):=⟨fun b o e=>by
 unfold cutN
 rw [h2.sub b o e]
 simp [h1.sub b o e]⟩
theorem put_fold {n : Nat} : ∀(ps : List Nat) (vals : List Value) (fr : List (Nat×AV)) (tm : Array Value), ltAll n ps=true→tm.size=n→(∀t, BRel bs (look fr t) (tm.getD t undef)) →
  ((ps.zip vals).foldl (fun t q=>t.setIfInBounds q.1 q.2) tm).size=n∧∀t,BRel bs (look (putPs ps vals fr) t) (((ps.zip vals).foldl (fun t q=>t.setIfInBounds q.1 q.2) tm).getD t undef)
 | [],vals,fr,tm,_,hs,h=>⟨hs,h⟩
 | d::ps,[],fr,tm,_,hs,h=>⟨hs,h⟩
 | d::ps,v::vals,fr,tm,hl,hs,h=>by
  simp only [ltAll,Bool.and_eq_true] at hl
  have hd:d<n:=Nat.le_of_ble_eq_true hl.1
  simp only [List.zip_cons_cons,List.foldl_cons,putPs]
  refine put_fold ps vals _ _ hl.2 (by simpa using hs) fun t=>?_
  rw [getD_put (by rw [hs]; exact hd)]
  simp only [look]
  cases hk:Nat.beq d t with
  | true=>rw [if_pos (Nat.eq_of_beq_eq_true hk)]; rfl
  | false=>rw [if_neg (fun e=>by subst e; simp at hk)]; exact h t
theorem putPs_ifs:∀(ps:List Nat) (vals:List Value) (fr:List (Nat×AV)) (t:Nat) {e s:Nat} {wb:Bool} {x:AV},look (putPs ps vals fr) t=.ifs e s wb x→look fr t=.ifs e s wb x
 | [],vals,fr,t,e,s,wb,x,h=>by simpa [putPs] using h
 | d::ps,[],fr,t,e,s,wb,x,h=>by simpa [putPs] using h
 | d::ps,v::vals,fr,t,e,s,wb,x,h=>by
  simp only [putPs] at h
  have:=putPs_ifs ps vals _ t h
  simp only [look] at this
  split at this
  ·cases this
  ·exact this
theorem SRel.of_brel {tm:Array Value} {ep:Nat} {x:AV} {y:Value} (h:BRel bs x y) (hi:∀e s w' x',x=.ifs e s w' x'→e≠ep):SRel bs tm ep x y:=by
 cases x with
 | ifs e s w' x'=>exact fun he=>absurd he (hi e s w' x' rfl)
 | _=>exact h
theorem FC.rhead (hF : FC ds p z bs S a) (L : LS) {ps : Array Nat} (hlt : ltAll p.n ps.toList=true) (vals vs : List Value) (H : Heap) (k : Nat) :
  FC [] (L.rpro p k) (fun t=>((ps.zip ⟨vals⟩).foldl (fun t (q,v)=>t.setIfInBounds q v) a.tmps).getD t undef) bs (L.rhead S ps.toList vals vs H) { tmps:=(ps.zip ⟨vals⟩).foldl (fun t (q,v)=>t.setIfInBounds q v) a.tmps,defers:=[] }:=by
 have e:(ps.zip ⟨vals⟩).foldl (fun t (q,v)=>t.setIfInBounds q v) a.tmps=(ps.toList.zip vals).foldl (fun t q=>t.setIfInBounds q.1 q.2) a.tmps:=by
  rw [←Array.foldl_toList,Array.toList_zip]
 obtain ⟨h1,h2⟩:=put_fold (bs:=bs) ps.toList vals S.fr a.tmps hlt hF.size fun t=>(hF.slots t).brel
 refine ⟨?_,rfl,fun t=>?_,fun t e' s w x hx=>?_,fun _ _=>rfl,fun t ht=>Nat.le_of_ble_eq_true ht⟩
 ·show ((ps.zip ⟨vals⟩).foldl (fun t (q,v)=>t.setIfInBounds q v) a.tmps).size=p.n
  rw [e]; exact h1
 ·show SRel bs _ (S.ep+1) (look (putPs ps.toList vals S.fr) t) _
  refine SRel.of_brel ?_ fun e' s w x hx=>?_
  ·rw [e]; exact h2 t
  ·have:=(hF.eps t e' s w x (putPs_ifs _ _ _ _ hx)).1
   omega
 ·have:=(hF.eps t e' s w x (putPs_ifs _ _ _ _ hx)).1
  show e'≤S.ep+1∧(e'=S.ep+1→_)
  exact ⟨by omega,fun e2=>by omega⟩
theorem FC.behind (hF : FC ds p z bs S a) (L : LS) (h1 : L.vars=[]) (h2 : L.dead=[]) (vs : List Value) (H : Heap) (D : Nat) :
  FC (D::ds) p z bs (L.head S vs H) { a with defers:={ target:=.collected D,args:=#[] }::a.defers }:=by
 have hl:∀t,look (L.head S vs H).fr t=look S.fr t:=fun t=>by
  show look (zipF L.vars vs++(L.dead.map fun d=>(d,AV.any))++S.fr) t=_
  rw [h1,h2]; simp [zipF]
 refine ⟨hF.size,by rw [hF.defers]; rfl,fun t=>?_,fun t e s w x hx=>?_,hF.zs,hF.okn⟩
 ·rw [hl]
  refine SRel.of_brel (hF.slots t).brel fun e s w x hx=>?_
  have:=(hF.eps t e s w x hx).1
  show e≠S.ep+1
  omega
 ·rw [hl] at hx
  have:=(hF.eps t e s w x hx).1
  exact ⟨by show e≤S.ep+1; omega,fun e2=>by have e2:e=S.ep+1:=e2; omega⟩
theorem psVals_len:∀(l:List (List Sh×Bool)) (vs:List Value),(psVals l vs).length=l.length
 | [],_=>rfl
 | q::l,vs=>by simp [psVals,psVals_len l]
end
theorem not_out {ds:List Nat} {p:Pro} {z:Nat→Value} {zb:ZB} {bs:List Nat} {Q:AE→AS→Prop}:¬LetsOut (Post ds p z zb H0 w0 bs Q):=fun ⟨_,_,_,_,e,_,_,_,_,_,he,_⟩=>by simp [toA] at he
theorem post_then {ds : List Nat} {p : Pro} {z : Nat→Value} {zb : ZB} {bs : List Nat} {K : AS→Prop} {Q : AE→AS→Prop} {k : Act→World→Prop}
  (hk:∀ds' bs' S' a' w',(p.top=false→ds'=ds)→bs <+: bs'→FC ds' p z bs' S' a'→WC ds' p zb H0 w0 bs' S'.bx S'.H w'→K S'→k a' w'):∀e a w,Post ds p z zb H0 w0 bs (thenA K Q) e a w→Exit.then k (Post ds p z zb H0 w0 bs Q) e a w:=by
 rintro e a w ⟨bs',S',e',ds',hd,hp,hF,hW,he,hq⟩
 cases e with
 | normal=>simp only [toA,Option.some.injEq] at he; subst he; exact hk ds' bs' S' a w hd hp hF hW hq
 | exit id=>simp only [toA,Option.some.injEq] at he; subst he; exact ⟨bs',S',_,ds',hd,hp,hF,hW,rfl,hq⟩
 | ret=>simp only [toA,Option.some.injEq] at he; subst he; exact ⟨bs',S',_,ds',hd,hp,hF,hW,rfl,hq⟩
 | goto l=>simp [toA] at he
 | panic c=>simp [toA] at he
 | outgrown=>simp [toA] at he
def codeOf:AE→Option Code
 | .normal=>none
 | .exit id=>some (.exit id)
 | .ret=>some .ret
theorem vc_sound : ∀(c : Code) (p : Pro) (Q : AE→AS→Prop) (S : AS), vc C c p Q S→∀(r : Option Nat) (n : Nat) (H0 : Heap) (w0 : World) (ds : List Nat) (z : Nat→Value) (zb : ZB) (bs : List Nat) (a : Act) (w : World), (p.top=true→r=none) →
  FC ds p z bs S a→WC ds p zb H0 w0 bs S.bx S.H w→c.wpIn (Fz r) n C.P (Post ds p z zb H0 w0 bs Q) a w
 | .skip,p,Q,S,h,r,n,H0,w0,ds,z,zb,bs,a,w,hr,hF,hW=>wpIn_skip ⟨bs,S,_,ds,fun _=>rfl,List.prefix_rfl,hF,hW,rfl,h⟩
 | .label l,p,Q,S,h,r,n,H0,w0,ds,z,zb,bs,a,w,hr,hF,hW=>wpIn_label ⟨bs,S,_,ds,fun _=>rfl,List.prefix_rfl,hF,hW,rfl,h⟩
 | .exit id,p,Q,S,h,r,n,H0,w0,ds,z,zb,bs,a,w,hr,hF,hW=>wpIn_exit ⟨bs,S,_,ds,fun _=>rfl,List.prefix_rfl,hF,hW,rfl,h⟩
 | .ret,p,Q,S,h,r,n,H0,w0,ds,z,zb,bs,a,w,hr,hF,hW=>wpIn_ret ⟨bs,S,_,ds,fun _=>rfl,List.prefix_rfl,hF,hW,rfl,h⟩
 | .goto l,p,Q,S,h,_,_,_,_,_,_,_,_,_,_,_,_,_=>by simp [vc] at h
 | .refuse s,p,Q,S,h,_,_,_,_,_,_,_,_,_,_,_,_,_=>by simp [vc] at h
 | .region id ops d,p,Q,S,h,r,n,H0,w0,ds,z,zb,bs,a,w,hr,hF,hW=>by
  simp only [vc] at h
  split at h
  ·exact h.elim
  ·rename_i hnd
   exact wpIn_region_list (listIn not_out ops.toList a w hnd (vcOps_sound ops.toList h hF.enter hW fun bs' S' a' w' hp f1 f2 f3=>⟨bs',S',_,ds,fun _=>rfl,hp,f1,f2,rfl,f3⟩))
  ·rename_i hnd
   split at h
   ·rename_i hb
    rw [Bool.and_eq_true] at hb
    have hd:=hb.2
    simp only [drawOk,Region.lexB,Bool.and_eq_true] at hd
    refine wpIn_region_any hd.1 (anyIn not_out hnd _ _ _ _ (wpAny_of_quiet (C:=WC ds p zb H0 w0 bs S.bx S.H) (Q:=fun a'=>∀w',WC ds p zb H0 w0 bs S.bx S.H w'→Post ds p z zb H0 w0 bs Q .normal a' w') (fun _ w' hw' h=>h w' hw') _ _ _ _ hW.drew ?_))
    have:=wpAnyQ_lex (C:=WC ds p zb H0 w0 bs S.bx S.H) (md:=.any) (P:=C.P) (Q:=fun a'=>∀w',WC ds p zb H0 w0 bs S.bx S.H w'→Post ds p z zb H0 w0 bs Q .normal a' w') hd.2.1 ops.toList 0 (Array.replicate ops.size false) a (by simp) (by simpa using hd.2.2)
     (vcQ_sound (S:=S.enter) hW ops.toList hb.1 h hF.enter rfl rfl (by
      intro S' a' f1 f2 f3 f4 w' hw'
      exact ⟨bs,S',_,ds,fun _=>rfl,List.prefix_rfl,f1,by rw [f2,f3]; exact hw',rfl,f4⟩))
    simpa using this
   ·obtain ⟨hm,hw⟩:=draw_any (S:=S.enter) (Q:=Post ds p z zb H0 w0 bs Q) h hF.enter hW (fun c a w ⟨_,_,e,_,_,_,_,_,he,_⟩=>by simp [toA] at he) (fun bs' S' a' w' hp f1 f2 f3=>⟨bs',S',_,ds,fun _=>rfl,hp,f1,f2,rfl,f3⟩)
    exact wpIn_region_any hm (anyIn not_out hnd _ _ _ _ hw)
 | .seq x y,p,Q,S,h,r,n,H0,w0,ds,z,zb,bs,a,w,hr,hF,hW=>by
  simp only [vc] at h
  split at h
  ·exact wpIn_seq (wpIn_mono (vc_sound x p _ S h r n H0 w0 ds z zb bs a w hr hF hW) (post_then fun ds' bs' S' a' w' hd hp f1 f2 f3=>wpIn_mono (vc_sound y p Q S' f3 r n H0 w0 ds' z zb bs' a' w' hr f1 f2) fun _ _ _ q=>q.up hd hp))
  ·rename_i L hL
   split at h
   ·rename_i hok
    rw [Bool.and_eq_true] at hok
    obtain ⟨hok1,hok2⟩:=hok
    obtain ⟨Mid,hx,hy⟩:=h
    rw [allV_iff] at hy
    have hFi:FC ds (L.pro p S.bx.length) (fun t=>a.tmps.getD t undef) bs S a:=⟨hF.size,hF.defers,hF.slots,hF.eps,fun t _=>rfl,fun t ht=>hF.okn t (allOk_mem _ hok1 t ((hasN_iff _ _).1 ht))⟩
    have zout:∀{a2:Act},(∀t,(L.pro p S.bx.length).ok t=false→a2.tmps.getD t undef=a.tmps.getD t undef)→∀t,p.ok t=false→a2.tmps.getD t undef=z t:=fun f t ht=>by
     have:hasN L.slots t=false:=by
      cases hh:hasN L.slots t with
      | false=>rfl
      | true=>rw [allOk_mem _ hok1 t ((hasN_iff _ _).1 hh)] at ht; cases ht
     exact (f t this).trans (hF.zs t ht)
    refine wpIn_seq (wpIn_mono (vc_sound x (L.pro p S.bx.length) _ S hx r n H0 w0 ds (fun t=>a.tmps.getD t undef) (zbAt w bs S.bx zb.bb) bs a w (fun e=>by cases e) hFi (hW.inner L)) ?_)
    rintro e a2 w2 ⟨bs2,S2,e',ds2,hd,hp,f1,f2,he,hq⟩
    have hd:=hd rfl
    subst hd
    have out:∀e'',Q e'' S2→toA e=some e''→Post ds2 p z zb H0 w0 bs Q e a2 w2:=fun e'' hq'' he'' =>
     ⟨bs2,S2,e'',ds2,fun _=>rfl,hp,⟨f1.size,f1.defers,f1.slots,f1.eps,zout f1.zs,hF.okn⟩,WC.outer L hW hok2 hp f2,he'',hq''⟩
    cases e with
    | normal =>
     simp only [toA,Option.some.injEq] at he
     subst he
     simp only [thenA] at hq
     split at hq
     ·rename_i v' hv'
      have hsl:∀t,BRel bs2 (look S2.fr t) (a2.tmps.getD t undef):=fun t=>(f1.slots t).brel
      have g1:=FC.head L hF hok1 (S2:=S2) (bs2:=bs2) f1.size f1.defers hsl hv' (cells:=fun j=>match L.cells[j]? with|some q=>(Ax.cellV w2 bs2 q.1 q.2.1).getD undef|none=>undef)
       (fun j q hq=>by rw [hq]; exact f2.cellV _ _) (fun t ht=>f1.zs t ht) S.bx.length (H:=S2.H)
      have g2:=WC.outer L hW hok2 List.prefix_rfl (WC.head (S:=S) (S2:=S2) L hW hp f2 hv' hsl)
      exact wpIn_mono (vc_sound y p Q _ (hy v' _ hq) r n H0 w0 ds2 z zb bs a2 w2 hr ⟨g1.size,g1.defers,g1.slots,g1.eps,zout g1.zs,hF.okn⟩ g2) fun _ _ _ q=>q
     ·exact hq.elim
    | exit id=>simp only [toA,Option.some.injEq] at he; subst he; exact out _ hq rfl
    | ret=>simp only [toA,Option.some.injEq] at he; subst he; exact out _ hq rfl
    | goto l=>simp [toA] at he
    | panic c=>simp [toA] at he
    | outgrown=>simp [toA] at he
   ·exact h.elim
 | .cond c x y,p,Q,S,h,r,n,H0,w0,ds,z,zb,bs,a,w,hr,hF,hW=>by
  have ev:=evA_sound (anc:=[]) hF (by simp) c
  simp only [vc] at h
  split at h
  ·rename_i he
   rw [he] at ev
   exact wpIn_cond_true ev (vc_sound x p Q S h r n H0 w0 ds z zb bs a w hr hF hW)
  ·rename_i he
   rw [he] at ev
   exact wpIn_cond_false ev (vc_sound y p Q S h r n H0 w0 ds z zb bs a w hr hF hW)
  ·rename_i g he
   rw [he] at ev
   exact wpIn_cond_split ev (fun hg=>vc_sound x p Q _ (h.1 hg) r n H0 w0 ds z zb bs a w hr (hF.known (ev.trans (by rw [hg]))) (by rw [known_bx,known_H]; exact hW)) (fun hg=>vc_sound y p Q _ (h.2 hg) r n H0 w0 ds z zb bs a w hr (hF.known (ev.trans (by rw [hg]))) (by rw [known_bx,known_H]; exact hW))
  ·exact h.elim
 | .block id b,p,Q,S,h,r,n,H0,w0,ds,z,zb,bs,a,w,hr,hF,hW=>by
  simp only [vc] at h
  refine wpIn_block (wpIn_mono (vc_sound b p _ S h r n H0 w0 ds z zb bs a w hr hF hW) ?_)
  rintro e a' w' ⟨bs',S',e',ds',hd,hp,f1,f2,he,hq⟩
  cases e with
  | normal=>simp only [toA,Option.some.injEq] at he; subst he; exact ⟨bs',S',_,ds',hd,hp,f1,f2,rfl,hq⟩
  | ret=>simp only [toA,Option.some.injEq] at he; subst he; exact ⟨bs',S',_,ds',hd,hp,f1,f2,rfl,hq⟩
  | exit i =>
   simp only [toA,Option.some.injEq] at he
   subst he
   simp only [blockA] at hq
   cases hb:Nat.beq i id with
   | true =>
    rw [hb] at hq
    have:=Nat.eq_of_beq_eq_true hb
    show if i=id then _ else _
    rw [if_pos this]
    exact ⟨bs',S',_,ds',hd,hp,f1,f2,rfl,hq⟩
   | false =>
    rw [hb] at hq
    show if i=id then _ else _
    rw [if_neg (fun e=>by subst e; simp at hb)]
    exact ⟨bs',S',_,ds',hd,hp,f1,f2,rfl,hq⟩
  | goto l=>simp [toA] at he
  | panic c=>simp [toA] at he
  | outgrown=>simp [toA] at he
 | .scope b,p,Q,S,h,r,n,H0,w0,ds,z,zb,bs,a,w,hr,hF,hW=>by
  simp only [vc] at h
  refine scopeIn (wpIn_mono (vc_sound b p _ S h r n H0 w0 ds z zb bs a w hr hF hW) ?_)
  rintro e a' w' ⟨bs',S',e',ds',hd,hp,f1,f2,he,hq⟩
  cases e with
  | goto l=>simp [toA] at he
  | _=>exact ⟨bs',S',e',ds',hd,hp,f1,f2,he,hq⟩
 | .loop b,p,Q,S,h,r,n,H0,w0,ds,z,zb,bs,a,w,hr,hF,hW=>by
  simp only [vc] at h
  split at h
  ·rename_i k hk
   split at h
   ·rename_i L hL
    split at h
    ·rename_i v0 hok hv0
     rw [Bool.and_eq_true] at hok
     obtain ⟨hok1,hok2⟩:=hok
     obtain ⟨Rel,mu,hrel0,hround⟩:=h
     rw [allV_iff] at hround
     let I:Nat→Act→World→Prop:=fun n a' w'=>∃v H,unc _ L.shapes Rel v H∧unc _ L.shapes mu v H=n ∧
      FC ds (L.pro p S.bx.length) (fun t=>a.tmps.getD t undef) bs (L.head S (enc L.shapes v) H) a'∧WC ds (L.pro p S.bx.length) (zbAt w bs S.bx zb.bb) H0 w0 bs (L.head S (enc L.shapes v) H).bx H w'
     have hin:=hW.inner L
     have first:I (unc _ L.shapes mu v0 S.H) a w:=by
      have hsl:∀t,BRel bs (look S.fr t) (a.tmps.getD t undef):=fun t=>(hF.slots t).brel
      refine ⟨v0,S.H,hrel0,rfl,?_,?_⟩
      ·exact FC.head L hF hok1 (S2 := S) (bs2 := bs) hF.size hF.defers hsl hv0 (cells := fun j => match L.cells[j]? with|some q => (Ax.cellV w bs q.1 q.2.1).getD undef|none => undef)
        (fun j q hq=>by rw [hq]; exact hW.cellV _ _) (fun t _=>rfl) _
      ·exact WC.head (S:=S) (S2:=S) L hW List.prefix_rfl hin hv0 hsl
     refine wpIn_loop_ghost I _ first ?_
     rintro n a' w' ⟨v,H,hrel,rfl,hF',hW'⟩
     have hb:=vc_sound b (L.pro p S.bx.length) _ _ (hround v H hrel) r n H0 w0 ds (fun t=>a.tmps.getD t undef) (zbAt w bs S.bx zb.bb) bs a' w' (fun e=>by cases e) hF' hW'
     refine wpIn_mono hb ?_
     rintro e a2 w2 ⟨bs2,S2,e',ds2,hd,hp,f1,f2,he,hq⟩
     have hd:=hd rfl
     subst hd
     have out:∀e'',Q e'' S2→toA e=some e''→Post ds2 p z zb H0 w0 bs Q e a2 w2:=by
      intro e'' hq'' he''
      refine ⟨bs2,S2,e'',ds2,fun _=>rfl,hp,⟨f1.size,f1.defers,f1.slots,f1.eps,fun t ht=>?_,hF.okn⟩,WC.outer L hW hok2 hp f2,he'',hq''⟩
      have:hasN L.slots t=false:=by
       cases hh:hasN L.slots t with
       | false=>rfl
       | true=>rw [allOk_mem _ hok1 t ((hasN_iff _ _).1 hh)] at ht; cases ht
      exact (f1.zs t this).trans (hF.zs t ht)
     cases e with
     | normal =>
      simp only [toA,Option.some.injEq] at he
      subst he
      simp only [thenA] at hq
      split at hq
      ·rename_i v' hv'
       obtain ⟨hr',hlt⟩:=hq
       have hsl:∀t,BRel bs2 (look S2.fr t) (a2.tmps.getD t undef):=fun t=>(f1.slots t).brel
       refine ⟨unc _ L.shapes mu v' S2.H,hlt,v',S2.H,hr',rfl,?_,?_⟩
       ·exact FC.head L hF hok1 (S2 := S2) (bs2 := bs2) f1.size f1.defers hsl hv' (cells := fun j => match L.cells[j]? with|some q => (Ax.cellV w2 bs2 q.1 q.2.1).getD undef|none => undef)
         (fun j q hq=>by rw [hq]; exact f2.cellV _ _) (fun t ht=>f1.zs t ht) _
       ·exact WC.head (S:=S) (S2:=S2) L hW hp f2 hv' hsl
      ·exact hq.elim
     | exit id=>simp only [toA,Option.some.injEq] at he; subst he; exact out _ hq rfl
     | ret=>simp only [toA,Option.some.injEq] at he; subst he; exact out _ hq rfl
     | goto l=>simp [toA] at he
     | panic c=>simp [toA] at he
     | outgrown=>simp [toA] at he
    ·exact h.elim
   ·exact h.elim
  ·exact h.elim
 | .rangeFunc f ps x y,p,Q,S,h,r,n,H0,w0,ds,z,zb,bs,a,w,hr,hF,hW=>by
  have ev:=evA_sound (anc:=[]) hF (by simp) f
  simp only [vc] at h
  split at h
  ·rename_i fv k htop hf hk
   split at h
   ·rename_i L R hL hR
    split at h
    ·rename_i v0 hvars hdead hv0 hb
     simp only [Bool.and_eq_true] at hb
     obtain ⟨⟨hlen,hok2⟩,hlt⟩:=hb
     obtain ⟨g,caps,⟨hfv,hcall⟩,HI,m,E,ys,hsub,hit,Rel,hrel0,hround,hdone⟩:=h
     have hr:=hr htop
     subst hr
     rw [hf] at ev
     have hg:a.eval f=.func (.func g) #[] ⟨caps⟩:=by
      rw [←hfv]; exact ev
     have eg:∀(args:Array Value) (w:World),(callFunc g args).run C.P w=.ok (.enter g args) w:=by
      unfold canCall at hcall
      split at hcall
      ·rename_i fn hfn
       split at hcall
       ·rename_i cd hcd
        exact Proofs.enters_of hfn (by simpa using hcall) hcd
       ·cases hcall
      ·cases hcall
     have hwH:=hW.keeps.holds
     have ltB:∀b o,S.H b=some o→b<w.heap.size:=fun b o e=>heap_lt (hwH b o e)
     have ncB:∀{H:Heap},NCs S.H H→∀b o,H b=some o→o.isCells=false→b<w.heap.size:=fun nc b o e hn=>by
      obtain ⟨o',ho'⟩:=Option.isSome_iff_exists.1 (nc.known b o e hn)
      exact ltB b o' ho'
     have dsB:∀D∈ds,D<w.heap.size:=fun D hD=>heap_lt (hW.dq D hD).2.2
     let pR:=L.rpro p S.bx.length
     let zbR:=zbAt w bs S.bx zb.bb
     let WR:V L.shapes→Heap→World→Prop:=fun v H W=>WC ds pR zbR H0 w0 bs (L.head S (enc L.shapes v) H).bx H W
     have wrGrown:∀{v H W W' row},WR v H W→NCs S.H H→W.grownBy W' row→(∀r,row=some r→w.heap.size≤r∧∃o:Obj,W.heap[r]?=some o∧o.isCells=false)→WR v H W':=fun h nc hg hr =>
      WC.grown h hg hr hW.keeps.size (ncB nc) dsB
     let I:List (Fin m)→World→Prop:=fun pre W=>∃v H,unc _ L.shapes (Rel (pre.map (·.1))) v H∧NCs S.H H∧Sub HI H∧WR v H W
     let Ix:Code×List (Fin m)→World→Prop:=fun ci W=>∃e v H,codeOf e=some ci.1∧(List.IsPrefix (ci.2.map (·.1)) ys→Q e (L.head S (enc L.shapes v) H))∧NCs S.H H∧WR v H W
     have hin:WC ds pR zbR H0 w0 bs S.bx S.H w:=(hW.inner L).congr rfl
     have hsl:∀t,BRel bs (look S.fr t) (a.tmps.getD t undef):=fun t=>(hF.slots t).brel
     have first0:WR v0 S.H w:=by
      have:=WC.head (S:=S) (S2:=S) L hW List.prefix_rfl (hW.inner L) hv0 hsl
      exact this.congr rfl
     refine wpIn_wide.2 ((wpIn_wide (n:=2)).1 (rf_law (α:=Fin m) (encs:=fun i=>(⟨psVals R.ps (enc R.sh (E i.1))⟩:Array Value)) (Kp:=fun W W'=>Holds HI W→Holds HI W') (S:=fun is=>is.map (·.1)=ys) (Sp:=fun is:List (Fin m)=>List.IsPrefix (List.map (fun i:Fin m=>(i.1:Nat)) is) ys) (N:=ys.length)
      hg eg (hit.run 1 w (Nat.le_refl _) (hwH.sub hsub)) (fun f g h=>g (f h)) ?kb ?hps I Ix ?hI ?hIx ?h0 ?round ?hdone ?hstop))
     case kb =>
      intro W l o hl hH b o' e
      have hb:b<w.heap.size:=ltB b o' (hsub.sub b o' e)
      exact (World.putObj_heap_other (by omega)).trans (hH b o' e)
     case hps =>
      intro i
      have:=Nat.eq_of_beq_eq_true hlen
      simp only [List.size_toArray,psVals_len]
      simpa using this
     case hI =>
      rintro pre A B' row ⟨v,H,h1,h2,h3,h4⟩ hg hr
      exact ⟨v,H,h1,h2,h3,wrGrown h4 h2 hg hr⟩
     case hIx =>
      rintro c A B' row ⟨e,v,H,h1,h2,h3,h4⟩ hg hr
      exact ⟨e,v,H,h1,h2,h3,wrGrown h4 h3 hg hr⟩
     case h0=>exact ⟨v0,S.H,hrel0,⟨fun b o e _=>by rw [e]; rfl⟩,hsub,first0⟩
     case hdone =>
      rintro xs D W hD hS ⟨v,H,h1,h2,h3,h4⟩ hdq
      rw [hS] at h1
      rw [allV_iff] at hdone
      have hq:=hdone v H h1 h2
      have hW2:WC ds p zb H0 w0 bs (L.head S (enc L.shapes v) H).bx H W:=WC.outer L hW hok2 List.prefix_rfl (WC.congr h4 rfl)
      have hHD:H D=none:=by
       cases hh:H D with
       | none=>rfl
       | some o =>
        have e:=hW2.keeps.holds D o hh
        rw [hdq] at e; cases e
        have:=ncB h2 D _ hh rfl
        omega
      exact ⟨bs,L.head S (enc L.shapes v) H,.normal,D::ds,fun e=>(by rw [htop] at e; cases e),List.prefix_rfl,hF.behind L hvars hdead _ _ D,
       hW2.addD (Nat.le_trans hW.keeps.size hD) hHD hdq (fun hm=>by have:=dsB D hm; omega),rfl,hq⟩
     case hstop =>
      rintro c xs D W hD hsp ⟨e,v,H,hc,hq,h2,h4⟩ hdq
      have hq:=hq hsp
      have hc:codeOf e=some c:=hc
      have hW2:WC ds p zb H0 w0 bs (L.head S (enc L.shapes v) H).bx H W:=WC.outer L hW hok2 List.prefix_rfl (WC.congr h4 rfl)
      have hHD:H D=none:=by
       cases hh:H D with
       | none=>rfl
       | some o =>
        have e:=hW2.keeps.holds D o hh
        rw [hdq] at e; cases e
        have:=ncB h2 D _ hh rfl
        omega
      have post:∀ex,toA ex=some e→Post ds p z zb H0 w0 bs Q ex { a with defers:={ target:=.collected D,args:=#[] }::a.defers } W:=fun ex he =>
       ⟨bs,L.head S (enc L.shapes v) H,e,D::ds,fun e=>(by rw [htop] at e; cases e),List.prefix_rfl,hF.behind L hvars hdead _ _ D,
        hW2.addD (Nat.le_trans hW.keeps.size hD) hHD hdq (fun hm=>by have:=dsB D hm; omega),he,hq⟩
      cases e with
      | normal=>cases hc
      | exit id=>cases hc; exact wpIn_exit (post _ rfl)
      | ret=>cases hc; exact wpIn_ret (post _ rfl)
     case round =>
      rintro l pre i W hl ⟨v,H,h1,h2,h3,h4⟩ hN
      have hrd:=hround (pre.map (·.1)) i.1 i.2 (by simpa using hN)
      rw [allV_iff] at hrd
      have hrd:=hrd v H h1 h3 h2
      rw [allV_iff] at hrd
      have hrd:=hrd (E i.1) rfl
      have hFa:=hF.rhead L hlt (psVals R.ps (enc R.sh (E i.1))) (enc L.shapes v) H S.bx.length
      have hWa:WC [] pR { zbR with bb:=bs } (markH bs H) W bs (L.head S (enc L.shapes v) H).bx H W:=WC.rebase h4 fun _ _=>rfl
      have hwa:=vc_sound x pR _ _ hrd (some l) 0 (markH bs H) W [] _ { zbR with bb:=bs } bs _ W (fun e=>by cases e) hFa hWa
      refine wpIn_mono hwa ?_
      rintro e a1 W1 ⟨bs1,S1,e1,ds1,hd1,hp1,f1,f2,he1,hq1⟩
      have hd1:=hd1 rfl
      subst hd1
      cases e with
      | normal =>
       simp only [toA,Option.some.injEq] at he1
       subst he1
       obtain ⟨⟨nc1,hi1⟩,hbody⟩:=hq1
       have keeps1:KeepsFrom w.heap.size W W1:=⟨f2.keeps.size,fun b o hb e hn=>by
        have hnb:b ∉ bs:=fun hm=>by
         obtain ⟨_,_,o',ho',hc⟩:=WC.box h4 hm
         rw [e] at ho'; cases ho'; rw [hn] at hc; cases hc
        have hnH:H b=none:=by
         cases hh:H b with
         | none=>rfl
         | some o2 =>
          have e2:=h4.keeps.holds b o2 hh
          rw [e] at e2; cases e2
          have:=ncB h2 b o hh hn
          omega
        exact ((f2.keeps.old b (heap_lt e) (mark_of hnb hnH)).1).trans e⟩
       refine ⟨keeps1,fun _=>f2.keeps.holds.sub hi1,fun rec hrec rec'=>?_⟩
       have hHl:S1.H l=none:=by
        cases hh:S1.H l with
        | none=>rfl
        | some o =>
         have e:=f2.keeps.holds l o hh
         rw [hrec] at e; cases e
         have:=ncB nc1 l _ hh rfl
         omega
       have hbl:l ∉ bs1:=fun hm=>by
        obtain ⟨_,_,o',ho',hc⟩:=f2.box hm
        rw [hrec] at ho'; cases ho'; cases hc
       have hO1:WC ds pR zbR H0 w0 bs1 S1.bx S1.H W1:=WC.absorb h4 f2
       have hO2:WC ds pR zbR H0 w0 bs1 S1.bx S1.H (W1.putObj l (.loop rec')):=WC.grown hO1 (grownBy_putObj' W1 l (.loop rec')) (fun r e=>by cases e; exact ⟨hl,_,hrec,rfl⟩) hW.keeps.size (ncB nc1) dsB
       have hWb:WC [] pR { zbR with bb:=bs1 } (markH bs1 S1.H) (W1.putObj l (.loop rec')) bs1 S1.bx S1.H (W1.putObj l (.loop rec')):=hO2.rebase fun _ _=>rfl
       have hwb:=vc_sound y pR _ S1 hbody (some l) 0 (markH bs1 S1.H) (W1.putObj l (.loop rec')) [] _ { zbR with bb:=bs1 } bs1 a1 (W1.putObj l (.loop rec')) (fun e=>by cases e) f1 hWb
       refine wpIn_mono hwb ?_
       rintro e a3 W3 ⟨bs3,S3,e3,ds3,hd3,hp3,k1,k2,he3,hq3⟩
       have hd3:=hd3 rfl
       subst hd3
       have keeps3:KeepsFrom w.heap.size (W1.putObj l (.loop rec')) W3:=⟨k2.keeps.size,fun b o hb e hn=>by
        have hnb:b ∉ bs1:=fun hm=>by
         obtain ⟨_,_,o',ho',hc⟩:=hO2.box hm
         rw [e] at ho'; cases ho'; rw [hn] at hc; cases hc
        have hnH:S1.H b=none:=by
         cases hh:S1.H b with
         | none=>rfl
         | some o2 =>
          have e2:=hO2.keeps.holds b o2 hh
          rw [e] at e2; cases e2
          have:=ncB nc1 b o hh hn
          omega
        exact ((k2.keeps.old b (heap_lt e) (mark_of hnb hnH)).1).trans e⟩
       have hO3:WC ds (L.pro p S.bx.length) zbR H0 w0 bs3 S3.bx S3.H W3:=(WC.absorb hO2 k2).congr rfl
       have hsl3:∀t,BRel bs3 (look S3.fr t) (a3.tmps.getD t undef):=fun t=>(k1.slots t).brel
       have next:∀v',getV L.shapes (L.read S3)=some v'→WR v' (cutN S.H S3.H) W3:=fun v' hv'=>by
        have:=WC.head (S:=S) (S2:=S3) L hW (hp1.trans hp3) hO3 hv' hsl3
        exact (this.less cutN_sub).congr rfl
       cases e with
       | normal =>
        simp only [toA,Option.some.injEq] at he3
        subst he3
        simp only [LS.rQ] at hq3
        split at hq3
        ·rename_i v' hv'
         obtain ⟨hr3,hi3⟩:=hq3
         exact ⟨keeps3,fun _=>k2.keeps.holds.sub hi3,v',cutN S.H S3.H,by simpa using hr3,cutN_ncs,cutN_keep hsub hi3,next v' hv'⟩
        ·exact hq3.elim
       | exit id =>
        simp only [toA,Option.some.injEq] at he3
        subst he3
        simp only [LS.rQ] at hq3
        split at hq3
        ·rename_i v' hv'
         exact ⟨keeps3,.exit id,v',_,rfl,fun hp=>hq3 (by simpa using hp),cutN_ncs,next v' hv'⟩
        ·exact hq3.elim
       | ret =>
        simp only [toA,Option.some.injEq] at he3
        subst he3
        simp only [LS.rQ] at hq3
        split at hq3
        ·rename_i v' hv'
         exact ⟨keeps3,.ret,v',_,rfl,fun hp=>hq3 (by simpa using hp),cutN_ncs,next v' hv'⟩
        ·exact hq3.elim
       | goto t=>simp [toA] at he3
       | panic c=>simp [toA] at he3
       | outgrown=>simp [toA] at he3
      | exit id=>simp only [toA,Option.some.injEq] at he1; subst he1; exact hq1
      | ret=>simp only [toA,Option.some.injEq] at he1; subst he1; exact hq1
      | goto l=>simp [toA] at he1
      | panic c=>simp [toA] at he1
      | outgrown=>simp [toA] at he1
    ·exact h.elim
   ·exact h.elim
  ·exact h.elim
def resOne (tm:Array Value):ResultVar→Sem Value
 | .tmp t=>pure (tm.getD t undef)
 | .cell b t=>do loadVar t (←asAddr (tm.getD b undef))
theorem retVal_sound {ds : List Nat} {p : Pro} {z : Nat→Value} {zb : ZB} {bs : List Nat} {S : AS} {a : Act} {w : World} (hF : FC ds p z bs S a) (hW : WC ds p zb H0 w0 bs S.bx S.H w) : ∀(l : List ResultVar) (K : List Value→Prop), retVal C S l K →
  ∃vs,(l.mapM (resOne a.tmps)).run C.P w=.ok vs w∧K vs
 | [],K,h=>⟨[],by simp,h⟩
 | .tmp t::l,K,h=>by
  simp only [retVal] at h
  have hs:=(hF.slots t).brel
  split at h
  ·rename_i x hx
   rw [hx] at hs
   have hs:a.tmps.getD t undef=x:=hs
   obtain ⟨vs,h1,h2⟩:=retVal_sound hF hW l _ h
   exact ⟨x::vs,by rw [List.mapM_cons]; simp only [resOne,Sem.run_bind,Sem.run_pure,Result.andThen_ok,h1,hs],h2⟩
  ·rename_i x hx
   rw [hx] at hs
   have hs:a.tmps.getD t undef=.bool x:=hs
   obtain ⟨vs,h1,h2⟩:=retVal_sound hF hW l _ h
   exact ⟨.bool x::vs,by rw [List.mapM_cons]; simp only [resOne,Sem.run_bind,Sem.run_pure,Result.andThen_ok,h1,hs],h2⟩
  ·exact h.elim
 | .cell b t::l,K,h=>by
  simp only [retVal] at h
  have hx:=pe_sound (anc:=[]) hF (by simp) (hF.slots b)
  obtain ⟨ad,e1,x,v,h1,h2,h3⟩:=loadA_sound (by simp) hW hx h
  have e2:(asAddr (a.tmps.getD b undef)).run C.P w=.ok ad w:=by rw [e1]; rfl
  split at h2
  ·rename_i y
   have h1:v=y:=h1
   obtain ⟨vs,g1,g2⟩:=retVal_sound hF hW l _ h2
   exact ⟨y::vs,by rw [List.mapM_cons]; simp only [resOne,Sem.run_bind,Sem.run_pure,Result.andThen_ok,e2,h3 w hW,g1,h1],g2⟩
  ·rename_i y
   have h1:v=.bool y:=h1
   obtain ⟨vs,g1,g2⟩:=retVal_sound hF hW l _ h2
   exact ⟨.bool y::vs,by rw [List.mapM_cons]; simp only [resOne,Sem.run_bind,Sem.run_pure,Result.andThen_ok,e2,h3 w hW,g1,h1],g2⟩
  ·exact h2.elim
theorem args0_look:∀(l:List Value) (k t:Nat),look (args0 k l) t=.v (if k≤t then l.getD (t-k) undef else undef)
 | [],k,t=>by simp [args0,look]
 | x::l,k,t=>by
  simp only [args0,look]
  cases hk:Nat.beq k t with
  | true=>have:=Nat.eq_of_beq_eq_true hk; subst this; simp
  | false =>
   have hne:k≠t:=fun e=>by subst e; simp at hk
   simp only [args0_look l (k+1) t]
   by_cases h:k≤t
   ·rw [if_pos (by omega),if_pos h]
    have:t-k=(t-(k+1))+1:=by omega
    rw [this]
    simp
   ·rw [if_neg (by omega),if_neg h]
theorem tr_of_vc {f:FuncId} {fn:Func} (hf:C.P.funcs[f]?=some fn) {args:List Value} {H:Heap} {K:Value→Heap→Prop} (h:vcFn C fn args H K):Tr C.P f ⟨args⟩ H K:=by
 refine ⟨fun w hw=>?_⟩
 unfold vcFn at h
 split at h
 ·rename_i c hb hn
  have hn:=Nat.le_of_ble_eq_true hn
  let a0:Act:={ tmps:=(⟨args⟩:Array Value)++Array.replicate (fn.ntmps-args.length) undef,defers:=[] }
  let S0:AS:={ fr:=args0 0 args,bx:=[],H:=H,ep:=0,gs:=[] }
  have hget:∀t,a0.tmps.getD t undef=args.getD t undef:=by
   intro t
   simp only [a0,Array.getD_eq_getD_getElem?,List.getD_eq_getElem?_getD]
   by_cases ht:t<args.length
   ·rw [Array.getElem?_append_left (by simpa using ht)]; simp
   ·rw [Array.getElem?_append_right (by simpa using Nat.le_of_not_lt ht),List.getElem?_eq_none (Nat.le_of_not_lt ht)]
    simp only [Array.getElem?_replicate]
    split<;>rfl
  have hF:FC [] (pro0 fn.ntmps) (fun t=>a0.tmps.getD t undef) [] S0 a0:=by
   refine ⟨by simp [a0,pro0]; omega,rfl,fun t=>?_,fun t e s w x hx=>?_,fun _ _=>rfl,fun t ht=>Nat.le_of_ble_eq_true ht⟩
   ·show SRel [] _ 0 (look (args0 0 args) t) _
    rw [args0_look,hget]
    show _=_
    simp
   ·have hx:look (args0 0 args) t=_:=hx
    rw [args0_look] at hx
    cases hx
  have hW:WC [] (pro0 fn.ntmps) ⟨fun _ _=>none,fun _=>none,[]⟩ H w [] S0.bx S0.H w :=
   ⟨rfl,List.nodup_nil,fun i b cs hb=>by simp at hb,fun _ _ _=>rfl,fun _ _=>rfl,Keeps.refl hw,fun D hD=>(by cases hD),List.nodup_nil,fun b hb=>(by cases hb)⟩
  have hwp:=vc_sound c (pro0 fn.ntmps) _ S0 h none 0 H w [] _ _ [] a0 w (fun _=>rfl) hF hW
  refine callsIn_wide.1 (callsIn_of_wp_marks (F:=Fz none) hf hb trivial (wpIn_mono hwp ?_))
  rintro e a' w' ⟨bs',S',e',ds',-,_,f1,f2,he,hq⟩
  have fin : retVal { C with res := fn.results.toList } S' fn.results.toList (fun vs => K (match vs with|[x] => x|l => .tuple ⟨l⟩) S'.H) →
    LeavesInM (Fz none) 0 C.P fn a'.tmps (fun e w'=>∃v H',e=.returned v∧Keeps H w H' w'∧K v H') a'.defers .returning w':=by
   intro hr
   have last:∀w'',WC [] (pro0 fn.ntmps) ⟨fun _ _=>none,fun _=>none,[]⟩ H w bs' S'.bx S'.H w''→LeavesInM (Fz none) 0 C.P fn a'.tmps (fun e w'=>∃v H',e=.returned v∧Keeps H w H' w'∧K v H') [] .returning w'':=by
    intro w'' hw''
    have f1':FC [] (pro0 fn.ntmps) (fun t=>a0.tmps.getD t undef) bs' S' { a' with defers:=[] }:=⟨f1.size,rfl,f1.slots,f1.eps,f1.zs,f1.okn⟩
    obtain ⟨vs,g1,g2⟩:=retVal_sound f1' hw'' fn.results.toList _ hr
    refine ⟨_,?_,_,S'.H,rfl,hw''.keeps,g2⟩
    have:(results fn a'.tmps).run C.P w''=.ok (if h:vs.toArray.size=1 then vs.toArray[0] else .tuple vs.toArray) w'':=by
     have he:results fn a'.tmps=(do let vs ←fn.results.mapM (resOne a'.tmps); pure (if h:vs.size=1 then vs[0] else .tuple vs)):=by
      have hfun:(fun r:ResultVar=>match r with|.tmp t=>pure (a'.tmps.getD t undef)|.cell b t=>do loadVar t (←asAddr (a'.tmps.getD b undef)))=resOne a'.tmps:=by
       funext r
       cases r<;>rfl
      unfold results
      rw [←hfun]
      rfl
     rw [he,Array.mapM_eq_mapM_toList]
     simp only [map_eq_pure_bind,Sem.run_bind,g1,Result.andThen_ok,Sem.run_pure]
    rw [this]
    congr 1
    match vs with
    | []=>rfl
    | [x]=>rfl
    | x::y::l=>simp
   have down:∀(l:List Nat) (w'':World),WC l (pro0 fn.ntmps) ⟨fun _ _=>none,fun _=>none,[]⟩ H w bs' S'.bx S'.H w''→LeavesInM (Fz none) 0 C.P fn a'.tmps (fun e w'=>∃v H',e=.returned v∧Keeps H w H' w'∧K v H') (dfs l) .returning w'':=by
    intro l
    induction l with
    | nil=>exact last
    | cons D l ih =>
     intro w'' hw''
     exact ⟨by simp,.inl ⟨D,_,rfl,run_takeDeferred (hw''.dq D (List.mem_cons_self ..)).2.2,ih _ hw''.takeD⟩⟩
   rw [f1.defers]
   exact down ds' w' f2
  cases e with
  | normal=>simp only [toA,Option.some.injEq] at he; subst he; exact fin hq
  | ret=>simp only [toA,Option.some.injEq] at he; subst he; exact fin hq
  | exit id=>simp only [toA,Option.some.injEq] at he; subst he; exact hq.elim
  | goto l=>simp [toA] at he
  | panic c=>simp [toA] at he
  | outgrown=>simp [toA] at he
 ·exact h.elim
theorem tr_of_eq {f:FuncId} {fn:Func} (hf:C.P.funcs[f]?=some fn) {args:List Value} {H:Heap} {K:Value→Heap→Prop} {F:Prop} (e:vcFn C fn args H K=F) (h:F):Tr C.P f ⟨args⟩ H K:=tr_of_vc hf (Eq.mpr e h)
end
end Go.Ax
set_option maxRecDepth 100000
set_option linter.unusedVariables false
namespace Go.Proofs.YtkofafcgcnciaaaGreatDoor
open Go.Ax IntKind
noncomputable def c20:Cx:={ P:=Tryz.prog,res:=[],pub:=[],loops:=[⟨6,[(5,.int .i64)],[2,6,7,35,36,37,38,39,40,41,42,43,44,45,46,47,48,49,50,51,52,53,54,55,56,57,58,59,60,61,62,63,64,65,66,67,68,69,70,71,72,73,74,75,76],[]⟩],quiet:=[60,62] }
instance:Coe Int Value:=⟨.int .i64⟩
instance:Coe Nat Addr:=⟨fun b=>⟨b,0,none⟩⟩
abbrev InB (A:Option Addr) (a:Addr) (i:Int) (n:Nat):Prop:=A=some a∧(0:Int)≤i∧i<(n:Int)
abbrev TrQ (P:Program) (f:Nat) (l:Array Value) (H:Heap) (x:Value):Prop:=Tr P f l H fun v H'=>v=x∧Ax.Sub H H'
def F20 (eId eTime eKind eA eB eC eD eE eF:Int) (H:Heap) (K:Value→Heap→Prop):Prop :=
 ∃(x:Int),TrQ Tryz.prog 60 #[eKind] H (.int .i64 x) ∧((decide (x<0)||decide (eId<1)||decide (eId>256)||decide (eTime<0)||decide (eTime>1099511627776))=true→K (.bool false) H) ∧((decide (x<0)||decide (eId<1)||decide (eId>256)||decide (eTime<0)||decide (eTime>1099511627776))=false→Tr Tryz.prog 61 #[.agg #[eId,eTime,eKind,eA,eB,eC,eD,eE,eF]] H fun v1 H'1 =>∃(A:Option Addr) (n c:Nat),v1=.slice A n c ∧∃(Rel:Int→Heap→Prop) (mu:Int→Heap→Nat),Rel (0:Int) H'1 ∧∀(x1:Int) (H1:Heap),Rel x1 H1→(decide (x1<6)=true→∃(x2 x3:Int),
 TrQ Tryz.prog 62 #[eKind,x1] H1 (.tuple #[x2,x3]) ∧∃(a:Addr),(decide (x1≥x)=true→A=some a ∧(0:Int)≤x1 ∧x1<(↑n:Int)) ∧∃(x4:Int),(decide (x1≥x)=true→At H1 (a.add (x1.toNat*1)) [x4]) ∧∃(a1:Addr),((!(decide (x1≥x)&&x4 != 0)&&decide (x1<x))=true→A=some a1 ∧(0:Int)≤x1 ∧x1<(↑n:Int)) ∧∃(x5:Int),((!(decide (x1≥x)&&x4 != 0)&&decide (x1<x))=true→At H1 (a1.add (x1.toNat*1)) [x5]) ∧∃(a2:Addr),((!(decide (x1≥x)&&x4 != 0)&&decide (x1<x)&&!decide (x5<x2))=true→A=some a2 ∧(0:Int)≤x1 ∧x1<(↑n:Int)) ∧∃(x6:Int),
 ((!(decide (x1≥x)&&x4 != 0)&&decide (x1<x)&&!decide (x5<x2))=true→At H1 (a2.add (x1.toNat*1)) [x6]) ∧((decide (x1≥x)&&x4 != 0||decide (x1<x)&&(decide (x5<x2)||decide (x6>x3)))=true→K (.bool false) H1) ∧((decide (x1≥x)&&x4 != 0||decide (x1<x)&&(decide (x5<x2)||decide (x6>x3)))=false→Rel (i64.wrap (x1+1)) H1 ∧mu (i64.wrap (x1+1)) H1<mu x1 H1)) ∧(decide (x1<6)=false→K (.bool true) H1))

theorem v20 {eId eTime eKind eA eB eC eD eE eF:Int} {H:Heap} {K:Value→Heap→Prop} (h:F20 eId eTime eKind eA eB eC eD eE eF H K):Tr Tryz.prog 20 #[.agg #[.int .i64 eId,.int .i64 eTime,.int .i64 eKind,.int .i64 eA,.int .i64 eB,.int .i64 eC,.int .i64 eD,.int .i64 eE,.int .i64 eF]] H K :=
 tr_of_eq (C:=c20) Tryz.func20 (by kernel_rfl) h
noncomputable def c60:Cx:={ P:=Tryz.prog,res:=[],pub:=[4],loops:=[],quiet:=[] }
def F60 (kind:Int) (H:Heap) (K:Value→Heap→Prop):Prop:=∀(b:Nat),H b=none→((decide (kind<1)||decide (kind>31))=true→K (.int .i64 (-1)) (H.upd b (Obj.cells #[.int .i64 (-1),.int .i64 6,.int .i64 1,.int .i64 2,.int .i64 1,.int .i64 2,.int .i64 1,.int .i64 1,.int .i64 1,.int .i64 3,.int .i64 2,.int .i64 1,.int .i64 1,.int .i64 2,.int .i64 3,.int .i64 1,.int .i64 1,.int .i64 1,.int .i64 2,.int .i64 3,.int .i64 1,.int .i64 3,.int .i64 3,.int .i64 3,.int .i64 3,.int .i64 1,.int .i64 2,.int .i64 2,.int .i64 3,.int .i64 2,.int .i64 1,.int .i64 0] 3))) ∧
 ((decide (kind<1)||decide (kind>31))=false→∃(a:Addr),(some (b:Addr)=some a ∧(0:Int)≤kind ∧kind<(↑(32:Nat):Int)) ∧∃(x:Int),At (H.upd b (Obj.cells #[.int .i64 (-1),.int .i64 6,.int .i64 1,.int .i64 2,.int .i64 1,.int .i64 2,.int .i64 1,.int .i64 1,.int .i64 1,.int .i64 3,.int .i64 2,.int .i64 1,.int .i64 1,.int .i64 2,.int .i64 3,.int .i64 1,.int .i64 1,.int .i64 1,.int .i64 2,.int .i64 3,.int .i64 1,.int .i64 3,.int .i64 3,.int .i64 3,.int .i64 3,.int .i64 1,.int .i64 2,.int .i64 2,.int .i64 3,.int .i64 2,.int .i64 1,.int .i64 0] 3)) (a.add (kind.toNat*1)) [x] ∧
 K (.int .i64 x) (H.upd b (Obj.cells #[.int .i64 (-1),.int .i64 6,.int .i64 1,.int .i64 2,.int .i64 1,.int .i64 2,.int .i64 1,.int .i64 1,.int .i64 1,.int .i64 3,.int .i64 2,.int .i64 1,.int .i64 1,.int .i64 2,.int .i64 3,.int .i64 1,.int .i64 1,.int .i64 1,.int .i64 2,.int .i64 3,.int .i64 1,.int .i64 3,.int .i64 3,.int .i64 3,.int .i64 3,.int .i64 1,.int .i64 2,.int .i64 2,.int .i64 3,.int .i64 2,.int .i64 1,.int .i64 0] 3)))

theorem v60 {kind:Int} {H:Heap} {K:Value→Heap→Prop} (h:F60 kind H K):Tr Tryz.prog 60 #[.int .i64 kind] H K :=
 tr_of_eq (C:=c60) Tryz.func60 (by kernel_rfl) h
noncomputable def c61:Cx:={ P:=Tryz.prog,res:=[],pub:=[15],loops:=[],quiet:=[] }
def F61 (eId eTime eKind eA eB eC eD eE eF:Int) (H:Heap) (K:Value→Heap→Prop):Prop:=∀(b:Nat),H b=none→K (.slice (some (b:Addr)) (6:Nat) (6:Nat)) (H.upd b (Obj.cells #[eA,eB,eC,eD,eE,eF] 2))

theorem v61 {eId eTime eKind eA eB eC eD eE eF:Int} {H:Heap} {K:Value→Heap→Prop} (h:F61 eId eTime eKind eA eB eC eD eE eF H K):Tr Tryz.prog 61 #[.agg #[.int .i64 eId,.int .i64 eTime,.int .i64 eKind,.int .i64 eA,.int .i64 eB,.int .i64 eC,.int .i64 eD,.int .i64 eE,.int .i64 eF]] H K :=
 tr_of_eq (C:=c61) Tryz.func61 (by kernel_rfl) h
noncomputable def c62:Cx:={ P:=Tryz.prog,res:=[],pub:=[],loops:=[],quiet:=[] }
def F62 (kind k:Int) (H:Heap) (K:Value→Heap→Prop):Prop:=((k==0&&(kind==1||kind==3||kind==5||kind==19||kind==21)||k==1&&kind==9)=true→K (.tuple #[(0:Int),(7:Int)]) H) ∧
 ((k==0&&(kind==1||kind==3||kind==5||kind==19||kind==21)||k==1&&kind==9)=false→((k==0&&(kind==2||decide (kind≥6)&&decide (kind≤9)||decide (kind≥12)&&decide (kind≤14)||decide (kind≥22)&&decide (kind≤29))||(k==2&&decide (kind≥22)&&decide (kind≤24)||k==1&&(kind==18||kind==26)))=true→K (.tuple #[(1:Int),(9223372036854775807:Int)]) H) ∧
 ((k==0&&(kind==2||decide (kind≥6)&&decide (kind≤9)||decide (kind≥12)&&decide (kind≤14)||decide (kind≥22)&&decide (kind≤29))||(k==2&&decide (kind≥22)&&decide (kind≤24)||k==1&&(kind==18||kind==26)))=false→((kind==1&&decide (k≥2)||k==0&&(kind==4||kind==20)||k==2&&(kind==19||kind==21))=true→K (.tuple #[(0:Int),(9223372036854775807:Int)]) H) ∧
 ((kind==1&&decide (k≥2)||k==0&&(kind==4||kind==20)||k==2&&(kind==19||kind==21))=false→((kind==10&&k==0)=true→K (.tuple #[(0:Int),(3:Int)]) H) ∧((kind==10&&k==0)=false→((kind==14&&k==2)=true→K (.tuple #[(0:Int),(1:Int)]) H) ∧((kind==14&&k==2)=false→((kind==24&&k==1)=true→K (.tuple #[(1:Int),(4:Int)]) H) ∧((kind==24&&k==1)=false→((kind==28&&k==2)=true→K (.tuple #[(0:Int),(4:Int)]) H) ∧
 ((kind==28&&k==2)=false→K (.tuple #[(-9223372036854775808:Int),(9223372036854775807:Int)]) H)))))))

theorem v62 {kind k:Int} {H:Heap} {K:Value→Heap→Prop} (h:F62 kind k H K):Tr Tryz.prog 62 #[.int .i64 kind,.int .i64 k] H K :=
 tr_of_eq (C:=c62) Tryz.func62 (by kernel_rfl) h
set_option linter.unusedVariables false
open IntKind
noncomputable def c105:Cx:={ P:=Tryz.prog,res:=[],pub:=[],loops:=[],quiet:=[] }
def F105 (op:Int) (H:Heap) (K:Value→Heap→Prop):Prop:=K (.bool (op==0||op==13||op==14||op==15||op==16||op==20||op==22||op==25||op==26||op==27||op==33||op==34)) H

theorem v105 {op:Int} {H:Heap} {K:Value→Heap→Prop} (h:F105 op H K):Tr Tryz.prog 105 #[.int .i64 op] H K :=
 tr_of_eq (C:=c105) Tryz.func105 (by kernel_rfl) h
noncomputable def c106:Cx:={ P:=Tryz.prog,res:=[],pub:=[],loops:=[],quiet:=[] }
def F106 (op:Int) (H:Heap) (K:Value→Heap→Prop):Prop:=K (.bool (decide (op≥0)&&decide (op≤15)||op==17||op==18||op==26||op==36||op==37)) H

theorem v106 {op:Int} {H:Heap} {K:Value→Heap→Prop} (h:F106 op H K):Tr Tryz.prog 106 #[.int .i64 op] H K :=
 tr_of_eq (C:=c106) Tryz.func106 (by kernel_rfl) h
noncomputable def c19:Cx:={ P:=Tryz.prog,res:=[],pub:=[],loops:=[⟨4,[(5,.int .i64)],[2,3,4,6,26,27,28,29,30,31,32,33,34,35,36,37,38,39,40,41],[]⟩,⟨10,[(7,.int .i64)],[2,3,4,8,9,42,43,44,45,46,47,48,49,50,51,52,53,54,55,56,57,58,59,60,61,62,63,64,65,66,67,68,69,70,71,72,73],[]⟩,⟨16,[(9,.int .i64)],[2,3,4,8,55,56,57,58,59,60,61,62,63,64,65,66,67,68,69,70,71,72,73],[]⟩],quiet:=[57,58,59] }
def F19 (pFuncsA:Option Addr) (pFuncsn pFuncsc:Nat) (pOptsA:Option Addr) (pOptsn pOptsc:Nat) (H:Heap) (K:Value→Heap→Prop):Prop:=(((↑pFuncsn:Int)==0||decide ((↑pFuncsn:Int)>16)||decide ((↑pOptsn:Int)>8))=true→K (.tuple #[(40:Int),(-1:Int),(-1:Int)]) H) ∧
 (((↑pFuncsn:Int)==0||decide ((↑pFuncsn:Int)>16)||decide ((↑pOptsn:Int)>8))=false→∃(Rel:Int→Heap→Prop) (mu:Int→Heap→Nat),Rel (0:Int) H ∧∀(x:Int) (H1:Heap),Rel x H1→(decide (x<(↑pOptsn:Int))=true→∃(a:Addr),InB pOptsA a x pOptsn ∧∃(x1 x2 x3 x4 x5 x6 x7 x8 x9 x10 x11:Int),At H1 (a.add (x.toNat*11)) [x1,x2,x3,x4,x5,x6,x7,x8,x9,x10,x11] ∧∃(b:Bool),TrQ Tryz.prog 57 #[.agg #[x1,x2,x3,x4,x5,x6,x7,x8,x9,x10,x11]] H1 (.bool b) ∧((!b)=true→K (.tuple #[(40:Int),(-1:Int),x]) H1) ∧((!b)=false→Rel (i64.wrap (x+1)) H1 ∧mu (i64.wrap (x+1)) H1<mu x H1)) ∧
 (decide (x<(↑pOptsn:Int))=false→∃(Rel1:Int→Heap→Prop) (mu1:Int→Heap→Nat),Rel1 (0:Int) H1 ∧∀(x12:Int) (H2:Heap),Rel1 x12 H2→(decide (x12<(↑pFuncsn:Int))=true→∃(b1:Bool),TrQ Tryz.prog 58 #[.agg #[.slice pFuncsA pFuncsn pFuncsc,.slice pOptsA pOptsn pOptsc],x12] H2 (.bool b1) ∧((!b1)=true→K (.tuple #[(40:Int),x12,(-1:Int)]) H2) ∧((!b1)=false→∃(Rel2:Int→Heap→Prop) (mu2:Int→Heap→Nat),Rel2 (0:Int) H2 ∧∀(x13:Int) (H3:Heap),Rel2 x13 H3→∃(a1:Addr),InB pFuncsA a1 x12 pFuncsn ∧∃(A:Option Addr) (n c:Nat),
 At H3 ((a1.add (x12.toNat*3)).add 2) [.slice A n c] ∧(decide (x13<(↑n:Int))=true→∃(b2:Bool),TrQ Tryz.prog 59 #[.agg #[.slice pFuncsA pFuncsn pFuncsc,.slice pOptsA pOptsn pOptsc],x12,x13] H3 (.bool b2) ∧((!b2)=true→K (.tuple #[(40:Int),x12,x13]) H3) ∧((!b2)=false→Rel2 (i64.wrap (x13+1)) H3 ∧mu2 (i64.wrap (x13+1)) H3<mu2 x13 H3)) ∧(decide (x13<(↑n:Int))=false→Rel1 (i64.wrap (x12+1)) H3 ∧mu1 (i64.wrap (x12+1)) H3<mu1 x12 H2))) ∧(decide (x12<(↑pFuncsn:Int))=false→K (.tuple #[(0:Int),(0:Int),(0:Int)]) H2)))

theorem v19 {pFuncsA:Option Addr} {pFuncsn pFuncsc:Nat} {pOptsA:Option Addr} {pOptsn pOptsc:Nat} {H:Heap} {K:Value→Heap→Prop} (h:F19 pFuncsA pFuncsn pFuncsc pOptsA pOptsn pOptsc H K):Tr Tryz.prog 19 #[.agg #[.slice pFuncsA pFuncsn pFuncsc,.slice pOptsA pOptsn pOptsc]] H K :=
 tr_of_eq (C:=c19) Tryz.func19 (by kernel_rfl) h
noncomputable def c103:Cx:={ P:=Tryz.prog,res:=[],pub:=[],loops:=[⟨2,[(7,.int .i64)],[6,8,9,10,11,12,13,14,15,16,17,18,19,20,21,22,23,24,25,26,27,28,29,30,31,32,33],[]⟩],quiet:=[] }
def F103 (pFuncsA:Option Addr) (pFuncsn pFuncsc:Nat) (pOptsA:Option Addr) (pOptsn pOptsc:Nat) (kind name:Int) (H:Heap) (K:Value→Heap→Prop):Prop :=
 ∃(Rel:Int→Heap→Prop) (mu:Int→Heap→Nat),Rel (0:Int) H ∧∀(x:Int) (H1:Heap),Rel x H1→(decide (x<(↑pFuncsn:Int))=true→∃(a:Addr),InB pFuncsA a x pFuncsn ∧∃(x1:Int),At H1 ((a.add (x.toNat*3)).add 0) [x1] ∧∃(a1:Addr),((x1==kind)=true→pFuncsA=some a1 ∧(0:Int)≤x ∧x<(↑pFuncsn:Int)) ∧∃(x2:Int),((x1==kind)=true→At H1 ((a1.add (x.toNat*3)).add 1) [x2]) ∧((x1==kind&&x2==name)=true→K (.int .i64 x) H1) ∧((x1==kind&&x2==name)=false→Rel (i64.wrap (x+1)) H1 ∧mu (i64.wrap (x+1)) H1<mu x H1)) ∧
 (decide (x<(↑pFuncsn:Int))=false→K (.int .i64 (-1)) H1)

theorem v103 {pFuncsA:Option Addr} {pFuncsn pFuncsc:Nat} {pOptsA:Option Addr} {pOptsn pOptsc:Nat} {kind name:Int} {H:Heap} {K:Value→Heap→Prop} (h:F103 pFuncsA pFuncsn pFuncsc pOptsA pOptsn pOptsc kind name H K):Tr Tryz.prog 103 #[.agg #[.slice pFuncsA pFuncsn pFuncsc,.slice pOptsA pOptsn pOptsc],.int .i64 kind,.int .i64 name] H K :=
 tr_of_eq (C:=c103) Tryz.func103 (by kernel_rfl) h
noncomputable def c57:Cx:={ P:=Tryz.prog,res:=[],pub:=[17],loops:=[⟨3,[(4,.int .i64)],[2,18,19,20,21,22,23,24,25,26,27,28,29,30,31,32,33,34,35],[]⟩],quiet:=[] }
def F57 (oQueue oStart oClose oTotal oBeat oFirst oNum oDen oMost oTries oNever:Int) (H:Heap) (K:Value→Heap→Prop):Prop:=∀(b:Nat),H b=none →
 ∃(Rel:Int→Heap→Prop) (mu:Int→Heap→Nat),Rel (0:Int) (H.upd b (Obj.cells #[oStart,oClose,oTotal,oBeat,oFirst,oMost] 2)) ∧∀(x:Int) (H1:Heap),Rel x H1→(decide (x<(↑(6:Nat):Int))=true→∃(a:Addr),(some (b:Addr)=some a ∧(0:Int)≤x ∧x<(↑(6:Nat):Int)) ∧∃(x1:Int),At H1 (a.add (x.toNat*1)) [x1] ∧∃(a1:Addr),((!decide (x1<0))=true→some (b:Addr)=some a1 ∧(0:Int)≤x ∧x<(↑(6:Nat):Int)) ∧∃(x2:Int),((!decide (x1<0))=true→At H1 (a1.add (x.toNat*1)) [x2]) ∧((decide (x1<0)||decide (x2>1048576))=true→K (.bool false) H1) ∧
 ((decide (x1<0)||decide (x2>1048576))=false→Rel (i64.wrap (x+1)) H1 ∧mu (i64.wrap (x+1)) H1<mu x H1)) ∧(decide (x<(↑(6:Nat):Int))=false→K (.bool (decide (oQueue≥0)&&decide (oQueue<8)&&decide (oDen≥1)&&decide (oDen≤1000)&&decide (oNum≥oDen)&&decide (oNum≤1000)&&decide (oTries≥0)&&decide (oTries≤1000))) H1)

theorem v57 {oQueue oStart oClose oTotal oBeat oFirst oNum oDen oMost oTries oNever:Int} {H:Heap} {K:Value→Heap→Prop} (h:F57 oQueue oStart oClose oTotal oBeat oFirst oNum oDen oMost oTries oNever H K):Tr Tryz.prog 57 #[.agg #[.int .i64 oQueue,.int .i64 oStart,.int .i64 oClose,.int .i64 oTotal,.int .i64 oBeat,.int .i64 oFirst,.int .i64 oNum,.int .i64 oDen,.int .i64 oMost,.int .i64 oTries,.int .i64 oNever]] H K :=
 tr_of_eq (C:=c57) Tryz.func57 (by kernel_rfl) h
noncomputable def c58:Cx:={ P:=Tryz.prog,res:=[],pub:=[],loops:=[⟨7,[(6,.int .i64)],[4,57,58,59,60,61,62,63,64,65,66,67,68,69,70,71,72,73,74,75,76,77,78,79,80,81,82,83,84,85,86],[]⟩],quiet:=[103] }
def F58 (pFuncsA:Option Addr) (pFuncsn pFuncsc:Nat) (pOptsA:Option Addr) (pOptsn pOptsc:Nat) (i:Int) (H:Heap) (K:Value→Heap→Prop):Prop :=
 ∃(a:Addr),InB pFuncsA a i pFuncsn ∧∃(x x1:Int) (A:Option Addr) (n c:Nat),At H (a.add (i.toNat*3)) [x,x1,.slice A n c] ∧((decide (x<0)||decide (x>4)||x==0&&i != 0||x != 0&&i==0)=true→K (.bool false) H) ∧((decide (x<0)||decide (x>4)||x==0&&i != 0||x != 0&&i==0)=false→((decide (x<2)&&x1 != 0||decide (x1<0)||decide (x1>7))=true→K (.bool false) H) ∧((decide (x<2)&&x1 != 0||decide (x1<0)||decide (x1>7))=false→∃(Rel:Int→Heap→Prop) (mu:Int→Heap→Nat),Rel (0:Int) H ∧
 ∀(x2:Int) (H1:Heap),Rel x2 H1→(decide (x2<i)=true→∃(a1:Addr),(decide (x≥2)=true→pFuncsA=some a1 ∧(0:Int)≤x2 ∧x2<(↑pFuncsn:Int)) ∧∃(x3:Int),(decide (x≥2)=true→At H1 ((a1.add (x2.toNat*3)).add 0) [x3]) ∧∃(a2:Addr),((decide (x≥2)&&x3==x)=true→pFuncsA=some a2 ∧(0:Int)≤x2 ∧x2<(↑pFuncsn:Int)) ∧∃(x4:Int),((decide (x≥2)&&x3==x)=true→At H1 ((a2.add (x2.toNat*3)).add 1) [x4]) ∧((decide (x≥2)&&x3==x&&x4==x1)=true→K (.bool false) H1) ∧((decide (x≥2)&&x3==x&&x4==x1)=false→Rel (i64.wrap (x2+1)) H1 ∧
 mu (i64.wrap (x2+1)) H1<mu x2 H1)) ∧(decide (x2<i)=false→∃(x5:Int),TrQ Tryz.prog 103 #[.agg #[.slice pFuncsA pFuncsn pFuncsc,.slice pOptsA pOptsn pOptsc],(3:Int),x1] H1 (.int .i64 x5) ∧((x==4&&decide (x5<0))=true→K (.bool false) H1) ∧((x==4&&decide (x5<0))=false→K (.bool (decide ((↑n:Int)≥1)&&decide ((↑n:Int)≤128))) H1))))

theorem v58 {pFuncsA:Option Addr} {pFuncsn pFuncsc:Nat} {pOptsA:Option Addr} {pOptsn pOptsc:Nat} {i:Int} {H:Heap} {K:Value→Heap→Prop} (h:F58 pFuncsA pFuncsn pFuncsc pOptsA pOptsn pOptsc i H K):Tr Tryz.prog 58 #[.agg #[.slice pFuncsA pFuncsn pFuncsc,.slice pOptsA pOptsn pOptsc],.int .i64 i] H K :=
 tr_of_eq (C:=c58) Tryz.func58 (by kernel_rfl) h
noncomputable def c59:Cx:={ P:=Tryz.prog,res:=[],pub:=[],loops:=[],quiet:=[104,105,106] }
def F59 (pFuncsA:Option Addr) (pFuncsn pFuncsc:Nat) (pOptsA:Option Addr) (pOptsn pOptsc:Nat) (i k:Int) (H:Heap) (K:Value→Heap→Prop):Prop :=
 ∃(a:Addr),InB pFuncsA a i pFuncsn ∧∃(x x1:Int) (A:Option Addr) (n c:Nat),At H (a.add (i.toNat*3)) [x,x1,.slice A n c] ∧∃(a1:Addr),InB A a1 k n ∧∃(x2 x3:Int),At H (a1.add (k.toNat*2)) [x2,x3] ∧((decide (x2<0)||decide (x2>37))=true→K (.bool false) H) ∧((decide (x2<0)||decide (x2>37))=false→∃(x4:Int),TrQ Tryz.prog 104 #[.agg #[.slice pFuncsA pFuncsn pFuncsc,.slice pOptsA pOptsn pOptsc],.agg #[x,x1,.slice A n c],x2] H (.int .i64 x4) ∧∃(b:Bool),TrQ Tryz.prog 105 #[x2] H (.bool b) ∧
 ((!b&&x3 != 0||b&&decide (x4≥0)&&(decide (x3<0)||decide (x3≥x4)))=true→K (.bool false) H) ∧((!b&&x3 != 0||b&&decide (x4≥0)&&(decide (x3<0)||decide (x3≥x4)))=false→∃(a2:Addr),((x2==27)=true→pFuncsA=some a2 ∧(0:Int)≤x3 ∧x3<(↑pFuncsn:Int)) ∧∃(x5:Int),((x2==27)=true→At H ((a2.add (x3.toNat*3)).add 0) [x5]) ∧((x2==27&&x5 != 1)=true→K (.bool false) H) ∧((x2==27&&x5 != 1)=false→∃(b1:Bool),TrQ Tryz.prog 106 #[x2] H (.bool b1) ∧(((x==2||x==4)&&!b1||x2==35&&i != 0)=true→K (.bool false) H) ∧
 (((x==2||x==4)&&!b1||x2==35&&i != 0)=false→K (.bool (decide (k<i64.wrap ((↑n:Int)-1))||(x2==13||x2==35||x2==36||x2==37))) H))))

theorem v59 {pFuncsA:Option Addr} {pFuncsn pFuncsc:Nat} {pOptsA:Option Addr} {pOptsn pOptsc:Nat} {i k:Int} {H:Heap} {K:Value→Heap→Prop} (h:F59 pFuncsA pFuncsn pFuncsc pOptsA pOptsn pOptsc i k H K):Tr Tryz.prog 59 #[.agg #[.slice pFuncsA pFuncsn pFuncsc,.slice pOptsA pOptsn pOptsc],.int .i64 i,.int .i64 k] H K :=
 tr_of_eq (C:=c59) Tryz.func59 (by kernel_rfl) h
noncomputable def c104:Cx:={ P:=Tryz.prog,res:=[],pub:=[],loops:=[],quiet:=[] }
def F104 (pFuncsA:Option Addr) (pFuncsn pFuncsc:Nat) (pOptsA:Option Addr) (pOptsn pOptsc:Nat) (fKind fName:Int) (fOpsA:Option Addr) (fOpsn fOpsc:Nat) (op:Int) (H:Heap) (K:Value→Heap→Prop):Prop:=((op==0)=true→K (.int .i64 (-1)) H) ∧
 ((op==0)=false→((op==13)=true→((op==13)=true→K (.int .i64 (↑fOpsn:Int)) H) ∧((op==13)=false→((op==15)=true→((op==15)=true→K (.int .i64 16) H) ∧((op==15)=false→((op==20)=true→K (.int .i64 (↑pOptsn:Int)) H) ∧((op==20)=false→((op==22)=true→((op==22)=true→K (.int .i64 8) H) ∧((op==22)=false→((op==27)=true→K (.int .i64 (↑pFuncsn:Int)) H) ∧((op==27)=false→((op==33)=true→K (.int .i64 4) H) ∧((op==33)=false→K (.int .i64 0) H)))) ∧
 ((op==22)=false→((op==25)=true→((op==25)=true→K (.int .i64 8) H) ∧((op==25)=false→((op==27)=true→K (.int .i64 (↑pFuncsn:Int)) H) ∧((op==27)=false→((op==33)=true→K (.int .i64 4) H) ∧((op==33)=false→K (.int .i64 0) H)))) ∧((op==25)=false→((op==26)=true→((op==26)=true→K (.int .i64 8) H) ∧((op==26)=false→((op==27)=true→K (.int .i64 (↑pFuncsn:Int)) H) ∧((op==27)=false→((op==33)=true→K (.int .i64 4) H) ∧((op==33)=false→K (.int .i64 0) H)))) ∧
 ((op==26)=false→((op==34)=true→K (.int .i64 8) H) ∧((op==34)=false→((op==27)=true→K (.int .i64 (↑pFuncsn:Int)) H) ∧((op==27)=false→((op==33)=true→K (.int .i64 4) H) ∧((op==33)=false→K (.int .i64 0) H))))))))) ∧((op==15)=false→((op==16)=true→K (.int .i64 16) H) ∧((op==16)=false→((op==20)=true→K (.int .i64 (↑pOptsn:Int)) H) ∧((op==20)=false→((op==22)=true→((op==22)=true→K (.int .i64 8) H) ∧((op==22)=false→((op==27)=true→K (.int .i64 (↑pFuncsn:Int)) H) ∧
 ((op==27)=false→((op==33)=true→K (.int .i64 4) H) ∧((op==33)=false→K (.int .i64 0) H)))) ∧((op==22)=false→((op==25)=true→((op==25)=true→K (.int .i64 8) H) ∧((op==25)=false→((op==27)=true→K (.int .i64 (↑pFuncsn:Int)) H) ∧((op==27)=false→((op==33)=true→K (.int .i64 4) H) ∧((op==33)=false→K (.int .i64 0) H)))) ∧((op==25)=false→((op==26)=true→((op==26)=true→K (.int .i64 8) H) ∧((op==26)=false→((op==27)=true→K (.int .i64 (↑pFuncsn:Int)) H) ∧
 ((op==27)=false→((op==33)=true→K (.int .i64 4) H) ∧((op==33)=false→K (.int .i64 0) H)))) ∧((op==26)=false→((op==34)=true→K (.int .i64 8) H) ∧((op==34)=false→((op==27)=true→K (.int .i64 (↑pFuncsn:Int)) H) ∧((op==27)=false→((op==33)=true→K (.int .i64 4) H) ∧((op==33)=false→K (.int .i64 0) H))))))))))) ∧((op==13)=false→((op==14)=true→K (.int .i64 (↑fOpsn:Int)) H) ∧((op==14)=false→((op==15)=true→((op==15)=true→K (.int .i64 16) H) ∧((op==15)=false→((op==20)=true→K (.int .i64 (↑pOptsn:Int)) H) ∧
 ((op==20)=false→((op==22)=true→((op==22)=true→K (.int .i64 8) H) ∧((op==22)=false→((op==27)=true→K (.int .i64 (↑pFuncsn:Int)) H) ∧((op==27)=false→((op==33)=true→K (.int .i64 4) H) ∧((op==33)=false→K (.int .i64 0) H)))) ∧((op==22)=false→((op==25)=true→((op==25)=true→K (.int .i64 8) H) ∧((op==25)=false→((op==27)=true→K (.int .i64 (↑pFuncsn:Int)) H) ∧((op==27)=false→((op==33)=true→K (.int .i64 4) H) ∧((op==33)=false→K (.int .i64 0) H)))) ∧
 ((op==25)=false→((op==26)=true→((op==26)=true→K (.int .i64 8) H) ∧((op==26)=false→((op==27)=true→K (.int .i64 (↑pFuncsn:Int)) H) ∧((op==27)=false→((op==33)=true→K (.int .i64 4) H) ∧((op==33)=false→K (.int .i64 0) H)))) ∧((op==26)=false→((op==34)=true→K (.int .i64 8) H) ∧((op==34)=false→((op==27)=true→K (.int .i64 (↑pFuncsn:Int)) H) ∧((op==27)=false→((op==33)=true→K (.int .i64 4) H) ∧((op==33)=false→K (.int .i64 0) H))))))))) ∧((op==15)=false→((op==16)=true→K (.int .i64 16) H) ∧
 ((op==16)=false→((op==20)=true→K (.int .i64 (↑pOptsn:Int)) H) ∧((op==20)=false→((op==22)=true→((op==22)=true→K (.int .i64 8) H) ∧((op==22)=false→((op==27)=true→K (.int .i64 (↑pFuncsn:Int)) H) ∧((op==27)=false→((op==33)=true→K (.int .i64 4) H) ∧((op==33)=false→K (.int .i64 0) H)))) ∧((op==22)=false→((op==25)=true→((op==25)=true→K (.int .i64 8) H) ∧((op==25)=false→((op==27)=true→K (.int .i64 (↑pFuncsn:Int)) H) ∧((op==27)=false→((op==33)=true→K (.int .i64 4) H) ∧
 ((op==33)=false→K (.int .i64 0) H)))) ∧((op==25)=false→((op==26)=true→((op==26)=true→K (.int .i64 8) H) ∧((op==26)=false→((op==27)=true→K (.int .i64 (↑pFuncsn:Int)) H) ∧((op==27)=false→((op==33)=true→K (.int .i64 4) H) ∧((op==33)=false→K (.int .i64 0) H)))) ∧((op==26)=false→((op==34)=true→K (.int .i64 8) H) ∧((op==34)=false→((op==27)=true→K (.int .i64 (↑pFuncsn:Int)) H) ∧((op==27)=false→((op==33)=true→K (.int .i64 4) H) ∧((op==33)=false→K (.int .i64 0) H))))))))))))

theorem v104 {pFuncsA:Option Addr} {pFuncsn pFuncsc:Nat} {pOptsA:Option Addr} {pOptsn pOptsc:Nat} {fKind fName:Int} {fOpsA:Option Addr} {fOpsn fOpsc:Nat} {op:Int} {H:Heap} {K:Value→Heap→Prop} (h:F104 pFuncsA pFuncsn pFuncsc pOptsA pOptsn pOptsc fKind fName fOpsA fOpsn fOpsc op H K):Tr Tryz.prog 104 #[.agg #[.slice pFuncsA pFuncsn pFuncsc,.slice pOptsA pOptsn pOptsc],.agg #[.int .i64 fKind,.int .i64 fName,.slice fOpsA fOpsn fOpsc],.int .i64 op] H K :=
 tr_of_eq (C:=c104) Tryz.func104 (by kernel_rfl) h
theorem t105 (op:Int) (H:Heap):Tr Tryz.prog 105 #[.int .i64 op] H (fun v H'=>v=.bool (opd op)∧Sub H H'):=by
 apply v105; unfold F105; exact ⟨rfl,Sub.refl _⟩
theorem t106 (op:Int) (H:Heap):Tr Tryz.prog 106 #[.int .i64 op] H (fun v H'=>v=.bool (pureB op)∧Sub H H'):=by
 apply v106; unfold F106; exact ⟨rfl,Sub.refl _⟩
theorem f66 (fA : Option Addr) (fn fc : Nat) (oA : Option Addr) (on oc : Nat) (k n : Int) (A : Option Addr) (m c : Nat) (op : Int) (H : Heap) (K : Value→Heap→Prop) (h : K (.int .i64 (mostB fn on m op)) H) :
  F104 fA fn fc oA on oc k n A m c op H K:=by
 unfold mostB at h
 have cs : op=0∨op=13∨op=14∨op=15∨op=16∨op=20∨op=22∨op=25∨op=26∨op=34∨op=27∨op=33 ∨
   (op≠0∧op≠13∧op≠14∧op≠15∧op≠16∧op≠20∧op≠22∧op≠25∧op≠26∧op≠34∧op≠27∧op≠33):=by omega
 unfold F104
 rcases cs with rfl|rfl|rfl|rfl|rfl|rfl|rfl|rfl|rfl|rfl|rfl|rfl|⟨g0,g1,g2,g3,g4,g5,g6,g7,g8,g9,g10,g11⟩
 ·simpa using h
 ·simpa using h
 ·simpa using h
 ·simpa using h
 ·simpa using h
 ·simpa using h
 ·simpa using h
 ·simpa using h
 ·simpa using h
 ·simpa using h
 ·simpa using h
 ·simpa using h
 ·have h':K (.int .i64 0) H:=by simpa [g0,g1,g2,g3,g4,g5,g6,g7,g8,g9,g10,g11] using h
  simp [g0,g1,g2,g3,g4,g5,g6,g7,g8,g9,g10,g11,h']
theorem t104 (fA : Option Addr) (fn fc : Nat) (oA : Option Addr) (on oc : Nat) (k n : Int) (A : Option Addr) (m c : Nat) (op : Int) (H : Heap) :
  Tr Tryz.prog 104 #[.agg #[.slice fA fn fc,.slice oA on oc],.agg #[.int .i64 k,.int .i64 n,.slice A m c],.int .i64 op] H (fun v H'=>v=.int .i64 (mostB fn on m op)∧Sub H H') :=
 v104 (f66 _ _ _ _ _ _ _ _ _ _ _ _ _ _ ⟨rfl,Sub.refl _⟩)
structure R47 (o:O) (Hb:Heap) (i:Int) (H1:Heap):Prop where
 heap:H1=Hb
 k:∃k:Nat,i=k∧k≤6∧∀j x,j<k→o.six[j]?=some x→smallB x=true
theorem t57 (o:O) (H:Heap):Tr Tryz.prog 57 #[o.val] H (fun v H'=>v=.bool (okO o)∧Sub H H'):=by
 apply v57; unfold F57
 intro b hb
 refine ⟨R47 o _,fun i _=>(6-i).toNat,⟨rfl,0,rfl,by omega,fun j x hj=>absurd hj (by omega)⟩,fun i H1 r=>?_⟩
 obtain ⟨k,rfl,hk,hs⟩:=r.k
 have hsub:Sub H H1:=by rw [r.heap]; exact Sub.upd_new hb
 refine ⟨fun hlt=>?_,fun hge=>⟨?_,hsub⟩⟩
 ·have hlt:(k:Int)<6:=of_decide_eq_true hlt
  obtain ⟨y,hx⟩:∃y,o.six[k]?=some y:=⟨_,List.getElem?_eq_getElem (show k<o.six.length from (by show k<6; omega))⟩
  have hat:At H1 (({ block:=b,off:=0 }:Addr).add ((k:Int).toNat*1)) [.int .i64 y]:=by
   rw [r.heap]
   apply at_new
   intro j v hj
   have:k=0∨k=1∨k=2∨k=3∨k=4∨k=5:=by omega
   cases j with
   | succ j=>simp at hj
   | zero=>rcases this with rfl|rfl|rfl|rfl|rfl|rfl<;>(simp [O.six] at hx; subst hx; simpa using hj)
  refine ⟨_,⟨rfl,by omega,hlt⟩,_,hat,_,fun _=>⟨rfl,by omega,hlt⟩,_,fun _=>hat,fun e=>⟨?_,hsub⟩,fun e=>?_⟩
  ·rw [not_smallB] at e
   have:okO o=false:=by
    have e:smallB y=false:=by simpa using e
    have:k=0∨k=1∨k=2∨k=3∨k=4∨k=5:=by omega
    unfold okO
    rcases this with rfl|rfl|rfl|rfl|rfl|rfl<;>(simp [O.six] at hx; subst hx; simp [e])
   rw [this]
  ·rw [not_smallB] at e
   have e:smallB y=true:=by simpa using e
   rw [wrapi (x:=(k:Int)+1) (by omega) (by omega)]
   refine ⟨⟨r.heap,k+1,by omega,by omega,fun j x hj hx'=>?_⟩,show (6-((k:Int)+1)).toNat<(6-(k:Int)).toNat by omega⟩
   by_cases hjk:j=k
   ·subst hjk; rw [hx] at hx'; cases hx'; exact e
   ·exact hs j x (by omega) hx'
 ·have hge:¬(k:Int)<6:=of_decide_eq_false hge
  have:k=6:=by omega
  subst this
  have a0:=hs 0 _ (by omega) rfl; have a1:=hs 1 _ (by omega) rfl; have a2:=hs 2 _ (by omega) rfl
  have a3:=hs 3 _ (by omega) rfl; have a4:=hs 4 _ (by omega) rfl; have a5:=hs 5 _ (by omega) rfl
  unfold okO; rw [a0,a1,a2,a3,a4,a5]; simp
theorem t103 {H : Heap} {fA oA : Option Addr} {fn fc on oc : Nat} {p : Prg} (h : HasP H fA fn oA on p) (kind name : Int) :
  Tr Tryz.prog 103 #[.agg #[.slice fA fn fc,.slice oA on oc],.int .i64 kind,.int .i64 name] H (fun v H'=>v=.int .i64 (p.find kind name)∧Sub H H'):=by
 have hl:=h.fns.len; have hb:=h.fns.big
 apply v103; unfold F103
 refine ⟨RSc H p.funcs.length (p.hit kind name),fun i _=>((p.funcs.length:Int)-i).toNat,RSc.zero,fun i H1 r=>?_⟩
 obtain ⟨k,rfl,hk,hs⟩:=r.k
 have hH:=r.heap; subst hH
 refine ⟨fun hlt=>?_,fun hge=>?_⟩
 ·have hlt:(k:Int)<fn:=of_decide_eq_true hlt
  obtain ⟨g,hg⟩:∃g,p.funcs[k]?=some g:=⟨_,List.getElem?_eq_getElem (by omega)⟩
  obtain ⟨a,B,m,c,ha,hat,-⟩:=h.fns.at_ k g hg
  have at0:At H1 ((a.add ((k:Int).toNat*3)).add 0) [.int .i64 g.kind]:=at_head hat
  have at1:At H1 ((a.add ((k:Int).toNat*3)).add 1) [.int .i64 g.name]:=at_head (at_drop 1 hat)
  refine ⟨a,⟨ha,by omega,hlt⟩,_,at0,a,fun _=>⟨ha,by omega,hlt⟩,_,fun _=>at1,fun e=>⟨?_,Sub.refl _⟩,fun e=>?_⟩
  ·rw [find_eq,scan_hit (k:=k) (r:=(k:Int)) (by omega) hs (by unfold Prg.hit; rw [hg]; simp only; rw [if_pos e])]
  ·exact RSc.next r rfl (by omega) (by omega) (by unfold Prg.hit; rw [hg]; simp only; rw [if_neg (by rw [e]; simp)])
 ·have hge:¬(k:Int)<fn:=of_decide_eq_false hge
  refine ⟨?_,Sub.refl _⟩
  rw [find_eq,scan_none (fun j hj=>hs j (by omega))]
theorem t58 {H : Heap} {fA oA : Option Addr} {fn fc on oc : Nat} {p : Prg} (h : HasP H fA fn oA on p) (i : Nat) (f : Fnc) (hf : p.funcs[i]?=some f) :
  Tr Tryz.prog 58 #[.agg #[.slice fA fn fc,.slice oA on oc],.int .i64 i] H (fun v H'=>v=.bool (p.named i f)∧Sub H H'):=by
 have hl:=h.fns.len; have hb:=h.fns.big; have hi:=get_lt hf
 apply v58; unfold F58
 obtain ⟨a,B,m,c,ha,hat,ho⟩:=h.fns.at_ i f hf
 have hm:=ho.len
 unfold Prg.named
 refine ⟨a,⟨ha,by omega,by omega⟩,_,_,_,_,_,by simpa using hat,fun e=>⟨by rw [if_pos e],Sub.refl _⟩,fun e=>⟨fun e2=>⟨by rw [if_neg (by rw [e]; simp),if_pos e2],Sub.refl _⟩,fun e2=>?_⟩⟩
 rw [if_neg (by rw [e]; simp),if_neg (by rw [e2]; simp)]
 refine ⟨RSc H i (p.clash f),fun j _=>((i:Int)-j).toNat,RSc.zero,fun x H1 r=>?_⟩
 obtain ⟨k,rfl,hk,hs⟩:=r.k
 have hH:=r.heap; subst hH
 refine ⟨fun hlt=>?_,fun hge=>?_⟩
 ·have hlt:(k:Int)<i:=of_decide_eq_true hlt
  obtain ⟨g,hg⟩:∃g,p.funcs[k]?=some g:=⟨_,List.getElem?_eq_getElem (by omega)⟩
  obtain ⟨a',B',m',c',ha',hat',-⟩:=h.fns.at_ k g hg
  have at0:At H1 ((a'.add ((k:Int).toNat*3)).add 0) [.int .i64 g.kind]:=at_head hat'
  have at1:At H1 ((a'.add ((k:Int).toNat*3)).add 1) [.int .i64 g.name]:=at_head (at_drop 1 hat')
  refine ⟨a',fun _=>⟨ha',by omega,by omega⟩,_,fun _=>at0,a',fun _=>⟨ha',by omega,by omega⟩,_,fun _=>at1,fun e3=>⟨?_,Sub.refl _⟩,fun e3=>?_⟩
  ·rw [scan_hit (k:=k) (r:=()) (by omega) hs (by unfold Prg.clash; rw [hg]; simp only; rw [if_pos e3])]
  ·exact RSc.next r rfl (by omega) (by omega) (by unfold Prg.clash; rw [hg]; simp only; rw [if_neg (by rw [e3]; simp)])
 ·have hge:¬(k:Int)<i:=of_decide_eq_false hge
  rw [scan_none (n:=i) (fun j hj=>hs j (by omega))]
  refine ⟨_,t103 h 3 f.name,fun e3=>⟨by simp only; rw [if_pos e3],Sub.refl _⟩,fun e3=>⟨by simp only; rw [if_neg (by rw [e3]; simp),hm],Sub.refl _⟩⟩
theorem t59 {H : Heap} {fA oA : Option Addr} {fn fc on oc : Nat} {p : Prg} (h : HasP H fA fn oA on p) (i : Nat) (f : Fnc) (hf : p.funcs[i]?=some f) (k : Nat) (op x : Int) (hk : f.ops[k]?=some (op, x)) :
  Tr Tryz.prog 59 #[.agg #[.slice fA fn fc,.slice oA on oc],.int .i64 i,.int .i64 k] H (fun v H'=>v=.bool (p.right i f k op x)∧Sub H H'):=by
 have hl:=h.fns.len; have hb:=h.fns.big; have hi:=get_lt hf; have hol:=h.opts.len
 apply v59; unfold F59
 obtain ⟨a,B,m,c,ha,hat,ho⟩:=h.fns.at_ i f hf
 have hm:=ho.len; have hmb:=ho.big; have hk':=get_lt hk
 obtain ⟨a',ha',hat'⟩:=ho.at_ k _ _ hk
 refine ⟨a,⟨ha,by omega,by omega⟩,_,_,_,_,_,by simpa using hat,a',⟨ha',by omega,by omega⟩,_,_,by simpa using hat',?_⟩
 unfold Prg.right
 rw [←hl,←hol,←hm]
 refine ⟨fun e=>⟨by rw [if_pos e],Sub.refl _⟩,fun e=>⟨_,t104 ..,_,t105 ..,fun e2=>⟨by rw [if_neg (by rw [e]; simp),if_pos e2],Sub.refl _⟩,fun e2=>?_⟩⟩
 rw [if_neg (by rw [e]; simp),if_neg (by rw [e2]; simp)]
 have key:(op==27)=true→0≤x∧x<fn:=by
  intro h27
  have h27:op=27:=by simpa using h27
  subst h27
  have hmost:mostB fn on m 27=fn:=rfl
  have hopd:opd 27=true:=rfl
  rw [hmost,hopd] at e2
  simp at e2; omega
 obtain ⟨a2,y,h1,h2⟩:∃(a2:Addr) (y:Int),((op==27)=true→fA=some a2∧At H ((a2.add (x.toNat*3)).add 0) [.int .i64 y])∧((op==27)=true→y=p.kindAt x):=by
  by_cases h27:(op==27)=true
  ·have kx:=key h27
   obtain ⟨g,hg⟩:∃g,p.funcs[x.toNat]?=some g:=⟨_,List.getElem?_eq_getElem (by omega)⟩
   obtain ⟨a2,B2,m2,c2,ha2,hat2,-⟩:=h.fns.at_ x.toNat g hg
   exact ⟨a2,g.kind,fun _=>⟨ha2,at_head hat2⟩,fun _=>by unfold Prg.kindAt; rw [hg]⟩
  ·exact ⟨a,0,fun h=>absurd h h27,fun h=>absurd h h27⟩
 have e5:(op==27&&y != 1)=(op==27&&p.kindAt x != 1):=by
  cases h27:(op==27) with
  | false=>rfl
  | true=>rw [h2 h27]
 refine ⟨a2,fun h=>⟨(h1 h).1,key h⟩,y,fun h=>(h1 h).2,?_⟩
 rw [e5]
 refine ⟨fun e3=>⟨by rw [if_pos e3],Sub.refl _⟩,fun e3=>⟨_,t106 ..,?_⟩⟩
 rw [if_neg (by rw [e3]; simp)]
 refine ⟨fun e4=>⟨by rw [if_pos e4],Sub.refl _⟩,fun e4=>⟨?_,Sub.refl _⟩⟩
 rw [if_neg (by rw [e4]; simp),wrapi (x:=(m:Int)-1) (by omega) (by omega)]
theorem t19 {H : Heap} {fA oA : Option Addr} {fn fc on oc : Nat} {p : Prg} (h : HasP H fA fn oA on p) :
  Tr Tryz.prog 19 #[.agg #[.slice fA fn fc,.slice oA on oc]] H (fun v H'=>v=.tuple #[.int .i64 p.check.1,.int .i64 p.check.2.1,.int .i64 p.check.2.2]∧Sub H H'):=by
 have hl:=h.fns.len; have hb:=h.fns.big; have hol:=h.opts.len; have hob:=h.opts.big
 apply v19; unfold F19 Prg.check
 rw [←hl,←hol]
 refine ⟨fun e=>⟨by rw [if_pos e],Sub.refl _⟩,fun e=>?_⟩
 rw [if_neg (by rw [e]; simp)]
 refine ⟨RSc H on p.badOpt,fun i _=>((on:Int)-i).toNat,RSc.zero,fun x H1 r=>?_⟩
 obtain ⟨k,rfl,hk,hs⟩:=r.k
 have hH:=r.heap; subst hH
 refine ⟨fun hlt=>?_,fun hge=>?_⟩
 ·have hlt:(k:Int)<on:=of_decide_eq_true hlt
  obtain ⟨o,ho⟩:∃o,p.opts[k]?=some o:=⟨_,List.getElem?_eq_getElem (by omega)⟩
  obtain ⟨a,ha,hat⟩:=h.opts.at_ k o ho
  refine ⟨a,⟨ha,by omega,hlt⟩,_,_,_,_,_,_,_,_,_,_,_,hat,_,t57 o H1,fun e2=>⟨?_,Sub.refl _⟩,fun e2=>?_⟩
  ·have e2:okO o=false:=by simpa using e2
   rw [scan_hit (k:=k) (by omega) hs (by unfold Prg.badOpt; rw [ho]; simp only; rw [if_neg (by rw [e2]; simp)])]
  ·have e2:okO o=true:=by simpa using e2
   exact RSc.next r rfl (by omega) (by omega) (by unfold Prg.badOpt; rw [ho]; simp only; rw [if_pos e2])
 ·have hge:¬(k:Int)<on:=of_decide_eq_false hge
  rw [scan_none (n:=on) (fun j hj=>hs j (by omega))]
  clear r hs
  refine ⟨RSc H1 fn p.badFn,fun i _=>((fn:Int)-i).toNat,RSc.zero,fun x H2 r=>?_⟩
  obtain ⟨i,rfl,hi,hs⟩:=r.k
  have hH:=r.heap; subst hH
  refine ⟨fun hlt=>?_,fun hge=>?_⟩
  ·have hlt:(i:Int)<fn:=of_decide_eq_true hlt
   obtain ⟨f,hf⟩:∃f,p.funcs[i]?=some f:=⟨_,List.getElem?_eq_getElem (by omega)⟩
   obtain ⟨a,B,m,c,ha,hat,ho⟩:=h.fns.at_ i f hf
   have hm:=ho.len; have hmb:=ho.big
   refine ⟨_,t58 h i f hf,fun e2=>⟨?_,Sub.refl _⟩,fun e2=>?_⟩
   ·have e2:p.named i f=false:=by simpa using e2
    rw [scan_hit (k:=i) (by omega) hs (by unfold Prg.badFn; rw [hf]; simp only; rw [if_neg (by rw [e2]; simp)])]
   ·have e2:p.named i f=true:=by simpa using e2
    have bad:p.badFn i=scan f.ops.length (p.badOp i f):=by unfold Prg.badFn; rw [hf]; simp only; rw [if_pos e2]
    have sl:At H2 ((a.add ((i:Int).toNat*3)).add 2) [.slice B m c]:=at_drop 2 hat
    refine ⟨RSc H2 m (p.badOp i f),fun k _=>((m:Int)-k).toNat,RSc.zero,fun x H3 r3=>?_⟩
    obtain ⟨k3,rfl,hk3,hs3⟩:=r3.k
    have hH:=r3.heap; subst hH
    refine ⟨a,⟨ha,by omega,hlt⟩,_,_,_,sl,fun hlt3=>?_,fun hge3=>?_⟩
    ·have hlt3:(k3:Int)<m:=of_decide_eq_true hlt3
     obtain ⟨⟨op,x⟩,hop⟩:∃o,f.ops[k3]?=some o:=⟨_,List.getElem?_eq_getElem (by omega)⟩
     refine ⟨_,t59 h i f hf k3 op x hop,fun e3=>⟨?_,Sub.refl _⟩,fun e3=>?_⟩
     ·have e3:p.right i f k3 op x=false:=by simpa using e3
      have hb:p.badFn i=some (40,(i:Int),(k3:Int)):=by
       rw [bad]
       exact scan_hit (k:=k3) (by omega) hs3 (by unfold Prg.badOp; rw [hop]; simp only; rw [if_neg (by rw [e3]; simp)])
      rw [scan_hit (k:=i) (by omega) hs hb]
     ·have e3:p.right i f k3 op x=true:=by simpa using e3
      exact RSc.next r3 rfl (by omega) (by omega) (by unfold Prg.badOp; rw [hop]; simp only; rw [if_pos e3])
    ·have hge3:¬(k3:Int)<m:=of_decide_eq_false hge3
     exact RSc.next r rfl (by omega) (by omega) (by rw [bad]; exact scan_none fun j hj=>hs3 j (by omega))
  ·have hge:¬(i:Int)<fn:=of_decide_eq_false hge
   rw [scan_none (n:=fn) (fun j hj=>hs j (by omega))]
   exact ⟨rfl,Sub.refl _⟩
set_option linter.unusedVariables false
open IntKind
noncomputable def c164:Cx:={ P:=Tryz.prog,res:=[],pub:=[],loops:=[],quiet:=[],asm:=true }
def F164 (op:Int) (H:Heap) (K:Value→Heap→Prop):Prop:=((op==17)=true→K (.bool true) H) ∧
 ((op==17)=false→((op==18)=true→K (.bool true) H) ∧((op==18)=false→((op==26)=true→K (.bool true) H) ∧((op==26)=false→((op==36)=true→K (.bool true) H) ∧((op==36)=false→((op==37)=true→K (.bool true) H) ∧((op==37)=false→K (.bool (decide (op≥0)&&decide (op≤15))) H)))))

theorem v164 {op:Int} {H:Heap} {K:Value→Heap→Prop} (h:F164 op H K):Tr Tryz.prog 164 #[.int .i64 op] H K :=
 tr_of_eq (C:=c164) Tryz.func164 (by kernel_rfl) h
noncomputable def c107:Cx:={ P:=Tryz.prog,res:=[],pub:=[],loops:=[⟨4,[(31,.int .i64)],[2,3,4,5,6,32,33,34,35,36,37,38,39,40],[]⟩,⟨11,[(7,.int .i64),(8,.int .i64),(44,.int .i64)],[9,10,11,45,46,47,48,49,50,51,52,53,54,55,56,57,58,59,60,61,62,63,64,65,66,67,68,69,70,71,72,73,74,75,76,77,78,79,80],[]⟩,⟨16,[(7,.int .i64),(8,.int .i64),(69,.int .i64)],[11,70,71,72,73,74,75,76,77,78,79],[]⟩],quiet:=[134,135,136],asm:=true }
def F107 (pFuncsA:Option Addr) (pFuncsn pFuncsc:Nat) (pOptsA:Option Addr) (pOptsn pOptsc:Nat) (H:Heap) (K:Value→Heap→Prop):Prop:=((decide ((↑pFuncsn:Int)<1)||decide ((↑pFuncsn:Int)>16)||decide ((↑pOptsn:Int)>8))=true→K (.tuple #[(40:Int),(-1:Int),(-1:Int)]) H) ∧
 ((decide ((↑pFuncsn:Int)<1)||decide ((↑pFuncsn:Int)>16)||decide ((↑pOptsn:Int)>8))=false→∃(Rel:Int→Heap→Prop) (mu:Int→Heap→Nat),Rel (0:Int) H ∧∀(x:Int) (H1:Heap),Rel x H1→(decide (x<(↑pOptsn:Int))=true→∃(a:Addr),InB pOptsA a x pOptsn ∧∃(x1 x2 x3 x4 x5 x6 x7 x8 x9 x10 x11:Int),At H1 (a.add (x.toNat*11)) [x1,x2,x3,x4,x5,x6,x7,x8,x9,x10,x11] ∧∃(b:Bool),TrQ Tryz.prog 134 #[.agg #[x1,x2,x3,x4,x5,x6,x7,x8,x9,x10,x11]] H1 (.bool b) ∧((!b)=true→K (.tuple #[(40:Int),(-1:Int),x]) H1) ∧((!b)=false→Rel (i64.wrap (x+1)) H1 ∧
 mu (i64.wrap (x+1)) H1<mu x H1)) ∧(decide (x<(↑pOptsn:Int))=false→∃(Rel1:Int→Int→Int→Heap→Prop) (mu1:Int→Int→Int→Heap→Nat),Rel1 (-1:Int) (-1:Int) (0:Int) H1 ∧∀(x12 x13 x14:Int) (H2:Heap),Rel1 x12 x13 x14 H2→(decide (x14<(↑pFuncsn:Int))=true→∃(a1:Addr),InB pFuncsA a1 x14 pFuncsn ∧∃(x15 x16:Int) (A:Option Addr) (n c:Nat),At H2 (a1.add (x14.toNat*3)) [x15,x16,.slice A n c] ∧∃(b1:Bool),TrQ Tryz.prog 135 #[.agg #[.slice pFuncsA pFuncsn pFuncsc,.slice pOptsA pOptsn pOptsc],x14] H2 (.bool b1) ∧
 ((!b1||decide ((↑n:Int)<1)||decide ((↑n:Int)>128))=true→(decide (x14≥0)=true→K (.tuple #[(40:Int),x14,x13]) H2) ∧(decide (x14≥0)=false→K (.tuple #[(0:Int),(0:Int),(0:Int)]) H2)) ∧((!b1||decide ((↑n:Int)<1)||decide ((↑n:Int)>128))=false→∃(Rel2:Int→Int→Int→Heap→Prop) (mu2:Int→Int→Int→Heap→Nat),Rel2 x12 x13 (0:Int) H2 ∧∀(x17 x18 x19:Int) (H3:Heap),Rel2 x17 x18 x19 H3→(decide (x19<(↑n:Int))=true→∃(b2:Bool),TrQ Tryz.prog 136 #[.agg #[.slice pFuncsA pFuncsn pFuncsc,.slice pOptsA pOptsn pOptsc],x14,x19] H3 (.bool b2) ∧
 ((!b2)=true→(decide (x14≥0)=true→K (.tuple #[(40:Int),x14,x19]) H3) ∧(decide (x14≥0)=false→K (.tuple #[(0:Int),(0:Int),(0:Int)]) H3)) ∧((!b2)=false→Rel2 x17 x18 (i64.wrap (x19+1)) H3 ∧mu2 x17 x18 (i64.wrap (x19+1)) H3<mu2 x17 x18 x19 H3)) ∧(decide (x19<(↑n:Int))=false→Rel1 x17 x18 (i64.wrap (x14+1)) H3 ∧mu1 x17 x18 (i64.wrap (x14+1)) H3<mu1 x12 x13 x14 H2))) ∧(decide (x14<(↑pFuncsn:Int))=false→(decide (x12≥0)=true→K (.tuple #[(40:Int),x12,x13]) H2) ∧(decide (x12≥0)=false→K (.tuple #[(0:Int),(0:Int),(0:Int)]) H2))))

theorem v107 {pFuncsA:Option Addr} {pFuncsn pFuncsc:Nat} {pOptsA:Option Addr} {pOptsn pOptsc:Nat} {H:Heap} {K:Value→Heap→Prop} (h:F107 pFuncsA pFuncsn pFuncsc pOptsA pOptsn pOptsc H K):Tr Tryz.prog 107 #[.agg #[.slice pFuncsA pFuncsn pFuncsc,.slice pOptsA pOptsn pOptsc]] H K :=
 tr_of_eq (C:=c107) Tryz.func107 (by kernel_rfl) h
noncomputable def c125:Cx:={ P:=Tryz.prog,res:=[],pub:=[],loops:=[⟨2,[(12,.int .i64)],[6,7,8,13,14,15,16,17,18,19,20,21,22,23,24,25,26,27,28],[]⟩],quiet:=[],asm:=true }
def F125 (pFuncsA:Option Addr) (pFuncsn pFuncsc:Nat) (pOptsA:Option Addr) (pOptsn pOptsc:Nat) (kind name:Int) (H:Heap) (K:Value→Heap→Prop):Prop :=
 ∃(Rel:Int→Heap→Prop) (mu:Int→Heap→Nat),Rel (0:Int) H ∧∀(x:Int) (H1:Heap),Rel x H1→(decide (x<(↑pFuncsn:Int))=true→∃(a:Addr),InB pFuncsA a x pFuncsn ∧∃(x1 x2:Int) (A:Option Addr) (n c:Nat),At H1 (a.add (x.toNat*3)) [x1,x2,.slice A n c] ∧((x1==kind&&x2==name)=true→K (.int .i64 x) H1) ∧((x1==kind&&x2==name)=false→Rel (i64.wrap (x+1)) H1 ∧mu (i64.wrap (x+1)) H1<mu x H1)) ∧(decide (x<(↑pFuncsn:Int))=false→K (.int .i64 (-1)) H1)

theorem v125 {pFuncsA:Option Addr} {pFuncsn pFuncsc:Nat} {pOptsA:Option Addr} {pOptsn pOptsc:Nat} {kind name:Int} {H:Heap} {K:Value→Heap→Prop} (h:F125 pFuncsA pFuncsn pFuncsc pOptsA pOptsn pOptsc kind name H K):Tr Tryz.prog 125 #[.agg #[.slice pFuncsA pFuncsn pFuncsc,.slice pOptsA pOptsn pOptsc],.int .i64 kind,.int .i64 name] H K :=
 tr_of_eq (C:=c125) Tryz.func125 (by kernel_rfl) h
noncomputable def c134:Cx:={ P:=Tryz.prog,res:=[],pub:=[17],loops:=[⟨2,[(19,.int .i64)],[2,4,20,21,22,23,24,25,26,27,28,29],[]⟩],quiet:=[],asm:=true }
def F134 (oQueue oStart oClose oTotal oBeat oFirst oNum oDen oMost oTries oNever:Int) (H:Heap) (K:Value→Heap→Prop):Prop:=∀b,H b=none→∀H1,H1=H.upd b (.cells #[oStart,oClose,oTotal,oBeat,oFirst,oMost] 2) →
 ∃(Rel:Int→Heap→Prop) (mu:Int→Heap→Nat),Rel (0:Int) H1 ∧∀(x:Int) (H1:Heap),Rel x H1→(decide (x<(↑(6:Nat):Int))=true→∃(a:Addr),(some (b:Addr)=some a ∧(0:Int)≤x ∧x<(↑(6:Nat):Int)) ∧∃(x1:Int),At H1 (a.add (x.toNat*1)) [x1] ∧((decide (x1<0)||decide (x1>1048576))=true→K (.bool false) H1) ∧((decide (x1<0)||decide (x1>1048576))=false→Rel (i64.wrap (x+1)) H1 ∧mu (i64.wrap (x+1)) H1<mu x H1)) ∧
 (decide (x<(↑(6:Nat):Int))=false→K (.bool (decide (oQueue≥0)&&decide (oQueue<8)&&decide (oDen≥1)&&decide (oDen≤1000)&&decide (oNum≥oDen)&&decide (oNum≤1000)&&decide (oTries≥0)&&decide (oTries≤1000))) H1)

theorem v134 {oQueue oStart oClose oTotal oBeat oFirst oNum oDen oMost oTries oNever:Int} {H:Heap} {K:Value→Heap→Prop} (h:F134 oQueue oStart oClose oTotal oBeat oFirst oNum oDen oMost oTries oNever H K):Tr Tryz.prog 134 #[.agg #[.int .i64 oQueue,.int .i64 oStart,.int .i64 oClose,.int .i64 oTotal,.int .i64 oBeat,.int .i64 oFirst,.int .i64 oNum,.int .i64 oDen,.int .i64 oMost,.int .i64 oTries,.int .i64 oNever]] H K :=
 tr_of_eq (C:=c134) Tryz.func134 (by kernel_rfl) h
noncomputable def c135:Cx:={ P:=Tryz.prog,res:=[],pub:=[],loops:=[],quiet:=[125],asm:=true }
def F135 (pFuncsA:Option Addr) (pFuncsn pFuncsc:Nat) (pOptsA:Option Addr) (pOptsn pOptsc:Nat) (i:Int) (H:Heap) (K:Value→Heap→Prop):Prop :=
 ∃(a:Addr),InB pFuncsA a i pFuncsn ∧∃(x x1:Int) (A:Option Addr) (n c:Nat),At H (a.add (i.toNat*3)) [x,x1,.slice A n c] ∧((decide (x<0)||decide (x>4)||!(x==0)==(i==0))=true→K (.bool false) H) ∧((decide (x<0)||decide (x>4)||!(x==0)==(i==0))=false→(decide (x≤1)=true→K (.bool (x1==0)) H) ∧(decide (x≤1)=false→∃(x2:Int),((!(decide (x1<0)||decide (x1≥8)))=true→Tr Tryz.prog 125 #[.agg #[.slice pFuncsA pFuncsn pFuncsc,.slice pOptsA pOptsn pOptsc],x,x1] H fun v H'=>v=.int .i64 x2 ∧Ax.Sub H H') ∧
 ((decide (x1<0)||decide (x1≥8)||x2 != i)=true→K (.bool false) H) ∧((decide (x1<0)||decide (x1≥8)||x2 != i)=false→∃(x3:Int),((!x != 4)=true→Tr Tryz.prog 125 #[.agg #[.slice pFuncsA pFuncsn pFuncsc,.slice pOptsA pOptsn pOptsc],(3:Int),x1] H fun v1 H'1=>v1=.int .i64 x3 ∧Ax.Sub H H'1) ∧K (.bool (x != 4||decide (x3≥0))) H)))

theorem v135 {pFuncsA:Option Addr} {pFuncsn pFuncsc:Nat} {pOptsA:Option Addr} {pOptsn pOptsc:Nat} {i:Int} {H:Heap} {K:Value→Heap→Prop} (h:F135 pFuncsA pFuncsn pFuncsc pOptsA pOptsn pOptsc i H K):Tr Tryz.prog 135 #[.agg #[.slice pFuncsA pFuncsn pFuncsc,.slice pOptsA pOptsn pOptsc],.int .i64 i] H K :=
 tr_of_eq (C:=c135) Tryz.func135 (by kernel_rfl) h
noncomputable def c136:Cx:={ P:=Tryz.prog,res:=[],pub:=[],loops:=[],quiet:=[163,164,165],asm:=true }
def F136 (pFuncsA:Option Addr) (pFuncsn pFuncsc:Nat) (pOptsA:Option Addr) (pOptsn pOptsc:Nat) (i k:Int) (H:Heap) (K:Value→Heap→Prop):Prop :=
 ∃(a:Addr),InB pFuncsA a i pFuncsn ∧∃(x x1:Int) (A:Option Addr) (n c:Nat),At H (a.add (i.toNat*3)) [x,x1,.slice A n c] ∧∃(a1:Addr),InB A a1 k n ∧∃(x2 x3:Int),At H (a1.add (k.toNat*2)) [x2,x3] ∧∃(b:Bool),((!(decide (x2<0)||decide (x2>37)))=true→Tr Tryz.prog 163 #[.agg #[.slice pFuncsA pFuncsn pFuncsc,.slice pOptsA pOptsn pOptsc],.agg #[x,x1,.slice A n c],.agg #[x2,x3]] H fun v H'=>v=.bool b ∧Ax.Sub H H') ∧((decide (x2<0)||decide (x2>37)||!b)=true→K (.bool false) H) ∧((decide (x2<0)||decide (x2>37)||!b)=false→∃(b1:Bool),
 ((x==2||x==4)=true→Tr Tryz.prog 164 #[x2] H fun v1 H'1=>v1=.bool b1 ∧Ax.Sub H H'1) ∧(((x==2||x==4)&&!b1)=true→K (.bool false) H) ∧(((x==2||x==4)&&!b1)=false→((x2==35&&i != 0)=true→K (.bool false) H) ∧((x2==35&&i != 0)=false→∃(b2:Bool),((!decide (k<i64.wrap ((↑n:Int)-1)))=true→Tr Tryz.prog 165 #[x2] H fun v2 H'2=>v2=.bool b2 ∧Ax.Sub H H'2) ∧K (.bool (decide (k<i64.wrap ((↑n:Int)-1))||b2)) H)))

theorem v136 {pFuncsA:Option Addr} {pFuncsn pFuncsc:Nat} {pOptsA:Option Addr} {pOptsn pOptsc:Nat} {i k:Int} {H:Heap} {K:Value→Heap→Prop} (h:F136 pFuncsA pFuncsn pFuncsc pOptsA pOptsn pOptsc i k H K):Tr Tryz.prog 136 #[.agg #[.slice pFuncsA pFuncsn pFuncsc,.slice pOptsA pOptsn pOptsc],.int .i64 i,.int .i64 k] H K :=
 tr_of_eq (C:=c136) Tryz.func136 (by kernel_rfl) h
noncomputable def c163:Cx:={ P:=Tryz.prog,res:=[],pub:=[],loops:=[],quiet:=[186],asm:=true }
def F163 (pFuncsA:Option Addr) (pFuncsn pFuncsc:Nat) (pOptsA:Option Addr) (pOptsn pOptsc:Nat) (fKind fName:Int) (fOpsA:Option Addr) (fOpsn fOpsc:Nat) (oCode oA:Int) (H:Heap) (K:Value→Heap→Prop):Prop:=((oCode==0)=true→K (.bool true) H) ∧
 ((oCode==0)=false→((oCode==13)=true→∃(b:Bool),TrQ Tryz.prog 186 #[oA,.int .i64 (↑fOpsn:Int)] H (.bool b) ∧K (.bool b) H) ∧((oCode==13)=false→((oCode==14)=true→∃(b1:Bool),TrQ Tryz.prog 186 #[oA,.int .i64 (↑fOpsn:Int)] H (.bool b1) ∧K (.bool b1) H) ∧((oCode==14)=false→((oCode==15)=true→∃(b2:Bool),TrQ Tryz.prog 186 #[oA,(16:Int)] H (.bool b2) ∧K (.bool b2) H) ∧((oCode==15)=false→((oCode==16)=true→∃(b3:Bool),TrQ Tryz.prog 186 #[oA,(16:Int)] H (.bool b3) ∧K (.bool b3) H) ∧((oCode==16)=false→((oCode==20)=true→∃(b4:Bool),
 TrQ Tryz.prog 186 #[oA,.int .i64 (↑pOptsn:Int)] H (.bool b4) ∧K (.bool b4) H) ∧((oCode==20)=false→((oCode==22)=true→∃(b5:Bool),TrQ Tryz.prog 186 #[oA,(8:Int)] H (.bool b5) ∧K (.bool b5) H) ∧((oCode==22)=false→((oCode==25)=true→∃(b6:Bool),TrQ Tryz.prog 186 #[oA,(8:Int)] H (.bool b6) ∧K (.bool b6) H) ∧((oCode==25)=false→((oCode==26)=true→∃(b7:Bool),TrQ Tryz.prog 186 #[oA,(8:Int)] H (.bool b7) ∧K (.bool b7) H) ∧((oCode==26)=false→((oCode==34)=true→∃(b8:Bool),TrQ Tryz.prog 186 #[oA,(8:Int)] H (.bool b8) ∧K (.bool b8) H) ∧
 ((oCode==34)=false→((oCode==27)=true→∃(b9:Bool),TrQ Tryz.prog 186 #[oA,.int .i64 (↑pFuncsn:Int)] H (.bool b9) ∧∃(a:Addr),(b9=true→pFuncsA=some a ∧(0:Int)≤oA ∧oA<(↑pFuncsn:Int)) ∧∃(x:Int),(b9=true→At H ((a.add (oA.toNat*3)).add 0) [x]) ∧K (.bool (b9&&x==1)) H) ∧((oCode==27)=false→((oCode==33)=true→∃(b10:Bool),TrQ Tryz.prog 186 #[oA,(4:Int)] H (.bool b10) ∧K (.bool b10) H) ∧((oCode==33)=false→K (.bool (oA==0)) H))))))))))))

theorem v163 {pFuncsA:Option Addr} {pFuncsn pFuncsc:Nat} {pOptsA:Option Addr} {pOptsn pOptsc:Nat} {fKind fName:Int} {fOpsA:Option Addr} {fOpsn fOpsc:Nat} {oCode oA:Int} {H:Heap} {K:Value→Heap→Prop} (h:F163 pFuncsA pFuncsn pFuncsc pOptsA pOptsn pOptsc fKind fName fOpsA fOpsn fOpsc oCode oA H K):Tr Tryz.prog 163 #[.agg #[.slice pFuncsA pFuncsn pFuncsc,.slice pOptsA pOptsn pOptsc],.agg #[.int .i64 fKind,.int .i64 fName,.slice fOpsA fOpsn fOpsc],.agg #[.int .i64 oCode,.int .i64 oA]] H K :=
 tr_of_eq (C:=c163) Tryz.func163 (by kernel_rfl) h
noncomputable def c165:Cx:={ P:=Tryz.prog,res:=[],pub:=[],loops:=[],quiet:=[],asm:=true }
def F165 (op:Int) (H:Heap) (K:Value→Heap→Prop):Prop:=K (.bool (op==13||op==35||op==36||op==37)) H

theorem v165 {op:Int} {H:Heap} {K:Value→Heap→Prop} (h:F165 op H K):Tr Tryz.prog 165 #[.int .i64 op] H K :=
 tr_of_eq (C:=c165) Tryz.func165 (by kernel_rfl) h
noncomputable def c186:Cx:={ P:=Tryz.prog,res:=[],pub:=[],loops:=[],quiet:=[],asm:=true }
def F186 (a n:Int) (H:Heap) (K:Value→Heap→Prop):Prop:=K (.bool (decide (a≥0)&&decide (a<n))) H

theorem v186 {a n:Int} {H:Heap} {K:Value→Heap→Prop} (h:F186 a n H K):Tr Tryz.prog 186 #[.int .i64 a,.int .i64 n] H K :=
 tr_of_eq (C:=c186) Tryz.func186 (by kernel_rfl) h
end Go.Proofs.YtkofafcgcnciaaaGreatDoor
set_option maxRecDepth 100000
namespace Go.Ax
def Prg.operand (p:Prg) (n:Nat) (c a:Int):Bool :=
 !(!opd c&&a != 0||opd c&&decide (mostB p.funcs.length p.opts.length n c≥0)&&(decide (a<0)||decide (a≥mostB p.funcs.length p.opts.length n c)))&&!(c==27&&p.kindAt a != 1)
def withinB (a n:Int):Bool:=decide (a≥0)&&decide (a<n)
theorem within_eq {a n:Int}:(decide (a<0)||decide (a≥n))=!withinB a n:=by
 unfold withinB
 rw [Bool.eq_iff_iff]; simp<;>omega
theorem operand_none (p:Prg) (n:Nat) {c:Int} (a:Int) (h:opd c=false):p.operand n c a=(a==0):=by
  have h27:(c==27)=false:=by
    cases e:(c==27) with
    | false=>rfl
    | true => have : c = 27 := by simpa using e
              subst this; cases h
  unfold Prg.operand; rw [h,h27]; simp; rfl
theorem operand_any (p:Prg) (n:Nat) (a:Int):p.operand n 0 a=true:=by
 unfold Prg.operand
 have:mostB p.funcs.length p.opts.length n 0=-1:=rfl
 rw [this]; rfl
theorem operand_most (p:Prg) (n:Nat) {c:Int} (a:Int) (h:opd c=true) (m:Nat) (hm:mostB p.funcs.length p.opts.length n c=m):p.operand n c a=(withinB a m&&!(c==27&&p.kindAt a != 1)):=by
 unfold Prg.operand; rw [h,hm,within_eq]
 have:decide ((m:Int)≥0)=true:=by simp
 rw [this]; simp
theorem right_eq (p : Prg) (i : Nat) (f : Fnc) (k : Nat) (c a : Int) : p.right i f k c a =
  if (decide (c<0)||decide (c>37)||!p.operand f.ops.length c a)=true then false else
  if ((f.kind==2||f.kind==4)&&!pureB c)=true then false else
  if (c==35&&(i:Int) != 0)=true then false else
  (decide ((k:Int)<(f.ops.length:Int)-1)||(c==13||c==35||c==36||c==37)):=by
 unfold Prg.right Prg.operand
 generalize (decide (c<0)||decide (c>37))=A
 generalize (!opd c&&a != 0||opd c&&decide (mostB p.funcs.length p.opts.length f.ops.length c≥0)&&(decide (a<0)||decide (a≥mostB p.funcs.length p.opts.length f.ops.length c)))=B
 generalize (c==27&&p.kindAt a != 1)=C
 generalize ((f.kind==2||f.kind==4)&&!pureB c)=D
 generalize (c==35&&(i:Int) != 0)=E
 cases A<;>cases B<;>cases C<;>cases D<;>cases E<;>simp
theorem scan_first {α:Type} (g:Nat→Option α):∀n,(∀k,k<n→g k=none)∨∃j r,j<n∧(∀k,k<j→g k=none)∧g j=some r
 | 0=>.inl fun k hk=>absurd hk (by omega)
 | n+1=>by
  rcases scan_first g n with h|⟨j,r,h1,h2,h3⟩
  ·cases e:g n with
   | none =>
    refine .inl fun k hk=>?_
    by_cases hkn:k=n
    ·subst hkn; exact e
    ·exact h k (by omega)
   | some r=>exact .inr ⟨n,r,by omega,h,e⟩
  ·exact .inr ⟨j,r,by omega,h2,h3⟩
def Prg.namedP (p:Prg) (i:Nat) (f:Fnc):Bool :=
 if (decide (f.kind<0)||decide (f.kind>4)||!(f.kind==0)==((i:Int)==0))=true then false else
 if decide (f.kind≤1)=true then f.name==0 else
 if (decide (f.name<0)||decide (f.name≥8)||p.find f.kind f.name != i)=true then false else
 (f.kind != 4||decide (p.find 3 f.name≥0))
theorem find_self {p:Prg} {i:Nat} {f:Fnc} (hf:p.funcs[i]?=some f):(p.find f.kind f.name=i)↔scan i (p.hit f.kind f.name)=none:=by
 have hi:=get_lt hf
 have at_i:p.hit f.kind f.name i=some (i:Int):=by unfold Prg.hit; rw [hf]; simp
 rcases scan_first (p.hit f.kind f.name) i with h|⟨j,r,h1,h2,h3⟩
 ·rw [scan_none h,find_eq,scan_hit hi h at_i]; simp
 ·have e:=scan_hit (n:=i) h1 h2 h3
  have e2:=scan_hit (n:=p.funcs.length) (by omega) h2 h3
  rw [e,find_eq,e2]
  have:r=(j:Int):=by
   unfold Prg.hit at h3
   split at h3
   ·split at h3
    ·cases h3; rfl
    ·cases h3
   ·cases h3
  subst this
  simp; omega
theorem clash_hit (p:Prg) (f:Fnc) (h:2≤f.kind) (j:Nat):p.clash f j=none↔p.hit f.kind f.name j=none:=by
 unfold Prg.clash Prg.hit
 have:decide (f.kind≥2)=true:=decide_eq_true h
 rw [this]
 cases p.funcs[j]? with
 | none=>simp
 | some g=>simp only [Bool.true_and]; split<;>simp
theorem named_eq {p:Prg} {i:Nat} {f:Fnc} (hf:p.funcs[i]?=some f):p.named i f=(p.namedP i f&&decide ((f.ops.length:Int)≥1)&&decide ((f.ops.length:Int)≤128)):=by
 unfold Prg.named Prg.namedP
 have e0:(decide (f.kind<0)||decide (f.kind>4)||f.kind==0&&(i:Int) != 0||f.kind != 0&&(i:Int)==0)=(decide (f.kind<0)||decide (f.kind>4)||!(f.kind==0)==((i:Int)==0)):=by
  have e1:(f.kind != 0)=!(f.kind==0):=rfl
  have e2:((i:Int) != 0)=!((i:Int)==0):=rfl
  rw [e1,e2]
  generalize decide (f.kind<0)=a; generalize decide (f.kind>4)=b; generalize (f.kind==0)=c; generalize ((i:Int)==0)=d
  cases a<;>cases b<;>cases c<;>cases d<;>rfl
 rw [e0]
 split
 ·rfl
 ·by_cases hk:f.kind≤1
  ·rw [if_pos (decide_eq_true hk)]
   have hs:scan i (p.clash f)=none:=scan_none fun j _=>by
    unfold Prg.clash
    have:decide (f.kind≥2)=false:=decide_eq_false (by omega)
    rw [this]; cases p.funcs[j]?<;>simp
   rw [hs]
   have h4:(f.kind==4)=false:=by simp; omega
   have h2:decide (f.kind<2)=true:=decide_eq_true (by omega)
   rw [h4,h2]
   by_cases hn:f.name=0
   ·rw [hn]; simp
   ·have:(f.name==0)=false:=by simpa using hn
    simp [this,hn]
  ·rw [if_neg (show ¬decide (f.kind≤1)=true by simpa using hk)]
   have h2:decide (f.kind<2)=false:=decide_eq_false (by omega)
   rw [h2]
   have e8:(decide (f.name<0)||decide (f.name>7))=(decide (f.name<0)||decide (f.name≥8)):=by rw [Bool.eq_iff_iff]; simp<;>omega
   simp only [Bool.false_and,Bool.false_or]
   rw [e8]
   by_cases hn:(decide (f.name<0)||decide (f.name≥8))=true
   ·rw [if_pos hn,hn]; simp
   ·have hn':(decide (f.name<0)||decide (f.name≥8))=false:=by simpa using hn
    rw [if_neg hn,hn',Bool.false_or]
    have fs:=find_self hf
    have cs:scan i (p.clash f)=none↔scan i (p.hit f.kind f.name)=none:=by
     constructor
     ·intro h; exact scan_none fun j hj=>(clash_hit p f (by omega) j).1 (scan_all h j hj)
     ·intro h; exact scan_none fun j hj=>(clash_hit p f (by omega) j).2 (scan_all h j hj)
    cases hs:scan i (p.clash f) with
    | some u =>
     have:p.find f.kind f.name≠i:=fun e=>by rw [cs.2 (fs.1 e)] at hs; cases hs
     have:(p.find f.kind f.name != i)=true:=by simpa using this
     rw [if_pos this]; rfl
    | none =>
     have:(p.find f.kind f.name != i)=false:=by simpa using fs.2 (cs.1 hs)
     rw [this]
     simp only [Bool.false_eq_true,if_false]
     have h4:(f.kind != 4)=!(f.kind==4):=rfl
     have hd:decide (p.find 3 f.name≥0)=!decide (p.find 3 f.name<0):=by rw [Bool.eq_iff_iff]; simp
     rw [h4,hd]
     cases (f.kind==4)<;>cases decide (p.find 3 f.name<0)<;>simp
end Go.Ax
namespace Go.Proofs.YtkofafcgcnciaaaGreatDoor
open Go.Ax
theorem t164 (op:Int) (H:Heap):Tr Tryz.prog 164 #[.int .i64 op] H (fun v H'=>v=.bool (pureB op)∧Sub H H'):=by
  apply v164; unfold F164
  have k:∀b,b=pureB op→(Value.bool b=.bool (pureB op)∧Sub H H):=fun b hb=>⟨by rw [hb],Sub.refl _⟩
  have z : ∀ n : Int, pureB n = true → (op == n) = true → true = pureB op := fun n h e => by have : op = n := by simpa using e
                                                                                             rw [this,h]
  refine ⟨fun e=>k _ (z _ rfl e),fun e0=>⟨fun e=>k _ (z _ rfl e),fun e1=>⟨fun e=>k _ (z _ rfl e),fun e2=>⟨fun e=>k _ (z _ rfl e),fun e3=>⟨fun e=>k _ (z _ rfl e),fun e4=>k _ ?_⟩⟩⟩⟩⟩
  unfold pureB; rw [e0,e1,e2,e3,e4]; simp
theorem t165 (op:Int) (H:Heap):Tr Tryz.prog 165 #[.int .i64 op] H (fun v H'=>v=.bool (op==13||op==35||op==36||op==37)∧Sub H H'):=by
 apply v165; unfold F165; exact ⟨rfl,Sub.refl _⟩
theorem t186 (a n:Int) (H:Heap):Tr Tryz.prog 186 #[.int .i64 a,.int .i64 n] H (fun v H'=>v=.bool (withinB a n)∧Sub H H'):=by
 apply v186; unfold F186; exact ⟨rfl,Sub.refl _⟩
theorem kind_at {H:Heap} {fA oA:Option Addr} {fn on:Nat} {p:Prg} (h:HasP H fA fn oA on p) (x:Int):∃(a:Addr) (y:Int),(withinB x fn=true→fA=some a∧0≤x∧x<fn)∧(withinB x fn=true→At H ((a.add (x.toNat*3)).add 0) [.int .i64 y])∧(withinB x fn&&y==1)=(withinB x fn&&!(p.kindAt x != 1)):=by
 by_cases hw:withinB x fn=true
 ·have hl:=h.fns.len
  have hx:0≤x∧x<fn:=by unfold withinB at hw; simpa using hw
  obtain ⟨g,hg⟩:=get_some (l:=p.funcs) (i:=x.toNat) (by omega)
  obtain ⟨a,B,m,c,ha,hat,-⟩:=h.fns.at_ _ g hg
  refine ⟨a,g.kind,fun _=>⟨ha,hx⟩,fun _=>at_head hat,?_⟩
  have:p.kindAt x=g.kind:=by unfold Prg.kindAt; rw [hg]
  rw [this]; simp [bne]
 ·have hw:withinB x fn=false:=by simpa using hw
  refine ⟨⟨0,0,none⟩,0,fun e=>?_,fun e=>?_,?_⟩
  ·rw [hw] at e; cases e
  ·rw [hw] at e; cases e
  ·rw [hw]; rfl
theorem t163 {H : Heap} {fA oA : Option Addr} {fn fc on oc : Nat} {p : Prg} (h : HasP H fA fn oA on p) (k n : Int) (A : Option Addr) (m c : Nat) (op x : Int) :
  Tr Tryz.prog 163 #[.agg #[.slice fA fn fc,.slice oA on oc],.agg #[.int .i64 k,.int .i64 n,.slice A m c],.agg #[.int .i64 op,.int .i64 x]] H (fun v H'=>v=.bool (p.operand m op x)∧Sub H H'):=by
 apply v163; unfold F163
 have hl:=h.fns.len; have hol:=h.opts.len
 have w:∀(c m':Nat),op=c→c≠27→opd op=true→mostB p.funcs.length p.opts.length m op=m'→Value.bool (withinB x m')=.bool (p.operand m op x):=fun c m' hc h27 ho hm=>by
  rw [operand_most p m x ho m' hm]
  have:(op==27)=false:=by simp; omega
  rw [this]; simp
 refine ⟨fun e=>?_,fun e0=>⟨fun e=>?_,fun e1=>⟨fun e=>?_,fun e2=>⟨fun e=>?_,fun e3=>⟨fun e=>?_,fun e4=>⟨fun e=>?_,fun e5=>⟨fun e=>?_,fun e6=>⟨fun e=>?_,fun e7=>⟨fun e=>?_,fun e8=>⟨fun e=>?_,fun e9=>⟨fun e=>?_,fun e10=>⟨fun e=>?_,fun e11=>?_⟩⟩⟩⟩⟩⟩⟩⟩⟩⟩⟩⟩
 ·have:op=0:=by simpa using e
  subst this; exact ⟨by rw [operand_any],Sub.refl _⟩
 ·have:op=13:=by simpa using e
  subst this; exact ⟨_,t186 ..,w 13 m rfl (by decide) rfl rfl,Sub.refl _⟩
 ·have:op=14:=by simpa using e
  subst this; exact ⟨_,t186 ..,w 14 m rfl (by decide) rfl rfl,Sub.refl _⟩
 ·have:op=15:=by simpa using e
  subst this; exact ⟨_,t186 ..,w 15 16 rfl (by decide) rfl rfl,Sub.refl _⟩
 ·have:op=16:=by simpa using e
  subst this; exact ⟨_,t186 ..,w 16 16 rfl (by decide) rfl rfl,Sub.refl _⟩
 ·have:op=20:=by simpa using e
  subst this; exact ⟨_,t186 ..,w 20 on rfl (by decide) rfl (by rw [hol]; rfl),Sub.refl _⟩
 ·have:op=22:=by simpa using e
  subst this; exact ⟨_,t186 ..,w 22 8 rfl (by decide) rfl rfl,Sub.refl _⟩
 ·have:op=25:=by simpa using e
  subst this; exact ⟨_,t186 ..,w 25 8 rfl (by decide) rfl rfl,Sub.refl _⟩
 ·have:op=26:=by simpa using e
  subst this; exact ⟨_,t186 ..,w 26 8 rfl (by decide) rfl rfl,Sub.refl _⟩
 ·have:op=34:=by simpa using e
  subst this; exact ⟨_,t186 ..,w 34 8 rfl (by decide) rfl rfl,Sub.refl _⟩
 ·have:op=27:=by simpa using e
  subst this
  obtain ⟨a,y,h1,h2,h3⟩:=kind_at h x
  refine ⟨_,t186 ..,a,h1,y,h2,?_,Sub.refl _⟩
  rw [operand_most p m x rfl fn (by rw [hl]; rfl)]
  show Value.bool (withinB x fn&&y==1)=_
  rw [h3]; rfl
 ·have:op=33:=by simpa using e
  subst this; exact ⟨_,t186 ..,w 33 4 rfl (by decide) rfl rfl,Sub.refl _⟩
 ·refine ⟨?_,Sub.refl _⟩
  rw [operand_none p m x (by unfold opd; rw [e0,e1,e2,e3,e4,e5,e6,e7,e8,e9,e10,e11]; rfl)]
theorem t125 {H : Heap} {fA oA : Option Addr} {fn fc on oc : Nat} {p : Prg} (h : HasP H fA fn oA on p) (kind name : Int) :
  Tr Tryz.prog 125 #[.agg #[.slice fA fn fc,.slice oA on oc],.int .i64 kind,.int .i64 name] H (fun v H'=>v=.int .i64 (p.find kind name)∧Sub H H'):=by
 have hl:=h.fns.len; have hb:=h.fns.big
 apply v125; unfold F125
 refine ⟨RSc H p.funcs.length (p.hit kind name),fun i _=>((p.funcs.length:Int)-i).toNat,RSc.zero,fun i H1 r=>?_⟩
 obtain ⟨k,rfl,hk,hs⟩:=r.k
 have hH:=r.heap; subst hH
 refine ⟨fun hlt=>?_,fun hge=>?_⟩
 ·have hlt:(k:Int)<fn:=of_decide_eq_true hlt
  obtain ⟨g,hg⟩:=get_some (l:=p.funcs) (i:=k) (by omega)
  obtain ⟨a,B,m,c,ha,hat,-⟩:=h.fns.at_ k g hg
  refine ⟨a,⟨ha,by omega,hlt⟩,_,_,_,_,_,hat,fun e=>⟨?_,Sub.refl _⟩,fun e=>?_⟩
  ·rw [find_eq,scan_hit (k:=k) (r:=(k:Int)) (by omega) hs (by unfold Prg.hit; rw [hg]; simp only; rw [if_pos e])]
  ·exact RSc.next r rfl (by omega) (by omega) (by unfold Prg.hit; rw [hg]; simp only; rw [if_neg (by rw [e]; simp)])
 ·have hge:¬(k:Int)<fn:=of_decide_eq_false hge
  refine ⟨?_,Sub.refl _⟩
  rw [find_eq,scan_none (fun j hj=>hs j (by omega))]
theorem t134 (o:O) (H:Heap):Tr Tryz.prog 134 #[o.val] H (fun v H'=>v=.bool (okO o)∧Sub H H'):=by
 apply v134; unfold F134
 intro b hb Hn hHn
 subst hHn
 refine ⟨R47 o _,fun i _=>(6-i).toNat,⟨rfl,0,rfl,by omega,fun j x hj=>absurd hj (by omega)⟩,fun i H1 r=>?_⟩
 obtain ⟨k,rfl,hk,hs⟩:=r.k
 have hsub:Sub H H1:=by rw [r.heap]; exact Sub.upd_new hb
 refine ⟨fun hlt=>?_,fun hge=>⟨?_,hsub⟩⟩
 ·have hlt:(k:Int)<6:=of_decide_eq_true hlt
  obtain ⟨y,hx⟩:=get_some (l:=o.six) (i:=k) (show k<6 by omega)
  have hat:At H1 (({ block:=b,off:=0 }:Addr).add ((k:Int).toNat*1)) [.int .i64 y]:=by
   rw [r.heap]
   apply at_new
   intro j v hj
   have:k=0∨k=1∨k=2∨k=3∨k=4∨k=5:=by omega
   cases j with
   | succ j=>simp at hj
   | zero=>rcases this with rfl|rfl|rfl|rfl|rfl|rfl<;>(simp [O.six] at hx; subst hx; simpa using hj)
  refine ⟨_,⟨rfl,by omega,hlt⟩,_,hat,fun e=>⟨?_,hsub⟩,fun e=>?_⟩
  ·rw [not_smallB] at e
   have:okO o=false:=by
    have e:smallB y=false:=by simpa using e
    have:k=0∨k=1∨k=2∨k=3∨k=4∨k=5:=by omega
    unfold okO
    rcases this with rfl|rfl|rfl|rfl|rfl|rfl<;>(simp [O.six] at hx; subst hx; simp [e])
   rw [this]
  ·rw [not_smallB] at e
   have e:smallB y=true:=by simpa using e
   rw [wrapi (x:=(k:Int)+1) (by omega) (by omega)]
   refine ⟨⟨r.heap,k+1,by omega,by omega,fun j x hj hx'=>?_⟩,show (6-((k:Int)+1)).toNat<(6-(k:Int)).toNat by omega⟩
   by_cases hjk:j=k
   ·subst hjk; rw [hx] at hx'; cases hx'; exact e
   ·exact hs j x (by omega) hx'
 ·have hge:¬(k:Int)<6:=of_decide_eq_false hge
  have:k=6:=by omega
  subst this
  have a0:=hs 0 _ (by omega) rfl; have a1:=hs 1 _ (by omega) rfl; have a2:=hs 2 _ (by omega) rfl
  have a3:=hs 3 _ (by omega) rfl; have a4:=hs 4 _ (by omega) rfl; have a5:=hs 5 _ (by omega) rfl
  unfold okO; rw [a0,a1,a2,a3,a4,a5]; simp
theorem t135 {H : Heap} {fA oA : Option Addr} {fn fc on oc : Nat} {p : Prg} (h : HasP H fA fn oA on p) (i : Nat) (f : Fnc) (hf : p.funcs[i]?=some f) :
  Tr Tryz.prog 135 #[.agg #[.slice fA fn fc,.slice oA on oc],.int .i64 i] H (fun v H'=>v=.bool (p.namedP i f)∧Sub H H'):=by
 have hl:=h.fns.len; have hi:=get_lt hf
 apply v135; unfold F135
 obtain ⟨a,B,m,c,ha,hat,ho⟩:=h.fns.at_ i f hf
 unfold Prg.namedP
 refine ⟨a,⟨ha,by omega,by omega⟩,_,_,_,_,_,by simpa using hat,fun e=>⟨by rw [if_pos e],Sub.refl _⟩,fun e=>⟨fun e2=>⟨by rw [if_neg (by rw [e]; simp),if_pos e2],Sub.refl _⟩,fun e2=>?_⟩⟩
 rw [if_neg (by rw [e]; simp),if_neg (by rw [e2]; simp)]
 refine ⟨_,fun _=>t125 h _ _,fun e3=>⟨by rw [if_pos e3],Sub.refl _⟩,fun e3=>?_⟩
 rw [if_neg (by rw [e3]; simp)]
 exact ⟨_,fun _=>t125 h _ _,rfl,Sub.refl _⟩
theorem t136 {H : Heap} {fA oA : Option Addr} {fn fc on oc : Nat} {p : Prg} (h : HasP H fA fn oA on p) (i : Nat) (f : Fnc) (hf : p.funcs[i]?=some f) (k : Nat) (op x : Int) (hk : f.ops[k]?=some (op, x)) :
  Tr Tryz.prog 136 #[.agg #[.slice fA fn fc,.slice oA on oc],.int .i64 i,.int .i64 k] H (fun v H'=>v=.bool (p.right i f k op x)∧Sub H H'):=by
 have hl:=h.fns.len; have hi:=get_lt hf
 apply v136; unfold F136
 obtain ⟨a,B,m,c,ha,hat,ho⟩:=h.fns.at_ i f hf
 have hm:=ho.len; have hmb:=ho.big; have hk':=get_lt hk
 obtain ⟨a',ha',hat'⟩:=ho.at_ k _ _ hk
 refine ⟨a,⟨ha,by omega,by omega⟩,_,_,_,_,_,by simpa using hat,a',⟨ha',by omega,by omega⟩,_,_,by simpa using hat',?_⟩
 rw [right_eq,←hm]
 refine ⟨_,fun _=>t163 h ..,fun e=>⟨by rw [if_pos e],Sub.refl _⟩,fun e=>?_⟩
 rw [if_neg (by rw [e]; simp)]
 refine ⟨_,fun _=>t164 ..,fun e2=>⟨by rw [if_pos e2],Sub.refl _⟩,fun e2=>?_⟩
 rw [if_neg (by rw [e2]; simp)]
 refine ⟨fun e3=>⟨by rw [if_pos e3],Sub.refl _⟩,fun e3=>⟨_,fun _=>t165 ..,?_,Sub.refl _⟩⟩
 rw [if_neg (by rw [e3]; simp),wrapi (x:=(m:Int)-1) (by omega) (by omega)]
theorem t107 {H : Heap} {fA oA : Option Addr} {fn fc on oc : Nat} {p : Prg} (h : HasP H fA fn oA on p) :
  Tr Tryz.prog 107 #[.agg #[.slice fA fn fc,.slice oA on oc]] H (fun v H'=>v=.tuple #[.int .i64 p.check.1,.int .i64 p.check.2.1,.int .i64 p.check.2.2]∧Sub H H'):=by
 have hl:=h.fns.len; have hb:=h.fns.big; have hol:=h.opts.len; have hob:=h.opts.big
 apply v107; unfold F107 Prg.check
 rw [←hl,←hol]
 have e0:(decide ((fn:Int)<1)||decide ((fn:Int)>16)||decide ((on:Int)>8))=((fn:Int)==0||decide ((fn:Int)>16)||decide ((on:Int)>8)):=by
  have:decide ((fn:Int)<1)=((fn:Int)==0):=by rw [Bool.eq_iff_iff]; simp<;>omega
  rw [this]
 rw [e0]
 refine ⟨fun e=>⟨by rw [if_pos e],Sub.refl _⟩,fun e=>?_⟩
 rw [if_neg (by rw [e]; simp)]
 refine ⟨RSc H on p.badOpt,fun i _=>((on:Int)-i).toNat,RSc.zero,fun x H1 r=>?_⟩
 obtain ⟨k,rfl,hk,hs⟩:=r.k
 have hH:=r.heap; subst hH
 refine ⟨fun hlt=>?_,fun hge=>?_⟩
 ·have hlt:(k:Int)<on:=of_decide_eq_true hlt
  obtain ⟨o,ho⟩:=get_some (l:=p.opts) (i:=k) (by omega)
  obtain ⟨a,ha,hat⟩:=h.opts.at_ k o ho
  refine ⟨a,⟨ha,by omega,hlt⟩,_,_,_,_,_,_,_,_,_,_,_,hat,_,t134 o H1,fun e2=>⟨?_,Sub.refl _⟩,fun e2=>?_⟩
  ·have e2:okO o=false:=by simpa using e2
   rw [scan_hit (k:=k) (by omega) hs (by unfold Prg.badOpt; rw [ho]; simp only; rw [if_neg (by rw [e2]; simp)])]
  ·have e2:okO o=true:=by simpa using e2
   exact RSc.next r rfl (by omega) (by omega) (by unfold Prg.badOpt; rw [ho]; simp only; rw [if_pos e2])
 ·have hge:¬(k:Int)<on:=of_decide_eq_false hge
  rw [scan_none (n:=on) (fun j hj=>hs j (by omega))]
  clear r hs
  refine ⟨fun x y i H2=>(x=-1∧y=-1)∧RSc H1 fn p.badFn i H2,fun _ _ i _=>((fn:Int)-i).toNat,⟨⟨rfl,rfl⟩,RSc.zero⟩,fun x y z H2 ⟨⟨hx,hy⟩,r⟩=>?_⟩
  subst hx hy
  obtain ⟨i,rfl,hi,hs⟩:=r.k
  have hH:=r.heap; subst hH
  refine ⟨fun hlt=>?_,fun hge=>?_⟩
  ·have hlt:(i:Int)<fn:=of_decide_eq_true hlt
   obtain ⟨f,hf⟩:=get_some (l:=p.funcs) (i:=i) (by omega)
   obtain ⟨a,B,m,c,ha,hat,ho⟩:=h.fns.at_ i f hf
   have hm:=ho.len; have hmb:=ho.big
   have en:(!p.namedP i f||decide ((m:Int)<1)||decide ((m:Int)>128))=!p.named i f:=by
    rw [named_eq hf,←hm]
    have d1:decide ((m:Int)<1)=!decide ((m:Int)≥1):=by rw [Bool.eq_iff_iff]; simp<;>omega
    have d2:decide ((m:Int)>128)=!decide ((m:Int)≤128):=by rw [Bool.eq_iff_iff]; simp
    rw [d1,d2]; simp
   refine ⟨a,⟨ha,by omega,hlt⟩,_,_,_,_,_,by simpa using hat,_,t135 h i f hf,?_⟩
   rw [en]
   refine ⟨fun e2=>ct (by simp) ⟨?_,Sub.refl _⟩,fun e2=>?_⟩
   ·have e2:p.named i f=false:=by simpa using e2
    rw [scan_hit (k:=i) (by omega) hs (by unfold Prg.badFn; rw [hf]; simp only; rw [if_neg (by rw [e2]; simp)])]
   ·have e2:p.named i f=true:=by simpa using e2
    have bad:p.badFn i=scan f.ops.length (p.badOp i f):=by unfold Prg.badFn; rw [hf]; simp only; rw [if_pos e2]
    refine ⟨fun x y k H3=>(x=-1∧y=-1)∧RSc H2 m (p.badOp i f) k H3,fun _ _ k _=>((m:Int)-k).toNat,⟨⟨rfl,rfl⟩,RSc.zero⟩,fun x y z H3 ⟨⟨hx,hy⟩,r3⟩=>?_⟩
    subst hx hy
    obtain ⟨k3,rfl,hk3,hs3⟩:=r3.k
    have hH:=r3.heap; subst hH
    refine ⟨fun hlt3=>?_,fun hge3=>?_⟩
    ·have hlt3:(k3:Int)<m:=of_decide_eq_true hlt3
     obtain ⟨⟨op,x⟩,hop⟩:=get_some (l:=f.ops) (i:=k3) (by omega)
     refine ⟨_,t136 h i f hf k3 op x hop,fun e3=>ct (by simp) ⟨?_,Sub.refl _⟩,fun e3=>?_⟩
     ·have e3:p.right i f k3 op x=false:=by simpa using e3
      have hb:p.badFn i=some (40,(i:Int),(k3:Int)):=by
       rw [bad]
       exact scan_hit (k:=k3) (by omega) hs3 (by unfold Prg.badOp; rw [hop]; simp only; rw [if_neg (by rw [e3]; simp)])
      rw [scan_hit (k:=i) (by omega) hs hb]
     ·have e3:p.right i f k3 op x=true:=by simpa using e3
      obtain ⟨n1,n2⟩:=RSc.next r3 rfl (by omega) (by omega) (by unfold Prg.badOp; rw [hop]; simp only; rw [if_pos e3])
      exact ⟨⟨⟨rfl,rfl⟩,n1⟩,n2⟩
    ·have hge3:¬(k3:Int)<m:=of_decide_eq_false hge3
     obtain ⟨n1,n2⟩:=RSc.next r rfl (by omega) (by omega) (by rw [bad]; exact scan_none fun j hj=>hs3 j (by omega))
     exact ⟨⟨⟨rfl,rfl⟩,n1⟩,n2⟩
  ·have hge:¬(i:Int)<fn:=of_decide_eq_false hge
   rw [scan_none (n:=fn) (fun j hj=>hs j (by omega))]
   exact cf (by decide) ⟨rfl,Sub.refl _⟩
end Go.Proofs.YtkofafcgcnciaaaGreatDoor
set_option maxRecDepth 100000
namespace Go.Ax
theorem flat_at {α:Type} {cells:α→List Value} {sz:Nat} (hsz:∀x,(cells x).length=sz):∀(l:List α) (i:Nat) (x:α) (j:Nat) (v:Value),l[i]?=some x→(cells x)[j]?=some v→(l.flatMap cells)[i*sz+j]?=some v
 | y::l,0,x,j,v,h,hv=>by
  simp at h; subst h
  rw [List.flatMap_cons,List.getElem?_append_left (by have:=get_lt hv; omega)]
  rw [Nat.zero_mul,Nat.zero_add]; exact hv
 | y::l,i+1,x,j,v,h,hv=>by
  have e:(i+1)*sz+j=(cells y).length+(i*sz+j):=by rw [hsz,Nat.add_mul]; omega
  rw [List.flatMap_cons,e,List.getElem?_append_right (by omega)]
  have e2:(cells y).length+(i*sz+j)-(cells y).length=i*sz+j:=by omega
  rw [e2]
  exact flat_at hsz l i x j v (by simpa using h) hv
theorem flat_size {α:Type} {cells:α→List Value} {sz:Nat} (hsz:∀x,(cells x).length=sz) (l:List α):(l.flatMap cells).length=l.length*sz:=by
 induction l with
 | nil=>simp
 | cons x l ih=>rw [List.flatMap_cons,List.length_append,ih,hsz,List.length_cons,Nat.add_mul]; omega
theorem flat_inv {α:Type} {cells:α→List Value} {sz:Nat} (hsz:∀x,(cells x).length=sz):∀(l:List α) (j:Nat) (v:Value),(l.flatMap cells)[j]?=some v→∃i x,l[i]?=some x∧i*sz≤j∧(cells x)[j-i*sz]?=some v
 | [],j,v,h=>by simp at h
 | y::l,j,v,h=>by
  rw [List.flatMap_cons] at h
  by_cases hj:j<sz
  ·rw [List.getElem?_append_left (by rw [hsz]; exact hj)] at h
   exact ⟨0,y,rfl,by omega,by simpa using h⟩
  ·rw [List.getElem?_append_right (by rw [hsz]; omega),hsz] at h
   obtain ⟨i,x,h1,h2,h3⟩:=flat_inv hsz l (j-sz) v h
   refine ⟨i+1,x,by simpa using h1,by rw [Nat.add_mul]; omega,?_⟩
   rw [Nat.add_mul,Nat.one_mul]
   have:j-(i*sz+sz)=j-sz-i*sz:=by omega
   rw [this]; exact h3
theorem src_elem {α:Type} {cells:α→List Value} {sz:Nat} (hsz:∀x,(cells x).length=sz) (h0:0<sz) {H:Heap} {A:Option Addr} {l:List α} (h:Src H A (l.flatMap cells)) (i:Nat) (x:α) (hx:l[i]?=some x):∃a,A=some a∧At H (a.add (i*sz)) (cells x):=by
 rcases h with e|⟨a,ha,hat⟩
 ·have:=flat_size hsz l
  rw [e] at this
  have hl:=get_lt hx
  have:l.length*sz=0:=by simpa using this.symm
  rcases Nat.mul_eq_zero.1 this with h|h<;>omega
 ·have d:=at_drop (i*sz) hat
  obtain ⟨c1,t1,f1,g1,g2,g3⟩:=d.out
  refine ⟨a,ha,⟨⟨c1,t1,f1,g1,g2,fun j v hv=>g3 j v ?_⟩⟩⟩
  rw [List.getElem?_drop]; exact flat_at hsz l i x j v hx hv
theorem src_of {α:Type} {cells:α→List Value} {sz:Nat} (hsz:∀x,(cells x).length=sz) {H:Heap} {A:Option Addr} {l:List α} (h:∀i x,l[i]?=some x→∃a,A=some a∧At H (a.add (i*sz)) (cells x)):Src H A (l.flatMap cells):=by
 cases hl:l with
 | nil=>exact .inl rfl
 | cons y t =>
  obtain ⟨a,ha,hat⟩:=h 0 y (by rw [hl]; rfl)
  rw [Nat.zero_mul] at hat
  obtain ⟨c,T,fz,h1,h2,h3⟩:=hat.out
  rw [←hl]
  refine .inr ⟨a,ha,⟨⟨c,T,fz,h1,h2,fun j v hv=>?_⟩⟩⟩
  obtain ⟨i,x,q1,q2,q3⟩:=flat_inv hsz l j v hv
  obtain ⟨a',ha',hat'⟩:=h i x q1
  rw [ha] at ha'; cases ha'
  obtain ⟨c',T',fz',g1,g2,g3⟩:=hat'.out
  have hb:(a.add (i*sz)).block=a.block:=by unfold Addr.add; split<;>rfl
  have ho:(a.add (i*sz)).off=a.off+i*sz:=by unfold Addr.add; split<;>simp_all
  rw [hb] at g1
  have:(a.add 0)=a:=rfl
  rw [this] at h1
  rw [g1] at h1; cases h1
  have:=g3 _ _ q3
  rw [ho] at this
  have e:a.off+i*sz+(j-i*sz)=a.off+j:=by omega
  rw [e] at this; exact this
def del (H:Heap) (b:Nat):Heap:=fun i=>if i=b then none else H i
theorem OwnS.absorb {F H1 H2:Heap} {A B:Option Addr} {n c sz m d sz2:Nat} {cs cs2:List Value} (o:OwnS F H1 A n c sz cs) (q:OwnS H1 H2 B m d sz2 cs2):∃F2,Sub F F2∧OwnS F2 H2 A n c sz cs∧Src F2 B cs2∧(∀r,(H1 r).isSome=true→Src (Ax.del F2 r) B cs2):=by
 rcases q.at_ with ⟨rfl,h1,h2⟩|⟨b2,cur,T,rfl,h1,h2,h3,h4⟩
 ·have hnil : cs2=[] := by
   have:=q.len
   rw [h1,Nat.zero_mul] at this
   exact List.length_eq_zero_iff.1 this
  refine ⟨F,Sub.refl _,?_,.inl hnil,fun _ _=>.inl hnil⟩
  ·refine ⟨o.sub.trans q.sub,o.len,o.cap,?_⟩
   rcases o.at_ with h|⟨b,cur,T,g1,g2,g3,g4⟩
   ·exact .inl h
   ·exact .inr ⟨b,cur,T,g1,g2,q.sub.sub _ _ g3,g4⟩
 ·have hF:F b2=none:=none_below o.sub h1
  refine ⟨F.upd b2 (.cells cur T (0,0)),Sub.upd_new hF,⟨⟨fun i x hx=>?_⟩,o.len,o.cap,?_⟩,.inr ⟨_,rfl,⟨⟨cur,T,(0,0),Heap.upd_same,rfl,fun j v hv=>by simpa using h4 j v hv⟩⟩⟩,fun r hr=>?_⟩
  ·by_cases e:i=b2
   ·subst e; rw [Heap.upd_same] at hx; injection hx with hx; subst hx; exact h2
   ·rw [Heap.upd_other e] at hx; exact q.sub.sub _ _ (o.sub.sub _ _ hx)
  ·rcases o.at_ with h|⟨b,cur',T',g1,g2,g3,g4⟩
   ·exact .inl h
   ·have hb:b≠b2:=fun e=>by subst e; rw [h1] at g3; cases g3
    exact .inr ⟨b,cur',T',g1,by rw [Heap.upd_other hb]; exact g2,q.sub.sub _ _ g3,g4⟩
  ·have hne:b2≠r:=fun e=>by subst e; rw [h1] at hr; cases hr
   exact .inr ⟨_,rfl,⟨⟨cur,T,(0,0),by unfold Ax.del; rw [if_neg hne]; exact Heap.upd_same,rfl,fun j v hv=>by simpa using h4 j v hv⟩⟩⟩
def opC (o:Int×Int):List Value:=[.int .i64 o.1,.int .i64 o.2]
abbrev FnH:=Fnc×Option Addr×Nat×Nat
def fnC (z:FnH):List Value:=[.int .i64 z.1.kind,.int .i64 z.1.name,.slice z.2.1 z.2.2.1 z.2.2.2]
theorem hasOps_of {H:Heap} {A:Option Addr} {n:Nat} {l:List (Int×Int)} (h:Src H A (l.flatMap opC)) (hn:n=l.length) (hb:n≤9223372036854775807):HasOps H A n l :=
 ⟨hn,hb,fun i c x e=>src_elem (cells:=opC) (sz:=2) (fun _=>rfl) (by decide) h i (c,x) e⟩
theorem HasOps.src {H:Heap} {A:Option Addr} {n:Nat} {l:List (Int×Int)} (h:HasOps H A n l):Src H A (l.flatMap opC):=src_of (cells:=opC) (sz:=2) (fun _=>rfl) fun i x e=>h.at_ i x.1 x.2 e
theorem hasOpts_of {H:Heap} {A:Option Addr} {n:Nat} {l:List O} (h:Src H A (l.flatMap O.cells)) (hn:n=l.length) (hb:n≤9223372036854775807):HasOpts H A n l :=
 ⟨hn,hb,fun i o e=>src_elem (cells:=O.cells) (sz:=11) (fun _=>rfl) (by decide) h i o e⟩
theorem HasOpts.src {H:Heap} {A:Option Addr} {n:Nat} {l:List O} (h:HasOpts H A n l):Src H A (l.flatMap O.cells):=src_of (cells:=O.cells) (sz:=11) (fun _=>rfl) fun i x e=>h.at_ i x e
theorem hasFns_of {H:Heap} {A:Option Addr} {n:Nat} {l:List FnH} (h:Src H A (l.flatMap fnC)) (hn:n=l.length) (hb:n≤9223372036854775807) (ho:∀z∈l,HasOps H z.2.1 z.2.2.1 z.1.ops):HasFns H A n (l.map (·.1)):=by
 refine ⟨by simpa using hn,hb,fun i f e=>?_⟩
 rw [List.getElem?_map] at e
 cases hz:l[i]? with
 | none=>rw [hz] at e; cases e
 | some z =>
  rw [hz] at e; simp at e; subst e
  obtain ⟨a,ha,hat⟩:=src_elem (cells:=fnC) (sz:=3) (fun _=>rfl) (by decide) h i z hz
  exact ⟨a,z.2.1,z.2.2.1,z.2.2.2,ha,hat,ho z (List.mem_of_getElem? hz)⟩
theorem cells_one_op (l:List (Int×Int)):allOne (l.flatMap opC)=true:=by
 induction l with
 | nil=>rfl
 | cons x l ih=>rw [List.flatMap_cons]; simp [opC,allOne,one,ih]
theorem cells_one_o (l:List O):allOne (l.flatMap O.cells)=true:=by
 induction l with
 | nil=>rfl
 | cons x l ih=>rw [List.flatMap_cons]; simp [O.cells,allOne,one,ih]
structure Prg.Sz (p:Prg):Prop where
 fns:p.funcs.length*40≤140737488355328
 opts:p.opts.length*88≤140737488355328
 ops:∀f∈p.funcs,f.ops.length*16≤140737488355328
end Go.Ax
set_option maxRecDepth 100000
set_option linter.unusedVariables false
namespace Go.Proofs.YtkofafcgcnciaaaGreatDoor
open Go.Ax IntKind
noncomputable def c109:Cx:={ P:=Tryz.prog,res:=[],pub:=[],loops:=[⟨5,[(33,.int .i64)],[2,4,5,34,35,36,37,38,39,40,41,42,43,44],[]⟩],quiet:=[137,139],asm:=true }
def F109 (eId eTime eKind eA eB eC eD eE eF:Int) (H:Heap) (K:Value→Heap→Prop):Prop :=
 ∃(x:Int),TrQ Tryz.prog 137 #[eKind] H (.int .i64 x) ∧((decide (x<0)||decide (eId<1)||decide (eId>256)||decide (eTime<0)||decide (eTime>1099511627776))=true→K (.bool false) H) ∧((decide (x<0)||decide (eId<1)||decide (eId>256)||decide (eTime<0)||decide (eTime>1099511627776))=false→Tr Tryz.prog 138 #[.agg #[eId,eTime,eKind,eA,eB,eC,eD,eE,eF]] H fun v1 H'1 =>∃(x1 x2 x3 x4 x5 x6:Int),v1=.agg #[x1,x2,x3,x4,x5,x6] ∧∃(Rel:Int→Heap→Prop) (mu:Int→Heap→Nat),Rel (0:Int) H'1 ∧∀(x7:Int) (H1:Heap),Rel x7 H1→(decide (x7<6)=true→∃(x8:Int),
 arrAt [x1,x2,x3,x4,x5,x6] 6 x7 1 [x8] ∧((decide (x7≥x)&&x8 != 0)=true→K (.bool false) H1) ∧((decide (x7≥x)&&x8 != 0)=false→Rel (i64.wrap (x7+1)) H1 ∧mu (i64.wrap (x7+1)) H1<mu x7 H1)) ∧(decide (x7<6)=false→∃(b:Bool),TrQ Tryz.prog 139 #[.agg #[eId,eTime,eKind,eA,eB,eC,eD,eE,eF]] H1 (.bool b) ∧K (.bool b) H1))

theorem v109 {eId eTime eKind eA eB eC eD eE eF:Int} {H:Heap} {K:Value→Heap→Prop} (h:F109 eId eTime eKind eA eB eC eD eE eF H K):Tr Tryz.prog 109 #[.agg #[.int .i64 eId,.int .i64 eTime,.int .i64 eKind,.int .i64 eA,.int .i64 eB,.int .i64 eC,.int .i64 eD,.int .i64 eE,.int .i64 eF]] H K :=
 tr_of_eq (C:=c109) Tryz.func109 (by kernel_rfl) h
noncomputable def c137:Cx:={ P:=Tryz.prog,res:=[],pub:=[],loops:=[],quiet:=[],asm:=true }
def F137 (kind:Int) (H:Heap) (K:Value→Heap→Prop):Prop:=((kind==1)=true→K (.int .i64 6) H) ∧
 ((kind==1)=false→((kind==9)=true→K (.int .i64 3) H) ∧((kind==9)=false→((kind==14)=true→K (.int .i64 3) H) ∧((kind==14)=false→((kind==19)=true→K (.int .i64 3) H) ∧((kind==19)=false→((kind==21)=true→K (.int .i64 3) H) ∧((kind==21)=false→((kind==22)=true→K (.int .i64 3) H) ∧((kind==22)=false→((kind==23)=true→K (.int .i64 3) H) ∧((kind==23)=false→((kind==24)=true→K (.int .i64 3) H) ∧((kind==24)=false→((kind==28)=true→K (.int .i64 3) H) ∧
 ((kind==28)=false→((kind==3)=true→K (.int .i64 2) H) ∧((kind==3)=false→((kind==5)=true→K (.int .i64 2) H) ∧((kind==5)=false→((kind==10)=true→K (.int .i64 2) H) ∧((kind==10)=false→((kind==13)=true→K (.int .i64 2) H) ∧((kind==13)=false→((kind==18)=true→K (.int .i64 2) H) ∧((kind==18)=false→((kind==26)=true→K (.int .i64 2) H) ∧((kind==26)=false→((kind==27)=true→K (.int .i64 2) H) ∧((kind==27)=false→((kind==29)=true→K (.int .i64 2) H) ∧
 ((kind==29)=false→((kind==31)=true→K (.int .i64 0) H) ∧((kind==31)=false→((decide (kind<1)||decide (kind>31))=true→K (.int .i64 (-1)) H) ∧((decide (kind<1)||decide (kind>31))=false→K (.int .i64 1) H)))))))))))))))))))

theorem v137 {kind:Int} {H:Heap} {K:Value→Heap→Prop} (h:F137 kind H K):Tr Tryz.prog 137 #[.int .i64 kind] H K :=
 tr_of_eq (C:=c137) Tryz.func137 (by kernel_rfl) h
noncomputable def c138:Cx:={ P:=Tryz.prog,res:=[],pub:=[],loops:=[],quiet:=[],asm:=true }
def F138 (eId eTime eKind eA eB eC eD eE eF:Int) (H:Heap) (K:Value→Heap→Prop):Prop:=K (.agg #[eA,eB,eC,eD,eE,eF]) H

theorem v138 {eId eTime eKind eA eB eC eD eE eF:Int} {H:Heap} {K:Value→Heap→Prop} (h:F138 eId eTime eKind eA eB eC eD eE eF H K):Tr Tryz.prog 138 #[.agg #[.int .i64 eId,.int .i64 eTime,.int .i64 eKind,.int .i64 eA,.int .i64 eB,.int .i64 eC,.int .i64 eD,.int .i64 eE,.int .i64 eF]] H K :=
 tr_of_eq (C:=c138) Tryz.func138 (by kernel_rfl) h
noncomputable def c139:Cx:={ P:=Tryz.prog,res:=[],pub:=[],loops:=[],quiet:=[166],asm:=true }
def F139 (eId eTime eKind eA eB eC eD eE eF:Int) (H:Heap) (K:Value→Heap→Prop):Prop:=((eKind==1)=true →
 ∃(b:Bool),TrQ Tryz.prog 166 #[eA] H (.bool b) ∧K (.bool (b&&decide (eC≥0)&&decide (eD≥0)&&decide (eE≥0)&&decide (eF≥0))) H) ∧((eKind==1)=false→((eKind==3)=true→∃(b1:Bool),TrQ Tryz.prog 166 #[eA] H (.bool b1) ∧K (.bool b1) H) ∧((eKind==3)=false→((eKind==5)=true→∃(b2:Bool),TrQ Tryz.prog 166 #[eA] H (.bool b2) ∧K (.bool b2) H) ∧((eKind==5)=false→((eKind==19)=true→∃(b3:Bool),TrQ Tryz.prog 166 #[eA] H (.bool b3) ∧K (.bool (b3&&decide (eC≥0))) H) ∧((eKind==19)=false→((eKind==21)=true→∃(b4:Bool),
 TrQ Tryz.prog 166 #[eA] H (.bool b4) ∧K (.bool (b4&&decide (eC≥0))) H) ∧((eKind==21)=false→((eKind==10)=true→K (.bool (decide (eA≥0)&&decide (eA<4))) H) ∧((eKind==10)=false→((eKind==4)=true→K (.bool (decide (eA≥0))) H) ∧((eKind==4)=false→((eKind==20)=true→K (.bool (decide (eA≥0))) H) ∧((eKind==20)=false→((eKind==11)=true→K (.bool true) H) ∧((eKind==11)=false→((eKind==15)=true→K (.bool true) H) ∧((eKind==15)=false→((eKind==16)=true→K (.bool true) H) ∧
 ((eKind==16)=false→((eKind==17)=true→K (.bool true) H) ∧((eKind==17)=false→((eKind==30)=true→K (.bool true) H) ∧((eKind==30)=false→((eKind==31)=true→K (.bool true) H) ∧((eKind==31)=false→((eKind==18)=true→K (.bool (decide (eB≥1))) H) ∧((eKind==18)=false→((eKind==9)=true→∃(b5:Bool),(decide (eA≥1)=true→Tr Tryz.prog 166 #[eB] H fun v5 H'5=>v5=.bool b5 ∧Ax.Sub H H'5) ∧K (.bool (decide (eA≥1)&&b5)) H) ∧((eKind==9)=false→((eKind==14)=true→K (.bool (decide (eA≥1)&&(eC==0||eC==1))) H) ∧
 ((eKind==14)=false→((eKind==26)=true→K (.bool (decide (eA≥1)&&decide (eB≥1))) H) ∧((eKind==26)=false→((eKind==28)=true→K (.bool (decide (eA≥1)&&decide (eC≥0)&&decide (eC≤4))) H) ∧((eKind==28)=false→((eKind==24)=true→((decide (eB<1)||decide (eB>4))=true→K (.bool false) H) ∧((decide (eB<1)||decide (eB>4))=false→K (.bool (decide (eA≥1)&&decide (eC≥1))) H)) ∧((eKind==24)=false→((eKind==22)=true→K (.bool (decide (eA≥1)&&decide (eC≥1))) H) ∧
 ((eKind==22)=false→((eKind==23)=true→K (.bool (decide (eA≥1)&&decide (eC≥1))) H) ∧((eKind==23)=false→K (.bool (decide (eA≥1))) H))))))))))))))))))))))

theorem v139 {eId eTime eKind eA eB eC eD eE eF:Int} {H:Heap} {K:Value→Heap→Prop} (h:F139 eId eTime eKind eA eB eC eD eE eF H K):Tr Tryz.prog 139 #[.agg #[.int .i64 eId,.int .i64 eTime,.int .i64 eKind,.int .i64 eA,.int .i64 eB,.int .i64 eC,.int .i64 eD,.int .i64 eE,.int .i64 eF]] H K :=
 tr_of_eq (C:=c139) Tryz.func139 (by kernel_rfl) h
noncomputable def c166:Cx:={ P:=Tryz.prog,res:=[],pub:=[],loops:=[],quiet:=[],asm:=true }
def F166 (n:Int) (H:Heap) (K:Value→Heap→Prop):Prop:=K (.bool (decide (n≥0)&&decide (n<8))) H

theorem v166 {n:Int} {H:Heap} {K:Value→Heap→Prop} (h:F166 n H K):Tr Tryz.prog 166 #[.int .i64 n] H K :=
 tr_of_eq (C:=c166) Tryz.func166 (by kernel_rfl) h
noncomputable def c53:Cx:={ P:=Tryz.prog,res:=[],pub:=[],loops:=[],quiet:=[],asm:=true }
def F53 (kind:Int) (H:Heap) (K:Value→Heap→Prop):Prop:=K (.bool (decide (kind≥15)&&decide (kind≤18)||kind==30||kind==31)) H

theorem v53 {kind:Int} {H:Heap} {K:Value→Heap→Prop} (h:F53 kind H K):Tr Tryz.prog 53 #[.int .i64 kind] H K :=
 tr_of_eq (C:=c53) Tryz.func53 (by kernel_rfl) h
noncomputable def c89:Cx:={ P:=Tryz.prog,res:=[],pub:=[],loops:=[],quiet:=[],asm:=true }
def F89 (kind:Int) (H:Heap) (K:Value→Heap→Prop):Prop:=K (.bool (decide (kind≥3)&&decide (kind≤18))) H

theorem v89 {kind:Int} {H:Heap} {K:Value→Heap→Prop} (h:F89 kind H K):Tr Tryz.prog 89 #[.int .i64 kind] H K :=
 tr_of_eq (C:=c89) Tryz.func89 (by kernel_rfl) h
theorem kinds {k:Int} (h:¬(k<1∨k>31)):k=1∨k=2∨k=3∨k=4∨k=5∨k=6∨k=7∨k=8∨k=9∨k=10∨k=11∨k=12∨k=13∨k=14∨k=15∨k=16∨k=17∨k=18∨k=19∨k=20∨k=21∨k=22∨k=23∨k=24∨k=25∨k=26∨k=27∨k=28∨k=29∨k=30∨k=31:=by omega
theorem f20 (kind:Int) (H:Heap) (K:Value→Heap→Prop) (h:K (.int .i64 (fieldsM kind)) H):F137 kind H K:=by
 by_cases hk:kind<1∨kind>31
 ·have e:fieldsM kind=-1:=by unfold fieldsM; rw [if_pos hk]
  rw [e] at h
  have n:∀m:Int,1≤m→m≤31→(kind==m)=false:=fun m h1 h2=>by simp; omega
  have o:(decide (kind<1)||decide (kind>31))=true:=by simpa using hk
  unfold F137
  repeat first|exact h|refine ct o ?_|refine cf (n _ (by decide) (by decide)) ?_
 ·rcases kinds hk with rfl|rfl|rfl|rfl|rfl|rfl|rfl|rfl|rfl|rfl|rfl|rfl|rfl|rfl|rfl|rfl|rfl|rfl|rfl|rfl|rfl|rfl|rfl|rfl|rfl|rfl|rfl|rfl|rfl|rfl|rfl
  all_goals
   unfold F137
   repeat first|exact h|refine ct rfl ?_|refine cf rfl ?_
theorem t137 (kind:Int) (H:Heap):Tr Tryz.prog 137 #[.int .i64 kind] H (fun v H'=>v=.int .i64 (fieldsM kind)∧Sub H H'):=v137 (f20 _ _ _ ⟨rfl,Sub.refl _⟩)
theorem t60 (kind:Int) (H:Heap):Tr Tryz.prog 60 #[.int .i64 kind] H (fun v H'=>v=.int .i64 (fieldsM kind)∧Sub H H'):=by
 apply v60; unfold F60
 refine fun b hb=>⟨fun h=>⟨?_,Sub.upd_new hb⟩,fun h=>?_⟩
 ·have hk:kind<1∨kind>31:=by simpa using h
  unfold fieldsM; rw [if_pos hk]
 ·have hk:¬(kind<1∨kind>31):=by simpa using h
  refine ⟨_,⟨rfl,by omega,by omega⟩,fieldsM kind,?_,rfl,Sub.upd_new hb⟩
  refine at_new1 ?_
  rcases kinds hk with rfl|rfl|rfl|rfl|rfl|rfl|rfl|rfl|rfl|rfl|rfl|rfl|rfl|rfl|rfl|rfl|rfl|rfl|rfl|rfl|rfl|rfl|rfl|rfl|rfl|rfl|rfl|rfl|rfl|rfl|rfl<;>rfl
theorem t89 (kind:Int) (H:Heap):Tr Tryz.prog 89 #[.int .i64 kind] H (fun v H'=>v=.bool (cmdM kind)∧Sub H H'):=by apply v89; unfold F89; exact ⟨rfl,Sub.refl _⟩
theorem t53 (kind:Int) (H:Heap):Tr Tryz.prog 53 #[.int .i64 kind] H (fun v H'=>v=.bool (closeM kind)∧Sub H H'):=by apply v53; unfold F53; exact ⟨rfl,Sub.refl _⟩
def nameM (n:Int):Bool:=decide (n≥0)&&decide (n<8)
theorem t166 (n:Int) (H:Heap):Tr Tryz.prog 166 #[.int .i64 n] H (fun v H'=>v=.bool (nameM n)∧Sub H H'):=by apply v166; unfold F166; exact ⟨rfl,Sub.refl _⟩
theorem t138 (x:Ev) (H:Heap):Tr Tryz.prog 138 #[x.val] H (fun v H'=>v=.agg #[.int .i64 x.a,.int .i64 x.b,.int .i64 x.c,.int .i64 x.d,.int .i64 x.e,.int .i64 x.f]∧H'=H):=by
 apply v138; unfold F138; exact ⟨rfl,rfl⟩
theorem t62 (kind k:Int) (H:Heap):Tr Tryz.prog 62 #[.int .i64 kind,.int .i64 k] H (fun v H'=>v=.tuple #[.int .i64 (spanM kind k).1,.int .i64 (spanM kind k).2]∧Sub H H'):=by
 apply v62; unfold F62 spanM
 refine ⟨fun h=>⟨by rw [if_pos h],Sub.refl _⟩,fun h=>?_⟩
 rw [if_neg (by rw [h]; simp)]
 refine ⟨fun h=>⟨by rw [if_pos h],Sub.refl _⟩,fun h=>?_⟩
 rw [if_neg (by rw [h]; simp)]
 refine ⟨fun h=>⟨by rw [if_pos h],Sub.refl _⟩,fun h=>?_⟩
 rw [if_neg (by rw [h]; simp)]
 refine ⟨fun h=>⟨by rw [if_pos h],Sub.refl _⟩,fun h=>?_⟩
 rw [if_neg (by rw [h]; simp)]
 refine ⟨fun h=>⟨by rw [if_pos h],Sub.refl _⟩,fun h=>?_⟩
 rw [if_neg (by rw [h]; simp)]
 refine ⟨fun h=>⟨by rw [if_pos h],Sub.refl _⟩,fun h=>?_⟩
 rw [if_neg (by rw [h]; simp)]
 refine ⟨fun h=>⟨by rw [if_pos h],Sub.refl _⟩,fun h=>?_⟩
 rw [if_neg (by rw [h]; simp)]
 exact ⟨rfl,Sub.refl _⟩
def restM (kind a b c d e f:Int):Bool:=numOk kind 0 a&&numOk kind 1 b&&numOk kind 2 c&&numOk kind 3 d&&numOk kind 4 e&&numOk kind 5 f
structure Zeros (n a b c d e f:Int):Prop where
 a:¬0<n→a=0
 b:¬1<n→b=0
 c:¬2<n→c=0
 d:¬3<n→d=0
 e:¬4<n→e=0
 f:¬5<n→f=0
theorem f42 (i t kind a b c d e f : Int) (H : Heap) (K : Value→Heap→Prop) (hk : ¬(kind<1∨kind>31)) (hz : Zeros (fieldsM kind) a b c d e f)
  (h:K (.bool (restM kind a b c d e f)) H):F139 i t kind a b c d e f H K:=by
 obtain ⟨za,zb,zc,zd,ze,zf⟩:=hz
 rcases kinds hk with rfl|rfl|rfl|rfl|rfl|rfl|rfl|rfl|rfl|rfl|rfl|rfl|rfl|rfl|rfl|rfl|rfl|rfl|rfl|rfl|rfl|rfl|rfl|rfl|rfl|rfl|rfl|rfl|rfl|rfl|rfl
 all_goals
  unfold F139
  repeat' first|refine ct rfl ?_|refine cf rfl ?_|refine ⟨_,t166 _ _,?_⟩|refine ⟨_,fun _=>t166 _ _,?_⟩|refine ⟨fun h1=>?_,fun h1=>?_⟩|fail
  all_goals
   refine Eq.mp (congrArg (fun b=>K (.bool b) H) ?_) h
   rw [Bool.eq_iff_iff]
   try simp at h1
   simp [fieldsM,tabF] at za zb zc zd ze zf
   simp [restM,numOk,fieldsM,tabF,spanM,nameM]
   try omega
theorem t139 (x : Ev) (hk : ¬(x.kind<1∨x.kind>31)) (hz : Zeros (fieldsM x.kind) x.a x.b x.c x.d x.e x.f) (H : Heap) :
  Tr Tryz.prog 139 #[x.val] H (fun v H'=>v=.bool (restM x.kind x.a x.b x.c x.d x.e x.f)∧Sub H H'):=by
 exact v139 (f42 _ _ _ _ _ _ _ _ _ _ _ hk hz ⟨rfl,Sub.refl _⟩)
theorem valid_eq (x:Ev):validM x=(headOk x&&restM x.kind x.a x.b x.c x.d x.e x.f):=rfl
theorem rest_all (kind:Int) {a b c d e f:Int}:restM kind a b c d e f=true↔∀(k:Nat) (v:Int),[a,b,c,d,e,f][k]?=some v→numOk kind k v=true:=by
 unfold restM
 simp only [Bool.and_eq_true]
 constructor
 ·rintro ⟨⟨⟨⟨⟨h0,h1⟩,h2⟩,h3⟩,h4⟩,h5⟩ k v hv
  match k,hv with
  | 0,hv=>simp at hv; subst hv; exact h0
  | 1,hv=>simp at hv; subst hv; exact h1
  | 2,hv=>simp at hv; subst hv; exact h2
  | 3,hv=>simp at hv; subst hv; exact h3
  | 4,hv=>simp at hv; subst hv; exact h4
  | 5,hv=>simp at hv; subst hv; exact h5
  | k+6,hv=>simp at hv
 ·intro h
  exact ⟨⟨⟨⟨⟨h 0 a rfl,h 1 b rfl⟩,h 2 c rfl⟩,h 3 d rfl⟩,h 4 e rfl⟩,h 5 f rfl⟩
theorem rest_not {kind:Int} {a b c d e f:Int} {k:Nat} {v:Int} (h:[a,b,c,d,e,f][k]?=some v) (hn:numOk kind k v=false):restM kind a b c d e f=false:=by
 cases hr:restM kind a b c d e f with
 | false=>rfl
 | true=>have:=(rest_all kind).1 hr k v h; rw [hn] at this; cases this
theorem head_false {x:Ev} (h:(decide (fieldsM x.kind<0)||decide (x.id<1)||decide (x.id>256)||decide (x.time<0)||decide (x.time>1099511627776))=true):validM x=false:=by
 rw [valid_eq]; unfold headOk; rw [h]; rfl
theorem head_true {x:Ev} (h:(decide (fieldsM x.kind<0)||decide (x.id<1)||decide (x.id>256)||decide (x.time<0)||decide (x.time>1099511627776))=false):validM x=restM x.kind x.a x.b x.c x.d x.e x.f:=by
 rw [valid_eq]; unfold headOk; rw [h]; rfl
structure RV (x:Ev) (p:Nat→Int→Prop) (i:Int) (H H1:Heap):Prop where
 heap:H1=H
 k:∃k:Nat,i=k∧k≤6∧∀j v,j<k→x.nums[j]?=some v→p j v
theorem RV.zero {x:Ev} {p:Nat→Int→Prop} {H:Heap}:RV x p 0 H H:=⟨rfl,0,rfl,by omega,fun j v hj=>absurd hj (by omega)⟩
theorem RV.next {x : Ev} {p : Nat→Int→Prop} {H H1 : Heap} {k : Nat} {v : Int} (r : RV x p k H H1) (hk : k<6) (hv : x.nums[k]?=some v) (h : p k v) :
  RV x p (IntKind.i64.wrap ((k:Int)+1)) H H1∧(6-IntKind.i64.wrap ((k:Int)+1)).toNat<(6-(k:Int)).toNat:=by
 rw [wrapi (by omega) (by omega)]
 obtain ⟨k',hk',_,hp⟩:=r.k
 have:k'=k:=by omega
 subst this
 refine ⟨⟨r.heap,k'+1,by omega,by omega,fun j u hj hu=>?_⟩,by omega⟩
 by_cases hjk:j=k'
 ·subst hjk; rw [hv] at hu; cases hu; exact h
 ·exact hp j u (by omega) hu
theorem nums_arr (x:Ev) {k:Nat} (hk:k<6):∃v,x.nums[k]?=some v∧arrAt [.int .i64 x.a,.int .i64 x.b,.int .i64 x.c,.int .i64 x.d,.int .i64 x.e,.int .i64 x.f] 6 k 1 [.int .i64 v]:=by
 match k,hk with
 | 0,_=>exact ⟨x.a,rfl,by decide,by decide,rfl⟩
 | 1,_=>exact ⟨x.b,rfl,by decide,by decide,rfl⟩
 | 2,_=>exact ⟨x.c,rfl,by decide,by decide,rfl⟩
 | 3,_=>exact ⟨x.d,rfl,by decide,by decide,rfl⟩
 | 4,_=>exact ⟨x.e,rfl,by decide,by decide,rfl⟩
 | 5,_=>exact ⟨x.f,rfl,by decide,by decide,rfl⟩
 | k+6,h=>exact absurd h (by omega)
theorem nums_at (x : Ev) {H : Heap} {b : Nat} {t : TypeId} {k : Nat} (hk : k<6) : ∃v, x.nums[k]?=some v ∧
  At (H.upd b (.cells #[.int .i64 x.a,.int .i64 x.b,.int .i64 x.c,.int .i64 x.d,.int .i64 x.e,.int .i64 x.f] t)) (({ block:=b,off:=0 }:Addr).add ((k:Int).toNat*1)) [.int .i64 v]:=by
 have e:(k:Int).toNat*1=k:=by omega
 rw [e]
 match k,hk with
 | 0,_=>exact ⟨x.a,rfl,at_new1 rfl⟩
 | 1,_=>exact ⟨x.b,rfl,at_new1 rfl⟩
 | 2,_=>exact ⟨x.c,rfl,at_new1 rfl⟩
 | 3,_=>exact ⟨x.d,rfl,at_new1 rfl⟩
 | 4,_=>exact ⟨x.e,rfl,at_new1 rfl⟩
 | 5,_=>exact ⟨x.f,rfl,at_new1 rfl⟩
 | k+6,h=>exact absurd h (by omega)
theorem t109 (x:Ev) (H:Heap):Tr Tryz.prog 109 #[x.val] H (fun v H'=>v=.bool (validM x)∧Sub H H'):=by
 apply v109; unfold F109
 refine ⟨_,t137 _ H,fun h=>⟨by rw [head_false h],Sub.refl _⟩,fun h=>?_⟩
 rw [head_true h]
 refine (t138 x H).mono fun v H' hv=>?_
 obtain ⟨rfl,rfl⟩:=hv
 refine ⟨_,_,_,_,_,_,rfl,fun i H1=>RV x (fun k v=>¬(k:Int)<fieldsM x.kind→v=0) i H' H1,fun i _=>(6-i).toNat,RV.zero,fun i H1 r=>?_⟩
 have hH:=r.heap; subst hH
 obtain ⟨k,rfl,hk,hp⟩:=r.k
 refine ⟨fun hlt=>?_,fun hge=>?_⟩
 ·have hlt:=of_decide_eq_true hlt
  obtain ⟨v,hv,ha⟩:=nums_arr x (k:=k) (by omega)
  refine ⟨v,ha,fun hb=>⟨?_,Sub.refl _⟩,fun hb=>RV.next r (by omega) hv fun hn=>?_⟩
  ·simp at hb
   rw [rest_not hv (by unfold numOk; rw [if_neg (by omega)]; simpa using hb.2)]
  ·simp at hb; exact hb (by omega)
 ·have hge:=of_decide_eq_false hge
  have hz:Zeros (fieldsM x.kind) x.a x.b x.c x.d x.e x.f:=⟨hp 0 _ (by omega) rfl,hp 1 _ (by omega) rfl,hp 2 _ (by omega) rfl,hp 3 _ (by omega) rfl,hp 4 _ (by omega) rfl,hp 5 _ (by omega) rfl⟩
  have hk:¬(x.kind<1∨x.kind>31):=by
   rw [←fields_neg]; simp at h; omega
  exact ⟨_,t139 x hk hz H1,rfl,Sub.refl _⟩
theorem t61 (x:Ev) (H:Heap):Tr Tryz.prog 61 #[x.val] H (fun v H'=>∃b,H b=none∧v=.slice (some ⟨b,0,none⟩) 6 6∧H'=H.upd b (.cells #[.int .i64 x.a,.int .i64 x.b,.int .i64 x.c,.int .i64 x.d,.int .i64 x.e,.int .i64 x.f] 2)):=by
 apply v61; unfold F61
 exact fun b hb=>⟨b,hb,rfl,rfl⟩
def Ev.W64 (x:Ev):Prop:=∀(k:Nat) (v:Int),[x.a,x.b,x.c,x.d,x.e,x.f][k]?=some v→-9223372036854775808≤v∧v≤9223372036854775807
theorem t20 (x:Ev) (w:x.W64) (H:Heap):Tr Tryz.prog 20 #[x.val] H (fun v H'=>v=.bool (validM x)∧Sub H H'):=by
 apply v20; unfold F20
 refine ⟨_,t60 _ H,fun h=>⟨by rw [head_false h],Sub.refl _⟩,fun h=>?_⟩
 rw [head_true h]
 refine (t61 x H).mono fun v H' hv=>?_
 obtain ⟨b,hb,rfl,rfl⟩:=hv
 have hs:Sub H (H.upd b (.cells #[.int .i64 x.a,.int .i64 x.b,.int .i64 x.c,.int .i64 x.d,.int .i64 x.e,.int .i64 x.f] 2)):=Sub.upd_new hb
 refine ⟨_,_,_,rfl,fun i H1=>RV x (fun k v=>numOk x.kind k v=true) i _ H1,fun i _=>(6-i).toNat,RV.zero,fun i H1 r=>?_⟩
 have hH:=r.heap; subst hH
 obtain ⟨k,rfl,hk,hp⟩:=r.k
 refine ⟨fun hlt=>?_,fun hge=>⟨?_,hs⟩⟩
 ·have hlt:=of_decide_eq_true hlt
  obtain ⟨v,hv,ha⟩:=nums_at x (H:=H) (b:=b) (t:=2) (k:=k) (by omega)
  have e:(decide ((k:Int)≥fieldsM x.kind)&&v != 0||decide ((k:Int)<fieldsM x.kind)&&(decide (v<(spanM x.kind k).1)||decide (v>(spanM x.kind k).2)))=!numOk x.kind k v:=by
   unfold numOk
   by_cases hn:(k:Int)<fieldsM x.kind
   ·rw [if_pos hn,Bool.eq_iff_iff]; have:=w k v hv; simp [hn]; omega
   ·rw [if_neg hn,Bool.eq_iff_iff]; simp [hn]; omega
  refine ⟨_,_,t62 _ _ _,_,fun _=>⟨rfl,by omega,hlt⟩,v,fun _=>ha,_,fun _=>⟨rfl,by omega,hlt⟩,v,fun _=>ha,_,fun _=>⟨rfl,by omega,hlt⟩,v,fun _=>ha,?_⟩
  rw [e]
  exact ⟨fun h=>⟨by rw [rest_not hv (by simpa using h)],hs⟩,fun h=>RV.next r (by omega) hv (by simpa using h)⟩
 ·have hge:=of_decide_eq_false hge
  have:restM x.kind x.a x.b x.c x.d x.e x.f=true:=(rest_all _).2 fun j v hv=>hp j v (by have:=get_lt hv; simp at this; omega) hv
  rw [this]
structure HasEvs (H:Heap) (A:Option Addr) (n:Nat) (l:List Ev):Prop where
 len:n=l.length
 at_:∀i x,l[i]?=some x→∃a,A=some a∧At H (a.add (i*9)) x.cells
theorem HasEvs.sub {H H':Heap} {A:Option Addr} {n:Nat} {l:List Ev} (h:HasEvs H A n l) (k:Sub H H'):HasEvs H' A n l :=
 ⟨h.len,fun i x e=>let ⟨a,ha,hat⟩:=h.at_ i x e; ⟨a,ha,hat.sub k⟩⟩
theorem flat_get:∀(l:List Ev) (i:Nat) (x:Ev) (j:Nat) (v:Value),l[i]?=some x→x.cells[j]?=some v→(l.flatMap Ev.cells)[i*9+j]?=some v
 | y::l,0,x,j,v,h,hv=>by
  simp at h; subst h
  rw [List.flatMap_cons,List.getElem?_append_left (by have:=get_lt hv; omega)]
  rw [Nat.zero_mul,Nat.zero_add]; exact hv
 | y::l,i+1,x,j,v,h,hv=>by
  have e:(i+1)*9+j=y.cells.length+(i*9+j):=by have:y.cells.length=9:=rfl; omega
  rw [List.flatMap_cons,e,List.getElem?_append_right (by omega)]
  have e2:y.cells.length+(i*9+j)-y.cells.length=i*9+j:=by omega
  rw [e2]
  exact flat_get l i x j v (by simpa using h) hv
theorem flat_len (l:List Ev):(l.flatMap Ev.cells).length=l.length*9:=by
 induction l with
 | nil=>rfl
 | cons x l ih=>rw [List.flatMap_cons,List.length_append,ih]; have:x.cells.length=9:=rfl; simp; omega
theorem OwnS.evs {H H1:Heap} {A:Option Addr} {n c:Nat} {l:List Ev} (h:OwnS H H1 A n c 9 (l.flatMap Ev.cells)):HasEvs H1 A n l:=by
 refine ⟨by have:=h.len; rw [flat_len] at this; omega,fun i x hx=>?_⟩
 rcases h.src with e|⟨a,ha,hat⟩
 ·have:l.length=0:=by have:=flat_len l; rw [e] at this; simp only [List.length_nil] at this; omega
  have:=get_lt hx; omega
 ·obtain ⟨c0,t,fz,h1,h2,h3⟩:=hat.out
  have d:=at_drop (i*9) hat
  obtain ⟨c1,t1,f1,g1,g2,g3⟩:=d.out
  refine ⟨a,ha,⟨⟨c1,t1,f1,g1,g2,fun j v hv=>g3 j v ?_⟩⟩⟩
  rw [List.getElem?_drop]; exact flat_get l i x j v hx hv
end Go.Proofs.YtkofafcgcnciaaaGreatDoor
set_option maxRecDepth 100000
namespace Go.Ax
structure SlH where
 (A:Option Addr) (n c:Nat)
def SlH.v (h:SlH):Value:=.slice h.A h.n h.c
def SlH.blk (h:SlH):Option Nat:=h.A.map Addr.block
structure SlOk (H:Heap) (h:SlH) (sz:Nat) (cs:List Value):Prop where
 len:cs.length=h.n*sz
 cap:h.n≤h.c
 at_:(h.A=none∧h.n=0∧h.c=0)∨∃b off cur T,h.A=some ⟨b,off,none⟩∧H b=some (.cells cur T (0,0))∧off+h.c*sz≤cur.size∧∀(j:Nat) (v:Value),cs[j]?=some v→cur[off+j]?=some v
theorem SlOk.src {H:Heap} {h:SlH} {sz:Nat} {cs:List Value} (k:SlOk H h sz cs):Src H h.A cs:=by
 rcases k.at_ with ⟨a1,a2,a3⟩|⟨b,off,cur,T,a1,a2,a3,a4⟩
 ·left
  have:=k.len
  rw [a2,Nat.zero_mul] at this
  exact List.length_eq_zero_iff.1 this
 ·exact .inr ⟨_,a1,⟨⟨cur,T,(0,0),a2,rfl,a4⟩⟩⟩
theorem SlOk.mono {H H':Heap} {h:SlH} {sz:Nat} {cs:List Value} (k:SlOk H h sz cs) (e:∀b,h.blk=some b→H' b=H b):SlOk H' h sz cs:=by
 refine ⟨k.len,k.cap,?_⟩
 rcases k.at_ with a|⟨b,off,cur,T,a1,a2,a3,a4⟩
 ·exact .inl a
 ·exact .inr ⟨b,off,cur,T,a1,by rw [e b (by unfold SlH.blk; rw [a1]; rfl)]; exact a2,a3,a4⟩
theorem SlOk.sub {H H':Heap} {h:SlH} {sz:Nat} {cs:List Value} (k:SlOk H h sz cs) (e:Sub H H'):SlOk H' h sz cs:=by
 refine ⟨k.len,k.cap,?_⟩
 rcases k.at_ with a|⟨b,off,cur,T,a1,a2,a3,a4⟩
 ·exact .inl a
 ·exact .inr ⟨b,off,cur,T,a1,e.sub _ _ a2,a3,a4⟩
def intsC (l:List Int):List Value:=l.map (Value.int .i64)
structure HasL (H:Heap) (h:SlH) (l:List Int):Prop where
 len:h.n=l.length
 src:Src H h.A (intsC l)
theorem HasL.sub {H H':Heap} {h:SlH} {l:List Int} (k:HasL H h l) (e:Sub H H'):HasL H' h l:=by
 refine ⟨k.len,?_⟩
 rcases k.src with a|⟨a,h1,h2⟩
 ·exact .inl a
 ·exact .inr ⟨a,h1,h2.sub e⟩
theorem HasL.nil (H:Heap) (c:Nat):HasL H ⟨none,0,c⟩ []:=⟨rfl,.inl rfl⟩
def dif (F G:Heap):Heap:=fun i=>if (G i).isSome=true then none else F i
theorem dif_sub {F G:Heap}:Sub (dif F G) F:=⟨fun i o h=>by
 unfold dif at h
 split at h
 ·cases h
 ·exact h⟩
theorem dif_eq {F F' G G':Heap} (h:∀i,(G i).isSome=false→F' i=F i∧(G' i).isSome=false):Sub (dif F G) (dif F' G'):=⟨fun i o k=>by
 unfold dif at k ⊢
 split at k
 ·cases k
 ·rename_i e
  have q:=h i (by simpa using e)
  rw [if_neg (by rw [q.2]; simp),q.1]; exact k⟩
def cellsV (n:Nat) (l:List Int):List Value:=(List.range n).map fun i=>Value.int .i64 (l[i]?.getD 0)
theorem cellsV_set {n:Nat} {l:List Int} {k:Nat} {x:Int} (hl:l.length=n) (hk:k<n):(cellsV n l).set k (.int .i64 x)=cellsV n (l.set k x):=by
 apply List.ext_getElem?
 intro i
 unfold cellsV
 rw [List.getElem?_set]
 by_cases h:k=i
 ·subst h
  rw [if_pos rfl]
  simp [hk,hl]
 ·rw [if_neg h]
  rcases Nat.lt_or_ge i n with hi|hi
  ·simp [hi,h,List.getElem?_set]
  ·simp [Nat.not_lt.2 hi]
end Go.Ax
namespace Go.Proofs.YtkofafcgcnciaaaGreatDoor
open Go.Ax
def thrC (z:Thr×SlH):List Value:=[.int .i64 z.1.func,.int .i64 z.1.pc,.int .i64 z.1.scope,z.2.v,.int .i64 z.1.arg,.int .i64 z.1.future,.int .i64 z.1.update,.int .i64 z.1.waits,.int .i64 z.1.signal]
def futC (f:Fut):List Value:=[.int .i64 f.kind,.int .i64 f.event,.int .i64 f.scope,.bool f.done,.int .i64 f.value,.int .i64 f.status]
def scpC (c:Scp):List Value:=[.int .i64 c.parent,.bool c.cancelled]
def mCells (pf po:SlH) (sl:Nat→SlH) (ex:Value) (s:VS):List Value :=
 [pf.v,po.v]++cellsV 16 s.vars++cellsV 4 s.attrs++[.int .i64 s.now,(sl 0).v,(sl 1).v,(sl 2).v,(sl 3).v,.bool s.over,(sl 4).v,.bool s.cancel,.int .i64 s.count,.int .i64 s.fuel,(sl 5).v,.int .u64 s.draws,ex,.bool s.drift]
def szC (c:Nat):Nat:=if c=0 then 9 else if c=1 then 6 else if c=2 then 2 else if c=3 then 1 else if c=4 then 9 else if c=5 then 9 else 1
def contC (sl:Nat→SlH) (st:List SlH) (s:VS) (c:Nat):List Value :=
 if c=0 then (s.threads.zip st).flatMap thrC else if c=1 then s.futures.flatMap futC else if c=2 then s.scopes.flatMap scpC else
 if c=3 then (List.range 8).map (fun k=>(sl (6+k)).v) else if c=4 then s.updates.flatMap Ev.cells else if c=5 then s.made.flatMap Ev.cells else intsC (s.signals[c-6]?.getD [])
structure ExpOk (F G H:Heap) (m:Nat) (sl:Nat→SlH) (ex:Value) (e:Option (List Ev)):Prop where
 none_:e=none→ex=.nilFunc
 some_:∀l,e=some l→∃xb A n c T,ex=.func (.func 112) #[] #[.pointer (some ⟨xb,0,none⟩)]∧H xb=some (.cells #[.slice A n c] T (0,0))∧F xb=none∧xb≠m∧(∀c,c<14→(sl c).blk≠some xb)∧(n=l.length∧n≤c)∧Src (dif F G) A (l.flatMap Ev.cells)
structure VMX (G H:Heap) (m:Nat) (pf po:SlH) (sl:Nat→SlH) (F:Heap) (ex:Value) (st:List SlH) (s:VS):Prop where
 gf:Sub G F
 fh:Sub F H
 fm:F m=none
 hm:H m=some (.cells ⟨mCells pf po sl ex s⟩ 149 (0,0))
 own:∀c,c<14→∀b,(sl c).blk=some b→F b=none∧b≠m
 inj:∀c c' b,c<14→c'<14→(sl c).blk=some b→(sl c').blk=some b→c=c'
 ok:∀c,c<14→SlOk H (sl c) (szC c) (contC sl st s c)
 stl:st.length=s.threads.length
 stk:∀(j:Nat) (t:Thr) (h:SlH),s.threads[j]?=some t→st[j]?=some h→HasL (dif F G) h t.stack
 vars:s.vars.length=16
 attrs:s.attrs.length=4
 sigs:s.signals.length=8
 exp:ExpOk F G H m sl ex s.expect
theorem src_sub {H H':Heap} {A:Option Addr} {cs:List Value} (h:Src H A cs) (k:Sub H H'):Src H' A cs:=by
 rcases h with a|⟨a,h1,h2⟩
 ·exact .inl a
 ·exact .inr ⟨a,h1,h2.sub k⟩
theorem VMX.frame {G G' H H' : Heap} {m : Nat} {pf po : SlH} {sl : Nat→SlH} {F F' : Heap} {ex : Value} {st : List SlH} {s : VS} (h : VMX G H m pf po sl F ex st s)
  (gf:Sub G' F') (fh:Sub F' H') (fn:∀b,F b=none→(H b).isSome=true→F' b=none∧H' b=H b) (hd:Sub (dif F G) (dif F' G')):VMX G' H' m pf po sl F' ex st s:=by
 have hm':=fn m h.fm (by rw [h.hm]; rfl)
 have slb:∀c,c<14→∀b,(sl c).blk=some b→F' b=none∧H' b=H b:=fun c hc b hb=>by
  refine fn b (h.own c hc b hb).1 ?_
  rcases (h.ok c hc).at_ with a|⟨b',off,cur,T,a1,a2,a3,a4⟩
  ·unfold SlH.blk at hb; rw [a.1] at hb; cases hb
  ·unfold SlH.blk at hb; rw [a1] at hb; cases hb; rw [a2]; rfl
 refine ⟨gf,fh,hm'.1,by rw [hm'.2]; exact h.hm,fun c hc b hb=>⟨(slb c hc b hb).1,(h.own c hc b hb).2⟩,h.inj,fun c hc=>(h.ok c hc).mono fun b hb=>(slb c hc b hb).2,h.stl,fun j t q h1 h2=>(h.stk j t q h1 h2).sub hd,h.vars,h.attrs,h.sigs,h.exp.none_,fun l hl=>?_⟩
 obtain ⟨xb,A,n,c,T,e1,e2,e3,e4,e5,e6,e7⟩:=h.exp.some_ l hl
 have q:=fn xb e3 (by rw [e2]; rfl)
 exact ⟨xb,A,n,c,T,e1,by rw [q.2]; exact e2,q.1,e4,e5,e6,src_sub e7 hd⟩
theorem VMX.turn {G H:Heap} {m:Nat} {pf po:SlH} {sl:Nat→SlH} {F:Heap} {ex:Value} {st:List SlH} {s:VS} (h:VMX G H m pf po sl F ex st s) {b:Nat} {o:Obj} (hb:G b=some o) (y:Obj):VMX (G.upd b y) (H.upd b y) m pf po sl (F.upd b y) ex st s:=by
 have hF:=h.gf.sub _ _ hb
 have up:∀{X Y:Heap},Sub X Y→Sub (X.upd b y) (Y.upd b y):=fun k=>⟨fun i x hx=>by
  by_cases e:i=b
  ·subst e; rw [Heap.upd_same] at hx ⊢; exact hx
  ·rw [Heap.upd_other e] at hx ⊢; exact k.sub i x hx⟩
 refine h.frame (up h.gf) (up h.fh) (fun b' hn _=>?_) (dif_eq fun i hi=>?_)
 ·have hne:b'≠b:=fun e=>by subst e; rw [hF] at hn; cases hn
  exact ⟨by rw [Heap.upd_other hne]; exact hn,Heap.upd_other hne⟩
 ·have hne:i≠b:=fun e=>by subst e; rw [hb] at hi; cases hi
  exact ⟨Heap.upd_other hne,by rw [Heap.upd_other hne]; exact hi⟩
theorem VMX.ext {G H:Heap} {m:Nat} {pf po:SlH} {sl:Nat→SlH} {F:Heap} {ex:Value} {st:List SlH} {s:VS} (h:VMX G H m pf po sl F ex st s) {b:Nat} (hb:H b=none) (o:Obj):VMX (G.upd b o) (H.upd b o) m pf po sl (F.upd b o) ex st s:=by
 have hF:=none_below h.fh hb
 have hG:=none_below h.gf hF
 have up:∀{X Y:Heap},Sub X Y→Sub (X.upd b o) (Y.upd b o):=fun k=>⟨fun i x hx=>by
  by_cases e:i=b
  ·subst e; rw [Heap.upd_same] at hx ⊢; exact hx
  ·rw [Heap.upd_other e] at hx ⊢; exact k.sub i x hx⟩
 refine h.frame (up h.gf) (up h.fh) (fun b' hn hs=>?_) ⟨fun i x k=>?_⟩
 ·have hne:b'≠b:=fun e=>by subst e; rw [hb] at hs; cases hs
  exact ⟨by rw [Heap.upd_other hne]; exact hn,Heap.upd_other hne⟩
 ·unfold dif at k ⊢
  split at k
  ·cases k
  ·rename_i e
   have hne:i≠b:=fun q=>by subst q; rw [hF] at k; cases k
   rw [Heap.upd_other hne,if_neg e,Heap.upd_other hne]; exact k
theorem VMX.weaken {G G0 H:Heap} {m:Nat} {pf po:SlH} {sl:Nat→SlH} {F:Heap} {ex:Value} {st:List SlH} {s:VS} (h:VMX G H m pf po sl F ex st s) (k:Sub G0 G):VMX G0 H m pf po sl F ex st s:=by
 refine h.frame (k.trans h.gf) h.fh (fun b hn _=>⟨hn,rfl⟩) (dif_eq fun i hi=>⟨rfl,?_⟩)
 cases e:G0 i with
 | none=>rfl
 | some o=>rw [k.sub _ _ e] at hi; cases hi
theorem VMX.grow {G H H':Heap} {m:Nat} {pf po:SlH} {sl:Nat→SlH} {F:Heap} {ex:Value} {st:List SlH} {s:VS} (h:VMX G H m pf po sl F ex st s) (k:Sub H H'):VMX G H' m pf po sl F ex st s:=by
 refine h.frame h.gf (h.fh.trans k) (fun b hn hs=>⟨hn,?_⟩) ⟨fun _ _ h=>h⟩
 obtain ⟨o,ho⟩:=Option.isSome_iff_exists.1 hs
 rw [ho,k.sub _ _ ho]
theorem VMX.cell {G H:Heap} {m:Nat} {pf po:SlH} {sl:Nat→SlH} {F:Heap} {ex:Value} {st:List SlH} {s:VS} (h:VMX G H m pf po sl F ex st s) {k:Nat} {v:Value} (hv:(mCells pf po sl ex s)[k]?=some v):At H ((⟨m,0,none⟩:Addr).add k) [v]:=by
 refine ⟨⟨_,_,_,by rw [add_block]; exact h.hm,add_spot _ _,fun j u hj=>?_⟩⟩
 rw [add_off]
 cases j with
 | succ j=>simp at hj
 | zero=>simp at hj; subst hj; simpa using hv
theorem VMX.set {G H : Heap} {m : Nat} {pf po : SlH} {sl : Nat→SlH} {F : Heap} {ex : Value} {st : List SlH} {s : VS} (h : VMX G H m pf po sl F ex st s) (s' : VS)
  (e1:s'.threads=s.threads) (e2:s'.futures=s.futures) (e3:s'.scopes=s.scopes) (e4:s'.signals=s.signals) (e5:s'.updates=s.updates) (e6:s'.made=s.made) (e7:s'.expect=s.expect) (e8:s'.vars.length=16) (e9:s'.attrs.length=4) :
  VMX G (H.upd m (.cells ⟨mCells pf po sl ex s'⟩ 149 (0,0))) m pf po sl F ex st s':=by
 have ne:∀c,c<14→∀b,(sl c).blk=some b→b≠m:=fun c hc b hb=>(h.own c hc b hb).2
 have ec:∀c,contC sl st s' c=contC sl st s c:=fun c=>by unfold contC; rw [e1,e2,e3,e4,e5,e6]
 refine ⟨h.gf,⟨fun i o ho=>?_⟩,h.fm,Heap.upd_same,h.own,h.inj,fun c hc=>?_,by rw [e1]; exact h.stl,by rw [e1]; exact h.stk,e8,e9,by rw [e4]; exact h.sigs,⟨fun q=>h.exp.none_ (by rw [←e7]; exact q),fun l hl=>?_⟩⟩
 ·rw [Heap.upd_other (fun e=>by subst e; rw [h.fm] at ho; cases ho)]; exact h.fh.sub _ _ ho
 ·rw [ec]; exact (h.ok c hc).mono fun b hb=>Heap.upd_other (ne c hc b hb)
 ·rw [e7] at hl
  obtain ⟨xb,A,n,c,T,q1,q2,q3,q4,q5,q6,q7⟩:=h.exp.some_ l hl
  exact ⟨xb,A,n,c,T,q1,by rw [Heap.upd_other q4]; exact q2,q3,q4,q5,q6,q7⟩
end Go.Proofs.YtkofafcgcnciaaaGreatDoor
