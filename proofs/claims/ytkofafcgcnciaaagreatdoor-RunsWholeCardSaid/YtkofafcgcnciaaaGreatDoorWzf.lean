/- Lemmas that the claim needs, in order. Conditions: those of each lemma. -/
import Derived.Test.YtkofafcgcnciaaaGreatDoorWze
set_option maxRecDepth 100000
namespace Go.Proofs.YtkofafcgcnciaaaGreatDoor
open Go.Ax
structure MidB (G H:Heap) (b:Nat) (R:RS) (e:Ev):Prop where
 n5:e.kind≠5
 n8:e.kind≠8
 n9:e.kind≠9
 out:RunE G H b R
theorem RS.sw_all {Q : RS→Prop} (R : RS) (e : Ev) (h1 : Q { R with type := e.a, deadline := e.c, parent := e.d, event := e.e, begun := e.time, status := 1 }) (h3 : Q { R with acts := R.acts++[AcM.new e.id e.a e.b e.time] }) (h4 : Q { R with timers := R.timers++[⟨e.id, e.a⟩] }) (h5 : Q { R with kids := R.kids++[⟨e.id, e.a, e.b, 0, false⟩] })
  (h6:Q { R with acts:=R.acts.filter fun a=>!(a.event==e.a) }) (h7:Q { R with timers:=R.timers.filter fun a=>!(a.event==e.a) }) (h10:Q { R with attrs:=R.attrs.set e.a.toNat e.b }) (h21:Q { R with updates:=R.updates++[⟨e.id,0,0,0⟩] }) (h12:∀st v k,Q { R with updates:=R.updates.map (upd1 e.a st v k) })
  (h26:Q { R with kids:=R.kids.map (kidR e.a e.b) }) (h27:Q { R with kids:=R.kids.map (kidO e.a) }) (h0:Q R):Q (R.sw e):=by
 have c:∀{P:Prop} [Decidable P] {x y:RS},Q x→Q y→Q (if P then x else y):=fun h1 h2=>by split; exact h1; exact h2
 unfold RS.sw
 exact c h1 (c h3 (c h4 (c h5 (c h6 (c h7 (c h10 (c h21 (c (h12 _ _ _) (c (h12 _ _ _) (c (h12 _ _ _) (c h26 (c h27 h0))))))))))))
theorem RS.sw_rest (R:RS) (e:Ev) (h:e.kind≠1):(R.sw e).number=R.number∧(R.sw e).parent=R.parent:=by
 have:e.kind=1∨((R.sw e).number=R.number∧(R.sw e).parent=R.parent):=by
  by_cases h1:e.kind=1
  ·exact .inl h1
  ·right
   have e1:R.sw e=if e.kind=1 then R else R.sw e:=by rw [if_neg h1]
   rw [e1]
   unfold RS.sw
   rw [if_neg h1,if_neg h1]
   have c:∀{P:Prop} [Decidable P] {x y:RS},(x.number=R.number∧x.parent=R.parent)→(y.number=R.number∧y.parent=R.parent)→((if P then x else y).number=R.number∧(if P then x else y).parent=R.parent):=fun h1 h2=>by split; exact h1; exact h2
   exact c ⟨rfl,rfl⟩ (c ⟨rfl,rfl⟩ (c ⟨rfl,rfl⟩ (c ⟨rfl,rfl⟩ (c ⟨rfl,rfl⟩ (c ⟨rfl,rfl⟩ (c ⟨rfl,rfl⟩ (c ⟨rfl,rfl⟩ (c ⟨rfl,rfl⟩ (c ⟨rfl,rfl⟩ (c ⟨rfl,rfl⟩ (c ⟨rfl,rfl⟩ ⟨rfl,rfl⟩)))))))))))
 exact this.resolve_left h
theorem t43 {G H:Heap} {b:Nat} {sl:Nat→SlH} {R:RS} (h:RunX G H b sl R) (sm:R.Small) (e:Ev) (h10:e.kind=10→0≤e.a∧e.a<4):Tr Tryz.prog 43 #[.pointer (some ⟨b,0,none⟩),e.val] H fun v H'=>BookR G b R e v H':=by
  obtain ⟨sE,sA,sT,sK,sU⟩:=sm
  apply v43; unfold F43
  intro rb hrb H1 e1 eb heb H2 e2
  have hG1:G rb=none:=none_below h.gh hrb
  have x1:=h.ext hrb (.cells #[.pointer (some ⟨b,0,none⟩)] 65 (0,0))
  rw [←e1] at x1
  have hG2:(G.upd rb (.cells #[.pointer (some ⟨b,0,none⟩)] 65 (0,0))) eb=none:=none_below x1.gh heb
  have x2:=x1.ext heb (.cells ⟨e.cells⟩ 47 (0,0))
  have gg:Sub G ((G.upd rb (.cells #[.pointer (some ⟨b,0,none⟩)] 65 (0,0))).upd eb (.cells ⟨e.cells⟩ 47 (0,0))):=(Sub.upd_new hG1).trans (Sub.upd_new hG2)
  have hr:At ((G.upd rb (.cells #[.pointer (some ⟨b,0,none⟩)] 65 (0,0))).upd eb (.cells ⟨e.cells⟩ 47 (0,0))) ⟨rb,0,none⟩ [.pointer (some ⟨b,0,none⟩)]:=(⟨⟨_,_,_,Heap.upd_same,rfl,fun j v hv=>by simpa using hv⟩⟩:At (G.upd rb (.cells #[.pointer (some ⟨b,0,none⟩)] 65 (0,0))) ⟨rb,0,none⟩ [.pointer (some ⟨b,0,none⟩)]).sub (Sub.upd_new hG2)
  have he:At ((G.upd rb (.cells #[.pointer (some ⟨b,0,none⟩)] 65 (0,0))).upd eb (.cells ⟨e.cells⟩ 47 (0,0))) ⟨eb,0,none⟩ e.cells:=⟨⟨_,_,_,Heap.upd_same,rfl,fun j v hv=>by simpa using hv⟩⟩
  have e2:H2=H1.upd eb (.cells ⟨e.cells⟩ 47 (0,0)):=e2
  rw [←e2] at x2
  generalize ((G.upd rb (.cells #[.pointer (some ⟨b,0,none⟩)] 65 (0,0))).upd eb (.cells ⟨e.cells⟩ 47 (0,0)))=G1 at x2 gg hr he
  clear e1 e2 x1 hG1 hG2 hrb heb
  have ee:∀{H':Heap},Sub G1 H'→∀{k:Nat} {v:Value},e.cells[k]?=some v→At H' ((⟨eb,0,none⟩:Addr).add k) [v]:=fun s k v hv=>at_one k (he.sub s) hv
  have l0:=x2.len0
  refine ⟨fun H'=>RunE G1 H' b (R.add e),?_,fun H3 ⟨sl3,x3⟩=>⟨fun H'=>RunE G1 H' b ((R.add e).see e),?_,fun H4 ⟨sl4,x4⟩=>⟨fun H'=>MidB G1 H' b (((R.add e).see e).sw e) e,?_,fun H5 m5=>?_⟩⟩⟩
  · have core:=x2.push (c:=0) (by decide) (T:=47) (bytes:=72) (new:=e.cells) rfl rfl (by omega) (by omega) (R.add e) (fun _=>rfl) (by show (R.events++[e]).flatMap Ev.cells=_; rw [List.flatMap_append,List.flatMap_singleton]; rfl) (five (P:=fun c'=>c'≠0→contR (R.add e) c'=contR R c') (fun q=>absurd rfl q) (fun _=>rfl) (fun _=>rfl) (fun _=>rfl) (fun _=>rfl)) h.attrs (Q:=fun H'=>RunE G1 H' b (R.add e)) fun H' h'=>h'
    exact ⟨G1,x2.gh,_,hr,_,hr,_,rfl,_,_,_,_,_,_,_,_,_,he,⟨_,_,_,x2.cell (k:=15) rfl,x2.gh,x2.gh,core⟩,x2.gh,_,_,_,x2.cell (k:=15) rfl,x2.gh,core⟩
  · refine ⟨e.kind,ee x3.gh (k:=2) rfl,e.kind,fun _=>ee x3.gh (k:=2) rfl,_,fun _=>t89 e.kind H3,_,_,_,_,_,_,_,_,_,fun _=>he.sub x3.gh,_,fun _=>t52 e H3,fun q=>?_,fun q=>?_⟩
    · refine ⟨_,hr.sub x3.gh,e.id,ee x3.gh (k:=0) rfl,_,rfl,?_⟩
      have hs:(R.add e).see e={ R.add e with seen:=e.id }:=by unfold RS.see; rw [if_pos q]
      rw [hs]
      exact x3.wr (k:=9) (by decide) { R.add e with seen:=e.id } rfl (fun _=>rfl) x3.attrs fun H' h'=>h'.e
    · have hs:(R.add e).see e=R.add e:=by unfold RS.see; rw [if_neg (by rw [q]; decide)]
      rw [hs]; exact x3.e
  · obtain ⟨s,hs⟩:=RS.see_eq (R.add e) e
    have ra:((R.add e).see e).acts=R.acts:=by rw [hs]; rfl
    have rt:((R.add e).see e).timers=R.timers:=by rw [hs]; rfl
    have rk:((R.add e).see e).kids=R.kids:=by rw [hs]; rfl
    have ru:((R.add e).see e).updates=R.updates:=by rw [hs]; rfl
    have rn:((R.add e).see e).number=R.number:=by rw [hs]; rfl
    have rp:((R.add e).see e).parent=R.parent:=by rw [hs]; rfl
    have bk:R.book e=(((R.add e).see e).sw e).close e:=rfl
    generalize (R.add e).see e=S at x4 ra rt rk ru rn rp bk ⊢
    have l1:=x4.len1
    have l2:=x4.len2
    have l3:=x4.len3
    have l4:=x4.len4
    rw [ra] at l1
    rw [rt] at l2
    rw [rk] at l3
    rw [ru] at l4
    have r2:=hr.sub x4.gh
    -- what is told,and nothing closes
    have told:∀{H':Heap} {l:List OutM} {v:Value},TellR G1 b (S.sw e) l v H'→(S.sw e).close e=S.sw e→R.tells e=l→BookR G b R e v H':=fun {H' l v} ⟨A,n,c,hv,⟨sl',x'⟩,hn,hsrc⟩ hc ht=>⟨A,n,c,hv,by rw [bk,hc]; exact (x'.weaken gg).e,by rw [ht]; exact hn,by rw [ht]; exact hsrc⟩
    refine ⟨e.kind,ee x4.gh (k:=2) rfl,fun q=>?_,fun n1=>⟨fun q=>?_,fun n3=>⟨fun q=>?_,fun n4=>⟨fun q=>?_,fun n5=>?_⟩⟩⟩⟩
    · -- begun
      have hk:e.kind=1:=by simpa using q
      have hw:S.sw e={ S with type:=e.a,deadline:=e.c,parent:=e.d,event:=e.e,begun:=e.time,status:=1 }:=by unfold RS.sw; rw [if_pos hk]
      rw [hw]
      refine ⟨G1,x4.gh,_,hr,_,hr,_,hr,_,hr,e.a,ee (Sub.refl _) (k:=3) rfl,_,rfl,e.c,ee (Sub.refl _) (k:=5) rfl,e.d,ee (Sub.refl _) (k:=6) rfl,e.e,ee (Sub.refl _) (k:=7) rfl,?_⟩
      refine x4.wr (k:=1) (by decide) { S with type:=e.a } rfl (fun _=>rfl) x4.attrs fun H6 y6=>⟨y6.gh,_,rfl,?_⟩
      refine y6.wr (k:=6) (by decide) { S with type:=e.a,deadline:=e.c } rfl (fun _=>rfl) x4.attrs fun H7 y7=>⟨y7.gh,_,rfl,?_⟩
      refine y7.wr (k:=7) (by decide) { S with type:=e.a,deadline:=e.c,parent:=e.d } rfl (fun _=>rfl) x4.attrs fun H8 y8=>⟨y8.gh,_,rfl,?_⟩
      refine y8.wr (k:=8) (by decide) { S with type:=e.a,deadline:=e.c,parent:=e.d,event:=e.e } rfl (fun _=>rfl) x4.attrs fun H9 y9=>⟨y9.gh,?_⟩
      refine ⟨G1,y9.gh,_,hr,_,hr,e.time,ee (Sub.refl _) (k:=1) rfl,_,rfl,?_⟩
      refine y9.wr (k:=4) (by decide) { S with type:=e.a,deadline:=e.c,parent:=e.d,event:=e.e,begun:=e.time } rfl (fun _=>rfl) x4.attrs fun H10 y10=>⟨y10.gh,_,rfl,?_⟩
      exact y10.wr (k:=2) (by decide) { S with type:=e.a,deadline:=e.c,parent:=e.d,event:=e.e,begun:=e.time,status:=1 } rfl (fun _=>rfl) x4.attrs fun H11 y11=>⟨y11.gh,by omega,by omega,by omega,y11.e⟩
    · -- an activity
      have hk:e.kind=3:=by simpa using q
      have hw:S.sw e={ S with acts:=S.acts++[AcM.new e.id e.a e.b e.time] }:=by unfold RS.sw; rw [hk]; rfl
      rw [hw]
      have core:=x4.push (c:=1) (by decide) (T:=53) (bytes:=80) (new:=(AcM.new e.id e.a e.b e.time).cells) rfl rfl (by omega) (by omega) { S with acts:=S.acts++[AcM.new e.id e.a e.b e.time] } (fun _=>rfl) (by show (S.acts++[_]).flatMap AcM.cells=_; rw [List.flatMap_append,List.flatMap_singleton]; rfl) (five (P:=fun c'=>c'≠1→contR { S with acts:=S.acts++[AcM.new e.id e.a e.b e.time] } c'=contR S c') (fun _=>rfl) (fun q=>absurd rfl q) (fun _=>rfl) (fun _=>rfl) (fun _=>rfl)) x4.attrs
        (Q:=fun H'=>MidB G1 H' b { S with acts:=S.acts++[AcM.new e.id e.a e.b e.time] } e) fun H' h'=>⟨by omega,by omega,by omega,h'⟩
      have nw:=t91 e.id e.a e.b e.time H4
      exact ⟨G1,x4.gh,_,hr,_,hr,_,rfl,e.id,ee (Sub.refl _) (k:=0) rfl,e.a,ee (Sub.refl _) (k:=3) rfl,e.b,ee (Sub.refl _) (k:=4) rfl,e.time,ee (Sub.refl _) (k:=1) rfl,⟨_,_,_,x4.cell (k:=16) rfl,x4.gh,_,_,_,_,_,_,_,_,_,_,nw,x4.gh,x4.gh,core⟩,_,_,_,_,_,_,_,_,_,_,nw,x4.gh,⟨_,_,_,x4.cell (k:=16) rfl,x4.gh,x4.gh,core⟩,x4.gh,_,_,_,x4.cell (k:=16) rfl,x4.gh,core⟩
    · -- a timer
      have hk:e.kind=4:=by simpa using q
      have hw:S.sw e={ S with timers:=S.timers++[⟨e.id,e.a⟩] }:=by unfold RS.sw; rw [hk]; rfl
      rw [hw]
      have core:=x4.push (c:=2) (by decide) (T:=83) (bytes:=16) (new:=(TmM.mk e.id e.a).cells) rfl rfl (by omega) (by omega) { S with timers:=S.timers++[⟨e.id,e.a⟩] } (fun _=>rfl) (by show (S.timers++[_]).flatMap TmM.cells=_; rw [List.flatMap_append,List.flatMap_singleton]; rfl) (five (P:=fun c'=>c'≠2→contR { S with timers:=S.timers++[⟨e.id,e.a⟩] } c'=contR S c') (fun _=>rfl) (fun _=>rfl) (fun q=>absurd rfl q) (fun _=>rfl) (fun _=>rfl)) x4.attrs
        (Q:=fun H'=>MidB G1 H' b { S with timers:=S.timers++[⟨e.id,e.a⟩] } e) fun H' h'=>⟨by omega,by omega,by omega,h'⟩
      exact ⟨G1,x4.gh,_,hr,_,hr,_,rfl,e.id,ee (Sub.refl _) (k:=0) rfl,e.a,ee (Sub.refl _) (k:=3) rfl,⟨_,_,_,x4.cell (k:=17) rfl,x4.gh,x4.gh,core⟩,x4.gh,_,_,_,x4.cell (k:=17) rfl,x4.gh,core⟩
    · -- a child
      have hk:e.kind=5:=by simpa using q
      have hw:S.sw e={ S with kids:=S.kids++[⟨e.id,e.a,e.b,0,false⟩] }:=by unfold RS.sw; rw [hk]; rfl
      have hcl:(S.sw e).close e=S.sw e:=by unfold RS.close; rw [hk]; rfl
      have htl:R.tells e=[⟨0,1,R.number,e.id,0,0,0⟩]:=by unfold RS.tells; rw [hk]; rfl
      have core:=x4.push (c:=3) (by decide) (T:=98) (bytes:=40) (new:=(KdM.mk e.id e.a e.b 0 false).cells) rfl rfl (by omega) (by omega) (S.sw e) (fun _=>by rw [hw]; rfl) (by rw [hw]; show (S.kids++[_]).flatMap KdM.cells=_; rw [List.flatMap_append,List.flatMap_singleton]; rfl) (by rw [hw]; exact five (P:=fun c'=>c'≠3→contR { S with kids:=S.kids++[⟨e.id,e.a,e.b,0,false⟩] } c'=contR S c') (fun _=>rfl) (fun _=>rfl) (fun _=>rfl) (fun q=>absurd rfl q) (fun _=>rfl)) (by rw [hw]; exact x4.attrs)
        (Q:=fun H'=>∃x:Int,At H' ((⟨eb,0,none⟩:Addr).add 0) [.int .i64 x]∧Tr Tryz.prog 90 #[.int .i64 1,.int .i64 x,.int .i64 0,.int .i64 0,.int .i64 0,.pointer (some ⟨rb,0,none⟩)] H' fun v H''=>∃A n c,v=.slice A n c∧BookR G b R e (.slice A n c) H'') fun H' ⟨sl',h'⟩=>by
          refine ⟨e.id,ee h'.gh (k:=0) rfl,(t90 h' hr 1 e.id 0 0 0).mono fun v H'' t=>?_⟩
          have hnum:(S.sw e).number=R.number:=by rw [hw]; exact rn
          rw [hnum] at t
          obtain ⟨A,n,c,hv,-⟩:=t.out
          exact ⟨A,n,c,hv,by rw [←hv]; exact told t hcl htl⟩
      exact ⟨G1,x4.gh,_,hr,_,hr,_,rfl,e.id,ee (Sub.refl _) (k:=0) rfl,e.a,ee (Sub.refl _) (k:=3) rfl,e.b,ee (Sub.refl _) (k:=4) rfl,⟨_,_,_,x4.cell (k:=18) rfl,x4.gh,x4.gh,core⟩,x4.gh,_,_,_,x4.cell (k:=18) rfl,x4.gh,core⟩
    · have n5:e.kind≠5:=by simpa using n5
      have acs : (e.kind = 6 ∨ e.kind = 22 ∨ e.kind = 23 ∨ e.kind = 24) → ∃ Hs : Heap, Sub Hs H4 ∧ ∃ v, At Hs (⟨rb, 0, none⟩ : Addr) [.pointer v] ∧ ∃ v1, At Hs (⟨rb, 0, none⟩ : Addr) [.pointer v1] ∧ ∃ a, v1 = some a ∧ ∃ A n c, At H4 (a.add 16) [.slice A n c] ∧ Sub Hs H4 ∧
          Tr Tryz.prog 92 #[.slice A n c,.func (.func 93) #[] #[.pointer (some ⟨eb,0,none⟩)]] H4 fun v2 H'=>∃A n c,v2=.slice A n c∧Sub Hs H'∧∃a,v=some a∧Wr H' (a.add 16) (.slice A n c) fun H''=>Sub Hs H''∧MidB G1 H'' b (S.sw e) e:=fun hk=>by
        have hw:S.sw e={ S with acts:=S.acts.filter fun a=>!(a.event==e.a) }:=by unfold RS.sw; rcases hk with hk|hk|hk|hk<;>rw [hk]<;>rfl
        rw [hw]
        refine ⟨G1,x4.gh,_,hr,_,hr,_,rfl,_,_,_,x4.cell (k:=16) rfl,x4.gh,(t92 (q:=sl4 1) (l:=S.acts) (x4.ok 1 (by decide)) ((pred_ac he).grow x4.gh) (by rw [ra]; omega)).mono fun v2 H' ⟨q,hv,hd⟩=>⟨_,_,_,hv,?_⟩⟩
        exact x4.give (c:=1) (by decide) hd { S with acts:=S.acts.filter fun a=>!(a.event==e.a) } rfl rfl (five (P:=fun c'=>c'≠1→contR { S with acts:=S.acts.filter fun a=>!(a.event==e.a) } c'=contR S c') (fun _=>rfl) (fun q=>absurd rfl q) (fun _=>rfl) (fun _=>rfl) (fun _=>rfl)) x4.attrs fun H'' h'=>⟨by omega,by omega,by omega,h'⟩
      have tms : (e.kind = 7 ∨ e.kind = 25) → ∃ Hs : Heap, Sub Hs H4 ∧ ∃ v, At Hs (⟨rb, 0, none⟩ : Addr) [.pointer v] ∧ ∃ v1, At Hs (⟨rb, 0, none⟩ : Addr) [.pointer v1] ∧ ∃ a, v1 = some a ∧ ∃ A n c, At H4 (a.add 17) [.slice A n c] ∧ Sub Hs H4 ∧
          Tr Tryz.prog 94 #[.slice A n c,.func (.func 95) #[] #[.pointer (some ⟨eb,0,none⟩)]] H4 fun v2 H'=>∃A n c,v2=.slice A n c∧Sub Hs H'∧∃a,v=some a∧Wr H' (a.add 17) (.slice A n c) fun H''=>Sub Hs H''∧MidB G1 H'' b (S.sw e) e:=fun hk=>by
        have hw:S.sw e={ S with timers:=S.timers.filter fun a=>!(a.event==e.a) }:=by unfold RS.sw; rcases hk with hk|hk<;>rw [hk]<;>rfl
        rw [hw]
        refine ⟨G1,x4.gh,_,hr,_,hr,_,rfl,_,_,_,x4.cell (k:=17) rfl,x4.gh,(t94 (q:=sl4 2) (l:=S.timers) (x4.ok 2 (by decide)) ((pred_tm he).grow x4.gh) (by rw [rt]; omega)).mono fun v2 H' ⟨q,hv,hd⟩=>⟨_,_,_,hv,?_⟩⟩
        exact x4.give (c:=2) (by decide) hd { S with timers:=S.timers.filter fun a=>!(a.event==e.a) } rfl rfl (five (P:=fun c'=>c'≠2→contR { S with timers:=S.timers.filter fun a=>!(a.event==e.a) } c'=contR S c') (fun _=>rfl) (fun _=>rfl) (fun q=>absurd rfl q) (fun _=>rfl) (fun _=>rfl)) x4.attrs fun H'' h'=>⟨by omega,by omega,by omega,h'⟩
      have upd:∀st v k,S.sw e={ S with updates:=S.updates.map (upd1 e.a st v k) }→e.kind≠8→e.kind≠9→Tr Tryz.prog 96 #[.pointer (some ⟨b,0,none⟩),.int .i64 e.a,.int .i64 st,.int .i64 v,.int .i64 k] H4 fun v H'=>v=.tuple #[]∧MidB G1 H' b (S.sw e) e:=fun st v k hw n8 n9=>by
        rw [hw]
        exact (t96 x4 e.a st v k (by rw [ru]; omega)).mono fun v H' ⟨hv,h'⟩=>⟨hv,n5,n8,n9,h'.e⟩
      have over:S.sw e={ S with kids:=S.kids.map (kidO e.a) }→e.kind≠8→e.kind≠9→Tr Tryz.prog 97 #[.pointer (some ⟨b,0,none⟩),.int .i64 e.a,.func (.func 99) #[] #[]] H4 fun v H'=>v=.tuple #[]∧MidB G1 H' b (S.sw e) e:=fun hw n8 n9=>by
        rw [hw]
        exact (t97 x4 e.a chg_over (by rw [rk]; omega)).mono fun v H' ⟨hv,h'⟩=>⟨hv,n5,n8,n9,h'.e⟩
      refine ⟨fun q=>acs (.inl (by simpa using q)),fun n6=>⟨fun q=>acs (.inr (.inl (by simpa using q))),fun n22=>⟨fun q=>acs (.inr (.inr (.inl (by simpa using q)))),fun n23=>⟨fun q=>acs (.inr (.inr (.inr (by simpa using q)))),fun n24=>⟨fun q=>tms (.inl (by simpa using q)),fun n7=>⟨fun q=>tms (.inr (by simpa using q)),fun n25=>⟨fun q=>?_,fun n8=>⟨fun q=>?_,fun n9=>?_⟩⟩⟩⟩⟩⟩⟩⟩
      · -- a child is called off
        have hk:e.kind=8:=by simpa using q
        have hw:S.sw e=S:=by unfold RS.sw; rw [hk]; rfl
        have hcl:(S.sw e).close e=S.sw e:=by unfold RS.close; rw [hk]; rfl
        refine ⟨e.a,ee x4.gh (k:=3) rfl,(t90 x4 hr 3 e.a 0 0 0).mono fun v H' t=>?_⟩
        rw [rn,←hw] at t
        obtain ⟨A,n,c,hv,-⟩:=t.out
        exact ⟨A,n,c,hv,by rw [←hv]; exact told t hcl (by unfold RS.tells; rw [hk]; rfl)⟩
      · -- a telling
        have hk:e.kind=9:=by simpa using q
        have hw:S.sw e=S:=by unfold RS.sw; rw [hk]; rfl
        have hcl:(S.sw e).close e=S.sw e:=by unfold RS.close; rw [hk]; rfl
        refine ⟨e.id,ee x4.gh (k:=0) rfl,e.a,ee x4.gh (k:=3) rfl,e.b,ee x4.gh (k:=4) rfl,e.c,ee x4.gh (k:=5) rfl,(t90 x4 hr 2 e.id e.a e.b e.c).mono fun v H' t=>?_⟩
        rw [rn,←hw] at t
        obtain ⟨A,n,c,hv,-⟩:=t.out
        exact ⟨A,n,c,hv,by rw [←hv]; exact told t hcl (by unfold RS.tells; rw [hk]; rfl)⟩
      have n8:e.kind≠8:=by simpa using n8
      have n9:e.kind≠9:=by simpa using n9
      refine ⟨fun q=>?_,fun n10=>⟨fun q=>?_,fun n21=>⟨fun q=>?_,fun n12=>⟨fun q=>?_,fun n13=>⟨fun q=>?_,fun n14=>⟨fun q=>?_,fun n26=>⟨fun q=>?_,fun n27=>⟨fun q=>?_,fun n28=>⟨n5,n8,n9,?_⟩⟩⟩⟩⟩⟩⟩⟩⟩
      · -- an attribute
        have hk:e.kind=10:=by simpa using q
        obtain ⟨ha,hb⟩:=h10 hk
        have hw:S.sw e={ S with attrs:=S.attrs.set e.a.toNat e.b }:=by unfold RS.sw; rw [hk]; rfl
        rw [hw]
        refine ⟨G1,x4.gh,_,hr,_,rfl,e.a,ee (Sub.refl _) (k:=3) rfl,e.b,ee (Sub.refl _) (k:=4) rfl,⟨ha,hb⟩,?_⟩
        have hx:((⟨b,0,none⟩:Addr).add 11).add (e.a.toNat*1)=(⟨b,0,none⟩:Addr).add (11+e.a.toNat):=by rw [Nat.mul_one]; exact add2 b 11 _
        show Wr H4 (((⟨b,0,none⟩:Addr).add 11).add (e.a.toNat*1)) _ _
        rw [hx]
        refine x4.wr (k:=11+e.a.toNat) (by omega) { S with attrs:=S.attrs.set e.a.toNat e.b } ?_ (fun _=>rfl) (by show (S.attrs.set _ _).length=4; rw [List.length_set]; exact x4.attrs) fun H' h'=>⟨h'.gh,n5,n8,n9,h'.e⟩
        unfold rCells
        rw [List.set_append_left _ _ (by simp [cellsV]; omega),List.set_append_right _ _ (by simp),←cellsV_set x4.attrs (by omega)]
        simp
      · -- an update
        have hk:e.kind=21:=by simpa using q
        have hw:S.sw e={ S with updates:=S.updates++[⟨e.id,0,0,0⟩] }:=by unfold RS.sw; rw [hk]; rfl
        rw [hw]
        have core:=x4.push (c:=4) (by decide) (T:=107) (bytes:=32) (new:=(UpM.mk e.id 0 0 0).cells) rfl rfl (by omega) (by omega) { S with updates:=S.updates++[⟨e.id,0,0,0⟩] } (fun _=>rfl) (by show (S.updates++[_]).flatMap UpM.cells=_; rw [List.flatMap_append,List.flatMap_singleton]; rfl) (five (P:=fun c'=>c'≠4→contR { S with updates:=S.updates++[⟨e.id,0,0,0⟩] } c'=contR S c') (fun _=>rfl) (fun _=>rfl) (fun _=>rfl) (fun _=>rfl) (fun q=>absurd rfl q)) x4.attrs
          (Q:=fun H'=>MidB G1 H' b { S with updates:=S.updates++[⟨e.id,0,0,0⟩] } e) fun H' h'=>⟨n5,n8,n9,h'⟩
        exact ⟨G1,x4.gh,_,hr,_,hr,_,rfl,e.id,ee (Sub.refl _) (k:=0) rfl,⟨_,_,_,x4.cell (k:=19) rfl,x4.gh,x4.gh,core⟩,x4.gh,_,_,_,x4.cell (k:=19) rfl,x4.gh,core⟩
      · have hk:e.kind=12:=by simpa using q
        exact ⟨_,r2,e.a,ee x4.gh (k:=3) rfl,upd 1 0 0 (by unfold RS.sw; rw [hk]; rfl) n8 n9⟩
      · have hk:e.kind=13:=by simpa using q
        exact ⟨_,r2,e.a,ee x4.gh (k:=3) rfl,e.b,ee x4.gh (k:=4) rfl,upd 2 e.b 0 (by unfold RS.sw; rw [hk]; rfl) n8 n9⟩
      · have hk:e.kind=14:=by simpa using q
        exact ⟨_,r2,e.a,ee x4.gh (k:=3) rfl,e.b,ee x4.gh (k:=4) rfl,e.c,ee x4.gh (k:=5) rfl,upd 3 e.b e.c (by unfold RS.sw; rw [hk]; rfl) n8 n9⟩
      · have hk:e.kind=26:=by simpa using q
        have hw:S.sw e={ S with kids:=S.kids.map (kidR e.a e.b) }:=by unfold RS.sw; rw [hk]; rfl
        refine ⟨_,r2,e.a,ee x4.gh (k:=3) rfl,?_⟩
        rw [hw]
        exact (t97 x4 e.a (chg_run he) (by rw [rk]; omega)).mono fun v H' ⟨hv,h'⟩=>⟨hv,n5,n8,n9,h'.e⟩
      · have hk:e.kind=27:=by simpa using q
        exact ⟨_,r2,e.a,ee x4.gh (k:=3) rfl,over (by unfold RS.sw; rw [hk]; rfl) n8 n9⟩
      · have hk:e.kind=28:=by simpa using q
        exact ⟨_,r2,e.a,ee x4.gh (k:=3) rfl,over (by unfold RS.sw; rw [hk]; rfl) n8 n9⟩
      · have hw : S.sw e = S := by
          unfold RS.sw
          have m:∀{k:Int},(e.kind==k)=false→e.kind≠k:=fun q=>by simpa using q
          have m1:=m n1; have m3:=m n3; have m4:=m n4; have m6:=m n6; have m22:=m n22; have m23:=m n23; have m24:=m n24; have m7:=m n7; have m25:=m n25
          have m10:=m n10; have m21:=m n21; have m12:=m n12; have m13:=m n13; have m14:=m n14; have m26:=m n26; have m27:=m n27; have m28:=m n28
          rw [if_neg m1,if_neg m3,if_neg m4,if_neg n5,if_neg (by omega),if_neg (by omega),if_neg m10,if_neg m21,if_neg m12,if_neg m13,if_neg m14,if_neg m26,if_neg (by omega)]
        rw [hw]; exact x4.e
  · -- does it close the run?
    obtain ⟨n5,n8,n9,⟨sl5,x5⟩⟩:=m5
    obtain ⟨s,hs⟩:=RS.see_eq (R.add e) e
    have bk:R.book e=(((R.add e).see e).sw e).close e:=rfl
    have nil:∀{H':Heap},RunE G1 H' b (R.book e)→R.tells e=[]→BookR G b R e (.slice none 0 0) H':=fun ⟨sl',x'⟩ ht=>⟨none,0,0,rfl,(x'.weaken gg).e,by rw [ht]; rfl,by rw [ht]; exact .inl rfl⟩
    have tl:R.tells e=if (closeM e.kind&&!(R.parent==0||e.kind==18))=true then [⟨0,4,R.number,0,0,0,0⟩] else []:=by unfold RS.tells; rw [if_neg n5,if_neg n8,if_neg n9]
    refine ⟨e.kind,ee x5.gh (k:=2) rfl,_,t53 e.kind H5,fun q=>?_,fun q=>?_⟩
    · have hc:closeM e.kind=false:=by simpa using q
      refine nil ?_ (by rw [tl,hc]; rfl)
      have:R.book e=((R.add e).see e).sw e:=by rw [bk]; unfold RS.close; rw [if_neg (by rw [hc]; decide)]
      rw [this]; exact x5.e
    · have hc:closeM e.kind=true:=by simpa using q
      have h1:e.kind≠1:=fun k=>by rw [k] at hc; cases hc
      obtain ⟨hnum,hpar⟩:=RS.sw_rest ((R.add e).see e) e h1
      have hnum:(((R.add e).see e).sw e).number=R.number:=by rw [hnum,hs]; rfl
      have hpar:(((R.add e).see e).sw e).parent=R.parent:=by rw [hpar,hs]; rfl
      have hcl:R.book e={ ((R.add e).see e).sw e with status:=statusM e.kind,value:=e.a,ended:=e.time,acts:=[],timers:=[] }:=by rw [bk]; unfold RS.close; rw [if_pos hc]
      generalize ((R.add e).see e).sw e=S at x5 hnum hpar hcl bk
      refine ⟨G1,x5.gh,_,hr,_,hr,_,hr,e.kind,ee (Sub.refl _) (k:=2) rfl,e.a,ee (Sub.refl _) (k:=3) rfl,e.time,ee (Sub.refl _) (k:=1) rfl,_,t100 e.kind H5,x5.gh,_,rfl,?_⟩
      refine x5.wr (k:=2) (by decide) { S with status:=statusM e.kind } rfl (fun _=>rfl) x5.attrs fun H6 y6=>⟨y6.gh,_,rfl,?_⟩
      refine y6.wr (k:=10) (by decide) { S with status:=statusM e.kind,value:=e.a } rfl (fun _=>rfl) x5.attrs fun H7 y7=>⟨y7.gh,_,rfl,?_⟩
      refine y7.wr (k:=5) (by decide) { S with status:=statusM e.kind,value:=e.a,ended:=e.time } rfl (fun _=>rfl) x5.attrs fun H8 y8=>⟨y8.gh,?_⟩
      refine ⟨G1,y8.gh,_,hr,_,rfl,_,hr,?_⟩
      refine y8.drop (c:=1) (by decide) { S with status:=statusM e.kind,value:=e.a,ended:=e.time,acts:=[] } rfl rfl (five (P:=fun c'=>c'≠1→contR { S with status:=statusM e.kind,value:=e.a,ended:=e.time,acts:=[] } c'=contR { S with status:=statusM e.kind,value:=e.a,ended:=e.time } c') (fun _=>rfl) (fun q=>absurd rfl q) (fun _=>rfl) (fun _=>rfl) (fun _=>rfl)) x5.attrs fun sl9 H9 y9=>⟨y9.gh,_,rfl,?_⟩
      refine y9.drop (c:=2) (by decide) (R.book e) (by rw [hcl]; rfl) (by rw [hcl]; rfl) (by rw [hcl]; exact five (P:=fun c'=>c'≠2→contR { S with status:=statusM e.kind,value:=e.a,ended:=e.time,acts:=[],timers:=[] } c'=contR { S with status:=statusM e.kind,value:=e.a,ended:=e.time,acts:=[] } c') (fun _=>rfl) (fun _=>rfl) (fun q=>absurd rfl q) (fun _=>rfl) (fun _=>rfl)) (by rw [hcl]; exact x5.attrs) fun sl10 H10 y10=>⟨y10.gh,?_⟩
      have bpar:(R.book e).parent=R.parent:=by rw [hcl]; exact hpar
      have bnum:(R.book e).number=R.number:=by rw [hcl]; exact hnum
      refine ⟨_,hr.sub y10.gh,_,rfl,R.parent,y10.cell (k:=7) (by rw [←bpar]; rfl),e.kind,fun _=>ee y10.gh (k:=2) rfl,fun q=>nil y10.e ?_,fun q=>?_⟩
      · rw [tl,hc,q]; rfl
      · refine (t90 y10 hr 4 0 0 0 0).mono fun v H' t=>?_
        rw [bnum] at t
        obtain ⟨A,n,c,hv,⟨sl',x'⟩,hn,hsrc⟩:=t.out
        have ht:R.tells e=[⟨0,4,R.number,0,0,0,0⟩]:=by rw [tl,hc,q]; rfl
        exact ⟨A,n,c,hv,A,n,c,rfl,(x'.weaken gg).e,by rw [ht]; exact hn,by rw [ht]; exact hsrc⟩
set_option linter.unusedVariables false
open IntKind
noncomputable def c21:Cx:={ P:=Tryz.prog,res:=[],pub:=[7],loops:=[],quiet:=[],asm:=true }
def F21 (number:Int) (id:ByteArray) (xId xTime xKind xA xB xC xD xE xF:Int) (H:Heap) (K:Value→Heap→Prop):Prop:=∀b,H b=none→∀H1,H1=H.upd b (.cells #[(0:Int),(0:Int),(0:Int),.string ({ data:=#[] }:ByteArray),(0:Int),(0:Int),(0:Int),(0:Int),(0:Int),(0:Int),(0:Int),(0:Int),(0:Int),(0:Int),(0:Int),.slice none 0 0,.slice none 0 0,.slice none 0 0,.slice none 0 0,.slice none 0 0] 34)→StL H1 (b:Addr) [number,(0:Int),(0:Int),.string id,(0:Int),(0:Int),(0:Int),(0:Int),(0:Int),(0:Int),(0:Int),(0:Int),(0:Int),(0:Int),(0:Int),.slice none 0 0,.slice none 0 0,.slice none 0 0,.slice none 0 0,.slice none 0 0] fun H11=>Tr Tryz.prog 43 #[.pointer (some (b:Addr)),.agg #[(1:Int),xTime,(1:Int),xA,xB,xC,xD,xE,xF]] H11 fun v H' =>
 ∃(A:Option Addr) (n c1:Nat),v=.slice A n c1 ∧∃(x x1 x2:Int) (s:ByteArray) (x3 x4 x5 x6 x7 x8 x9 x10 x11 x12 x13:Int) (A1:Option Addr) (n1 c2:Nat) (A2:Option Addr) (n2 c3:Nat) (A3:Option Addr) (n3 c4:Nat) (A4:Option Addr) (n4 c5:Nat) (A5:Option Addr) (n5 c6:Nat),At H' (b:Addr) [x,x1,x2,.string s,x3,x4,x5,x6,x7,x8,x9,x10,x11,x12,x13,.slice A1 n1 c2,.slice A2 n2 c3,.slice A3 n3 c4,.slice A4 n4 c5,.slice A5 n5 c6] ∧K (.agg #[x,x1,x2,.string s,x3,x4,x5,x6,x7,x8,x9,x10,x11,x12,x13,.slice A1 n1 c2,.slice A2 n2 c3,.slice A3 n3 c4,.slice A4 n4 c5,.slice A5 n5 c6]) H'

theorem v21 {number:Int} {id:ByteArray} {xId xTime xKind xA xB xC xD xE xF:Int} {H:Heap} {K:Value→Heap→Prop} (h:F21 number id xId xTime xKind xA xB xC xD xE xF H K):Tr Tryz.prog 21 #[.int .i64 number,.string id,.agg #[.int .i64 xId,.int .i64 xTime,.int .i64 xKind,.int .i64 xA,.int .i64 xB,.int .i64 xC,.int .i64 xD,.int .i64 xE,.int .i64 xF]] H K :=
 tr_of_eq (C:=c21) Tryz.func21 (by kernel_rfl) h
noncomputable def c16:Cx:={ P:=Tryz.prog,res:=[],pub:=[],loops:=[],quiet:=[26,36,52,53],draws:=[⟨6,[5],[],false,true⟩,⟨10,[1,4],[],false,true⟩,⟨11,[1,3],[],false,true⟩],asm:=true,cuts:=[⟨7,[(9,.int .i64)],[10,29,30,31,32,33,34,35,36,37,38,39,40],[]⟩] }
def F16 (r:Option Addr) (eId eTime eKind eA eB eC eD eE eF now:Int) (H:Heap) (K:Value→Heap→Prop):Prop:=(r.isNone=true→K (.tuple #[(0:Int),.slice none 0 0,(42:Int)]) H) ∧
 (r.isNone=false→∃(a:Addr),r=some a ∧∃(x x1 x2:Int) (s:ByteArray) (x3 x4 x5 x6 x7 x8 x9 x10 x11 x12 x13:Int) (A:Option Addr) (n c:Nat) (A1:Option Addr) (n1 c1:Nat) (A2:Option Addr) (n2 c2:Nat) (A3:Option Addr) (n3 c3:Nat) (A4:Option Addr) (n4 c4:Nat),At H a [x,x1,x2,.string s,x3,x4,x5,x6,x7,x8,x9,x10,x11,x12,x13,.slice A n c,.slice A1 n1 c1,.slice A2 n2 c2,.slice A3 n3 c3,.slice A4 n4 c4] ∧∃(b:Bool),TrQ Tryz.prog 26 #[.agg #[x,x1,x2,.string s,x3,x4,x5,x6,x7,x8,x9,x10,x11,x12,x13,.slice A n c,.slice A1 n1 c1,.slice A2 n2 c2,.slice A3 n3 c3,.slice A4 n4 c4]] H (.bool b) ∧
 ((!b)=true→K (.tuple #[(0:Int),.slice none 0 0,(46:Int)]) H) ∧((!b)=false→∃(a1:Addr),r=some a1 ∧∃(A5:Option Addr) (n5 c5:Nat),At H (a1.add 15) [.slice A5 n5 c5] ∧∃(Mid:Int→Heap→Prop),(∃(a2:Addr),r=some a2 ∧(∃(A6:Option Addr),∃(n6 c6:Nat),At H (a2.add 15) [.slice A6 n6 c6] ∧(Tr Tryz.prog 51 #[.slice A6 n6 c6] H fun v1 H'1 =>∃(A7:Option Addr) (n7 c7:Nat),v1=.slice A7 n7 c7 ∧appC 47 9 72 H'1 A7 n7 c7 [(i64.wrap ((↑n5:Int)+1)),now,eKind,eA,eB,eC,eD,eE,eF] 1 fun (A':Option Addr) (n' c':Nat) (H'2:Heap) =>∃(x14 x15:Int),
 TrQ Tryz.prog 36 #[.slice A' n' c'] H'2 (.tuple #[x14,x15]) ∧Mid x14 H'2) ∧Tr Tryz.prog 51 #[.slice A6 n6 c6] H fun v3 H'4 =>∃(A8:Option Addr) (n8 c8:Nat),v3=.slice A8 n8 c8 ∧appC 47 9 72 H'4 A8 n8 c8 [(i64.wrap ((↑n5:Int)+1)),now,eKind,eA,eB,eC,eD,eE,eF] 1 fun (A'1:Option Addr) (n'1 c'1:Nat) (H'5:Heap) =>∃(x16 x17:Int),TrQ Tryz.prog 36 #[.slice A'1 n'1 c'1] H'5 (.tuple #[x16,x17]) ∧Mid x16 H'5) ∧∃(A9:Option Addr) (n9 c9:Nat),At H (a2.add 15) [.slice A9 n9 c9] ∧Tr Tryz.prog 51 #[.slice A9 n9 c9] H fun v5 H'7 =>∃(A10:Option Addr) (n10 c10:Nat),v5=.slice A10 n10 c10 ∧
 appC 47 9 72 H'7 A10 n10 c10 [(i64.wrap ((↑n5:Int)+1)),now,eKind,eA,eB,eC,eD,eE,eF] 1 fun (A'2:Option Addr) (n'2 c'2:Nat) (H'8:Heap) =>∃(x18 x19:Int),TrQ Tryz.prog 36 #[.slice A'2 n'2 c'2] H'8 (.tuple #[x18,x19]) ∧Mid x18 H'8) ∧∀(x20:Int) (H1:Heap),Mid x20 H1→∃(b1:Bool),TrQ Tryz.prog 52 #[.agg #[(i64.wrap ((↑n5:Int)+1)),now,eKind,eA,eB,eC,eD,eE,eF]] H1 (.bool b1) ∧((!b1||x20 != 0)=true→K (.tuple #[(0:Int),.slice none 0 0,(54:Int)]) H1) ∧((!b1||x20 != 0)=false→∃(b2:Bool),((i64.wrap ((↑n5:Int)+1)==256)=true→Tr Tryz.prog 53 #[eKind] H1 fun v8 H'11=>v8=.bool b2 ∧
 Ax.Sub H1 H'11) ∧((i64.wrap ((↑n5:Int)+1)==256&&!b2)=true→Tr Tryz.prog 54 #[(i64.wrap ((↑n5:Int)+1)),now] H1 fun v9 H'12 =>∃(x21 x22 x23 x24 x25 x26 x27 x28 x29:Int),v9=.agg #[x21,x22,x23,x24,x25,x26,x27,x28,x29] ∧Tr Tryz.prog 43 #[.pointer r,.agg #[x21,x22,x23,x24,x25,x26,x27,x28,x29]] H'12 fun v10 H'13 =>∃(A11:Option Addr) (n11 c11:Nat),v10=.slice A11 n11 c11 ∧K (.tuple #[(i64.wrap ((↑n5:Int)+1)),.slice A11 n11 c11,(49:Int)]) H'13) ∧
 ((i64.wrap ((↑n5:Int)+1)==256&&!b2)=false→Tr Tryz.prog 43 #[.pointer r,.agg #[(i64.wrap ((↑n5:Int)+1)),now,eKind,eA,eB,eC,eD,eE,eF]] H1 fun v11 H'14 =>∃(A12:Option Addr) (n12 c12:Nat),v11=.slice A12 n12 c12 ∧K (.tuple #[(i64.wrap ((↑n5:Int)+1)),.slice A12 n12 c12,(0:Int)]) H'14))))

theorem v16 {r:Option Addr} {eId eTime eKind eA eB eC eD eE eF now:Int} {H:Heap} {K:Value→Heap→Prop} (h:F16 r eId eTime eKind eA eB eC eD eE eF now H K):Tr Tryz.prog 16 #[.pointer r,.agg #[.int .i64 eId,.int .i64 eTime,.int .i64 eKind,.int .i64 eA,.int .i64 eB,.int .i64 eC,.int .i64 eD,.int .i64 eE,.int .i64 eF],.int .i64 now] H K :=
 tr_of_eq (C:=c16) Tryz.func16 (by kernel_rfl) h
noncomputable def c18:Cx:={ P:=Tryz.prog,res:=[],pub:=[],loops:=[⟨16,[],[],[(3,0,.sl)]⟩],quiet:=[26],draws:=[⟨6,[0,1],[],false,true⟩,⟨7,[0,1],[],false,true⟩,⟨18,[1,2],[3],false,true⟩],asm:=true,rfs:=[⟨16,[([.int .i64],false),([.int .i64,.int .i64,.int .i64,.int .i64,.int .i64,.int .i64,.int .i64,.int .i64,.int .i64],true)]⟩] }
def F18 (r pFuncsA:Option Addr) (pFuncsn pFuncsc:Nat) (pOptsA:Option Addr) (pOptsn pOptsc:Nat) (now draw next:Int) (H:Heap) (K:Value→Heap→Prop):Prop :=
 ∃(a:Addr),((!(r.isNone||decide (now<0)||decide (now>1099511627776)))=true→r=some a) ∧∃(A:Option Addr) (n c:Nat),((!(r.isNone||decide (now<0)||decide (now>1099511627776)))=true→At H (a.add 15) [.slice A n c]) ∧∃(a1:Addr),((!(r.isNone||decide (now<0)||decide (now>1099511627776))&&decide ((↑n:Int)>0))=true→r=some a1) ∧∃(A1:Option Addr) (n1 c1:Nat),((!(r.isNone||decide (now<0)||decide (now>1099511627776))&&decide ((↑n:Int)>0))=true→At H (a1.add 15) [.slice A1 n1 c1]) ∧∃(a2:Addr),
 ((!(r.isNone||decide (now<0)||decide (now>1099511627776))&&decide ((↑n:Int)>0))=true→r=some a2) ∧∃(A2:Option Addr) (n2 c2:Nat),((!(r.isNone||decide (now<0)||decide (now>1099511627776))&&decide ((↑n:Int)>0))=true→At H (a2.add 15) [.slice A2 n2 c2]) ∧∃(a3:Addr),((!(r.isNone||decide (now<0)||decide (now>1099511627776))&&decide ((↑n:Int)>0))=true→A1=some a3 ∧(0:Int)≤i64.wrap ((↑n2:Int)-1) ∧i64.wrap ((↑n2:Int)-1)<(↑n1:Int)) ∧∃(x:Int),
 ((!(r.isNone||decide (now<0)||decide (now>1099511627776))&&decide ((↑n:Int)>0))=true→At H ((a3.add ((i64.wrap ((↑n2:Int)-1)).toNat*9)).add 1) [x]) ∧((r.isNone||decide (now<0)||decide (now>1099511627776)||decide ((↑n:Int)>0)&&decide (now<x))=true→K (.tuple #[.slice none 0 0,(42:Int)]) H) ∧((r.isNone||decide (now<0)||decide (now>1099511627776)||decide ((↑n:Int)>0)&&decide (now<x))=false→∃(a4:Addr),r=some a4 ∧
 ∃(x1 x2 x3:Int) (s:ByteArray) (x4 x5 x6 x7 x8 x9 x10 x11 x12 x13 x14:Int) (A3:Option Addr) (n3 c3:Nat) (A4:Option Addr) (n4 c4:Nat) (A5:Option Addr) (n5 c5:Nat) (A6:Option Addr) (n6 c6:Nat) (A7:Option Addr) (n7 c7:Nat),At H a4 [x1,x2,x3,.string s,x4,x5,x6,x7,x8,x9,x10,x11,x12,x13,x14,.slice A3 n3 c3,.slice A4 n4 c4,.slice A5 n5 c5,.slice A6 n6 c6,.slice A7 n7 c7] ∧∃(b:Bool),TrQ Tryz.prog 26 #[.agg #[x1,x2,x3,.string s,x4,x5,x6,x7,x8,x9,x10,x11,x12,x13,x14,.slice A3 n3 c3,.slice A4 n4 c4,.slice A5 n5 c5,.slice A6 n6 c6,.slice A7 n7 c7]] H (.bool b) ∧
 ((!b)=true→K (.tuple #[.slice none 0 0,(46:Int)]) H) ∧((!b)=false→∃(a5:Addr),r=some a5 ∧∃(A8:Option Addr) (n8 c8:Nat),At H (a5.add 15) [.slice A8 n8 c8] ∧(decide ((↑n8:Int)>254)=true→∃(a6:Addr),r=some a6 ∧∃(A9:Option Addr) (n9 c9:Nat),At H (a6.add 15) [.slice A9 n9 c9] ∧Tr Tryz.prog 54 #[(i64.wrap ((↑n9:Int)+1)),now] H fun v1 H'1 =>∃(x15 x16 x17 x18 x19 x20 x21 x22 x23:Int),v1=.agg #[x15,x16,x17,x18,x19,x20,x21,x22,x23] ∧Tr Tryz.prog 43 #[.pointer r,.agg #[x15,x16,x17,x18,x19,x20,x21,x22,x23]] H'1 fun v2 H'2 =>∃(A10:Option Addr) (n10 c10:Nat),
 v2=.slice A10 n10 c10 ∧K (.tuple #[.slice A10 n10 c10,(49:Int)]) H'2) ∧(decide ((↑n8:Int)>254)=false→∃(a7:Addr),r=some a7 ∧∃(A11:Option Addr) (n11 c11:Nat),At H (a7.add 15) [.slice A11 n11 c11] ∧Tr Tryz.prog 23 #[.agg #[.slice pFuncsA pFuncsn pFuncsc,.slice pOptsA pOptsn pOptsc],.slice A11 n11 c11] H fun v3 H'3 =>∃(v4:Option Addr) (x24 x25:Int),v3=.tuple #[.pointer v4,x24,x25] ∧((x24 != 0)=true→K (.tuple #[.slice none 0 0,x24]) H'3) ∧((x24 != 0)=false→Tr Tryz.prog 56 #[.pointer v4,now,draw] H'3 fun v5 H'4 =>∃(A12:Option Addr) (n12 c12:Nat) (x26:Int),
 v5=.tuple #[.slice A12 n12 c12,x26] ∧((x26 != 0)=true→K (.tuple #[.slice none 0 0,x26]) H'4) ∧((x26 != 0)=false→Tr Tryz.prog 42 #[.slice A12 n12 c12,.slice none 0 0] H'4 fun v6 H'5 =>∃(v7:Value),v6=v7 ∧∃(g:Nat) (caps:List Value),(v7=.func (Fn.func g) #[] { toList:=caps } ∧canCall Tryz.prog g=true) ∧∃(HI:Heap) (m:Nat) (E:Nat→Int×Int×Int×Int×Int×Int×Int×Int×Int×Int×PUnit) (ys:List Nat),Ax.Sub HI H'5 ∧
 It Tryz.prog g caps HI m (fun (i:Nat)=>[.int .i64 (E i).fst,.agg #[.int .i64 (E i).snd.fst,.int .i64 (E i).snd.snd.fst,.int .i64 (E i).snd.snd.snd.fst,.int .i64 (E i).snd.snd.snd.snd.fst,.int .i64 (E i).snd.snd.snd.snd.snd.fst,.int .i64 (E i).snd.snd.snd.snd.snd.snd.fst,.int .i64 (E i).snd.snd.snd.snd.snd.snd.snd.fst,.int .i64 (E i).snd.snd.snd.snd.snd.snd.snd.snd.fst,.int .i64 (E i).snd.snd.snd.snd.snd.snd.snd.snd.snd.fst]]) ys ∧∃(Rel:List Nat→Option Addr→Nat→Nat→Heap→Prop),Rel [] none (0:Nat) (0:Nat) H'5 ∧
 (∀(pre:List Nat) (i:Nat),i<m→pre.length<ys.length→∀(A13:Option Addr) (n13 c13:Nat) (H1:Heap),Rel pre A13 n13 c13 H1→Ax.Sub HI H1→NCs H'5 H1→∀(x27 x28 x29 x30 x31 x32 x33 x34 x35 x36:Int),E i=(x27,x28,x29,x30,x31,x32,x33,x34,x35,x36,())→(NCs H'5 H1 ∧Ax.Sub HI H1) ∧((x30==18)=true→(Tr Tryz.prog 43 #[.pointer r,.agg #[x28,x29,x30,x31,next,x33,x34,x35,x36]] H1 fun v8 H'6 =>∃(A14:Option Addr) (n14 c14:Nat),v8=.slice A14 n14 c14 ∧appS 160 7 56 H'6 A13 n13 c13 A14 n14 fun A' n' c' H'7=>Rel (pre++[i]) A' n' c' (cutN H'5 H'7) ∧Ax.Sub HI H'7) ∧
 Tr Tryz.prog 43 #[.pointer r,.agg #[x28,x29,x30,x31,next,x33,x34,x35,x36]] H1 fun v9 H'8 =>∃(A15:Option Addr) (n15 c15:Nat),v9=.slice A15 n15 c15 ∧appS 160 7 56 H'8 A13 n13 c13 A15 n15 fun A'1 n'1 c'1 H'9=>Rel (pre++[i]) A'1 n'1 c'1 (cutN H'5 H'9) ∧Ax.Sub HI H'9) ∧((x30==18)=false→(Tr Tryz.prog 43 #[.pointer r,.agg #[x28,x29,x30,x31,x32,x33,x34,x35,x36]] H1 fun v10 H'10 =>∃(A16:Option Addr) (n16 c16:Nat),v10=.slice A16 n16 c16 ∧appS 160 7 56 H'10 A13 n13 c13 A16 n16 fun A'2 n'2 c'2 H'11=>Rel (pre++[i]) A'2 n'2 c'2 (cutN H'5 H'11) ∧Ax.Sub HI H'11) ∧
 Tr Tryz.prog 43 #[.pointer r,.agg #[x28,x29,x30,x31,x32,x33,x34,x35,x36]] H1 fun v11 H'12 =>∃(A17:Option Addr) (n17 c17:Nat),v11=.slice A17 n17 c17 ∧appS 160 7 56 H'12 A13 n13 c13 A17 n17 fun A'3 n'3 c'3 H'13=>Rel (pre++[i]) A'3 n'3 c'3 (cutN H'5 H'13) ∧Ax.Sub HI H'13)) ∧∀(A18:Option Addr) (n18 c18:Nat) (H2:Heap),Rel ys A18 n18 c18 H2→NCs H'5 H2→K (.tuple #[.slice A18 n18 c18,(0:Int)]) H2)))))

theorem v18 {r pFuncsA:Option Addr} {pFuncsn pFuncsc:Nat} {pOptsA:Option Addr} {pOptsn pOptsc:Nat} {now draw next:Int} {H:Heap} {K:Value→Heap→Prop} (h:F18 r pFuncsA pFuncsn pFuncsc pOptsA pOptsn pOptsc now draw next H K):Tr Tryz.prog 18 #[.pointer r,.agg #[.slice pFuncsA pFuncsn pFuncsc,.slice pOptsA pOptsn pOptsc],.int .i64 now,.int .i64 draw,.int .i64 next] H K :=
 tr_of_eq (C:=c18) Tryz.func18 (by kernel_rfl) h
noncomputable def c10:Cx:={ P:=Tryz.prog,res:=[],pub:=[],loops:=[],quiet:=[40],asm:=true }
def F10 (number event:Int) (H:Heap) (K:Value→Heap→Prop):Prop :=
 ∃(s:ByteArray),TrQ Tryz.prog 40 #[number] H (.string s) ∧s.size+({ data:=#[(46:UInt8)] }:ByteArray).size≤(9223372036854775807:Nat) ∧∃(s1:ByteArray),TrQ Tryz.prog 40 #[event] H (.string s1) ∧(s++({ data:=#[(46:UInt8)] }:ByteArray)).size+s1.size≤(9223372036854775807:Nat) ∧K (.string (s++({ data:=#[(46:UInt8)] }:ByteArray)++s1)) H

theorem v10 {number event:Int} {H:Heap} {K:Value→Heap→Prop} (h:F10 number event H K):Tr Tryz.prog 10 #[.int .i64 number,.int .i64 event] H K :=
 tr_of_eq (C:=c10) Tryz.func10 (by kernel_rfl) h
noncomputable def c39:Cx:={ P:=Tryz.prog,res:=[],pub:=[6,8],loops:=[],quiet:=[],asm:=true }
def F39 (H:Heap) (K:Value→Heap→Prop):Prop:=∀b,H b=none→∀H1,H1=H.upd b (.cells #[(0:Int),(4:Int),(21:Int),(0:Int),(23:Int),(0:Int),(1:Int),(0:Int),(36:Int),(0:Int)] 179)→∀b1,H1 b1=none→∀H11,H11=H1.upd b1 (.cells #[(0:Int),(0:Int),.slice (some (b:Addr)) (5:Nat) (5:Nat)] 132)→K (.agg #[.slice (some (b1:Addr)) (1:Nat) (1:Nat),.slice none 0 0]) H11

theorem v39 {H:Heap} {K:Value→Heap→Prop} (h:F39  H K):Tr Tryz.prog 39 #[] H K :=
 tr_of_eq (C:=c39) Tryz.func39 (by kernel_rfl) h
noncomputable def c9:Cx:={ P:=Tryz.prog,res:=[],pub:=[1],loops:=[],quiet:=[10,26],asm:=true }
def F9 (H:Heap) (K:Value→Heap→Prop):Prop:=Tr Tryz.prog 21 #[(3:Int),.string ({ data:=#[(97:UInt8)] }:ByteArray),.agg #[(0:Int),(5:Int),(0:Int),(0:Int),(0:Int),(0:Int),(0:Int),(0:Int),(0:Int)]] H fun v H' =>
 ∃(x x1 x2:Int) (s:ByteArray) (x3 x4 x5 x6 x7 x8 x9 x10 x11 x12 x13:Int) (A:Option Addr) (n c:Nat) (A1:Option Addr) (n1 c1:Nat) (A2:Option Addr) (n2 c2:Nat) (A3:Option Addr) (n3 c3:Nat) (A4:Option Addr) (n4 c4:Nat),v=.agg #[x,x1,x2,.string s,x3,x4,x5,x6,x7,x8,x9,x10,x11,x12,x13,.slice A n c,.slice A1 n1 c1,.slice A2 n2 c2,.slice A3 n3 c3,.slice A4 n4 c4] ∧
 ∀b,H' b=none→∀H1,H1=H'.upd b (.cells #[(0:Int),(0:Int),(0:Int),.string ({ data:=#[] }:ByteArray),(0:Int),(0:Int),(0:Int),(0:Int),(0:Int),(0:Int),(0:Int),(0:Int),(0:Int),(0:Int),(0:Int),.slice none 0 0,.slice none 0 0,.slice none 0 0,.slice none 0 0,.slice none 0 0] 34)→StL H1 (b:Addr) [x,x1,x2,.string s,x3,x4,x5,x6,x7,x8,x9,x10,x11,x12,x13,.slice A n c,.slice A1 n1 c1,.slice A2 n2 c2,.slice A3 n3 c3,.slice A4 n4 c4] fun H11=>Tr Tryz.prog 39 #[] H11 fun v1 H'1 =>∃(A5:Option Addr) (n5 c6:Nat) (A6:Option Addr) (n6 c7:Nat),v1=.agg #[.slice A5 n5 c6,.slice A6 n6 c7] ∧
 Tr Tryz.prog 18 #[.pointer (some (b:Addr)),.agg #[.slice A5 n5 c6,.slice A6 n6 c7],(5:Int),(0:Int),(9:Int)] H'1 fun v2 H'2 =>∃(A7:Option Addr) (n7 c8:Nat) (x14:Int),v2=.tuple #[.slice A7 n7 c8,x14] ∧∃(A8:Option Addr) (n8 c9:Nat),At H'2 ((b:Addr).add 17) [.slice A8 n8 c9] ∧∃(A9:Option Addr) (n9 c10:Nat),((!(↑n8:Int) != 1)=true→At H'2 ((b:Addr).add 17) [.slice A9 n9 c10]) ∧∃(a:Addr),((!(↑n8:Int) != 1)=true→A9=some a ∧(0:Int)≤(0:Int) ∧(0:Int)<(↑n9:Int)) ∧∃(x15:Int),((!(↑n8:Int) != 1)=true→At H'2 ((a.add (Int.toNat (0:Int)*2)).add 1) [x15]) ∧∃(x16:Int),
 ((!((↑n8:Int) != 1||x15 != 9))=true→At H'2 ((b:Addr).add 9) [x16]) ∧(((↑n8:Int) != 1||x15 != 9||x16 != 3)=true→K (.bool false) H'2) ∧(((↑n8:Int) != 1||x15 != 9||x16 != 3)=false→Tr Tryz.prog 16 #[.pointer (some (b:Addr)),.agg #[(0:Int),(0:Int),(25:Int),(3:Int),(0:Int),(0:Int),(0:Int),(0:Int),(0:Int)],(8:Int)] H'2 fun v3 H'3 =>∃(x17:Int) (A10:Option Addr) (n10 c11:Nat) (x18:Int),v3=.tuple #[x17,.slice A10 n10 c11,x18] ∧Tr Tryz.prog 16 #[.pointer (some (b:Addr)),.agg #[(0:Int),(0:Int),(25:Int),(3:Int),(0:Int),(0:Int),(0:Int),(0:Int),(0:Int)],(9:Int)] H'3 fun v4 H'4 =>
 ∃(x19:Int) (A11:Option Addr) (n11 c12:Nat) (x20:Int),v4=.tuple #[x19,.slice A11 n11 c12,x20] ∧Tr Tryz.prog 39 #[] H'4 fun v5 H'5 =>∃(A12:Option Addr) (n12 c13:Nat) (A13:Option Addr) (n13 c14:Nat),v5=.agg #[.slice A12 n12 c13,.slice A13 n13 c14] ∧Tr Tryz.prog 18 #[.pointer (some (b:Addr)),.agg #[.slice A12 n12 c13,.slice A13 n13 c14],(9:Int),(0:Int),(9:Int)] H'5 fun v6 H'6 =>∃(A14:Option Addr) (n14 c15:Nat) (x21:Int),v6=.tuple #[.slice A14 n14 c15,x21] ∧∃(s1:ByteArray),TrQ Tryz.prog 10 #[(12:Int),(7:Int)] H'6 (.string s1) ∧
 ∃(x22 x23 x24:Int) (s2:ByteArray) (x25 x26 x27 x28 x29 x30 x31 x32 x33 x34 x35:Int) (A15:Option Addr) (n15 c16:Nat) (A16:Option Addr) (n16 c17:Nat) (A17:Option Addr) (n17 c18:Nat) (A18:Option Addr) (n18 c19:Nat) (A19:Option Addr) (n19 c20:Nat),At H'6 (b:Addr) [x22,x23,x24,.string s2,x25,x26,x27,x28,x29,x30,x31,x32,x33,x34,x35,.slice A15 n15 c16,.slice A16 n16 c17,.slice A17 n17 c18,.slice A18 n18 c19,.slice A19 n19 c20] ∧∃(b1:Bool),
 TrQ Tryz.prog 26 #[.agg #[x22,x23,x24,.string s2,x25,x26,x27,x28,x29,x30,x31,x32,x33,x34,x35,.slice A15 n15 c16,.slice A16 n16 c17,.slice A17 n17 c18,.slice A18 n18 c19,.slice A19 n19 c20]] H'6 (.bool b1) ∧∃(A20:Option Addr) (n20 c21:Nat),((x14==0&&x18==54&&x20==0&&x19==4&&x21==0)=true→At H'6 ((b:Addr).add 15) [.slice A20 n20 c21]) ∧K (.bool (x14==0&&x18==54&&x20==0&&x19==4&&x21==0&&(↑n20:Int)==6&&!b1&&beqS s1 ({ data:=#[(49:UInt8),(50:UInt8),(46:UInt8),(55:UInt8)] }:ByteArray))) H'6)

theorem v9 {H:Heap} {K:Value→Heap→Prop} (h:F9  H K):Tr Tryz.prog 9 #[] H K :=
 tr_of_eq (C:=c9) Tryz.func9 (by kernel_rfl) h
theorem own_upd {H H1:Heap} {A:Option Addr} {n c sz:Nat} {cs:List Value} (h:OwnS H H1 A n c sz cs) {b:Nat} (o:Obj) (hb:H b≠none):OwnS (H.upd b o) (H1.upd b o) A n c sz cs:=by
 refine ⟨⟨fun i o' e=>?_⟩,h.len,h.cap,?_⟩
 ·by_cases hi:i=b
  ·subst hi; rw [Heap.upd_same] at e ⊢; exact e
  ·rw [Heap.upd_other hi] at e ⊢; exact h.sub.sub i o' e
 ·rcases h.at_ with q|⟨bb,cur,T,q0,q1,q2,q3,q4⟩
  ·exact .inl q
  ·have hne:bb≠b:=fun e=>by subst e; exact hb q1
   exact .inr ⟨bb,cur,T,q0,by rw [Heap.upd_other hne]; exact q1,by rw [Heap.upd_other hne]; exact q2,q3,q4⟩
theorem sub_upd_none {H H1:Heap} (h:Sub H H1) {b:Nat} (o:Obj) (hb:H b=none):Sub H (H1.upd b o):=⟨fun i o' e=>by
 have hne:i≠b:=fun q=>by subst q; rw [hb] at e; cases e
 rw [Heap.upd_other hne]; exact h.sub i o' e⟩
structure Rd (l:List Ev) (H:Heap) (b b1:Nat) (x:Int) (Hc:Heap):Prop where
 out:∃m:Nat,x=m∧m≤l.length∧(∀j,j<m→∀y,l[j]?=some y→mayP (l.take j) y=true)∧∃(A:Option Addr) (n c:Nat) (es:Array MapEntry) (cl:Nat),
  Hc b1=some (.cells #[.slice A n c,.map (some b),.bool (overP (l.take m))] 177 (0,0))∧Hc b=some (.map es cl)∧Marks es (marks (l.take m))∧∃Ho:Heap,Sub H Ho∧Ho b≠none∧Ho b1≠none∧OwnS Ho Hc A n c 9 ((l.take m).flatMap Ev.cells)
theorem keep_at {Ho H1 H2:Heap} {b:Nat} {o:Obj} (h:Ho b≠none) (s1:Sub Ho H1) (s2:Sub Ho H2) (e:H1 b=some o):H2 b=some o:=by
 cases hh:Ho b with
 | none=>exact absurd hh h
 | some o' =>
  have:=s1.sub b o' hh
  rw [e] at this; cases this
  exact s2.sub b _ hh
def ReadV (l:List Ev) (H:Heap) (v:Value) (H':Heap):Prop:=∃b1:Nat,v=.tuple #[.pointer (some ⟨b1,0,none⟩),.int .i64 (stand l:Nat)]∧Book H' b1 (l.take (stand l))∧Sub H H'
theorem t84 {l:List Ev} (hb:l.length*72≤140737488355328) {H:Heap} {A:Option Addr} {n c:Nat} (h:HasEvs H A n l):Tr Tryz.prog 84 #[.slice A n c] H (ReadV l H):=by
  have hn:=h.len; subst hn
  apply v84; unfold F84
  intro b hb0 H1 e1 b1 hb1 H11 e11
  have hbb:b≠b1:=fun e=>by subst e; rw [e1,Heap.upd_same] at hb1; cases hb1
  have hHb1:H b1=none:=by rw [e1,Heap.upd_other hbb.symm] at hb1; exact hb1
  have s11:Sub H H11:=by subst e1; subst e11; exact sub_upd_none (sub_upd_none (Sub.refl _) _ hb0) _ hHb1
  refine ⟨Rd l H b b1,fun i _=>(l.length-i).toNat,⟨0,rfl,by omega,fun j hj=>absurd hj (by omega),none,0,0,#[],0,?_,?_,Marks.nil,H11,s11,?_,?_,OwnS.nil _ _⟩,fun x Hc r=>?_⟩
  · subst e11; exact Heap.upd_same
  · subst e11; subst e1; rw [Heap.upd_other hbb,Heap.upd_same]
  · subst e11; subst e1; rw [Heap.upd_other hbb,Heap.upd_same]; simp
  · subst e11; rw [Heap.upd_same]; simp
  obtain ⟨m,rfl,hm,hs,B,n,c',es,cl,g1,g2,g3,Ho,k1,k2,k3,o⟩:=r.out
  have ho:=OwnS.evs o
  have hn:n=m:=by rw [ho.len,len_take hm]
  subst hn
  have bk:Book Hc b1 (l.take n):=⟨B,n,c',b,es,cl,g1,ho,g2,g3⟩
  have sc:Sub H Hc:=k1.trans o.sub
  refine ⟨fun hlt=>?_,fun hge=>?_⟩
  · have hlt:=of_decide_eq_true hlt
    obtain ⟨x,hx⟩:=get_some (l:=l) (i:=n) (by omega)
    obtain ⟨a,ha,hat⟩:=h.at_ n x hx
    refine ⟨a,⟨ha,by omega,by omega⟩,_,_,_,_,_,_,_,_,_,hat.sub sc,_,t128 (by rw [len_take hm]; omega) bk x,fun q=>?_,fun q=>?_⟩
    · have q:mayP (l.take n) x=false:=by simpa using q
      have hst:stand l=n:=stand_spec hs (by omega) fun y hy=>by rw [hx] at hy; cases hy; exact q
      exact ⟨b1,by rw [hst],by rw [hst]; exact bk,sc⟩
    · have q:mayP (l.take n) x=true:=by simpa using q
      have hk : ∀ (A' : Option Addr) (c'' : Nat) (H' : Heap), OwnS Ho H' A' (n + 1) c'' 9 ((l.take n).flatMap Ev.cells ++ x.cells) →
          ∃a2:Addr,some (⟨b1,0,none⟩:Addr)=some a2∧∃(c1:Array Value) (T:TypeId),H' (a2.add 0).block=some (Obj.cells c1 T)∧(a2.add 0).spot=none∧(a2.add 0).off+[Value.slice A' (n+1) c''].length≤c1.size ∧
          ∀H12:Heap,H12=H'.upd (a2.add 0).block (Obj.cells (splice c1 (a2.add 0).off [Value.slice A' (n+1) c'']) T) →
          ∃a3:Addr,some (⟨b1,0,none⟩:Addr)=some a3∧∃v1:Option Nat,At H12 (a3.add 1) [Value.map v1] ∧
          Sm Tryz.prog (updU (Instr.mapUpdate 175 (Value.map v1) (Value.agg #[Value.int .i64 x.kind,Value.int .i64 x.a]) (Value.bool true))) H12 fun v2 H'2=>∃b3:Bool,
            (Tr Tryz.prog 53 #[Value.int .i64 x.kind] H'2 fun v3 H'3=>v3=Value.bool b3∧Sub H'2 H'3)∧∃a4:Addr,some (⟨b1,0,none⟩:Addr)=some a4∧∃(c2:Array Value) (T1:TypeId),H'2 (a4.add 2).block=some (Obj.cells c2 T1)∧(a4.add 2).spot=none ∧
            (a4.add 2).off+[Value.bool b3].length≤c2.size∧∀H13:Heap,H13=H'2.upd (a4.add 2).block (Obj.cells (splice c2 (a4.add 2).off [Value.bool b3]) T1) →
            Rd l H b b1 (IntKind.i64.wrap ((n:Int)+1)) H13∧(l.length-IntKind.i64.wrap ((n:Int)+1)).toNat<(l.length-(n:Int)).toNat:=by
        intro A' c'' H' o'
        have g1':=keep_at k3 o.sub o'.sub g1
        have g2':=keep_at k2 o.sub o'.sub g2
        refine ⟨_,rfl,#[.slice B n c',.map (some b),.bool (overP (l.take n))],177,g1',rfl,by show 0+1≤3; omega,fun H12 e12=>?_⟩
        have e12:H12=H'.upd b1 (.cells #[.slice A' (n+1) c'',.map (some b),.bool (overP (l.take n))] 177 (0,0)):=e12
        have g3':H12 b=some (.map es cl):=by rw [e12,Heap.upd_other hbb]; exact g2'
        refine ⟨_,rfl,some b,at_fld (T:=177) (fz:=(0,0)) (c:=#[.slice A' (n+1) c'',.map (some b),.bool (overP (l.take n))]) 1 (by rw [e12]; exact Heap.upd_same) rfl,smMono (sm_update g3' g3 x.kind x.a) fun v Hu=>?_⟩
        rintro ⟨es',cl',hm',eu⟩
        have g4:Hu b1=some (.cells #[.slice A' (n+1) c'',.map (some b),.bool (overP (l.take n))] 177 (0,0)):=by rw [eu,Heap.upd_other hbb.symm,e12]; exact Heap.upd_same
        refine ⟨_,t53 x.kind _,_,rfl,#[.slice A' (n+1) c'',.map (some b),.bool (overP (l.take n))],177,g4,rfl,by show 2+1≤3; omega,fun H13 e13=>?_⟩
        have e13:H13=Hu.upd b1 (.cells #[.slice A' (n+1) c'',.map (some b),.bool (closeM x.kind)] 177 (0,0)):=e13
        rw [wrapi (by omega) (by omega)]
        refine ⟨⟨n+1,by omega,by omega,fun j hj y hy=>?_,A',n+1,c'',es',cl',?_,?_,?_,((Ho.upd b1 (.cells #[.slice A' (n+1) c'',.map (some b),.bool (overP (l.take n))] 177 (0,0))).upd b (.map es' cl')).upd b1 (.cells #[.slice A' (n+1) c'',.map (some b),.bool (closeM x.kind)] 177 (0,0)),?_,?_,?_,?_⟩,?_⟩
        · by_cases hjn:j=n
          · subst hjn; rw [hx] at hy; cases hy; exact q
          · exact hs j (by omega) y hy
        · rw [take_snoc hx,overP_snoc,e13]; exact Heap.upd_same
        · rw [e13,Heap.upd_other hbb,eu]; exact Heap.upd_same
        · rw [take_snoc hx,marks_snoc]; exact hm'
        · exact sub_upd_none (sub_upd_none (sub_upd_none k1 _ hHb1) _ hb0) _ hHb1
        · rw [Heap.upd_other hbb,Heap.upd_same]; simp
        · rw [Heap.upd_same]; simp
        · rw [e13,eu,e12,take_snoc hx,List.flatMap_append]
          have:[x].flatMap Ev.cells=x.cells:=by simp
          rw [this]
          refine own_upd (own_upd (own_upd o' _ k3) _ ?_) _ ?_
          · rw [Heap.upd_other hbb]; exact k2
          · rw [Heap.upd_other hbb.symm,Heap.upd_same]; simp
        · omega
      refine ⟨_,rfl,⟨B,n,c',at_fld 0 g1 rfl,own_app o (m:=1) (by rfl) (by rfl) (Nat.le_trans (Nat.mul_le_mul_right 72 (show n+1≤l.length by omega)) hb) (by omega) hk⟩,⟨B,n,c',at_fld 0 g1 rfl,own_app o (m:=1) (by rfl) (by rfl) (Nat.le_trans (Nat.mul_le_mul_right 72 (show n+1≤l.length by omega)) hb) (by omega) hk⟩⟩
  · have hge:=of_decide_eq_false hge
    have hnl:n=l.length:=by omega
    have hst:stand l=n:=stand_spec hs (by omega) fun y hy=>by rw [hnl,List.getElem?_eq_none (Nat.le_refl _)] at hy; cases hy
    exact ⟨b1,by rw [hst,hnl],by rw [hst]; exact bk,sc⟩
theorem t36 {l:List Ev} (hb:l.length*72≤140737488355328) {H:Heap} {A:Option Addr} {n c:Nat} (h:HasEvs H A n l):Tr Tryz.prog 36 #[.slice A n c] H (fun v H'=>v=checkV l∧Sub H H'):=by
 have hn:=h.len; subst hn
 apply v36; unfold F36
 refine (t84 hb h).mono fun v H'=>?_
 rintro ⟨b1,rfl,bk,s⟩
 refine ⟨_,_,rfl,fun q=>⟨?_,s⟩,fun q=>⟨?_,s⟩⟩
 ·have q:=of_decide_eq_true q
  unfold checkV; rw [if_pos (by omega)]
 ·have q:=of_decide_eq_false q
  unfold checkV; rw [if_neg (by omega)]
def closeI (l:List Ev):Int×Int:=if stand l<l.length then (0,52) else if overP l=true then ((l.length:Int)-1,0) else (-1,0)
def closeV (l:List Ev):Value:=.tuple #[.int .i64 (closeI l).1,.int .i64 (closeI l).2]
theorem t38 {l:List Ev} (hb:l.length*72≤140737488355328) {H:Heap} {A:Option Addr} {n c:Nat} (h:HasEvs H A n l):Tr Tryz.prog 38 #[.slice A n c] H (fun v H'=>v=closeV l∧Sub H H'):=by
 have hn:=h.len; subst hn
 apply v38; unfold F38
 refine (t84 hb h).mono fun v H'=>?_
 rintro ⟨b1,rfl,bk,s⟩
 refine ⟨_,_,rfl,fun q=>⟨?_,s⟩,fun q=>?_⟩
 ·have q:=of_decide_eq_true q
  unfold closeV closeI; rw [if_pos (by omega)]
 ·have q:=of_decide_eq_false q
  have hst:stand l=l.length:=by have:=stand_le l; omega
  rw [hst,List.take_length] at bk
  obtain ⟨B,n,c',m,es,cl,h1,h2,h3,h4⟩:=bk.out
  refine ⟨_,rfl,overP l,at_fld 2 h1 rfl,fun q2=>⟨?_,s⟩,fun q2=>⟨?_,s⟩⟩
  ·have hne:l≠[]:=by intro e; subst e; simp [overP] at q2
   have hl:l.length≠0:=by cases l with
    | nil=>exact absurd rfl hne
    | cons _ _=>simp
   unfold closeV closeI; rw [if_neg (by omega),if_pos q2,wrapi (by omega) (by omega)]
  ·unfold closeV closeI; rw [if_neg (by omega),if_neg (by rw [q2]; simp)]
theorem t130 {l : List Int} (hb : l.length≤9223372036854775807) {H : Heap} {A : Option Addr} {n c : Nat} (h : HasI H A n l) (v : Int) :
  ∃x:Int,(decide (x≥0)=l.contains v)∧Tr Tryz.prog 130 #[.slice A n c,.int .i64 v] H (fun r H'=>r=.int .i64 x∧Sub H H'):=by
 have hn:=h.len; subst hn
 by_cases hv:v∈l
 ·obtain ⟨k, hk, hkv⟩ : ∃k : Nat, l[k]?=some v∧∀j, j<k→∀x, l[j]?=some x→x≠v := by
   refine ⟨l.idxOf v,?_,fun j hj x hx e=>?_⟩
   ·have:=List.idxOf_lt_length_of_mem hv
    rw [List.getElem?_eq_getElem this,List.getElem_idxOf this]
   ·subst e
    have hjl:=get_lt hx
    have:=List.not_of_lt_findIdx (p:=(·==x)) (xs:=l) (i:=j) hj
    rw [List.getElem?_eq_getElem hjl] at hx
    cases hx
    simp at this
  refine ⟨k,by simp [hv],?_⟩
  have hkl:=get_lt hk
  apply v130; unfold F130
  refine ⟨fun i H1=>H1=H∧∃m:Nat,i=m∧m≤k,fun i _=>(l.length-i).toNat,⟨rfl,0,rfl,by omega⟩,fun i H1 r=>?_⟩
  obtain ⟨hH,m,rfl,hm⟩:=r
  subst hH
  refine ⟨fun hlt=>?_,fun hge=>?_⟩
  ·have hlt:=of_decide_eq_true hlt
   obtain ⟨x,hx⟩:=get_some (l:=l) (i:=m) (by omega)
   obtain ⟨a,ha,hat⟩:=h.at_ m x hx
   refine ⟨a,⟨ha,by omega,by omega⟩,x,hat,fun q=>⟨?_,Sub.refl _⟩,fun q=>?_⟩
   ·have q:v=x:=by simpa using q
    have:m=k:=by
     by_cases e:m<k
     ·exact absurd q.symm (hkv m e x hx)
     ·omega
    rw [this]
   ·have q:v≠x:=by simpa using q
    have:m≠k:=fun e=>by subst e; rw [hk] at hx; cases hx; exact q rfl
    rw [wrapi (by omega) (by omega)]
    refine ⟨⟨rfl,m+1,by omega,by omega⟩,?_⟩
    show (l.length-((m:Int)+1)).toNat<(l.length-(m:Int)).toNat
    omega
  ·have hge:=of_decide_eq_false hge
   omega
 ·refine ⟨-1,by simp [hv],?_⟩
  apply v130; unfold F130
  refine ⟨fun i H1=>H1=H∧∃m:Nat,i=m∧m≤l.length,fun i _=>(l.length-i).toNat,⟨rfl,0,rfl,by omega⟩,fun i H1 r=>?_⟩
  obtain ⟨hH,m,rfl,hm⟩:=r
  subst hH
  refine ⟨fun hlt=>?_,fun hge=>⟨rfl,Sub.refl _⟩⟩
  have hlt:=of_decide_eq_true hlt
  obtain ⟨x,hx⟩:=get_some (l:=l) (i:=m) (by omega)
  obtain ⟨a,ha,hat⟩:=h.at_ m x hx
  refine ⟨a,⟨ha,by omega,by omega⟩,x,hat,fun q=>?_,fun q=>?_⟩
  ·have q:v=x:=by simpa using q
   subst q; exact absurd (List.mem_of_getElem? hx) hv
  ·rw [wrapi (by omega) (by omega)]
   refine ⟨⟨rfl,m+1,by omega,by omega⟩,?_⟩
   show (l.length-((m:Int)+1)).toNat<(l.length-(m:Int)).toNat
   omega
theorem t88 {l : List Int} (hb : l.length≤9223372036854775807) {H : Heap} {A : Option Addr} {n c : Nat} (h : HasI H A n l) (v : Int) :
  Tr Tryz.prog 88 #[.slice A n c,.int .i64 v] H (fun r H'=>r=.bool (l.contains v)∧Sub H H'):=by
 obtain ⟨x,hx,ht⟩:=t130 (c:=c) hb h v
 apply v88; unfold F88
 exact ⟨x,ht,by rw [hx],Sub.refl _⟩
structure ActM where
 (kind:Int) (e:Ev) (time value name:Int)
def fix7 (e:Ev):Ev:=if e.kind=18 then { e with b:=9 } else e
structure LS where
 (s:VS) (h:List Ev) (now:Int)
def LS.next (L:LS) (a:ActM):Ev:={ a.e with id:=(L.h.length:Int)+1,time:=L.now }
def LS.clock (L:LS) (a:ActM):Int:=if (decide (a.time>L.now)&&decide (a.time≤1099511627776))=true then a.time else L.now
def LS.step (p:Prg) (L:LS) (a:ActM):LS :=
  if a.kind=1 then
    (if stand (L.h++[L.next a])<(L.h++[L.next a]).length then L else
     if (L.s.apply (L.next a)).1=0 then ⟨(L.s.apply (L.next a)).2,L.h++[L.next a],L.now⟩ else ⟨(L.s.apply (L.next a)).2,L.h,L.now⟩)
  else if a.kind=2 then
    (if (L.s.Task p (L.clock a) a.value).1.2≠0 then ⟨(L.s.Task p (L.clock a) a.value).2,L.h,L.clock a⟩ else
     ⟨(L.s.Task p (L.clock a) a.value).2,(L.h++(L.s.Task p (L.clock a) a.value).1.1).map fix7,L.clock a⟩)
  else L
def LS.init:LS:=⟨VS.init,[],0⟩
structure LInv (p:Prg) (L:LS):Prop where
 inv:Inv p L.s
 x:L.s.expect=none
 c:L.s.count=L.h.length
theorem emit0_md (s:VS) (e:Ev):((s.emit0 e).2.made.length:Int)-(s.emit0 e).2.count=s.made.length-s.count:=by
 have k:=emits s e
 generalize s.emit0 e=q at k ⊢
 cases k with
 | live=>show ((s.made++[e]).length:Int)-(s.count+1)=_; rw [List.length_append,List.length_singleton]; omega
 | none=>rfl
 | other=>rfl
 | same w l hx hm=>show ((s.made++[w]).length:Int)-(s.count+1)=_; rw [List.length_append,List.length_singleton]; omega
theorem FStep.md {p:Prg} {b:Bool} {s s':VS} (q:FStep p b s s'):(s'.made.length:Int)-s'.count=s.made.length-s.count:=by
 cases q with
 | emit e ho hc =>
  unfold VS.emit; split
  ·exact emit0_md s _
  ·exact emit0_md s _
 | fails c ho=>exact emit0_md s _
 | done i v k=>rcases setDone_cases s i v k with e|⟨f,_,_,_,e⟩<;>rw [e]
 | mark i=>rcases mark_cases s i with e|⟨c,hc,e⟩<;>rw [e]
 | _=>rfl
theorem FSteps.md {p:Prg} {b:Bool} {s s':VS} (q:FSteps p b s s'):(s'.made.length:Int)-s'.count=s.made.length-s.count:=by
 induction q with
 | refl=>rfl
 | tail _ k ih=>exact k.md.trans ih
theorem Task_count {p:Prg} (ok:Okp p) {s:VS} (iv:Inv p s) {now draw:Int} (h:s.taskE now=0):((s.Task p now draw).1.1.length:Int)=(s.Task p now draw).2.count-s.count:=by
 have e:=Task_eq s p now draw
 rw [if_neg (by rw [h]; simp)] at e
 rw [e]
 have:=(task_steps ok (ready_inv iv draw) (ready_tasks h draw) now).md
 show (((s.ready_ draw).task p now).made.length:Int)=((s.ready_ draw).task p now).count-s.count
 have e1:(((s.ready_ draw).begin_ now).made.length:Int)=1:=rfl
 have e2:((s.ready_ draw).begin_ now).count=s.count+1:=rfl
 rw [e1,e2] at this
 omega
theorem Task_ok {s:VS} {p:Prg} {now draw:Int}:(s.Task p now draw).1.2=s.taskE now:=by
 rw [Task_eq]
 split
 ·rfl
 ·rename_i h; exact (Decidable.not_not.1 h).symm
theorem Task_no {s:VS} {p:Prg} {now draw:Int} (h:(s.Task p now draw).1.2≠0):(s.Task p now draw).2=s:=by
 rw [Task_ok] at h
 rw [Task_eq,if_pos h]
theorem apply_cases (s:VS) (e:Ev):((s.apply e).1≠0∧(s.apply e).2=s)∨((s.apply e).1=0∧s.over=false∧s.refuses e=false∧(s.apply e).2=s.counted.applied e):=by
 unfold VS.apply
 split
 ·exact .inl ⟨by show (46:Int)≠0; decide,rfl⟩
 ·rename_i ho
  split
  ·exact .inl ⟨by show (54:Int)≠0; decide,rfl⟩
  ·rename_i hr
   exact .inr ⟨rfl,by simpa using ho,by simpa using hr,rfl⟩
theorem setDone_count (s:VS) (i v k:Int):(s.setDone i v k).count=s.count∧(s.setDone i v k).expect=s.expect:=by
 rcases setDone_cases s i v k with e|⟨f,_,_,_,e⟩<;>rw [e]<;>exact ⟨rfl,rfl⟩
theorem applied_count (s:VS) (e:Ev):(s.applied e).count=s.count∧(s.applied e).expect=s.expect:=by
 have c:∀{P:Prop} [Decidable P] {x y:VS},(x.count=s.count∧x.expect=s.expect)→(y.count=s.count∧y.expect=s.expect)→((if P then x else y).count=s.count∧(if P then x else y).expect=s.expect):=fun h1 h2=>by split; exact h1; exact h2
 unfold VS.applied
 exact c ⟨rfl,rfl⟩ (c ⟨rfl,rfl⟩ (c ⟨rfl,rfl⟩ (c ⟨rfl,rfl⟩ (c (setDone_count s _ _ _) (c (setDone_count s _ _ _) (c (setDone_count s _ _ _) (c (setDone_count s _ _ _) (c (setDone_count s _ _ _) (c ⟨rfl,rfl⟩ ⟨rfl,rfl⟩)))))))))
theorem LInv.init (p:Prg):LInv p LS.init:=⟨init_inv p,rfl,rfl⟩
theorem LInv.step {p:Prg} (ok:Okp p) {L:LS} (h:LInv p L) (a:ActM):LInv p (L.step p a):=by
 unfold LS.step
 split
 ·split
  ·exact h
  ·rcases apply_cases L.s (L.next a) with ⟨e1,e2⟩|⟨e1,ho,hr,e2⟩
   ·rw [if_neg e1,e2]; exact h
   ·rw [if_pos e1]
    refine ⟨apply_inv ok h.inv h.x,?_,?_⟩
    ·show (L.s.apply (L.next a)).2.expect=none
     rw [e2,(applied_count _ _).2]; exact h.x
    ·show (L.s.apply (L.next a)).2.count=((L.h++[L.next a]).length:Int)
     rw [e2,(applied_count _ _).1,List.length_append,List.length_singleton]
     have:=h.c
     show L.s.count+1=_
     omega
 ·split
  ·split
   ·rename_i he
    rw [Task_no he]; exact ⟨h.inv,h.x,h.c⟩
   ·rename_i he
    have ht:L.s.taskE (L.clock a)=0:=by rw [←Task_ok]; exact Decidable.not_not.1 he
    have hc:=Task_count ok h.inv (draw:=a.value) ht
    refine ⟨Task_inv ok h.inv _ _,Task_expect ok h.inv h.x _ _,?_⟩
    show (L.s.Task p (L.clock a) a.value).2.count=(((L.h++(L.s.Task p (L.clock a) a.value).1.1).map fix7).length:Int)
    rw [List.length_map,List.length_append]
    have:=h.c
    omega
  ·exact h
theorem check_one {l:List Ev}:(checkV l=.tuple #[.int .i64 52,.int .i64 (stand l:Nat)]∧stand l<l.length)∨(checkV l=.tuple #[.int .i64 0,.int .i64 0]∧¬stand l<l.length):=by
 unfold checkV
 split
 ·rename_i h; exact .inl ⟨rfl,h⟩
 ·rename_i h; exact .inr ⟨rfl,h⟩
theorem Hand.app {G0 H : Heap} {q : SlH} {sz : Nat} {cs : List Value} (hd : Hand G0 H q sz cs) {e : TypeId} {bytes : Nat} {new : List Value} {k : Nat} (hk : new.length=k*sz) (h1 : allOne new=true) (hb : (q.n+k)*bytes≤140737488355328) (hl : q.n+k≤9223372036854775807)
  {K:Option Addr→Nat→Nat→Heap→Prop} (r:∀A' c' H',Hand G0 H' ⟨A',q.n+k,c'⟩ sz (cs++new)→K A' (q.n+k) c' H'):appC e sz bytes H q.A q.n q.c new k K:=by
 have ok:=hd.sl
 have hlen:=ok.len
 refine ⟨⟨cs,ok.src,ok.len,hk,h1,hb,hl,fun hcap=>?_,fun hcap i cap rest hbn hle hr=>?_⟩⟩
 ·rcases ok.at_ with ⟨a1,a2,a3⟩|⟨i,off,cur,T,a1,a2,a3,a4⟩
  ·left
   have k0:k=0:=by omega
   subst k0
   have hn:new=[]:=List.length_eq_zero_iff.1 (by omega)
   subst hn
   refine ⟨rfl,r _ _ _ ⟨hd.g,⟨by rw [List.append_nil]; simpa using ok.len,hcap,.inl ⟨a1,by simp only; omega,a3⟩⟩,fun i hi=>?_⟩⟩
   unfold SlH.blk at hi; simp only at hi; rw [a1] at hi; cases hi
  ·right
   have hsz:(off+q.n*sz)+new.length≤cur.size:=by
    have:(q.n+k)*sz≤q.c*sz:=Nat.mul_le_mul_right _ hcap
    rw [Nat.add_mul] at this
    omega
   have hblk:q.blk=some i:=by unfold SlH.blk; rw [a1]; rfl
   refine ⟨⟨i,off,none⟩,cur,T,a1,rfl,a2,hsz,r _ _ _ ⟨base_upd hd.g (hd.free i hblk) _,⟨?_,hcap,.inr ⟨i,off,_,T,a1,Heap.upd_same,?_,fun j v hv=>?_⟩⟩,fun b' hb'=>?_⟩⟩
   ·rw [List.length_append,hlen,hk,Nat.add_mul]
   ·rw [splice_size hsz]; exact a3
   ·by_cases hj:j<q.n*sz
    ·rw [List.getElem?_append_left (by omega)] at hv
     rw [splice_get hsz,if_pos (by omega)]; exact a4 j v hv
    ·have hlt:=get_lt hv
     rw [List.length_append] at hlt
     rw [List.getElem?_append_right (by omega),hlen] at hv
     rw [splice_get hsz,if_neg (by omega),if_pos (by omega)]
     rw [←hv]; congr 1; omega
   ·unfold SlH.blk at hb'; simp only at hb'; rw [a1] at hb'; cases hb'
    exact hd.free i hblk
 ·refine r _ _ _ ⟨hd.g.trans (Sub.upd_new hbn),⟨by rw [List.length_append,ok.len,hk,Nat.add_mul],hle,.inr ⟨i,0,_,e,rfl,Heap.upd_same,?_,fun j v hv=>?_⟩⟩,fun b' hb'=>?_⟩
  ·simp only [List.size_toArray,List.length_append,ok.len,hk,hr]
   rw [←Nat.add_mul,←Nat.add_mul]
   have:q.n+k+(cap-(q.n+k))=cap:=by omega
   rw [this]; simp
  ·have hj:=get_lt hv
   simp only [List.getElem?_toArray,Nat.zero_add]
   rw [List.getElem?_append_left hj]; exact hv
  ·unfold SlH.blk at hb'; simp only at hb'; cases hb'
   exact none_below hd.g hbn
structure RunL (G H:Heap) (sl:Nat→SlH) (R:RS):Prop where
 gh:Sub G H
 own:∀c,c<5→∀i,(sl c).blk=some i→G i=none
 inj:∀c c' i,c<5→c'<5→(sl c).blk=some i→(sl c').blk=some i→c=c'
 ok:∀c,c<5→SlOk H (sl c) (szR c) (contR R c)
 attrs:R.attrs.length=4
theorem RunX.l {G H:Heap} {b:Nat} {sl:Nat→SlH} {R:RS} (h:RunX G H b sl R):RunL G H sl R:=⟨h.gh,fun c hc i hi=>(h.own c hc i hi).1,h.inj,h.ok,h.attrs⟩
theorem RunL.box {G H:Heap} {sl:Nat→SlH} {R:RS} (h:RunL G H sl R) {b:Nat} (hb:H b=none):RunX G (H.upd b (.cells ⟨rCells sl R⟩ 34 (0,0))) b sl R :=
 ⟨h.gh.trans (Sub.upd_new hb),none_below h.gh hb,Heap.upd_same,fun c hc i hi=>⟨h.own c hc i hi,fun e=>(by subst e; have:=(h.ok c hc).blk_some hi; rw [hb] at this; cases this)⟩,h.inj,fun c hc=>(h.ok c hc).sub (Sub.upd_new hb),h.attrs⟩
theorem splice_all {cur:Array Value} {vs:List Value} (h:cur.size=vs.length):splice cur 0 vs=⟨vs⟩:=by
 unfold splice
 rw [List.take_zero,List.nil_append,Nat.zero_add,List.drop_of_length_le (by simp [h]),List.append_nil]
theorem RunL.var {G H : Heap} {sl : Nat→SlH} {R : RS} (h : RunL G H sl R) {b : Nat} (hb : H b=none) {cur : List Value} (hc : cur.length=20) {H1 : Heap} (e1 : H1=H.upd b (.cells ⟨cur⟩ 34 (0, 0))) {K : Heap→Prop} (k : ∀H', RunX G H' b sl R→K H') :
  ∃(c:Array Value) (T:TypeId),H1 (⟨b,0,none⟩:Addr).block=some (.cells c T (0,0))∧(⟨b,0,none⟩:Addr).spot=none∧(⟨b,0,none⟩:Addr).off+(rCells sl R).length≤c.size∧∀H2,H2=H1.upd (⟨b,0,none⟩:Addr).block (.cells (splice c (⟨b,0,none⟩:Addr).off (rCells sl R)) T (0,0))→K H2:=by
 subst e1
 refine ⟨⟨cur⟩,_,Heap.upd_same,rfl,by show 0+20≤cur.length; omega,fun H2 e2=>k H2 ?_⟩
 rw [e2]
 show RunX G ((H.upd b _).upd b (.cells (splice ⟨cur⟩ 0 (rCells sl R)) 34 (0,0))) b sl R
 rw [Heap.upd_upd,splice_all (by show cur.length=20; exact hc)]
 exact h.box hb
def RS.start (number:Int) (id:ByteArray):RS:={ RS.zero with number:=number,id:=id }
def RS.new (number:Int) (id:ByteArray) (x:Ev):RS:=(RS.start number id).book { x with id:=1,kind:=1 }
def slNil:Nat→SlH:=fun _=>⟨none,0,0⟩
theorem zero_l (H:Heap) (number:Int) (id:ByteArray):RunL H H slNil (RS.start number id) :=
 ⟨Sub.refl _,fun c hc i hi=>(by cases hi),fun c c' i _ _ hi=>(by cases hi),five (P:=fun c=>SlOk H (slNil c) (szR c) (contR (RS.start number id) c)) (Hand.nil (Sub.refl H) 9).sl (Hand.nil (Sub.refl H) 10).sl (Hand.nil (Sub.refl H) 2).sl (Hand.nil (Sub.refl H) 5).sl (Hand.nil (Sub.refl H) 4).sl,rfl⟩
structure NewR (G:Heap) (R:RS) (v:Value) (H':Heap):Prop where
 out:∃sl,v=.agg ⟨rCells sl R⟩∧RunL G H' sl R
theorem t21 (number:Int) (id:ByteArray) (x:Ev) (H:Heap):Tr Tryz.prog 21 #[.int .i64 number,.string id,x.val] H fun v H'=>NewR H (RS.new number id x) v H':=by
 apply v21; unfold F21
 intro b hb H1 e1
 refine (zero_l H number id).var hb (cur:=rCells slNil RS.zero) rfl e1 fun H2 h2=>?_
 refine (t43 h2 ⟨Nat.zero_le _,Nat.zero_le _,Nat.zero_le _,Nat.zero_le _,Nat.zero_le _⟩ { x with id:=1,kind:=1 } (fun e=>by cases e)).mono fun v H3 ⟨A,n,c,hv,⟨sl3,h3⟩,_,_⟩=>?_
 exact ⟨A,n,c,hv,_,_,_,_,_,_,_,_,_,_,_,_,_,_,_,_,_,_,_,_,_,_,_,_,_,_,_,_,_,_,h3.at,⟨sl3,rfl,h3.l⟩⟩
theorem t26 (sl:Nat→SlH) (R:RS) (H:Heap):Tr Tryz.prog 26 #[.agg ⟨rCells sl R⟩] H fun v H'=>v=.bool (R.status==1)∧Sub H H':=v26 (show _ from ⟨rfl,Sub.refl _⟩)
def fullM (id now:Int):Ev:=⟨id,now,16,-4,0,0,0,0,0⟩
def RS.next (R:RS) (e:Ev) (now:Int):Ev:={ e with id:=(R.events.length:Int)+1,time:=now }
def RS.Add (R:RS) (e:Ev) (now:Int):(Int×List OutM×Int)×RS :=
 if (!(R.status==1))=true then ((0,[],46),R) else
 if (!outR (R.next e now)||decide (stand (R.events++[R.next e now])<(R.events++[R.next e now]).length))=true then ((0,[],54),R) else
 if ((R.next e now).id==256&&!closeM e.kind)=true then (((R.next e now).id,R.tells (fullM (R.next e now).id now),49),R.book (fullM (R.next e now).id now)) else
 (((R.next e now).id,R.tells (R.next e now),0),R.book (R.next e now))
structure AddR (G:Heap) (b:Nat) (z:(Int×List OutM×Int)×RS) (v:Value) (H':Heap):Prop where
 out:∃A n c,v=.tuple #[.int .i64 z.1.1,.slice A n c,.int .i64 z.1.2.2]∧RunE G H' b z.2∧n=z.1.2.1.length∧Src H' A (z.1.2.1.flatMap OutM.cells)
theorem t54 (id now:Int) (H:Heap):Tr Tryz.prog 54 #[.int .i64 id,.int .i64 now] H fun v H'=>v=(fullM id now).val∧H'=H:=v54 (show _ from ⟨rfl,rfl⟩)
structure RAdd (G H:Heap) (b:Nat) (sl:Nat→SlH) (R:RS) (l:List Ev) (x:Int) (H1:Heap):Prop where
 x:x=if stand l<l.length then 52 else 0
 h:RunX G H1 b sl R
theorem t16 {G H:Heap} {b:Nat} {sl:Nat→SlH} {R:RS} (h:RunX G H b sl R) (sm:R.Small) (e:Ev) (now:Int):Tr Tryz.prog 16 #[.pointer (some ⟨b,0,none⟩),e.val,.int .i64 now] H fun v H'=>AddR G b (R.Add e now) v H':=by
  have sE:=sm.e
  have l0:=h.len0
  apply v16; unfold F16
  refine ⟨fun e=>absurd e (by simp),fun _=>⟨_,rfl,_,_,_,_,_,_,_,_,_,_,_,_,_,_,_,_,_,_,_,_,_,_,_,_,_,_,_,_,_,_,h.at,_,t26 sl R H,fun q=>?_,fun q=>⟨_,rfl,_,_,_,h.cell (k:=15) rfl,?_⟩⟩⟩
  · have ea:R.Add e now=((0,[],46),R):=by unfold RS.Add; rw [if_pos q]
    rw [ea]
    exact ⟨none,0,0,rfl,h.e,rfl,.inl rfl⟩
  have hw:IntKind.i64.wrap (((sl 0).n:Int)+1)=(R.events.length:Int)+1:=by rw [wrapi (by omega) (by omega),l0]
  rw [hw]
  have ea : R.Add e now = if (!outR (R.next e now) || decide (stand (R.events ++ [R.next e now]) < (R.events ++ [R.next e now]).length)) = true then ((0, [], 54), R) else
      if ((R.next e now).id==256&&!closeM e.kind)=true then (((R.next e now).id,R.tells (fullM (R.next e now).id now),49),R.book (fullM (R.next e now).id now)) else (((R.next e now).id,R.tells (R.next e now),0),R.book (R.next e now)):=by
    conv=>lhs; unfold RS.Add
    rw [if_neg (by rw [q]; decide)]
  have hx:R.next e now={ e with id:=(R.events.length:Int)+1,time:=now }:=rfl
  refine ⟨RAdd G H b sl R (R.events++[R.next e now]),?_,fun x H1 ⟨hxx,h1⟩=>?_⟩
  · have core : Tr Tryz.prog 51 #[(sl 0).v] H fun v H1 => ∃ A n c, v = .slice A n c ∧ appC 47 9 72 H1 A n c (R.next e now).cells 1 fun A' n' c' H2 => ∃ x y : Int, (Tr Tryz.prog 36 #[.slice A' n' c'] H2 fun v H3 => v = .tuple #[.int .i64 x, .int .i64 y] ∧ Sub H2 H3) ∧ RAdd G H b sl R (R.events ++ [R.next e now]) x H2 := by
      refine Tr.mono (K:=fun v H1=>∃q1:SlH,v=q1.v∧q1.n=R.events.length∧Hand H H1 q1 9 (R.events.flatMap Ev.cells)) ?_ fun v H1 ⟨q1,hv,hqn,hd⟩=>⟨_,_,_,hv,?_⟩
      · apply v51; unfold F51
        have ok:=h.ok 0 (by decide)
        exact clone_in (bytes:=72) (K:=fun v H1=>∃q1:SlH,v=q1.v∧q1.n=R.events.length∧Hand H H1 q1 9 (R.events.flatMap Ev.cells)) ok.src ok.len ok.nil_n (evs_one _) (by omega) (by omega) fun q1 H1 hq hd=>⟨q1,rfl,by rw [hq,l0],hd⟩
      · refine hd.app (new:=(R.next e now).cells) (k:=1) rfl rfl (by omega) (by omega) fun A' c' H2 hd2=>?_
        have hd2:Hand H H2 ⟨A',q1.n+1,c'⟩ 9 ((R.events++[R.next e now]).flatMap Ev.cells):=by rw [List.flatMap_append,List.flatMap_singleton]; exact hd2
        have he:=hand_evs hd2.sl
        have gc:=t36 (c:=c') (by rw [List.length_append,List.length_singleton]; omega) he
        rcases check_one (l:=R.events++[R.next e now]) with ⟨cv,hs⟩|⟨cv,hs⟩
        · rw [cv] at gc
          exact ⟨_,_,gc,by rw [if_pos hs],h.grow hd2.g⟩
        · rw [cv] at gc
          exact ⟨_,_,gc,by rw [if_neg hs],h.grow hd2.g⟩
    exact ⟨_,rfl,⟨_,_,_,h.cell (k:=15) rfl,core,core⟩,_,_,_,h.cell (k:=15) rfl,core⟩
  · have key : (!outR (R.next e now) || x != 0) = (!outR (R.next e now) || decide (stand (R.events ++ [R.next e now]) < (R.events ++ [R.next e now]).length)) := by
      rw [hxx]
      by_cases hs:stand (R.events++[R.next e now])<(R.events++[R.next e now]).length
      · rw [if_pos hs,decide_eq_true hs]; rfl
      · rw [if_neg hs,decide_eq_false hs]; rfl
    refine ⟨_,t52 (R.next e now) H1,fun q2=>?_,fun q2=>?_⟩
    · rw [ea,if_pos (by rw [←key]; exact q2)]
      exact ⟨none,0,0,rfl,h1.e,rfl,.inl rfl⟩
    have q4:¬(!outR (R.next e now)||decide (stand (R.events++[R.next e now])<(R.events++[R.next e now]).length))=true:=by rw [←key,q2]; decide
    rw [if_neg q4] at ea
    refine ⟨_,fun _=>t53 e.kind H1,fun q3=>?_,fun q3=>?_⟩
    · rw [if_pos (show ((R.next e now).id==256&&!closeM e.kind)=true from q3)] at ea
      rw [ea]
      refine (t54 ((R.events.length:Int)+1) now H1).mono fun v H2 ⟨hv,eH⟩=>⟨_,_,_,_,_,_,_,_,_,hv,?_⟩
      rw [eH]
      exact (t43 h1 sm (fullM ((R.events.length:Int)+1) now) (fun e=>by cases e)).mono fun v H3 ⟨A,n,c,hv,h3,hn,hs⟩=>⟨A,n,c,hv,A,n,c,rfl,h3,hn,hs⟩
    · rw [if_neg (by rw [show ((R.next e now).id==256&&!closeM e.kind)=false from q3]; decide)] at ea
      rw [ea]
      have hk:(R.next e now).kind=10→0≤(R.next e now).a∧(R.next e now).a<4:=fun k=>by
        exfalso
        apply q4
        have:outR (R.next e now)=false:=by unfold outR; rw [k]; rfl
        rw [this]; rfl
      exact (t43 h1 sm (R.next e now) hk).mono fun v H3 ⟨A,n,c,hv,h3,hn,hs⟩=>⟨A,n,c,hv,A,n,c,rfl,h3,hn,hs⟩
structure TM (c0 now:Int) (s:VS):Prop where
 x:s.expect=none
 nw:s.now=now
 len:s.count=c0+s.made.length
 first:s.made[0]?=some ⟨c0+1,now,2,c0,0,0,0,0,0⟩
 row:∀(i:Nat) (x:Ev),s.made[i]?=some x→x.id=c0+1+i∧x.time=now∧(i≠0→cmdM x.kind=true)
 open_:s.over=false→∀(i:Nat) (x:Ev),s.made[i]?=some x→closeM x.kind=false
 shut:s.over=true→∃x,s.made.getLast?=some x∧closeM x.kind=true∧∀(i:Nat) (y:Ev),s.made[i]?=some y→i+1<s.made.length→closeM y.kind=false
theorem snoc_get {α:Type} {l:List α} {x y:α} {i:Nat} (h:(l++[x])[i]?=some y):(i<l.length∧l[i]?=some y)∨(i=l.length∧y=x):=by
 by_cases hi:i<l.length
 ·rw [List.getElem?_append_left hi] at h; exact .inl ⟨hi,h⟩
 ·have hl:=get_lt h
  rw [List.length_append,List.length_singleton] at hl
  have:i=l.length:=by omega
  subst this
  rw [List.getElem?_append_right (Nat.le_refl _),Nat.sub_self] at h
  cases h; exact .inr ⟨rfl,rfl⟩
theorem TM.push {c0 now:Int} {s:VS} (t:TM c0 now s) (ho:s.over=false) {e:Ev} (h1:e.id=s.count+1) (h2:e.time=s.now) (h3:cmdM e.kind=true):TM c0 now (s.push e):=by
 have hlen:=t.len
 have hpos:0<s.made.length:=get_lt t.first
 have hml:(s.made++[e]).length=s.made.length+1:=by simp
 refine ⟨t.x,t.nw,by show s.count+1=c0+((s.made++[e]).length:Int); rw [hml]; omega,?_,fun i x hx=>?_,fun hov i x hx=>?_,fun hov=>⟨e,by show (s.made++[e]).getLast?=some e; simp,?_,fun i y hy hi=>?_⟩⟩
 ·show (s.made++[e])[0]?=_
  rw [List.getElem?_append_left hpos]; exact t.first
 ·rcases snoc_get (show (s.made++[e])[i]?=some x from hx) with ⟨-,q⟩|⟨q,rfl⟩
  ·exact t.row i x q
  ·exact ⟨by omega,h2.trans t.nw,fun _=>h3⟩
 ·have hc : closeM e.kind=false := by
   cases hc:closeM e.kind with
   | false=>rfl
   | true =>
    have:(if closeM e.kind=true then true else s.over)=false:=hov
    rw [if_pos hc] at this; cases this
  rcases snoc_get (show (s.made++[e])[i]?=some x from hx) with ⟨-,q⟩|⟨q,rfl⟩
  ·exact t.open_ ho i x q
  ·exact hc
 ·cases hc:closeM e.kind with
  | true=>rfl
  | false =>
   have:(if closeM e.kind=true then true else s.over)=true:=hov
   rw [if_neg (by rw [hc]; simp),ho] at this; cases this
 ·rcases snoc_get (show (s.made++[e])[i]?=some y from hy) with ⟨-,q⟩|⟨q,rfl⟩
  ·exact t.open_ ho i y q
  ·have:i+1<(s.made++[y]).length:=hi
   rw [hml] at this; omega
theorem TM.emit0 {c0 now:Int} {s:VS} (t:TM c0 now s) (ho:s.over=false) {e:Ev} (h1:e.id=s.count+1) (h2:e.time=s.now) (h3:cmdM e.kind=true):TM c0 now (s.emit0 e).2:=by
 have:(s.emit0 e).2=s.push e:=by unfold VS.emit0; rw [t.x]
 rw [this]; exact t.push ho h1 h2 h3
theorem TM.congr {c0 now:Int} {s s':VS} (t:TM c0 now s) (e1:s'.expect=s.expect) (e2:s'.now=s.now) (e3:s'.count=s.count) (e4:s'.made=s.made) (e5:s'.over=s.over):TM c0 now s' :=
 ⟨e1.trans t.x,e2.trans t.nw,by rw [e3,e4]; exact t.len,by rw [e4]; exact t.first,by rw [e4]; exact t.row,by rw [e4,e5]; exact t.open_,by rw [e4,e5]; exact t.shut⟩
theorem FStep.tm {p:Prg} {b:Bool} {s s':VS} {c0 now:Int} (q:FStep p b s s') (t:TM c0 now s):TM c0 now s':=by
 cases q with
 | emit e ho hc =>
  unfold VS.emit; split
  ·exact t.emit0 ho rfl rfl rfl
  ·exact t.emit0 ho rfl rfl hc
 | fails c ho=>exact t.emit0 ho rfl rfl rfl
 | done i v k=>rcases setDone_cases s i v k with e|⟨f,_,_,_,e⟩<;>rw [e]; exact t; exact t.congr rfl rfl rfl rfl rfl
 | mark i=>rcases mark_cases s i with e|⟨c,hc,e⟩<;>rw [e]; exact t; exact t.congr rfl rfl rfl rfl rfl
 | _=>exact t.congr rfl rfl rfl rfl rfl
theorem FSteps.tm {p:Prg} {b:Bool} {s s':VS} {c0 now:Int} (q:FSteps p b s s') (t:TM c0 now s):TM c0 now s':=by
 induction q with
 | refl=>exact t
 | tail _ k ih=>exact k.tm ih
theorem begin_tm {s:VS} (hx:s.expect=none) (ho:s.over=false) (now:Int):TM s.count now (s.begin_ now):=by
 refine ⟨hx,rfl,rfl,rfl,fun i x hi=>?_,fun _ i x hi=>?_,fun h=>?_⟩
 ·have hi:[(⟨s.count+1,now,2,s.count,0,0,0,0,0⟩:Ev)][i]?=some x:=hi
  cases i with
  | zero=>cases hi; exact ⟨by show s.count+1=s.count+1+((0:Nat):Int); omega,rfl,fun h=>absurd rfl h⟩
  | succ i=>cases hi
 ·have hi:[(⟨s.count+1,now,2,s.count,0,0,0,0,0⟩:Ev)][i]?=some x:=hi
  cases i with
  | zero=>cases hi; rfl
  | succ i=>cases hi
 ·have:s.over=true:=h
  rw [ho] at this; cases this
theorem Task_tm {p:Prg} (ok:Okp p) {s:VS} (iv:Inv p s) {now draw:Int} (h:s.taskE now=0):(s.Task p now draw).1.1=(s.Task p now draw).2.made∧TM s.count now (s.Task p now draw).2:=by
 have e:=Task_eq s p now draw
 rw [if_neg (by rw [h]; simp)] at e
 rw [e]
 have tk:=ready_tasks h draw
 exact ⟨rfl,(task_steps ok (ready_inv iv draw) tk now).tm (begin_tm (s:=s.ready_ draw) rfl tk.ho now)⟩
def Gram (h:List Ev):Prop:=∀(j:Nat) (x:Ev),h[j]?=some x→mayP (h.take j) x=true
theorem gram_stand {h:List Ev} (g:Gram h):stand h=h.length:=stand_spec (fun j _ x hx=>g j x hx) (Nat.le_refl _) (fun x hx=>by rw [List.getElem?_eq_none (Nat.le_refl _)] at hx; cases hx)
theorem standG_all:∀(l pre:List Ev),¬standG pre l<l.length→∀(j:Nat) (x:Ev),l[j]?=some x→mayP (pre++l.take j) x=true
 | [],_,_,j,x,hx=>by cases hx
 | y::l,pre,h,j,x,hx=>by
  unfold standG at h
  by_cases hm:mayP pre y=true
  ·rw [if_pos hm,List.length_cons] at h
   cases j with
   | zero=>cases hx; simpa using hm
   | succ j =>
    have:=standG_all l (pre++[y]) (by omega) j x (by simpa using hx)
    simpa using this
  ·rw [if_neg hm,List.length_cons] at h
   exact absurd (Nat.succ_pos _) h
theorem gram_of {h:List Ev} (hs:¬stand h<h.length):Gram h:=fun j x hx=>by
 have:=standG_all h [] hs j x hx
 simpa using this
theorem gram_snoc {h:List Ev} {e:Ev} (g:Gram h) (m:mayP h e=true):Gram (h++[e]):=fun j x hx=>by
 rcases snoc_get hx with ⟨hj,q⟩|⟨hj,rfl⟩
 ·rw [List.take_append_of_le_length (by omega)]; exact g j x q
 ·rw [hj,List.take_left]; exact m
theorem may_names {pre:List Ev} {e:Ev} (h:mayP pre e=true) (hp:pre≠[]):namesP pre e=true:=by
 unfold mayP at h
 split at h
 ·cases h
 ·split at h
  ·cases h
  ·split at h
   ·cases h
   ·exact h
theorem may_head {pre:List Ev} {e:Ev} (h:mayP pre e=true):validM e=true∧e.id=pre.length+1∧((e.kind=1)↔pre=[]):=by
 unfold mayP at h
 split at h
 ·cases h
 ·rename_i hx
  simp only [Bool.or_eq_true,not_or,Bool.not_eq_true,Bool.and_eq_false_iff] at hx
  obtain ⟨⟨⟨h1,h2⟩,h3⟩,h4⟩:=hx
  refine ⟨by simpa using h1,by simpa using h2,fun hk=>?_,fun hp=>?_⟩
  ·rcases h3 with h3|h3
   ·rw [hk] at h3; cases h3
   ·have:(pre.length:Int)=0:=by simpa using h3
    exact List.length_eq_zero_iff.1 (by omega)
  ·rcases h4 with h4|h4
   ·simpa using h4
   ·subst hp; cases h4
theorem may_last {pre:List Ev} {e:Ev} (h:mayP pre e=true) (hp:pre≠[]):(lastP pre).time≤e.time∧closeM (lastP pre).kind=false:=by
 unfold mayP at h
 split at h
 ·cases h
 ·split at h
  ·cases h
  ·rename_i hx
   simp only [Bool.or_eq_true,not_or,Bool.not_eq_true] at hx
   exact ⟨by have:=hx.1.1; simpa using this,hx.1.2⟩
theorem may_of {pre : List Ev} {e : Ev} (hp : pre≠[]) (hv : validM e=true) (hid : e.id=pre.length+1) (hk : e.kind≠1) (ht : (lastP pre).time≤e.time) (hc : closeM (lastP pre).kind=false) (h2 : e.kind=2→e.a=pre.length)
  (hcm:cmdM e.kind=true→((lastP pre).kind=2∨cmdM (lastP pre).kind=true)∧e.time=(lastP pre).time) (hn:namesP pre e=true):mayP pre e=true:=by
 have hpl:(pre.length:Int)≠0:=fun h=>hp (List.length_eq_zero_iff.1 (by omega))
 unfold mayP
 rw [if_neg,if_neg hp,if_neg,if_neg]
 ·exact hn
 ·simp only [Bool.and_eq_true,Bool.or_eq_true,not_and,not_or]
  intro h1
  obtain ⟨q1,q2⟩:=hcm h1.1
  refine ⟨fun h=>?_,by simpa using q2⟩
  rcases q1 with q1|q1
  ·rw [q1] at h; simp at h
  ·rw [q1]; simp
 ·simp only [Bool.or_eq_true,not_or,Bool.not_eq_true,Bool.and_eq_true,not_and]
  exact ⟨⟨by simpa using ht,hc⟩,fun h=>by have:=h2 (by simpa using h); simpa using this⟩
 ·simp only [Bool.or_eq_true,not_or,Bool.not_eq_true]
  refine ⟨⟨⟨by simpa using hv,by simpa using hid⟩,?_⟩,?_⟩
  ·have:(e.kind==1)=false:=by simpa using hk
   rw [this]; rfl
  ·have:((pre.length:Int)==0)=false:=by simpa using hpl
   rw [this,Bool.and_false]
theorem anyP_get {h:List Ev} {id:Int} {ks:List Int} (a:anyP h id ks=true):∃(j:Nat) (x:Ev),h[j]?=some x∧ks.contains x.kind=true∧x.a=id:=by
 unfold anyP at a
 rw [List.any_eq_true] at a
 obtain ⟨x,hx,q⟩:=a
 obtain ⟨j,hj⟩:=List.getElem?_of_mem hx
 rw [Bool.and_eq_true] at q
 exact ⟨j,x,hj,q.1,by simpa using q.2⟩
theorem isP_mono {h:List Ev} {id k:Int} (a:isP h id k=true) (x:Ev):isP (h++[x]) id k=true:=by
 obtain ⟨h1,h2,y,hy,hk⟩:=isP_some a
 unfold isP
 rw [List.getElem?_append_left (get_lt hy),hy]
 simp only [List.length_append,List.length_singleton]
 have:decide (id≥1)=true:=by simpa using h1
 rw [this]
 simp [hk]; omega
theorem isP_last (h:List Ev) (x:Ev):isP (h++[x]) (h.length+1) x.kind=true:=by
 unfold isP
 have e:((h.length:Int)+1-1).toNat=h.length:=by omega
 rw [e,List.getElem?_append_right (Nat.le_refl _),Nat.sub_self]
 simp
 omega
def namers:List Int:=[6,7,8,12,13,14,22,23,24,25,26,27,28]
theorem names_is {pre:List Ev} {e:Ev} (h:namesP pre e=true) (hk:namers.contains e.kind=true):∃k,isP pre e.a k=true:=by
 unfold namesP at h
 split at h
 ·simp at h; exact ⟨_,h.1⟩
 ·split at h
  ·simp at h; exact ⟨_,h.1⟩
  ·split at h
   ·simp at h; exact ⟨_,h.1.1⟩
   ·split at h
    ·simp at h; exact ⟨_,h.1⟩
    ·split at h
     ·simp at h; exact ⟨_,h.1.1⟩
     ·split at h
      ·simp at h; exact ⟨_,h.1⟩
      ·split at h
       ·exact ⟨_,h⟩
       ·split at h
        ·simp at h; exact ⟨_,h.1⟩
        ·split at h
         ·simp at h; exact ⟨_,h.1⟩
         ·split at h
          ·simp at h; exact ⟨_,h.1.1⟩
          ·exfalso
           simp [namers] at hk
           omega
theorem named_lt {h:List Ev} (g:Gram h) {id:Int} {ks:List Int} (hks:∀k,ks.contains k=true→namers.contains k=true) (a:anyP h id ks=true):1≤id∧id<h.length:=by
 obtain ⟨j,x,hx,hk,rfl⟩:=anyP_get a
 have hj:=get_lt hx
 have m:=g j x hx
 have hp:h.take j≠[]:=fun e=>by
  have:=(may_head m).2.2.2 e
  have:=hks _ hk
  simp [namers] at this
  omega
 obtain ⟨k,hi⟩:=names_is (may_names m hp) (hks _ hk)
 obtain ⟨h1,h2,-⟩:=isP_some hi
 rw [List.length_take] at h2
 exact ⟨h1,by omega⟩
theorem named_none {h:List Ev} (g:Gram h) {id:Int} {ks:List Int} (hks:∀k,ks.contains k=true→namers.contains k=true) (hid:(h.length:Int)≤id):anyP h id ks=false:=by
 cases a:anyP h id ks with
 | false=>rfl
 | true=>have:=named_lt g hks a; omega
theorem answered_accepted {h:List Ev} (g:Gram h) {id:Int} (a:anyP h id [14]=true):anyP h id [12]=true:=by
 obtain ⟨j,x,hx,hk,rfl⟩:=anyP_get a
 have hk:x.kind=14:=by simpa using hk
 have m:=g j x hx
 have hp:h.take j≠[]:=fun e=>by have:=(may_head m).2.2.2 e; omega
 have n:=may_names m hp
 unfold namesP at n
 rw [if_neg (by omega),if_neg (by omega),if_neg (by omega),if_neg (by omega),if_neg (by omega),if_neg (by omega),if_neg (by omega),if_neg (by omega),if_neg (by omega),if_pos hk] at n
 simp at n
 have:=anyP_take (l:=h) (m:=j) (k:=h.length) (by have:=get_lt hx; omega) n.1.2
 rw [List.take_length] at this
 exact this
theorem any_sub {h:List Ev} {id:Int} {ks ls:List Int} (hs:∀k,ks.contains k=true→ls.contains k=true) (a:anyP h id ls=false):anyP h id ks=false:=by
 cases b:anyP h id ks with
 | false=>rfl
 | true =>
  obtain ⟨j,x,hx,hk,rfl⟩:=anyP_get b
  have:anyP h x.a ls=true:=by
   unfold anyP
   rw [List.any_eq_true]
   exact ⟨x,List.mem_of_getElem? hx,by rw [hs _ hk]; simp⟩
  rw [a] at this; cases this
structure GO (H:List Ev) (s:VS) (pd:List Nat) (pu:List Ev) (dx:Option Nat):Prop where
 fe:∀(i:Nat) (f:Fut),s.futures[i]?=some f→f.event≠0→isP H f.event f.kind=true∧(f.kind=3∨f.kind=4∨f.kind=5)
 f0:∀(i:Nat) (f:Fut),s.futures[i]?=some f→f.event=0→f.done=true∨f.kind=0
 fu:∀(i j:Nat) (f g:Fut),s.futures[i]?=some f→s.futures[j]?=some g→f.event=g.event→f.event≠0→i=j
 f3:∀(i:Nat) (f:Fut),s.futures[i]?=some f→f.event≠0→f.done=false→f.kind=3→anyP H f.event [6,22,23,24]=false
 f4:∀(i:Nat) (f:Fut),s.futures[i]?=some f→f.event≠0→f.done=false→f.kind=4→anyP H f.event [7,25]=false
 f5:∀(i:Nat) (f:Fut),s.futures[i]?=some f→f.event≠0→f.done=false→f.kind=5→anyP H f.event [27,28]=false
 f8:∀(i:Nat) (f:Fut),s.futures[i]?=some f→f.event≠0→f.done=false→f.kind=5→(s.cancelled f.scope=false∨i∈pd)→anyP H f.event [8]=false
 fz:∀(i:Nat) (f:Fut),s.futures[i]?=some f→f.done=false→(f.kind=3∨f.kind=4)→s.cancelled f.scope=false∨i∈pd
 ua:∀u∈pu,isP H u.id 21=true∧anyP H u.id [12,13]=false
 ud:pu.Pairwise fun a b=>a.id≠b.id
 ta:∀(i:Nat) (t:Thr),s.threads[i]?=some t→t.update≠0→isP H t.update 21=true∧anyP H t.update [12]=true∧(some i≠dx→anyP H t.update [14]=false)
 tu:∀(i j:Nat) (t u:Thr),s.threads[i]?=some t→s.threads[j]?=some u→t.update=u.update→t.update≠0→i=j
theorem GO.congr {H:List Ev} {s s':VS} {pd:List Nat} {pu:List Ev} {dx:Option Nat} (g:GO H s pd pu dx) (e1:s'.futures=s.futures) (e2:s'.scopes=s.scopes) (e3:s'.threads=s.threads):GO H s' pd pu dx:=by
 have c:=keepE_canc e2
 exact ⟨by rw [e1]; exact g.fe,by rw [e1]; exact g.f0,by rw [e1]; exact g.fu,by rw [e1]; exact g.f3,by rw [e1]; exact g.f4,by rw [e1]; exact g.f5,by rw [e1]; simp only [c]; exact g.f8,by rw [e1]; simp only [c]; exact g.fz,g.ua,g.ud,by rw [e3]; exact g.ta,by rw [e3]; exact g.tu⟩
theorem any_snoc_no {H:List Ev} {x:Ev} {id:Int} {ks:List Int} (a:anyP H id ks=false) (n:ks.contains x.kind=true→x.a≠id):anyP (H++[x]) id ks=false:=by
 rw [anyP_snoc,a,Bool.false_or]
 cases hk:ks.contains x.kind with
 | false=>rfl
 | true=>have:=n hk; simpa using this
theorem any_snoc_yes {H:List Ev} {x:Ev} {id:Int} {ks:List Int} (a:anyP H id ks=true):anyP (H++[x]) id ks=true:=by rw [anyP_snoc,a]; rfl
theorem GO.snoc {H : List Ev} {s : VS} {pd pd' : List Nat} {pu pu' : List Ev} {dx dx' : Option Nat} (g : GO H s pd pu dx) (x : Ev)
  (n3:∀(i:Nat) (f:Fut),s.futures[i]?=some f→f.event≠0→f.done=false→f.kind=3→[6,22,23,24].contains x.kind=true→x.a≠f.event)
  (n4:∀(i:Nat) (f:Fut),s.futures[i]?=some f→f.event≠0→f.done=false→f.kind=4→[7,25].contains x.kind=true→x.a≠f.event)
  (n5:∀(i:Nat) (f:Fut),s.futures[i]?=some f→f.event≠0→f.done=false→f.kind=5→[27,28].contains x.kind=true→x.a≠f.event)
  (n8:∀(i:Nat) (f:Fut),s.futures[i]?=some f→f.event≠0→f.done=false→f.kind=5→(s.cancelled f.scope=false∨i∈pd')→[8].contains x.kind=true→x.a≠f.event)
  (hp:∀i∈pd',i∈pd) (hz:∀(i:Nat) (f:Fut),s.futures[i]?=some f→f.done=false→(f.kind=3∨f.kind=4)→s.cancelled f.scope=false∨i∈pd')
  (hu:∀u∈pu',u∈pu) (hd:pu'.Pairwise fun a b=>a.id≠b.id) (nu:∀u∈pu',[12,13].contains x.kind=true→x.a≠u.id)
  (hx:∀i,some i≠dx'→some i≠dx) (nt:∀(i:Nat) (t:Thr),s.threads[i]?=some t→t.update≠0→some i≠dx'→[14].contains x.kind=true→x.a≠t.update):GO (H++[x]) s pd' pu' dx':=by
 refine ⟨fun i f hf he=>⟨isP_mono (g.fe i f hf he).1 x,(g.fe i f hf he).2⟩,g.f0,g.fu,fun i f hf he hd hk=>any_snoc_no (g.f3 i f hf he hd hk) (n3 i f hf he hd hk),fun i f hf he hd hk=>any_snoc_no (g.f4 i f hf he hd hk) (n4 i f hf he hd hk),
  fun i f hf he hd hk=>any_snoc_no (g.f5 i f hf he hd hk) (n5 i f hf he hd hk),fun i f hf he hd hk hc=>any_snoc_no (g.f8 i f hf he hd hk (hc.imp id (hp i))) (n8 i f hf he hd hk hc),hz,
  fun u hu'=>⟨isP_mono (g.ua u (hu u hu')).1 x,any_snoc_no (g.ua u (hu u hu')).2 (nu u hu')⟩,hd,fun i t ht he=>?_,g.tu⟩
 obtain ⟨q1,q2,q3⟩:=g.ta i t ht he
 exact ⟨isP_mono q1 x,any_snoc_yes q2,fun h=>any_snoc_no (q3 (hx i h)) (nt i t ht he h)⟩
theorem GO.plain {H:List Ev} {s:VS} {pd:List Nat} {pu:List Ev} {dx:Option Nat} (g:GO H s pd pu dx) (x:Ev) (hk:namers.contains x.kind=false):GO (H++[x]) s pd pu dx:=by
 have no:∀ks:List Int,(∀k,ks.contains k=true→namers.contains k=true)→ks.contains x.kind=true→False:=fun ks h q=>by rw [h _ q] at hk; cases hk
 refine g.snoc x (fun _ _ _ _ _ _ q=>(no _ ?_ q).elim) (fun _ _ _ _ _ _ q=>(no _ ?_ q).elim) (fun _ _ _ _ _ _ q=>(no _ ?_ q).elim) (fun _ _ _ _ _ _ _ q=>(no _ ?_ q).elim) (fun _ h=>h) g.fz (fun _ h=>h) g.ud (fun _ _ q=>(no _ ?_ q).elim) (fun _ h=>h) (fun _ _ _ _ _ q=>(no _ ?_ q).elim)
 all_goals
  intro k hk
  simp [namers] at hk ⊢
  omega
def nameL (h:List Ev) (id:Int) (ks:List Int):Option Ev:=h.foldl (fun o x=>if (ks.contains x.kind&&x.a==id)=true then some x else o) none
theorem nameL_snoc (h:List Ev) (e:Ev) (id:Int) (ks:List Int):nameL (h++[e]) id ks=if (ks.contains e.kind&&e.a==id)=true then some e else nameL h id ks:=by
 unfold nameL; rw [List.foldl_append]; rfl
theorem nameL_go (id:Int) (ks:List Int):∀(h:List Ev) (o:Option Ev),(∀x∈h,(ks.contains x.kind&&x.a==id)=false)→h.foldl (fun o x=>if (ks.contains x.kind&&x.a==id)=true then some x else o) o=o
 | [],_,_=>rfl
 | x::h,o,n=>by
  rw [List.foldl_cons,if_neg (by rw [n x (List.mem_cons_self ..)]; decide)]
  exact nameL_go id ks h o fun y hy=>n y (List.mem_cons_of_mem _ hy)
theorem nameL_none {h:List Ev} {id:Int} {ks:List Int} (n:∀x∈h,(ks.contains x.kind&&x.a==id)=false):nameL h id ks=none:=nameL_go id ks h none n
def valD (o:Option Ev):Int:=match o with|some x=>x.b|none=>0
def updD (id:Int) (o:Option Ev):UpM:=match o with|none=>⟨id,0,0,0⟩|some x=>⟨id,x.kind-11,if x.kind=12 then 0 else x.b,if x.kind=14 then x.c else 0⟩
def kidD (e:Ev) (o p:Option Ev):KdM:=⟨e.id,e.a,e.b,valD o,p.isSome⟩
def actsD (h l:List Ev):List AcM:=l.filterMap fun e=>if e.kind=3∧nameL h e.id [6,22,23,24]=none then some (AcM.new e.id e.a e.b e.time) else none
def timersD (h l:List Ev):List TmM:=l.filterMap fun e=>if e.kind=4∧nameL h e.id [7,25]=none then some ⟨e.id,e.a⟩ else none
def kidsD (h l:List Ev):List KdM:=l.filterMap fun e=>if e.kind=5 then some (kidD e (nameL h e.id [26]) (nameL h e.id [27,28])) else none
def updsD (h l:List Ev):List UpM:=l.filterMap fun e=>if e.kind=21 then some (updD e.id (nameL h e.id [12,13,14])) else none
def attrD (A:List Int) (e:Ev):List Int:=if e.kind=10 then A.set e.a.toNat e.b else A
def attrsD (l:List Ev):List Int:=l.foldl attrD [0,0,0,0]
def seeD (s:Int) (e:Ev):Int:=if (e.kind==2||cmdM e.kind&&(e.kind != 16||e.a != -4))=true then e.id else s
def seenD (l:List Ev):Int:=l.foldl seeD 0
def headP (h:List Ev):Ev:=(h.head?).getD Ev.zero
def docR (number:Int) (id:ByteArray) (h:List Ev):RS :=
 {number:=number,id:=id,type:=(headP h).a,deadline:=(headP h).c,parent:=(headP h).d,event:=(headP h).e,begun:=(headP h).time
  status:=if closeM (lastP h).kind=true then statusM (lastP h).kind else 1
  value:=if closeM (lastP h).kind=true then (lastP h).a else 0
  ended:=if closeM (lastP h).kind=true then (lastP h).time else 0
  seen:=seenD h,attrs:=attrsD h,events:=h
  acts:=if closeM (lastP h).kind=true then [] else actsD h h
  timers:=if closeM (lastP h).kind=true then [] else timersD h h
  kids:=kidsD h h,updates:=updsD h h }
section
variable (R:RS) (e:Ev)
theorem see_same:((R.add e).see e).number=R.number∧((R.add e).see e).id=R.id∧((R.add e).see e).type=R.type∧((R.add e).see e).deadline=R.deadline∧((R.add e).see e).parent=R.parent∧((R.add e).see e).event=R.event∧((R.add e).see e).begun=R.begun∧((R.add e).see e).status=R.status∧((R.add e).see e).value=R.value∧((R.add e).see e).ended=R.ended∧((R.add e).see e).attrs=R.attrs∧((R.add e).see e).events=R.events++[e]∧((R.add e).see e).acts=R.acts∧((R.add e).see e).timers=R.timers∧((R.add e).see e).kids=R.kids∧((R.add e).see e).updates=R.updates:=by
 unfold RS.see RS.add
 split<;>exact ⟨rfl,rfl,rfl,rfl,rfl,rfl,rfl,rfl,rfl,rfl,rfl,rfl,rfl,rfl,rfl,rfl⟩
theorem see_seen:((R.add e).see e).seen=if (e.kind==2||cmdM e.kind&&!outR e)=true then e.id else R.seen:=by
 unfold RS.see RS.add
 split<;>rfl
def Same12 (X Y:RS):Prop:=Y.number=X.number∧Y.id=X.id∧Y.type=X.type∧Y.deadline=X.deadline∧Y.parent=X.parent∧Y.event=X.event∧Y.begun=X.begun∧Y.status=X.status∧Y.value=X.value∧Y.ended=X.ended∧Y.events=X.events∧Y.seen=X.seen
theorem sw_same (X:RS) (h1:e.kind≠1):Same12 X (X.sw e):=by
 have c:∀{P:Prop} [Decidable P] {x y:RS},Same12 X x→Same12 X y→Same12 X (if P then x else y):=fun h1 h2=>by split; exact h1; exact h2
 have r:Same12 X X:=⟨rfl,rfl,rfl,rfl,rfl,rfl,rfl,rfl,rfl,rfl,rfl,rfl⟩
 unfold RS.sw
 rw [if_neg h1]
 exact c r (c r (c r (c r (c r (c r (c r (c r (c r (c r (c r (c r r)))))))))))
theorem sw_cases (P : Prop) (c1 : e.kind=1→P) (c3 : e.kind=3→P) (c4 : e.kind=4→P) (c5 : e.kind=5→P) (c6 : e.kind=6∨e.kind=22∨e.kind=23∨e.kind=24→P) (c7 : e.kind=7∨e.kind=25→P) (c10 : e.kind=10→P) (c21 : e.kind=21→P) (c12 : e.kind=12→P) (c13 : e.kind=13→P) (c14 : e.kind=14→P) (c26 : e.kind=26→P) (c27 : e.kind=27∨e.kind=28→P)
  (c0:e.kind≠1∧e.kind≠3∧e.kind≠4∧e.kind≠5∧¬(e.kind=6∨e.kind=22∨e.kind=23∨e.kind=24)∧¬(e.kind=7∨e.kind=25)∧e.kind≠10∧e.kind≠21∧e.kind≠12∧e.kind≠13∧e.kind≠14∧e.kind≠26∧¬(e.kind=27∨e.kind=28)→P):P:=by
 by_cases h1:e.kind=1
 ·exact c1 h1
 by_cases h3:e.kind=3
 ·exact c3 h3
 by_cases h4:e.kind=4
 ·exact c4 h4
 by_cases h5:e.kind=5
 ·exact c5 h5
 by_cases h6:e.kind=6∨e.kind=22∨e.kind=23∨e.kind=24
 ·exact c6 h6
 by_cases h7:e.kind=7∨e.kind=25
 ·exact c7 h7
 by_cases h10:e.kind=10
 ·exact c10 h10
 by_cases h21:e.kind=21
 ·exact c21 h21
 by_cases h12:e.kind=12
 ·exact c12 h12
 by_cases h13:e.kind=13
 ·exact c13 h13
 by_cases h14:e.kind=14
 ·exact c14 h14
 by_cases h26:e.kind=26
 ·exact c26 h26
 by_cases h27:e.kind=27∨e.kind=28
 ·exact c27 h27
 exact c0 ⟨h1,h3,h4,h5,h6,h7,h10,h21,h12,h13,h14,h26,h27⟩
def swActs (X:RS):List AcM:=if e.kind=3 then X.acts++[AcM.new e.id e.a e.b e.time] else if e.kind=6∨e.kind=22∨e.kind=23∨e.kind=24 then X.acts.filter (fun a=>!(a.event==e.a)) else X.acts
def swTimers (X:RS):List TmM:=if e.kind=4 then X.timers++[⟨e.id,e.a⟩] else if e.kind=7∨e.kind=25 then X.timers.filter (fun a=>!(a.event==e.a)) else X.timers
def swKids (X:RS):List KdM:=if e.kind=5 then X.kids++[⟨e.id,e.a,e.b,0,false⟩] else if e.kind=26 then X.kids.map (kidR e.a e.b) else if e.kind=27∨e.kind=28 then X.kids.map (kidO e.a) else X.kids
def swUpds (X:RS):List UpM:=if e.kind=21 then X.updates++[⟨e.id,0,0,0⟩] else if e.kind=12 then X.updates.map (upd1 e.a 1 0 0) else if e.kind=13 then X.updates.map (upd1 e.a 2 e.b 0) else if e.kind=14 then X.updates.map (upd1 e.a 3 e.b e.c) else X.updates
def Lists (X Y:RS):Prop:=Y.acts=swActs e X∧Y.timers=swTimers e X∧Y.kids=swKids e X∧Y.updates=swUpds e X∧Y.attrs=attrD X.attrs e
theorem sw_lists (X:RS):Lists e X (X.sw e):=by
 refine sw_cases e _ (fun k=>?_) (fun k=>?_) (fun k=>?_) (fun k=>?_) (fun k=>?_) (fun k=>?_) (fun k=>?_) (fun k=>?_) (fun k=>?_) (fun k=>?_) (fun k=>?_) (fun k=>?_) (fun k=>?_) (fun k=>?_)
 case _=>unfold Lists RS.sw swActs swTimers swKids swUpds attrD; rw [k]; exact ⟨rfl,rfl,rfl,rfl,rfl⟩
 case _=>unfold Lists RS.sw swActs swTimers swKids swUpds attrD; rw [k]; exact ⟨rfl,rfl,rfl,rfl,rfl⟩
 case _=>unfold Lists RS.sw swActs swTimers swKids swUpds attrD; rw [k]; exact ⟨rfl,rfl,rfl,rfl,rfl⟩
 case _=>unfold Lists RS.sw swActs swTimers swKids swUpds attrD; rw [k]; exact ⟨rfl,rfl,rfl,rfl,rfl⟩
 case _=>unfold Lists RS.sw swActs swTimers swKids swUpds attrD; rcases k with k|k|k|k<;>rw [k]<;>exact ⟨rfl,rfl,rfl,rfl,rfl⟩
 case _=>unfold Lists RS.sw swActs swTimers swKids swUpds attrD; rcases k with k|k<;>rw [k]<;>exact ⟨rfl,rfl,rfl,rfl,rfl⟩
 case _=>unfold Lists RS.sw swActs swTimers swKids swUpds attrD; rw [k]; exact ⟨rfl,rfl,rfl,rfl,rfl⟩
 case _=>unfold Lists RS.sw swActs swTimers swKids swUpds attrD; rw [k]; exact ⟨rfl,rfl,rfl,rfl,rfl⟩
 case _=>unfold Lists RS.sw swActs swTimers swKids swUpds attrD; rw [k]; exact ⟨rfl,rfl,rfl,rfl,rfl⟩
 case _=>unfold Lists RS.sw swActs swTimers swKids swUpds attrD; rw [k]; exact ⟨rfl,rfl,rfl,rfl,rfl⟩
 case _=>unfold Lists RS.sw swActs swTimers swKids swUpds attrD; rw [k]; exact ⟨rfl,rfl,rfl,rfl,rfl⟩
 case _=>unfold Lists RS.sw swActs swTimers swKids swUpds attrD; rw [k]; exact ⟨rfl,rfl,rfl,rfl,rfl⟩
 case _=>unfold Lists RS.sw swActs swTimers swKids swUpds attrD; rcases k with k|k<;>rw [k]<;>exact ⟨rfl,rfl,rfl,rfl,rfl⟩
 case _ =>
  obtain ⟨k1,k3,k4,k5,k6,k7,k10,k21,k12,k13,k14,k26,k27⟩:=k
  unfold Lists swActs swTimers swKids swUpds attrD
  rw [if_neg k3,if_neg k6,if_neg k4,if_neg k7,if_neg k5,if_neg k26,if_neg k27,if_neg k21,if_neg k12,if_neg k13,if_neg k14,if_neg k10]
  have:X.sw e=X:=by unfold RS.sw; rw [if_neg k1,if_neg k3,if_neg k4,if_neg k5,if_neg k6,if_neg k7,if_neg k10,if_neg k21,if_neg k12,if_neg k13,if_neg k14,if_neg k26,if_neg k27]
  rw [this]
  exact ⟨rfl,rfl,rfl,rfl,rfl⟩
end
section
variable {h:List Ev} {e:Ev}
theorem actsD_old (l:List Ev):actsD (h++[e]) l=if e.kind=6∨e.kind=22∨e.kind=23∨e.kind=24 then (actsD h l).filter (fun a=>!(a.event==e.a)) else actsD h l:=by
 have hc:(([6,22,23,24]:List Int).contains e.kind=true)↔(e.kind=6∨e.kind=22∨e.kind=23∨e.kind=24):=by simp
 by_cases q:e.kind=6∨e.kind=22∨e.kind=23∨e.kind=24
 ·rw [if_pos q]
  unfold actsD
  rw [List.filter_filterMap]
  refine congrArg (fun f=>l.filterMap f) (funext fun x=>?_)
  rw [nameL_snoc,hc.2 q]
  by_cases k:x.kind=3
  ·by_cases m:e.a=x.id
   ·rw [if_neg (by simp [m])]
    split
    ·rw [Option.filter_some,if_neg (by simp [AcM.new,m])]
    ·rfl
   ·rw [if_neg (c:=(true&&e.a==x.id)=true) (by simp [m])]
    split
    ·rw [Option.filter_some,if_pos (by simp [AcM.new]; exact fun r=>m r.symm)]
    ·rfl
  ·rw [if_neg (fun r=>k r.1),if_neg (fun r=>k r.1)]; rfl
 ·rw [if_neg q]
  unfold actsD
  refine congrArg (fun f=>l.filterMap f) (funext fun x=>?_)
  rw [nameL_snoc,show ([6,22,23,24]:List Int).contains e.kind=false from by cases r:([6,22,23,24]:List Int).contains e.kind with|false=>rfl|true=>exact absurd (hc.1 r) q]
  rfl
theorem timersD_old (l:List Ev):timersD (h++[e]) l=if e.kind=7∨e.kind=25 then (timersD h l).filter (fun a=>!(a.event==e.a)) else timersD h l:=by
 have hc:(([7,25]:List Int).contains e.kind=true)↔(e.kind=7∨e.kind=25):=by simp
 by_cases q:e.kind=7∨e.kind=25
 ·rw [if_pos q]
  unfold timersD
  rw [List.filter_filterMap]
  refine congrArg (fun f=>l.filterMap f) (funext fun x=>?_)
  rw [nameL_snoc,hc.2 q]
  by_cases k:x.kind=4
  ·by_cases m:e.a=x.id
   ·rw [if_neg (by simp [m])]
    split
    ·rw [Option.filter_some,if_neg (by simp [m])]
    ·rfl
   ·rw [if_neg (c:=(true&&e.a==x.id)=true) (by simp [m])]
    split
    ·rw [Option.filter_some,if_pos (by simp; exact fun r=>m r.symm)]
    ·rfl
  ·rw [if_neg (fun r=>k r.1),if_neg (fun r=>k r.1)]; rfl
 ·rw [if_neg q]
  unfold timersD
  refine congrArg (fun f=>l.filterMap f) (funext fun x=>?_)
  rw [nameL_snoc,show ([7,25]:List Int).contains e.kind=false from by cases r:([7,25]:List Int).contains e.kind with|false=>rfl|true=>exact absurd (hc.1 r) q]
  rfl
theorem kidsD_old (l:List Ev):kidsD (h++[e]) l=if e.kind=26 then (kidsD h l).map (kidR e.a e.b) else if e.kind=27∨e.kind=28 then (kidsD h l).map (kidO e.a) else kidsD h l:=by
 have key:∀(u:KdM→KdM),(∀x:Ev,kidD x (nameL (h++[e]) x.id [26]) (nameL (h++[e]) x.id [27,28])=u (kidD x (nameL h x.id [26]) (nameL h x.id [27,28])))→kidsD (h++[e]) l=(kidsD h l).map u:=fun u hu=>by
  unfold kidsD
  rw [List.map_filterMap]
  refine congrArg (fun f=>l.filterMap f) (funext fun x=>?_)
  rw [hu]
  split<;>rfl
 split
 ·rename_i q
  refine key _ fun x=>?_
  rw [nameL_snoc,nameL_snoc,q]
  unfold kidR kidD
  by_cases m:e.a=x.id<;>simp [m,valD]
  exact fun r=>absurd r.symm m
 ·split
  ·rename_i q1 q
   refine key _ fun x=>?_
   rw [nameL_snoc,nameL_snoc]
   unfold kidO kidD
   rcases q with q|q<;>rw [q]<;>by_cases m:e.a=x.id<;>simp [m]
   all_goals exact fun r=>absurd r.symm m
  ·rename_i q1 q
   rw [key id fun x=>?_]
   ·simp
   ·rw [nameL_snoc,nameL_snoc,if_neg (by simp [q1]),if_neg (by simp; intro r; exact absurd r q)]
    rfl
theorem updsD_old (l:List Ev):updsD (h++[e]) l=if e.kind=12 then (updsD h l).map (upd1 e.a 1 0 0) else if e.kind=13 then (updsD h l).map (upd1 e.a 2 e.b 0) else if e.kind=14 then (updsD h l).map (upd1 e.a 3 e.b e.c) else updsD h l:=by
 have key:∀(u:UpM→UpM),(∀x:Ev,updD x.id (nameL (h++[e]) x.id [12,13,14])=u (updD x.id (nameL h x.id [12,13,14])))→updsD (h++[e]) l=(updsD h l).map u:=fun u hu=>by
  unfold updsD
  rw [List.map_filterMap]
  refine congrArg (fun f=>l.filterMap f) (funext fun x=>?_)
  rw [hu]
  split<;>rfl
 have hid:∀(x:Ev) (o:Option Ev),(updD x.id o).event=x.id:=fun x o=>by unfold updD; cases o<;>rfl
 have one:∀(st v k:Int),(updD e.a (some e)=⟨e.a,st,v,k⟩)→([12,13,14]:List Int).contains e.kind=true→∀x:Ev,updD x.id (nameL (h++[e]) x.id [12,13,14])=upd1 e.a st v k (updD x.id (nameL h x.id [12,13,14])):=fun st v k hv hc x=>by
  rw [nameL_snoc,hc]
  unfold upd1
  rw [hid]
  by_cases m:e.a=x.id
  ·rw [if_pos (by simp [m]),if_pos (by simp [m])]
   rw [m] at hv
   rw [hv]
  ·rw [if_neg (by simp [m]),if_neg (by simp; exact fun r=>m r.symm)]
 split
 ·rename_i q
  exact key _ (one 1 0 0 (by unfold updD; simp [q]) (by rw [q]; rfl))
 ·split
  ·rename_i q
   exact key _ (one 2 e.b 0 (by unfold updD; simp [q]) (by rw [q]; rfl))
  ·split
   ·rename_i q
    exact key _ (one 3 e.b e.c (by unfold updD; simp [q]) (by rw [q]; rfl))
   ·rename_i q1 q2 q3
    rw [key id fun x=>?_]
    ·simp
    ·rw [nameL_snoc,if_neg (by simp [q1,q2,q3])]
     rfl
end
def nmK:List Int:=[6,22,23,24,7,25,26,27,28,12,13,14]
theorem names_ref {pre:List Ev} {x:Ev} (n:namesP pre x=true) (k:nmK.contains x.kind=true):x.a≤pre.length:=by
 have hp:∀kk b,(isP pre x.a kk&&b)=true→x.a≤pre.length:=fun kk b q=>by
  unfold isP at q
  simp only [Bool.and_eq_true,decide_eq_true_eq] at q
  exact q.1.1.2
 have hk:x.kind=6∨x.kind=22∨x.kind=23∨x.kind=24∨x.kind=7∨x.kind=25∨x.kind=26∨x.kind=27∨x.kind=28∨x.kind=12∨x.kind=13∨x.kind=14:=by simpa [nmK] using k
 unfold namesP at n
 repeat' split at n
 all_goals first|exact hp _ _ n|(rw [Bool.and_assoc] at n; exact hp _ _ n)|(exfalso; omega)
theorem gram_ref {h:List Ev} (g:Gram h) {j:Nat} {x:Ev} (hx:h[j]?=some x) (k:nmK.contains x.kind=true):x.a≤j:=by
 have hj:=get_lt hx
 have m:=g j x hx
 by_cases hp:h.take j=[]
 ·have h1:=(may_head m).2.2.2 hp
  rw [h1] at k; cases k
 ·have:=names_ref (may_names m hp) k
  rw [List.length_take,Nat.min_eq_left (by omega)] at this
  exact this
theorem name_new {h:List Ev} {e:Ev} (g:Gram (h++[e])) {ks:List Int} (hk:∀k,ks.contains k=true→nmK.contains k=true):nameL (h++[e]) e.id ks=none:=by
 have he:=(may_head (g h.length e (by simp))).2.1
 rw [List.take_left] at he
 refine nameL_none fun x hx=>?_
 obtain ⟨j,hj⟩:=List.getElem?_of_mem hx
 have hl:=get_lt hj
 rw [List.length_append,List.length_singleton] at hl
 cases q:(ks.contains x.kind&&x.a==e.id) with
 | false=>rfl
 | true =>
  rw [Bool.and_eq_true] at q
  have:=gram_ref g hj (hk _ q.1)
  have q2:x.a=e.id:=by simpa using q.2
  omega
theorem docR_snoc {h:List Ev} {e:Ev} (number:Int) (id:ByteArray) (g:Gram (h++[e])) (hn:h≠[]):docR number id (h++[e])=(docR number id h).book e:=by
 have m:=g h.length e (by simp)
 rw [List.take_left] at m
 have h1:e.kind≠1:=fun q=>hn ((may_head m).2.2.1 q)
 have hcl:=(may_last m hn).2
 have hlast:lastP (h++[e])=e:=by unfold lastP; simp
 have hhead:headP (h++[e])=headP h:=by unfold headP; cases h with|nil=>exact absurd rfl hn|cons y l=>rfl
 have hsee:(e.kind==2||cmdM e.kind&&(e.kind != 16||e.a != -4))=(e.kind==2||cmdM e.kind&&!outR e):=by
  cases q:cmdM e.kind with
  | false=>rfl
  | true =>
   have:¬e.kind≥19:=by unfold cmdM at q; simp only [Bool.and_eq_true,decide_eq_true_eq] at q; omega
   unfold outR
   rw [decide_eq_false this]
   cases (e.kind==2)<;>cases q1:(e.kind==16)<;>cases q2:(e.a==-4)<;>simp [bne,q1,q2]
 have hacts:actsD (h++[e]) (h++[e])=if e.kind=3 then actsD h h++[AcM.new e.id e.a e.b e.time] else if e.kind=6∨e.kind=22∨e.kind=23∨e.kind=24 then (actsD h h).filter (fun a=>!(a.event==e.a)) else actsD h h:=by
  have:actsD (h++[e]) (h++[e])=actsD (h++[e]) h++actsD (h++[e]) [e]:=by unfold actsD; rw [List.filterMap_append]
  rw [this,actsD_old]
  have h2:actsD (h++[e]) [e]=if e.kind=3 then [AcM.new e.id e.a e.b e.time] else []:=by
   unfold actsD
   rw [List.filterMap_cons,name_new g (by intro k; simp [nmK]; omega)]
   by_cases q:e.kind=3<;>simp [q]
  rw [h2]
  by_cases q:e.kind=3
  ·rw [if_pos q,if_pos q,if_neg (by omega)]
  ·rw [if_neg q,if_neg q,List.append_nil]
 have htimers:timersD (h++[e]) (h++[e])=if e.kind=4 then timersD h h++[⟨e.id,e.a⟩] else if e.kind=7∨e.kind=25 then (timersD h h).filter (fun a=>!(a.event==e.a)) else timersD h h:=by
  have:timersD (h++[e]) (h++[e])=timersD (h++[e]) h++timersD (h++[e]) [e]:=by unfold timersD; rw [List.filterMap_append]
  rw [this,timersD_old]
  have h2:timersD (h++[e]) [e]=if e.kind=4 then [⟨e.id,e.a⟩] else []:=by
   unfold timersD
   rw [List.filterMap_cons,name_new g (by intro k; simp [nmK]; omega)]
   by_cases q:e.kind=4<;>simp [q]
  rw [h2]
  by_cases q:e.kind=4
  ·rw [if_pos q,if_pos q,if_neg (by omega)]
  ·rw [if_neg q,if_neg q,List.append_nil]
 have hkids:kidsD (h++[e]) (h++[e])=if e.kind=5 then kidsD h h++[⟨e.id,e.a,e.b,0,false⟩] else if e.kind=26 then (kidsD h h).map (kidR e.a e.b) else if e.kind=27∨e.kind=28 then (kidsD h h).map (kidO e.a) else kidsD h h:=by
  have:kidsD (h++[e]) (h++[e])=kidsD (h++[e]) h++kidsD (h++[e]) [e]:=by unfold kidsD; rw [List.filterMap_append]
  rw [this,kidsD_old]
  have h2:kidsD (h++[e]) [e]=if e.kind=5 then [⟨e.id,e.a,e.b,0,false⟩] else []:=by
   unfold kidsD
   rw [List.filterMap_cons,name_new g (by intro k; simp [nmK]; omega),name_new g (by intro k; simp [nmK]; omega)]
   by_cases q:e.kind=5<;>simp [q,kidD,valD]
  rw [h2]
  by_cases q:e.kind=5
  ·rw [if_pos q,if_pos q,if_neg (by omega),if_neg (by omega)]
  ·rw [if_neg q,if_neg q,List.append_nil]
 have hupds:updsD (h++[e]) (h++[e])=if e.kind=21 then updsD h h++[⟨e.id,0,0,0⟩] else if e.kind=12 then (updsD h h).map (upd1 e.a 1 0 0) else if e.kind=13 then (updsD h h).map (upd1 e.a 2 e.b 0) else if e.kind=14 then (updsD h h).map (upd1 e.a 3 e.b e.c) else updsD h h:=by
  have:updsD (h++[e]) (h++[e])=updsD (h++[e]) h++updsD (h++[e]) [e]:=by unfold updsD; rw [List.filterMap_append]
  rw [this,updsD_old]
  have h2:updsD (h++[e]) [e]=if e.kind=21 then [⟨e.id,0,0,0⟩] else []:=by
   unfold updsD
   rw [List.filterMap_cons,name_new g (by intro k; simp [nmK]; omega)]
   by_cases q:e.kind=21<;>simp [q,updD]
  rw [h2]
  by_cases q:e.kind=21
  ·rw [if_pos q,if_pos q,if_neg (by omega),if_neg (by omega),if_neg (by omega)]
  ·rw [if_neg q,if_neg q,List.append_nil]
 have hattrs:attrsD (h++[e])=attrD (attrsD h) e:=by unfold attrsD; rw [List.foldl_append]; rfl
 have hseen:seenD (h++[e])=seeD (seenD h) e:=by unfold seenD; rw [List.foldl_append]; rfl
 have d:=see_same (docR number id h) e
 have ds:=see_seen (docR number id h) e
 unfold RS.book
 have k:=sw_same e (((docR number id h).add e).see e) h1
 obtain ⟨ka,kt,kk,ku,kr⟩:=sw_lists e (((docR number id h).add e).see e)
 unfold swActs at ka; unfold swTimers at kt; unfold swKids at kk; unfold swUpds at ku
 generalize (((docR number id h).add e).see e).sw e=Y at k ka kt kk ku kr ⊢
 generalize ((docR number id h).add e).see e=X at d ds k ka kt kk ku kr
 obtain ⟨d1,d2,d3,d4,d5,d6,d7,d8,d9,d10,d11,d12,d13,d14,d15,d16⟩:=d
 obtain ⟨k1,k2,k3,k4,k5,k6,k7,k8,k9,k10,k11,k12⟩:=k
 rw [d1] at k1; rw [d2] at k2; rw [d3] at k3; rw [d4] at k4; rw [d5] at k5; rw [d6] at k6; rw [d7] at k7; rw [d8] at k8; rw [d9] at k9; rw [d10] at k10; rw [d12] at k11; rw [ds] at k12
 rw [d13] at ka; rw [d14] at kt; rw [d15] at kk; rw [d16] at ku; rw [d11] at kr
 unfold docR at *
 simp only [hcl,Bool.false_eq_true,if_false] at k1 k2 k3 k4 k5 k6 k7 k8 k9 k10 k11 k12 ka kt kk ku kr
 rw [hlast,hhead,hacts,htimers,hkids,hupds,hattrs,hseen]
 unfold seeD
 rw [hsee,←k12,←ka,←kt,←kk,←ku,←kr]
 unfold RS.close
 cases Y
 simp only at *
 subst_vars
 split<;>simp_all
theorem docR_one (number:Int) (id:ByteArray) {e:Ev} (h1:e.kind=1) (h2:e.id=1):docR number id [e]=(RS.start number id).book { e with id:=1,kind:=1 }:=by
 cases e; simp only at h1 h2; subst h1 h2; rfl
theorem docR_fold (number:Int) (id:ByteArray) (a:Ev) (l:List Ev):∀(k:Nat),k≤l.length→Gram (a::l)→docR number id (a::l.take k)=(l.take k).foldl RS.book ((RS.start number id).book { a with id:=1,kind:=1 })
 | 0,_,g=>by
  have m:=may_head (g 0 a rfl)
  exact docR_one number id (m.2.2.2 rfl) m.2.1
 | k+1,hk,g=>by
  obtain ⟨x,hx⟩:∃x,l[k]?=some x:=⟨l[k],List.getElem?_eq_getElem (by omega)⟩
  rw [List.take_add_one,hx]
  show docR number id ((a::l.take k)++[x])=_
  rw [docR_snoc number id ?_ (by simp),docR_fold number id a l k (by omega) g,List.foldl_append]
  ·rfl
  ·intro j y hy
   have e:(a::l.take k)++[x]=(a::l).take (k+2):=by rw [List.take_succ_cons,List.take_add_one,hx]; rfl
   rw [e] at hy ⊢
   have hj:=get_lt hy
   rw [List.length_take] at hj
   rw [List.getElem?_take,if_pos (by omega)] at hy
   rw [List.take_take,Nat.min_eq_left (by omega)]
   exact g j y hy
end Go.Proofs.YtkofafcgcnciaaaGreatDoor
set_option maxRecDepth 100000
namespace Go.Proofs.YtkofafcgcnciaaaGreatDoor
open Go.Ax Go.RowKit Go.Shelf
attribute [local go_sem] Oper.semAt_some
def ofU (l:List Ev) (ks:List Int) (k:Nat):List (Fin l.length):=((List.finRange l.length).take k).filter fun i=>hasM ks (l[i]).kind
theorem ofU_succ {l:List Ev} {ks:List Int} {k:Nat} {x:Ev} (hk:k<l.length) (hx:l[k]?=some x):ofU l ks (k+1)=ofU l ks k++(if hasM ks x.kind=true then [⟨k,hk⟩] else []):=by
 unfold ofU
 have h1:(List.finRange l.length)[k]?=some ⟨k,hk⟩:=by simp [hk]
 rw [List.take_add_one,h1,List.filter_append]
 have:l[k]=x:=by rw [List.getElem?_eq_getElem hk] at hx; simpa using hx
 simp only [Option.toList_some,List.filter_cons,List.filter_nil,Fin.getElem_fin,this]
theorem ofU_lt {l:List Ev} {ks:List Int} {k:Nat} {x:Ev} (hk:k<l.length) (hx:l[k]?=some x) (h:hasM ks x.kind=true):(ofU l ks k).length<(ofU l ks l.length).length:=by
 have h1:(ofU l ks (k+1)).length=(ofU l ks k).length+1:=by rw [ofU_succ hk hx,if_pos h]; simp
 have h2:∀j,(ofU l ks (k+1)).length≤(ofU l ks (k+1+j)).length:=by
  intro j
  unfold ofU
  have:((List.finRange l.length).take (k+1))=((List.finRange l.length).take (k+1+j)).take (k+1):=by rw [List.take_take,Nat.min_eq_left (by omega)]
  rw [this]
  exact ((List.take_sublist _ _).filter _).length_le
 have:=h2 (l.length-(k+1))
 rw [show k+1+(l.length-(k+1))=l.length by omega] at this
 omega
theorem holds_alloc {H:Heap} {w:World} (h:Holds H w) (o:Obj):Holds H (w.alloc o):=fun b o' e=>by
 have hb:=heap_lt (h b o' e)
 have:=h b o' e
 show (w.heap.push o)[b]?=some o'
 rw [Array.getElem?_push_lt hb]
 rw [Array.getElem?_eq_getElem hb] at this
 exact this
theorem grown_alloc {H:Heap} {w:World} (h:Holds H w) (o:Obj):w.grownBy (w.alloc o) none∧Holds H (w.alloc o)∧(w.alloc o).heap[w.heap.size]?=some o:=by
 refine ⟨⟨rfl,rfl,rfl,?_,fun i hi _=>?_⟩,holds_alloc h o,?_⟩
 ·show w.heap.size≤(w.heap.push o).size
  rw [Array.size_push]; omega
 ·show (w.heap.push o)[i]?=w.heap[i]?
  rw [Array.getElem?_push_lt hi,Array.getElem?_eq_getElem hi]
 ·show (w.heap.push o)[w.heap.size]?=some o
  exact Array.getElem?_push_size
theorem grown_keeps {H H':Heap} {w w':World} {o:Obj} (h:Holds H w) (k:Keeps H (w.alloc o) H' w') (s:Sub H H'):w.grownBy w' none∧Holds H w'∧w'.heap[w.heap.size]?=some o:=by
 obtain ⟨⟨a1,a2,a3,a4,a5⟩,b2,b3⟩:=grown_alloc h o
 have hlt:w.heap.size<(w.alloc o).heap.size:=by
  show w.heap.size<(w.heap.push o).size
  rw [Array.size_push]; omega
 have hn:H w.heap.size=none:=by
  cases hh:H w.heap.size with
  | none=>rfl
  | some o'=>have:=heap_lt (h _ _ hh); omega
 refine ⟨⟨?_,?_,?_,Nat.le_trans a4 k.size,fun i hi hr=>?_⟩,k.holds.sub s,(k.old _ hlt hn).1.trans b3⟩
 ·first|exact k.os.trans a1|exact k.tape.trans a1|exact k.output.trans a1
 ·first|exact k.os.trans a2|exact k.tape.trans a2|exact k.output.trans a2
 ·first|exact k.os.trans a3|exact k.tape.trans a3|exact k.output.trans a3
 ·cases hh:H i with
  | none=>exact (k.old i (by omega) hh).1.trans (a5 i hi hr)
  | some o'=>rw [k.holds.sub s i o' hh,h i o' hh]
theorem boxc {w:World} {b:Nat} {c:Array Value} {T:TypeId} (h:w.heap[b]?=some (.cells c T (0,0))) (j:Nat) (v:Value) (hv:c[j]?=some v):w.cell? ⟨b,j,none⟩=some v:=by
 simp [World.cell?,h,hv]
theorem of1_in (n : Nat) (hn : 1≤n) (lb : Nat) {HI : Heap} {B1 B2 : Nat} {A Bk : Option Addr} {cap kn kc : Nat} {T1 T2 : TypeId} {l : List Ev} {ks : List Int}
  (h1:HI B1=some (.cells #[.slice A l.length cap] T1 (0,0))) (h2:HI B2=some (.cells #[.slice Bk kn kc] T2 (0,0))) (hE:HasEvs HI A l.length l) (hK:HasI HI Bk kn ks) (hb:l.length≤100000000000000000) (hkb:ks.length≤9223372036854775807)
  (J Jx:List (Fin l.length)→World→Prop) (W:World) (hW:Holds HI W) (hJ:AbidesFrom W.heap.size J)
  (hY:∀pre (x:Fin l.length) W1,J pre W1→pre.length<(ofU l ks l.length).length→YieldAt Fence.wide (n-1) Tryz.prog lb #[.int .i64 (x.1:Int),((l[x.1]?).getD Ev.zero).val] W1 fun e W' =>
   (e=.returned (.bool true)∧J (pre++[x]) W'∧(Holds HI W1→Holds HI W'))∨(e=.returned (.bool false)∧Jx (pre++[x]) W'))
  (h0:J [] W) :
  CallsIn Fence.wide n Tryz.prog 87 #[.func (.yield lb) #[] #[],.pointer (some ⟨B1,0,none⟩),.pointer (some ⟨B2,0,none⟩)] W fun e W'=>(∃v,e=.returned v) ∧
   ((∃xs,xs=ofU l ks l.length∧J xs W')∨(∃pre,(∃j,pre=ofU l ks j)∧Jx pre W')):=by
 refine callsIn_of_wp Tryz.func87 rfl trivial ?_ rfl
 simp only [Tryz.ntmps87,List.size_toArray,List.length_cons,List.length_nil,Nat.reduceAdd,Nat.reduceSub,Array.replicate_succ,Array.replicate_zero,List.push_toArray,List.append_toArray,List.nil_append,List.cons_append]
 have c1:W.cell? ⟨B1,0,none⟩=some (.slice A l.length cap):=(at_fld (k:=0) h1 rfl).cell hW 0 _ rfl
 gi_wp2
 gi_loopw [8] (fun i wr=>∃k:Nat,k≤l.length∧i=.int .i64 k∧J (ofU l ks k) wr∧Holds HI wr)
  (fun i _=>l.length-(intOf i).toNat)
 case atStart=>exact ⟨0,Nat.zero_le _,rfl,h0,hW⟩
 case round =>
  obtain ⟨k,hk,rfl,hJs,hH⟩:=hrel
  by_cases hlt:k<l.length
  ·obtain ⟨x,hx⟩:=get_some (l:=l) (i:=k) hlt
   obtain ⟨⟨ab,ao,asp⟩,ha,hat⟩:=hE.at_ k x hx
   obtain rfl:asp=none:=by
    obtain ⟨x0,hx0⟩:=get_some (l:=l) (i:=0) (by omega)
    obtain ⟨a0,ha0,hat0⟩:=hE.at_ 0 x0 hx0
    rw [ha] at ha0; cases ha0
    obtain ⟨_,_,_,_,q,_⟩:=hat0.out
    simpa [Addr.add] using q
   subst ha
   have hcell:∀j v,x.cells[j]?=some v→wr.cell? ⟨ab,ao+k*9+j,none⟩=some v:=fun j v hv=>by
    have:=hat.cell hH j v hv
    rw [addr_add,addr_add] at this; exact this
   have hc0:wr.cell? ⟨ab,ao+k*9,none⟩=some (.int .i64 x.id):=hcell 0 _ rfl
   have hc1:=hcell 1 _ rfl
   have hc2:=hcell 2 _ rfl
   have hc3:=hcell 3 _ rfl
   have hc4:=hcell 4 _ rfl
   have hc5:=hcell 5 _ rfl
   have hc6:=hcell 6 _ rfl
   have hc7:=hcell 7 _ rfl
   have hc8:=hcell 8 _ rfl
   have c2:wr.cell? ⟨B2,0,none⟩=some (.slice Bk kn kc):=(at_fld (k:=0) h2 rfl).cell hH 0 _ rfl
   have l2:B2<wr.heap.size:=heap_lt (hH _ _ h2)
   clear hat hcell
   gi_wp2
   ·refine ⟨trivial,callsIn_wide.2 (((t88 hkb hK x.kind).run _ (holds_alloc hH _)).mono ?_)⟩
    rintro e w1 ⟨v,H',rfl,hkp,rfl,hs⟩
    obtain ⟨g1,g2,g3⟩:=grown_keeps hH hkp hs
    have hin0:hasM ks x.kind=ks.contains x.kind:=by
     unfold hasM
     have:ks.length≠0:=by have:=hK.len; omega
     have:((ks.length:Int)==0)=false:=by rw [beq_eq_false_iff_ne]; omega
     rw [this,Bool.or_false]
    clear hkp
    cases hin:ks.contains x.kind with
    | false =>
     rw [hin] at hin0
     gi_wp2
     go_roundw
     case rel=>exact ⟨k+1,by omega,by simp,by rw [ofU_succ hlt hx,if_neg (by rw [hin0]; simp),List.append_nil]; exact hJ _ _ _ none hJs g1 (by simp),g2⟩
     case measure=>simp [intOf]; omega
    | true =>
     rw [hin] at hin0
     have hin:=hin0
     have hlx:(l[(⟨k,hlt⟩:Fin l.length).1]?).getD Ev.zero=x:=by show (l[k]?).getD Ev.zero=x; rw [hx]; rfl
     have hlen:(ofU l ks k).length<(ofU l ks l.length).length:=ofU_lt hlt hx hin
     obtain ⟨fn,tmps,assign,body,hy,hR⟩:=hY _ ⟨k,hlt⟩ w1 (hJ _ _ _ none hJs g1 (by simp)) hlen
     rw [hlx] at hy
     have hy:(Instr.yield lb #[.int .i64 (k:Int),.agg #[.int .i64 x.id,.int .i64 x.time,.int .i64 x.kind,.int .i64 x.a,.int .i64 x.b,.int .i64 x.c,.int .i64 x.d,.int .i64 x.e,.int .i64 x.f]]).run Tryz.prog w1=.ok (.round lb fn tmps assign body) w1:=hy
     have d0:=boxc g3 0 _ rfl
     have d1:=boxc g3 1 _ rfl
     have d2:=boxc g3 2 _ rfl
     have d3:=boxc g3 3 _ rfl
     have d4:=boxc g3 4 _ rfl
     have d5:=boxc g3 5 _ rfl
     have d6:=boxc g3 6 _ rfl
     have d7:=boxc g3 7 _ rfl
     have d8:=boxc g3 8 _ rfl
     clear hc0 hc1 hc2 hc3 hc4 hc5 hc6 hc7 hc8
     gi_wp2
     refine hR.mono ?_
     rintro e W3 (⟨rfl,hJ3,hk3⟩|⟨rfl,hJx3⟩)
     ·gi_wp2
      go_roundw
      case rel=>exact ⟨k+1,by omega,by simp,by rw [ofU_succ hlt hx,if_pos hin]; exact hJ3,hk3 g2⟩
      case measure=>simp [intOf]; omega
     ·gi_wp2
      refine bodyPost_ret (results_none rfl _ _ _) rfl ?_
      exact ⟨⟨_,rfl⟩,.inr ⟨_,⟨k+1,by rw [ofU_succ hlt hx,if_pos hin]⟩,hJx3⟩⟩
   ·refine ⟨trivial,?_⟩
    have hin:hasM ks x.kind=true:=by
     unfold hasM
     have:ks.length=0:=by have:=hK.len; omega
     simp [this]
    obtain ⟨g1,g2,g3⟩:=grown_alloc hH (.cells #[.int .i64 x.id,.int .i64 x.time,.int .i64 x.kind,.int .i64 x.a,.int .i64 x.b,.int .i64 x.c,.int .i64 x.d,.int .i64 x.e,.int .i64 x.f] 47)
    generalize hw1:wr.alloc (.cells #[.int .i64 x.id,.int .i64 x.time,.int .i64 x.kind,.int .i64 x.a,.int .i64 x.b,.int .i64 x.c,.int .i64 x.d,.int .i64 x.e,.int .i64 x.f] 47)=w1 at g1 g2 g3 ⊢
    clear hw1
    have hlx:(l[(⟨k,hlt⟩:Fin l.length).1]?).getD Ev.zero=x:=by show (l[k]?).getD Ev.zero=x; rw [hx]; rfl
    have hlen:(ofU l ks k).length<(ofU l ks l.length).length:=ofU_lt hlt hx hin
    obtain ⟨fn,tmps,assign,body,hy,hR⟩:=hY _ ⟨k,hlt⟩ w1 (hJ _ _ _ none hJs g1 (by simp)) hlen
    rw [hlx] at hy
    have hy:(Instr.yield lb #[.int .i64 (k:Int),.agg #[.int .i64 x.id,.int .i64 x.time,.int .i64 x.kind,.int .i64 x.a,.int .i64 x.b,.int .i64 x.c,.int .i64 x.d,.int .i64 x.e,.int .i64 x.f]]).run Tryz.prog w1=.ok (.round lb fn tmps assign body) w1:=hy
    have d0:=boxc g3 0 _ rfl
    have d1:=boxc g3 1 _ rfl
    have d2:=boxc g3 2 _ rfl
    have d3:=boxc g3 3 _ rfl
    have d4:=boxc g3 4 _ rfl
    have d5:=boxc g3 5 _ rfl
    have d6:=boxc g3 6 _ rfl
    have d7:=boxc g3 7 _ rfl
    have d8:=boxc g3 8 _ rfl
    clear hc0 hc1 hc2 hc3 hc4 hc5 hc6 hc7 hc8
    gi_wp2
    refine hR.mono ?_
    rintro e W3 (⟨rfl,hJ3,hk3⟩|⟨rfl,hJx3⟩)
    ·gi_wp2
     go_roundw
     case rel=>exact ⟨k+1,by omega,by simp,by rw [ofU_succ hlt hx,if_pos hin]; exact hJ3,hk3 g2⟩
     case measure=>simp [intOf]; omega
    ·gi_wp2
     refine bodyPost_ret (results_none rfl _ _ _) rfl ?_
     exact ⟨⟨_,rfl⟩,.inr ⟨_,⟨k+1,by rw [ofU_succ hlt hx,if_pos hin]⟩,hJx3⟩⟩
  ·obtain rfl:k=l.length:=by omega
   gi_wp2
   go_end0
   exact ⟨⟨_,rfl⟩,.inl ⟨_,rfl,hJs⟩⟩
def evE (l:List Ev) (i:Nat):Int×Int×Int×Int×Int×Int×Int×Int×Int×Int×PUnit:=((i:Int),((l[i]?).getD Ev.zero).id,((l[i]?).getD Ev.zero).time,((l[i]?).getD Ev.zero).kind,((l[i]?).getD Ev.zero).a,((l[i]?).getD Ev.zero).b,((l[i]?).getD Ev.zero).c,((l[i]?).getD Ev.zero).d,((l[i]?).getD Ev.zero).e,((l[i]?).getD Ev.zero).f,())
def ofY (l:List Ev) (ks:List Int):List Nat:=(ofU l ks l.length).map (·.1)
theorem ofU_pre (l:List Ev) (ks:List Int) (j:Nat):List.IsPrefix ((ofU l ks j).map (·.1)) (ofY l ks):=by
 unfold ofY
 refine List.IsPrefix.map _ ?_
 unfold ofU
 refine List.IsPrefix.filter _ ?_
 have h1:(List.finRange l.length).take l.length=List.finRange l.length:=by rw [List.take_of_length_le]; simp
 rw [h1]
 exact List.take_prefix _ _
theorem it54 {HI : Heap} {B1 B2 : Nat} {A Bk : Option Addr} {cap kn kc : Nat} {T1 T2 : TypeId} {l : List Ev} {ks : List Int}
  (h1:HI B1=some (.cells #[.slice A l.length cap] T1 (0,0))) (h2:HI B2=some (.cells #[.slice Bk kn kc] T2 (0,0))) (hE:HasEvs HI A l.length l) (hK:HasI HI Bk kn ks) (hb:l.length≤100000000000000000) (hkb:ks.length≤9223372036854775807) :
  It Tryz.prog 87 [.pointer (some ⟨B1,0,none⟩),.pointer (some ⟨B2,0,none⟩)] HI l.length
   (fun i=>[Value.int .i64 (evE l i).1,Value.agg #[Value.int .i64 (evE l i).2.1,Value.int .i64 (evE l i).2.2.1,Value.int .i64 (evE l i).2.2.2.1,Value.int .i64 (evE l i).2.2.2.2.1,Value.int .i64 (evE l i).2.2.2.2.2.1,
    Value.int .i64 (evE l i).2.2.2.2.2.2.1,Value.int .i64 (evE l i).2.2.2.2.2.2.2.1,Value.int .i64 (evE l i).2.2.2.2.2.2.2.2.1,Value.int .i64 (evE l i).2.2.2.2.2.2.2.2.2.1]]) (ofY l ks):=by
 refine ⟨fun n w hn hw=>fun lb J Jx W hB hJ _ hY h0=>?_⟩
 have hW:Holds HI W:=fun b o e=>(hB.block b (heap_lt (hw b o e))).trans (hw b o e)
 have hlen:(ofY l ks).length=(ofU l ks l.length).length:=by simp [ofY]
 rw [hlen] at hY
 refine (of1_in n hn lb h1 h2 hE hK hb hkb J Jx W hW hJ hY h0).mono ?_
 rintro e W' ⟨he,⟨xs,rfl,hj⟩|⟨pre,⟨j,rfl⟩,hj⟩⟩
 ·exact ⟨he,.inl ⟨_,rfl,hj⟩⟩
 ·exact ⟨he,.inr ⟨_,ofU_pre l ks j,hj⟩⟩
theorem canc_mono {s s':VS} (hp:ScpOk s.scopes) (hp':ScpOk s'.scopes) (h:∀(i:Nat) (c:Scp),s.scopes[i]?=some c→∃c',s'.scopes[i]?=some c'∧c'.parent=c.parent∧(c.cancelled=true→c'.cancelled=true)):∀(n:Nat) (i:Int),i<n→i<s.scopes.length→s.cancelled i=true→s'.cancelled i=true
 | 0,i,h0,_,hc=>by rw [VS.cancelled_neg (by omega)] at hc; cases hc
 | n+1,i,hi,hl,hc=>by
  by_cases hneg:i<0
  ·rw [VS.cancelled_neg hneg] at hc; cases hc
  ·obtain ⟨k,rfl⟩:∃k:Nat,i=k:=⟨i.toNat,by omega⟩
   obtain ⟨c,hcc⟩:=get_some (l:=s.scopes) (i:=k) (by omega)
   obtain ⟨c',hc',hpar,hcan⟩:=h k c hcc
   have hpr:=hp k c hcc
   rw [VS.cancelled_at hp hcc] at hc
   rw [VS.cancelled_at hp' hc']
   by_cases hcn:c.cancelled=true
   ·rw [if_pos (hcan hcn)]
   ·rw [if_neg hcn] at hc
    split
    ·rfl
    ·rw [hpar]
     exact canc_mono hp hp' h n c.parent (by omega) (by omega) hc
theorem canc_down {s s':VS} {p:Prg} (iv:Inv p s) (iv':Inv p s') (h:∀(i:Nat) (c:Scp),s.scopes[i]?=some c→∃c',s'.scopes[i]?=some c'∧c'.parent=c.parent∧(c.cancelled=true→c'.cancelled=true)) {i:Int} (hi:i<s.scopes.length) (hc:s'.cancelled i=false):s.cancelled i=false:=by
 cases e:s.cancelled i with
 | false=>rfl
 | true=>rw [canc_mono iv.scp iv'.scp h (i.toNat+1) i (by omega) hi e] at hc; cases hc
theorem canc_snoc {s:VS} {p:Prg} (iv:Inv p s) (x:Scp):∀(n:Nat) (i:Int),i<n→i<s.scopes.length→({ s with scopes:=s.scopes++[x] }:VS).cancG n i=s.cancG n i
 | 0,i,_,_=>rfl
 | n+1,i,hi,hl=>by
  unfold VS.cancG
  by_cases hneg:i<0
  ·rw [if_pos hneg,if_pos hneg]
  ·rw [if_neg hneg,if_neg hneg]
   have e:(s.scopes++[x])[i.toNat]?=s.scopes[i.toNat]?:=List.getElem?_append_left (by omega)
   show (match (s.scopes++[x])[i.toNat]? with|some c=>if c.cancelled=true then true else _|none=>false)=_
   rw [e]
   cases hc:s.scopes[i.toNat]? with
   | none=>rfl
   | some c =>
    have:=iv.scp _ _ hc
    simp only
    rw [canc_snoc iv x n c.parent (by omega) (by omega)]
theorem canc_grown {s:VS} {p:Prg} (iv:Inv p s) {x:Scp} (hx:x.parent<s.scopes.length) {i:Int} (hi:i<s.scopes.length):({ s with scopes:=s.scopes++[x] }:VS).cancelled i=s.cancelled i:=by
 have e1:({ s with scopes:=s.scopes++[x] }:VS).cancelled i=({ s with scopes:=s.scopes++[x] }:VS).cancG (s.scopes.length+1+1) i:=by
  show ({ s with scopes:=s.scopes++[x] }:VS).cancG ((s.scopes++[x]).length+1) i=_
  rw [List.length_append,List.length_singleton]
 have e2:=cancG_enough (s:={ s with scopes:=s.scopes++[x] }) (iv.scp.snoc hx) (s.scopes.length+1) i (s.scopes.length+1+1) (by omega) (by omega)
 rw [e1,e2]
 exact canc_snoc iv x _ i (by omega) hi
theorem GO.done {H:List Ev} {s:VS} {pd:List Nat} {pu:List Ev} {dx:Option Nat} (g:GO H s pd pu dx) (i v k:Int):GO H (s.setDone i v k) pd pu dx:=by
 rcases setDone_cases s i v k with e|⟨f0,hf0,h0,hd0,e⟩
 ·rw [e]; exact g
 ·rw [e]
  have at_:∀(j:Nat) (f:Fut),(s.futures.set i.toNat (f0.end_ v k))[j]?=some f→∃f',s.futures[j]?=some f'∧f'.kind=f.kind∧f'.event=f.event∧f'.scope=f.scope∧(f.done=false→f'.done=false)∧(f'.done=true→f.done=true):=fun j f hf=>by
   rw [List.getElem?_set] at hf
   by_cases hij:i.toNat=j
   ·subst hij
    rw [if_pos rfl,if_pos (get_lt hf0)] at hf
    cases hf
    exact ⟨f0,hf0,rfl,rfl,rfl,fun h=>(by cases h),fun _=>rfl⟩
   ·rw [if_neg hij] at hf
    exact ⟨f,hf,rfl,rfl,rfl,id,id⟩
  have cc:∀x,({ s with futures:=s.futures.set i.toNat (f0.end_ v k) }:VS).cancelled x=s.cancelled x:=fun x=>keepE_canc (s:=s) (s':={ s with futures:=s.futures.set i.toNat (f0.end_ v k) }) rfl x
  refine ⟨fun j f hf he=>?_,fun j f hf he=>?_,fun a b f f2 hf hf2 he hn=>?_,fun j f hf he hd hk=>?_,fun j f hf he hd hk=>?_,fun j f hf he hd hk=>?_,fun j f hf he hd hk hc=>?_,fun j f hf hd hk=>?_,g.ua,g.ud,g.ta,g.tu⟩
  ·obtain ⟨f',q1,q2,q3,q4,q5,-⟩:=at_ j f hf
   rw [←q2,←q3]; exact g.fe j f' q1 (by rw [q3]; exact he)
  ·obtain ⟨f',q1,q2,q3,q4,q5,q6⟩:=at_ j f hf
   rcases g.f0 j f' q1 (by rw [q3]; exact he) with h|h
   ·exact .inl (q6 h)
   ·exact .inr (by rw [←q2]; exact h)
  ·obtain ⟨f',q1,-,q3,-⟩:=at_ a f hf
   obtain ⟨f2',r1,-,r3,-⟩:=at_ b f2 hf2
   exact g.fu a b f' f2' q1 r1 (by rw [q3,r3]; exact he) (by rw [q3]; exact hn)
  ·obtain ⟨f',q1,q2,q3,q4,q5,-⟩:=at_ j f hf
   rw [←q3]; exact g.f3 j f' q1 (by rw [q3]; exact he) (q5 hd) (by rw [q2]; exact hk)
  ·obtain ⟨f',q1,q2,q3,q4,q5,-⟩:=at_ j f hf
   rw [←q3]; exact g.f4 j f' q1 (by rw [q3]; exact he) (q5 hd) (by rw [q2]; exact hk)
  ·obtain ⟨f',q1,q2,q3,q4,q5,-⟩:=at_ j f hf
   rw [←q3]; exact g.f5 j f' q1 (by rw [q3]; exact he) (q5 hd) (by rw [q2]; exact hk)
  ·obtain ⟨f',q1,q2,q3,q4,q5,-⟩:=at_ j f hf
   rw [cc] at hc
   rw [←q3]; exact g.f8 j f' q1 (by rw [q3]; exact he) (q5 hd) (by rw [q2]; exact hk) (by rw [q4]; exact hc)
  ·obtain ⟨f',q1,q2,q3,q4,q5,-⟩:=at_ j f hf
   rw [cc,←q4]; exact g.fz j f' q1 (q5 hd) (by rw [q2]; exact hk)
theorem GO.fut {H : List Ev} {s : VS} {pd : List Nat} {pu : List Ev} {dx : Option Nat} (g : GO H s pd pu dx) (f : Fut) (h0 : f.event=0→f.done=true∨f.kind=0)
  (he:f.event≠0→isP H f.event f.kind=true∧(f.kind=3∨f.kind=4∨f.kind=5)∧(∀ks:List Int,(∀k,ks.contains k=true→namers.contains k=true)→anyP H f.event ks=false)∧(∀(i:Nat) (f2:Fut),s.futures[i]?=some f2→f2.event≠f.event)∧s.cancelled f.scope=false):GO H (s.fut f) pd pu dx:=by
 have cc:∀x,(s.fut f).cancelled x=s.cancelled x:=fun x=>keepE_canc (s:=s) (s':=s.fut f) rfl x
 have at_:∀(j:Nat) (x:Fut),(s.fut f).futures[j]?=some x→s.futures[j]?=some x∨(j=s.futures.length∧x=f):=fun j x hx=>by
  rcases snoc_get (show (s.futures++[f])[j]?=some x from hx) with ⟨-,q⟩|q
  ·exact .inl q
  ·exact .inr q
 have nk:∀ks:List Int,ks=[6,22,23,24]∨ks=[7,25]∨ks=[27,28]∨ks=[8]→∀k,ks.contains k=true→namers.contains k=true:=fun ks hks k hk=>by
  rcases hks with rfl|rfl|rfl|rfl<;>(simp [namers] at hk ⊢; omega)
 refine ⟨fun j x hx hn=>?_,fun j x hx hn=>?_,fun a b x y hx hy hxy hn=>?_,fun j x hx hn hd hk=>?_,fun j x hx hn hd hk=>?_,fun j x hx hn hd hk=>?_,fun j x hx hn hd hk hc=>?_,fun j x hx hd hk=>?_,g.ua,g.ud,g.ta,g.tu⟩
 ·rcases at_ j x hx with q|⟨-,rfl⟩
  ·exact g.fe j x q hn
  ·exact ⟨(he hn).1,(he hn).2.1⟩
 ·rcases at_ j x hx with q|⟨-,rfl⟩
  ·exact g.f0 j x q hn
  ·exact h0 hn
 ·rcases at_ a x hx with q|⟨qa,rfl⟩
  ·rcases at_ b y hy with r|⟨rb,rfl⟩
   ·exact g.fu a b x y q r hxy hn
   ·exact absurd hxy ((he (by rw [←hxy]; exact hn)).2.2.2.1 a x q)
  ·rcases at_ b y hy with r|⟨rb,rfl⟩
   ·exact absurd hxy.symm ((he hn).2.2.2.1 b y r)
   ·omega
 ·rcases at_ j x hx with q|⟨-,rfl⟩
  ·exact g.f3 j x q hn hd hk
  ·exact (he hn).2.2.1 _ (nk _ (.inl rfl))
 ·rcases at_ j x hx with q|⟨-,rfl⟩
  ·exact g.f4 j x q hn hd hk
  ·exact (he hn).2.2.1 _ (nk _ (.inr (.inl rfl)))
 ·rcases at_ j x hx with q|⟨-,rfl⟩
  ·exact g.f5 j x q hn hd hk
  ·exact (he hn).2.2.1 _ (nk _ (.inr (.inr (.inl rfl))))
 ·rcases at_ j x hx with q|⟨-,rfl⟩
  ·rw [cc] at hc; exact g.f8 j x q hn hd hk hc
  ·exact (he hn).2.2.1 _ (nk _ (.inr (.inr (.inr rfl))))
 ·rcases at_ j x hx with q|⟨-,rfl⟩
  ·rw [cc]; exact g.fz j x q hd hk
  ·rw [cc]
   by_cases hn:x.event=0
   ·rcases h0 hn with h|h
    ·rw [h] at hd; cases hd
    ·rcases hk with hk|hk<;>omega
   ·exact .inl (he hn).2.2.2.2
theorem GO.scp {p:Prg} {H:List Ev} {s:VS} {pd:List Nat} {pu:List Ev} {dx:Option Nat} (g:GO H s pd pu dx) (iv:Inv p s) {x:Scp} (hx:x.parent<s.scopes.length):GO H { s with scopes:=s.scopes++[x] } pd pu dx:=by
 have cc:∀(j:Nat) (f:Fut),s.futures[j]?=some f→({ s with scopes:=s.scopes++[x] }:VS).cancelled f.scope=s.cancelled f.scope:=fun j f hf=>canc_grown iv hx (iv.futs f (List.mem_of_getElem? hf)).2.2
 exact ⟨g.fe,g.f0,g.fu,g.f3,g.f4,g.f5,fun j f hf he hd hk hc=>g.f8 j f hf he hd hk (by rw [cc j f hf] at hc; exact hc),fun j f hf hd hk=>by rw [cc j f hf]; exact g.fz j f hf hd hk,g.ua,g.ud,g.ta,g.tu⟩
theorem GO.mark {p:Prg} {H:List Ev} {s:VS} {pu:List Ev} {dx:Option Nat} (g:GO H s [] pu dx) (iv:Inv p s) (rm:Room s) (i:Int):GO H (s.mark i) s.hits pu dx:=by
 have st:FStep p false s (s.mark i):=.mark s i
 have iv':=(st.inv iv rm).1
 have hf:(s.mark i).futures=s.futures:=mark_futs s i
 have ht:(s.mark i).threads=s.threads:=by rcases mark_cases s i with e|⟨c,-,e⟩<;>rw [e]
 have dn:∀(f:Fut) (j:Nat),s.futures[j]?=some f→(s.mark i).cancelled f.scope=false→s.cancelled f.scope=false:=fun f j hj hc=>canc_down iv iv' st.ext.scps (iv.futs f (List.mem_of_getElem? hj)).2.2 hc
 have hit:∀(j:Nat) (f:Fut),s.futures[j]?=some f→(j∈s.hits↔(f.done=false∧s.cancelled f.scope=false)):=fun j f hj=>by
  unfold VS.hits VS.hitAt
  rw [List.mem_filter,List.mem_range,hj]
  simp [get_lt hj]
 refine ⟨by rw [hf]; exact g.fe,by rw [hf]; exact g.f0,by rw [hf]; exact g.fu,by rw [hf]; exact g.f3,by rw [hf]; exact g.f4,by rw [hf]; exact g.f5,fun j f hj he hd hk hc=>?_,fun j f hj hd hk=>?_,g.ua,g.ud,by rw [ht]; exact g.ta,by rw [ht]; exact g.tu⟩
 ·rw [hf] at hj
  refine g.f8 j f hj he hd hk (.inl ?_)
  rcases hc with hc|hc
  ·exact dn f j hj hc
  ·exact ((hit j f hj).1 hc).2
 ·rw [hf] at hj
  rcases g.fz j f hj hd hk with h|h
  ·exact .inr ((hit j f hj).2 ⟨hd,h⟩)
  ·cases h
theorem GO.thr {H : List Ev} {s : VS} {pd : List Nat} {pu : List Ev} {dx : Option Nat} (g : GO H s pd pu dx) (t : Thr) (hd : ∀i, dx=some i→i<s.threads.length)
  (ht:t.update≠0→isP H t.update 21=true∧anyP H t.update [12]=true∧anyP H t.update [14]=false∧∀(i:Nat) (u:Thr),s.threads[i]?=some u→u.update≠t.update):GO H (s.thread t) pd pu dx:=by
 have at_:∀(j:Nat) (x:Thr),(s.thread t).threads[j]?=some x→s.threads[j]?=some x∨(j=s.threads.length∧x=t):=fun j x hx=>by
  rcases snoc_get (show (s.threads++[t])[j]?=some x from hx) with ⟨-,q⟩|q
  ·exact .inl q
  ·exact .inr q
 have cc:∀x,(s.thread t).cancelled x=s.cancelled x:=fun x=>keepE_canc (s:=s) (s':=s.thread t) rfl x
 refine ⟨g.fe,g.f0,g.fu,g.f3,g.f4,g.f5,by simp only [cc]; exact g.f8,by simp only [cc]; exact g.fz,g.ua,g.ud,fun j x hx hn=>?_,fun a b x y hx hy hxy hn=>?_⟩
 ·rcases at_ j x hx with q|⟨-,rfl⟩
  ·exact g.ta j x q hn
  ·exact ⟨(ht hn).1,(ht hn).2.1,fun _=>(ht hn).2.2.1⟩
 ·rcases at_ a x hx with q|⟨qa,rfl⟩
  ·rcases at_ b y hy with r|⟨rb,rfl⟩
   ·exact g.tu a b x y q r hxy hn
   ·exact absurd hxy ((ht (by rw [←hxy]; exact hn)).2.2.2 a x q)
  ·rcases at_ b y hy with r|⟨rb,rfl⟩
   ·exact absurd hxy.symm ((ht hn).2.2.2 b y r)
   ·omega
theorem GO.set {H:List Ev} {s:VS} {pd:List Nat} {pu:List Ev} {dx:Option Nat} (g:GO H s pd pu dx) {i:Nat} {t t':Thr} (ht:s.threads[i]?=some t) (e:t'.update=t.update):GO H { s with threads:=s.threads.set i t' } pd pu dx:=by
 have at_:∀(j:Nat) (x:Thr),(s.threads.set i t')[j]?=some x→∃y,s.threads[j]?=some y∧y.update=x.update:=fun j x hx=>by
  rw [List.getElem?_set] at hx
  by_cases hij:i=j
  ·subst hij
   rw [if_pos rfl,if_pos (get_lt ht)] at hx
   cases hx; exact ⟨t,ht,e.symm⟩
  ·rw [if_neg hij] at hx; exact ⟨x,hx,rfl⟩
 have cc:∀x,({ s with threads:=s.threads.set i t' }:VS).cancelled x=s.cancelled x:=fun x=>keepE_canc (s:=s) (s':={ s with threads:=s.threads.set i t' }) rfl x
 refine ⟨g.fe,g.f0,g.fu,g.f3,g.f4,g.f5,by simp only [cc]; exact g.f8,by simp only [cc]; exact g.fz,g.ua,g.ud,fun j x hx hn=>?_,fun a b x y hx hy hxy hn=>?_⟩
 ·obtain ⟨y,hy,ey⟩:=at_ j x hx
  rw [←ey]; exact g.ta j y hy (by rw [ey]; exact hn)
 ·obtain ⟨x',hx',ex⟩:=at_ a x hx
  obtain ⟨y',hy',ey⟩:=at_ b y hy
  exact g.tu a b x' y' hx' hy' (by rw [ex,ey]; exact hxy) (by rw [ex]; exact hn)
theorem GO.erase {H:List Ev} {s:VS} {pd:List Nat} {pu:List Ev} {i:Nat} (g:GO H s pd pu (some i)):GO H { s with threads:=s.threads.eraseIdx i } pd pu none:=by
 have at_:∀(j:Nat) (x:Thr),(s.threads.eraseIdx i)[j]?=some x→∃k,k≠i∧s.threads[k]?=some x∧k=(if j<i then j else j+1):=fun j x hx=>by
  rw [List.getElem?_eraseIdx] at hx
  split at hx
  ·rename_i h; exact ⟨j,by omega,hx,by rw [if_pos h]⟩
  ·rename_i h; exact ⟨j+1,by omega,hx,by rw [if_neg h]⟩
 have cc:∀x,({ s with threads:=s.threads.eraseIdx i }:VS).cancelled x=s.cancelled x:=fun x=>keepE_canc (s:=s) (s':={ s with threads:=s.threads.eraseIdx i }) rfl x
 refine ⟨g.fe,g.f0,g.fu,g.f3,g.f4,g.f5,by simp only [cc]; exact g.f8,by simp only [cc]; exact g.fz,g.ua,g.ud,fun j x hx hn=>?_,fun a b x y hx hy hxy hn=>?_⟩
 ·obtain ⟨k,hk,hkx,-⟩:=at_ j x hx
  obtain ⟨q1,q2,q3⟩:=g.ta k x hkx hn
  exact ⟨q1,q2,fun _=>q3 (fun e=>hk (Option.some.inj e))⟩
 ·obtain ⟨k,hk,hkx,e1⟩:=at_ a x hx
  obtain ⟨l,hl,hly,e2⟩:=at_ b y hy
  have:=g.tu k l x y hkx hly hxy hn
  split at e1<;>split at e2<;>omega
theorem GO.dx {H:List Ev} {s:VS} {pd:List Nat} {pu:List Ev} (g:GO H s pd pu none) (d:Option Nat):GO H s pd pu d :=
 ⟨g.fe,g.f0,g.fu,g.f3,g.f4,g.f5,g.f8,g.fz,g.ua,g.ud,fun i t ht hn=>⟨(g.ta i t ht hn).1,(g.ta i t ht hn).2.1,fun _=>(g.ta i t ht hn).2.2 (by simp)⟩,g.tu⟩
theorem fix7_kind (x:Ev):(fix7 x).kind=x.kind:=by unfold fix7; split<;>rfl
theorem fix7_a (x:Ev):(fix7 x).a=x.a:=by unfold fix7; split<;>rfl
theorem fix7_id (x:Ev):(fix7 x).id=x.id:=by unfold fix7; split<;>rfl
theorem fix7_time (x:Ev):(fix7 x).time=x.time:=by unfold fix7; split<;>rfl
theorem fix7_ne {x:Ev} (h:x.kind≠18):fix7 x=x:=by unfold fix7; rw [if_neg h]
def hist (h0:List Ev) (s:VS):List Ev:=h0++s.made.map fix7
theorem hist_push (h0:List Ev) (s:VS) (e:Ev):hist h0 (s.push e)=hist h0 s++[fix7 e]:=by
 show h0++(s.made++[e]).map fix7=_
 unfold hist; rw [List.map_append,List.append_assoc]; rfl
structure GT (h0:List Ev) (now:Int) (s:VS):Prop where
 tm:TM h0.length now s
 n0:0≤now∧now≤1099511627776
 gram:Gram (hist h0 s)
structure GI (h0:List Ev) (now:Int) (s:VS) (pd:List Nat) (pu:List Ev) (dx:Option Nat):Prop extends GT h0 now s where
 go:s.over=false→GO (hist h0 s) s pd pu dx
theorem GT.congr {h0:List Ev} {now:Int} {s s':VS} (g:GT h0 now s) (e1:s'.expect=s.expect) (e2:s'.now=s.now) (e3:s'.count=s.count) (e4:s'.made=s.made) (e5:s'.over=s.over):GT h0 now s' :=
 ⟨g.tm.congr e1 e2 e3 e4 e5,g.n0,by unfold hist; rw [e4]; exact g.gram⟩
theorem GI.shut {h0:List Ev} {now:Int} {s:VS} (g:GT h0 now s) (ho:s.over=true) (pd:List Nat) (pu:List Ev) (dx:Option Nat):GI h0 now s pd pu dx:=⟨g,fun h=>by rw [ho] at h; cases h⟩
theorem GI.congr {h0 : List Ev} {now : Int} {s s' : VS} {pd pd' : List Nat} {pu pu' : List Ev} {dx dx' : Option Nat} (g : GI h0 now s pd pu dx) (e1 : s'.expect=s.expect) (e2 : s'.now=s.now) (e3 : s'.count=s.count) (e4 : s'.made=s.made) (e5 : s'.over=s.over)
  (hg:GO (hist h0 s) s pd pu dx→GO (hist h0 s) s' pd' pu' dx'):GI h0 now s' pd' pu' dx' :=
 have eh:hist h0 s'=hist h0 s:=by unfold hist; rw [e4]
 ⟨g.toGT.congr e1 e2 e3 e4 e5,fun h=>by rw [eh]; exact hg (g.go (by rw [←e5]; exact h))⟩
section
variable {h0:List Ev} {now:Int} {s:VS} {pd pd':List Nat} {pu pu':List Ev} {dx dx':Option Nat}
theorem GT.len (g:GT h0 now s):((hist h0 s).length:Int)=s.count:=by
 unfold hist; rw [List.length_append,List.length_map,g.tm.len]; omega
theorem GT.lastEv (g:GT h0 now s):∃x l,s.made=l++[x]∧hist h0 s=(h0++l.map fix7)++[fix7 x]:=by
 rcases List.eq_nil_or_concat s.made with h|⟨l,x,h⟩
 ·have:=g.tm.first; rw [h] at this; cases this
 ·refine ⟨x,l,by rw [h]; simp,?_⟩
  unfold hist; rw [h]; simp
theorem GT.last (g:GT h0 now s):hist h0 s≠[]∧(lastP (hist h0 s)).time=now∧((lastP (hist h0 s)).kind=2∨cmdM (lastP (hist h0 s)).kind=true)∧(s.over=false→closeM (lastP (hist h0 s)).kind=false):=by
 obtain ⟨x,l,hm,hh⟩:=g.lastEv
 have hx:s.made[l.length]?=some x:=by rw [hm]; simp
 rw [hh,lastP_snoc,fix7_time,fix7_kind]
 have r:=g.tm.row _ _ hx
 refine ⟨by simp,r.2.1,?_,fun ho=>g.tm.open_ ho _ _ hx⟩
 by_cases h:l.length=0
 ·left
  have:=g.tm.first
  rw [h] at hx; rw [hx] at this
  cases this; rfl
 ·exact .inr (r.2.2 h)
theorem GT.push (g:GT h0 now s) (ho:s.over=false) {e:Ev} (h1:e.id=s.count+1) (h2:e.time=s.now) (h3:cmdM e.kind=true) (hv:validM (fix7 e)=true) (hn:namesP (hist h0 s) (fix7 e)=true):GT h0 now (s.push e):=by
 refine ⟨g.tm.push ho h1 h2 h3,g.n0,?_⟩
 rw [hist_push]
 obtain ⟨l1,l2,l3,l4⟩:=g.last
 have hl:=g.len
 refine gram_snoc g.gram (may_of l1 hv ?_ ?_ ?_ (l4 ho) ?_ ?_ hn)
 ·rw [fix7_id,h1,hl]
 ·rw [fix7_kind]; intro h; rw [h] at h3; cases h3
 ·rw [fix7_time,h2,g.tm.nw,l2]; exact Int.le_refl _
 ·rw [fix7_kind]; intro h; rw [h] at h3; cases h3
 ·intro _; refine ⟨l3,?_⟩; rw [fix7_time,h2,g.tm.nw,l2]
theorem GT.emit0 (g:GT h0 now s) (e:Ev):s.emit0 e=((e.id,true),s.push e):=by unfold VS.emit0; rw [g.tm.x]
theorem valid_fail {id now c:Int} (h1:1≤id∧id≤256) (h2:0≤now∧now≤1099511627776):validM ⟨id,now,16,c,0,0,0,0,0⟩=true:=by
 unfold validM headOk
 simp [numOk,fieldsM,tabF,spanM]
 omega
theorem GT.fails {p:Prg} (g:GT h0 now s) (iv:Inv p s) (rm:Room s) (ho:s.over=false) (c:Int):GT h0 now (s.fails c):=by
 unfold VS.fails
 rw [g.emit0]
 have hr:=rm g.tm.x ho
 have hc:=iv.c0
 refine g.push ho rfl rfl rfl ?_ rfl
 have hn:=g.tm.nw
 have:validM ⟨s.count+1,s.now,16,c,0,0,0,0,0⟩=true:=valid_fail ⟨by omega,by omega⟩ (by rw [hn]; exact g.n0)
 exact this
theorem GI.fails {p:Prg} (g:GT h0 now s) (iv:Inv p s) (rm:Room s) (ho:s.over=false) (c:Int) (pd:List Nat) (pu:List Ev) (dx:Option Nat):GI h0 now (s.fails c) pd pu dx:=.shut (g.fails iv rm ho c) (overF s c) _ _ _
theorem GT.emit {p : Prg} (g : GT h0 now s) (iv : Inv p s) (rm : Room s) (ho : s.over=false) {e : Ev} (hk : cmdM e.kind=true) (hv : ∀id, 1≤id→id≤256→validM (fix7 { e with id := id, time := now })=true) (hn : namesP (hist h0 s) (fix7 (s.stamp e))=true) :
  GT h0 now (s.emit e).2∧((s.emit e).1.2=true→hist h0 (s.emit e).2=hist h0 s++[fix7 (s.stamp e)]):=by
 unfold VS.emit
 split
 ·exact ⟨g.fails iv rm ho _,fun h=>by cases h⟩
 ·rw [g.emit0]
  have hr:=rm g.tm.x ho
  have hc:=iv.c0
  refine ⟨g.push ho rfl rfl hk ?_ hn,fun _=>hist_push _ _ _⟩
  have:=hv (s.count+1) (by omega) (by omega)
  rw [←g.tm.nw] at this; exact this
theorem GI.emit {p : Prg} (g : GI h0 now s pd pu dx) (iv : Inv p s) (rm : Room s) (ho : s.over=false) {e : Ev} (hk : cmdM e.kind=true) (hv : ∀id, 1≤id→id≤256→validM (fix7 { e with id := id, time := now })=true) (hn : namesP (hist h0 s) (fix7 (s.stamp e))=true)
  (hg:closeM e.kind=false→GO (hist h0 s) s pd pu dx→GO (hist h0 s++[fix7 (s.stamp e)]) s pd' pu' dx'):GI h0 now (s.emit e).2 pd' pu' dx':=by
 have k:=g.toGT.emit iv rm ho hk hv hn
 have kp:=keepE s e
 refine ⟨k.1,fun hov=>?_⟩
 have hok:(s.emit e).1.2=true:=by
  cases h:(s.emit e).1.2 with
  | true=>rfl
  | false=>rw [overE s e h] at hov; cases hov
 have hc:closeM e.kind=false:=by
  have:=goesE s e hok
  rw [hov] at this
  cases h:closeM e.kind with
  | false=>rfl
  | true=>rw [h] at this; cases this
 rw [k.2 hok]
 exact (hg hc (g.go ho)).congr kp.futures kp.scopes kp.threads
end
section
variable {id now a b c:Int}
theorem valid_3 (h1:1≤id∧id≤256) (h2:0≤now∧now≤1099511627776) (ha:0≤a∧a<8):validM ⟨id,now,3,a,b,0,0,0,0⟩=true:=by
 unfold validM headOk; simp [numOk,fieldsM,tabF,spanM]; omega
theorem valid_4 (h1:1≤id∧id≤256) (h2:0≤now∧now≤1099511627776) (ha:0≤a):validM ⟨id,now,4,a,0,0,0,0,0⟩=true:=by
 unfold validM headOk; simp [numOk,fieldsM,tabF,spanM]; omega
theorem valid_5 (h1:1≤id∧id≤256) (h2:0≤now∧now≤1099511627776) (ha:0≤a∧a<8):validM ⟨id,now,5,a,b,0,0,0,0⟩=true:=by
 unfold validM headOk; simp [numOk,fieldsM,tabF,spanM]; omega
theorem valid_6 (h1:1≤id∧id≤256) (h2:0≤now∧now≤1099511627776) (ha:1≤a):validM ⟨id,now,6,a,0,0,0,0,0⟩=true:=by
 unfold validM headOk; simp [numOk,fieldsM,tabF,spanM]; omega
theorem valid_7 (h1:1≤id∧id≤256) (h2:0≤now∧now≤1099511627776) (ha:1≤a):validM ⟨id,now,7,a,0,0,0,0,0⟩=true:=by
 unfold validM headOk; simp [numOk,fieldsM,tabF,spanM]; omega
theorem valid_8 (h1:1≤id∧id≤256) (h2:0≤now∧now≤1099511627776) (ha:1≤a):validM ⟨id,now,8,a,0,0,0,0,0⟩=true:=by
 unfold validM headOk; simp [numOk,fieldsM,tabF,spanM]; omega
theorem valid_9 (h1:1≤id∧id≤256) (h2:0≤now∧now≤1099511627776) (ha:1≤a) (hb:0≤b∧b<8):validM ⟨id,now,9,a,b,c,0,0,0⟩=true:=by
 unfold validM headOk; simp [numOk,fieldsM,tabF,spanM]; omega
theorem valid_10 (h1:1≤id∧id≤256) (h2:0≤now∧now≤1099511627776) (ha:0≤a∧a<4):validM ⟨id,now,10,a,b,0,0,0,0⟩=true:=by
 unfold validM headOk; simp [numOk,fieldsM,tabF,spanM]; omega
theorem valid_11 (h1:1≤id∧id≤256) (h2:0≤now∧now≤1099511627776):validM ⟨id,now,11,a,0,0,0,0,0⟩=true:=by
 unfold validM headOk; simp [numOk,fieldsM,tabF,spanM]; omega
theorem valid_12 (h1:1≤id∧id≤256) (h2:0≤now∧now≤1099511627776) (ha:1≤a):validM ⟨id,now,12,a,0,0,0,0,0⟩=true:=by
 unfold validM headOk; simp [numOk,fieldsM,tabF,spanM]; omega
theorem valid_13 (h1:1≤id∧id≤256) (h2:0≤now∧now≤1099511627776) (ha:1≤a):validM ⟨id,now,13,a,b,0,0,0,0⟩=true:=by
 unfold validM headOk; simp [numOk,fieldsM,tabF,spanM]; omega
theorem valid_14 (h1:1≤id∧id≤256) (h2:0≤now∧now≤1099511627776) (ha:1≤a) (hc:c=0∨c=1):validM ⟨id,now,14,a,b,c,0,0,0⟩=true:=by
 unfold validM headOk; simp [numOk,fieldsM,tabF,spanM]; omega
theorem valid_15 (h1:1≤id∧id≤256) (h2:0≤now∧now≤1099511627776):validM ⟨id,now,15,a,0,0,0,0,0⟩=true:=by
 unfold validM headOk; simp [numOk,fieldsM,tabF,spanM]; omega
theorem valid_17 (h1:1≤id∧id≤256) (h2:0≤now∧now≤1099511627776):validM ⟨id,now,17,a,0,0,0,0,0⟩=true:=by
 unfold validM headOk; simp [numOk,fieldsM,tabF,spanM]; omega
theorem valid_18 (h1:1≤id∧id≤256) (h2:0≤now∧now≤1099511627776):validM ⟨id,now,18,a,7,0,0,0,0⟩=true:=by
 unfold validM headOk; simp [numOk,fieldsM,tabF,spanM]; omega
theorem valid_2 (h1:1≤id∧id≤256) (h2:0≤now∧now≤1099511627776) (ha:1≤a):validM ⟨id,now,2,a,0,0,0,0,0⟩=true:=by
 unfold validM headOk; simp [numOk,fieldsM,tabF,spanM]; omega
end
theorem names_6 {pre:List Ev} {x:Ev} (hk:x.kind=6) (h1:isP pre x.a 3=true) (h2:anyP pre x.a [6,22,23,24]=false):namesP pre x=true:=by
 unfold namesP; rw [if_pos (.inl hk),h1,h2]; rfl
theorem names_7 {pre:List Ev} {x:Ev} (hk:x.kind=7) (h1:isP pre x.a 4=true) (h2:anyP pre x.a [7,25]=false):namesP pre x=true:=by
 unfold namesP; rw [if_neg (by omega),if_pos hk,h1,h2]; rfl
theorem names_8 {pre:List Ev} {x:Ev} (hk:x.kind=8) (h1:isP pre x.a 5=true) (h2:anyP pre x.a [8,27,28]=false):namesP pre x=true:=by
 unfold namesP; rw [if_neg (by omega),if_neg (by omega),if_neg (by omega),if_neg (by omega),if_neg (by omega),if_pos hk,h1,h2]; rfl
theorem names_9 {pre:List Ev} {x:Ev} (hk:x.kind=9) (h1:isP pre x.a 5=true):namesP pre x=true:=by
 unfold namesP; rw [if_neg (by omega),if_neg (by omega),if_neg (by omega),if_neg (by omega),if_neg (by omega),if_neg (by omega),if_pos hk,h1]
theorem names_12 {pre:List Ev} {x:Ev} (hk:x.kind=12∨x.kind=13) (h1:isP pre x.a 21=true) (h2:anyP pre x.a [12,13]=false):namesP pre x=true:=by
 unfold namesP; rw [if_neg (by omega),if_neg (by omega),if_neg (by omega),if_neg (by omega),if_neg (by omega),if_neg (by omega),if_neg (by omega),if_neg (by omega),if_pos hk,h1,h2]; rfl
theorem names_14 {pre:List Ev} {x:Ev} (hk:x.kind=14) (h1:isP pre x.a 21=true) (h2:anyP pre x.a [12]=true) (h3:anyP pre x.a [14]=false):namesP pre x=true:=by
 unfold namesP; rw [if_neg (by omega),if_neg (by omega),if_neg (by omega),if_neg (by omega),if_neg (by omega),if_neg (by omega),if_neg (by omega),if_neg (by omega),if_neg (by omega),if_pos hk,h1,h2,h3]; rfl
theorem names_else {pre:List Ev} {x:Ev} (hk:namers.contains x.kind=false) (h9:x.kind≠9) (h29:x.kind≠29):namesP pre x=true:=by
 simp [namers] at hk
 unfold namesP; rw [if_neg (by omega),if_neg (by omega),if_neg (by omega),if_neg (by omega),if_neg (by omega),if_neg (by omega),if_neg (by omega),if_neg (by omega),if_neg (by omega),if_neg (by omega)]
theorem any_or {h:List Ev} {id:Int} {ks ls ms:List Int} (hs:∀k,ms.contains k=true→ks.contains k=true∨ls.contains k=true) (a:anyP h id ks=false) (b:anyP h id ls=false):anyP h id ms=false:=by
 cases c:anyP h id ms with
 | false=>rfl
 | true =>
  obtain ⟨j,x,hx,hk,rfl⟩:=anyP_get c
  rcases hs _ hk with q|q
  ·have : anyP h x.a ks=true := by
    unfold anyP; rw [List.any_eq_true]; exact ⟨x,List.mem_of_getElem? hx,by rw [q]; simp⟩
   rw [a] at this; cases this
  ·have : anyP h x.a ls=true := by
    unfold anyP; rw [List.any_eq_true]; exact ⟨x,List.mem_of_getElem? hx,by rw [q]; simp⟩
   rw [b] at this; cases this
theorem GO.drop {H:List Ev} {s:VS} {i:Nat} {l:List Nat} {pu:List Ev} {dx:Option Nat} (g:GO H s (i::l) pu dx) (h:∀f,s.futures[i]?=some f→f.done=false→(f.kind=3∨f.kind=4)→s.cancelled f.scope=false):GO H s l pu dx:=by
 refine ⟨g.fe,g.f0,g.fu,g.f3,g.f4,g.f5,fun j f hf he hd hk hc=>g.f8 j f hf he hd hk (hc.imp id (List.mem_cons_of_mem _)),fun j f hf hd hk=>?_,g.ua,g.ud,g.ta,g.tu⟩
 rcases g.fz j f hf hd hk with q|q
 ·exact .inl q
 ·rcases List.mem_cons.1 q with q|q
  ·subst q; exact .inl (h f hf hd hk)
  ·exact .inr q
theorem setDone_at {s:VS} {i:Nat} {f:Fut} (hf:s.futures[i]?=some f) (hd:f.done=false) (v k:Int):s.setDone i v k={ s with futures:=s.futures.set i (f.end_ v k) }:=by
 unfold VS.setDone
 rw [Int.toNat_natCast,hf]
 simp only
 rw [if_pos (by rw [hd]; simp)]
theorem setDone_congr {s s':VS} (e1:s'.futures=s.futures) (i v k:Int):(s'.setDone i v k).futures=(s.setDone i v k).futures:=by
 unfold VS.setDone
 rw [e1]
 split
 ·split
  ·rfl
  ·exact e1
 ·exact e1
theorem setDone_rest (s:VS) (i v k:Int):(s.setDone i v k).scopes=s.scopes∧(s.setDone i v k).threads=s.threads∧(s.setDone i v k).expect=s.expect∧(s.setDone i v k).now=s.now∧(s.setDone i v k).count=s.count∧(s.setDone i v k).made=s.made∧(s.setDone i v k).over=s.over:=by
 rcases setDone_cases s i v k with e|⟨f,_,_,_,e⟩<;>rw [e]<;>exact ⟨rfl,rfl,rfl,rfl,rfl,rfl,rfl⟩
section
variable {h0:List Ev} {now:Int} {p:Prg}
theorem undoAll_gi:∀(l:List Nat) (s:VS) (pu:List Ev) (dx:Option Nat),Inv p s→Room s→s.over=false→GI h0 now s l pu dx→l.Nodup→(∀j∈l,∀f,s.futures[j]?=some f→f.done=false)→GI h0 now (undoAll l s) [] pu dx
 | [],s,pu,dx,_,_,_,g,_,_=>g
 | i::l,s,pu,dx,iv,rm,ho,g,nd,hdn=>by
  have go:=g.go ho
  have ndl:=(List.nodup_cons.1 nd).2
  have nil_:=(List.nodup_cons.1 nd).1
  cases hf:s.futures[i]? with
  | none =>
   rw [undoAll,hf]
   exact undoAll_gi l s pu dx iv rm ho ⟨g.toGT,fun _=>go.drop (fun f h=>by rw [hf] at h; cases h)⟩ ndl (fun j hj=>hdn j (List.mem_cons_of_mem _ hj))
  | some f =>
   have hd:=hdn i (List.mem_cons_self ..) f hf
   rw [undoAll_cons hf]
   split
   ·rename_i hc
    refine undoAll_gi l s pu dx iv rm ho ⟨g.toGT,fun _=>go.drop (fun f' h _ _=>?_)⟩ ndl (fun j hj=>hdn j (List.mem_cons_of_mem _ hj))
    rw [hf] at h; cases h; simpa using hc
   ·rename_i hc
    have hc:s.cancelled f.scope=true:=by simpa using hc
    split
    ·rename_i hk
     refine undoAll_gi l s pu dx iv rm ho ⟨g.toGT,fun _=>go.drop (fun f' h _ hk2=>?_)⟩ ndl (fun j hj=>hdn j (List.mem_cons_of_mem _ hj))
     rw [hf] at h; cases h
     rcases hk2 with hk2|hk2<;>rw [hk2] at hk<;>exact absurd hk (by decide)
    ·rename_i hk
     have hkc:=undoK_cmd hk
     have hev:f.event≠0:=fun h=>by
      rcases go.f0 i f hf h with q|q
      ·rw [hd] at q; cases q
      ·rw [q] at hk; exact hk rfl
     obtain ⟨hfe,-⟩:=go.fe i f hf hev
     obtain ⟨he1,-,-⟩:=isP_some hfe
     have hxk:(fix7 (s.stamp (evM (undoK f.kind) f.event 0 0))).kind=undoK f.kind:=fix7_kind _
     have hxa:(fix7 (s.stamp (evM (undoK f.kind) f.event 0 0))).a=f.event:=fix7_a _
     have hvn:(∀id,1≤id→id≤256→validM (fix7 { (evM (undoK f.kind) f.event 0 0) with id:=id,time:=now })=true)∧namesP (hist h0 s) (fix7 (s.stamp (evM (undoK f.kind) f.event 0 0)))=true:=by
      rcases undoK_cases f.kind with e|⟨e,ek⟩|⟨e,ek⟩|⟨e,ek⟩
      ·exact absurd e hk
      ·rw [ek] at hfe
       refine ⟨fun id h1 h2=>?_,names_6 (by rw [hxk,e]) (by rw [hxa]; exact hfe) (by rw [hxa]; exact go.f3 i f hf hev hd ek)⟩
       rw [fix7_ne (by show undoK f.kind≠18; rw [e]; decide),e]
       exact valid_6 ⟨h1,h2⟩ g.n0 he1
      ·rw [ek] at hfe
       refine ⟨fun id h1 h2=>?_,names_7 (by rw [hxk,e]) (by rw [hxa]; exact hfe) (by rw [hxa]; exact go.f4 i f hf hev hd ek)⟩
       rw [fix7_ne (by show undoK f.kind≠18; rw [e]; decide),e]
       exact valid_7 ⟨h1,h2⟩ g.n0 he1
      ·rw [ek] at hfe
       refine ⟨fun id h1 h2=>?_,names_8 (by rw [hxk,e]) (by rw [hxa]; exact hfe) (by rw [hxa]; exact any_or (ks:=[8]) (ls:=[27,28]) (fun k q=>by simp at q ⊢; omega) (go.f8 i f hf hev hd ek (.inr (List.mem_cons_self ..))) (go.f5 i f hf hev hd ek))⟩
       rw [fix7_ne (by show undoK f.kind≠18; rw [e]; decide),e]
       exact valid_8 ⟨h1,h2⟩ g.n0 he1
     have k:=g.toGT.emit iv rm ho (e:=evM (undoK f.kind) f.event 0 0) hkc.1 hvn.1 hvn.2
     split
     ·rename_i hok
      exact .shut k.1 (overE _ _ (by simpa using hok)) _ _ _
     ·rename_i hok
      have hok:(s.emit (evM (undoK f.kind) f.event 0 0)).1.2=true:=by simpa using hok
      have hh:=k.2 hok
      have kp:=keepE s (evM (undoK f.kind) f.event 0 0)
      have st:=undoS_steps (p:=p) (b:=true) i (f:=f) ho hk
      have iv':=st.inv iv rm
      have hov:=undoS_over (i:=i) (f:=f) ho hk hok
      generalize hx:fix7 (s.stamp (evM (undoK f.kind) f.event 0 0))=x at hh hxk hxa
      have main:GI h0 now (undoS s i f) l pu dx∧∀j,j≠i→(undoS s i f).futures[j]?=s.futures[j]?:=by
       by_cases h5:f.kind=5
       ·have hu:undoS s i f=(s.emit (evM (undoK f.kind) f.event 0 0)).2:=by unfold undoS; rw [if_neg (by rw [h5]; simp)]
        have hk8:x.kind=8:=by rw [hxk,h5]; rfl
        rw [hu]
        refine ⟨⟨k.1,fun _=>?_⟩,fun j _=>by rw [kp.futures]⟩
        rw [hh]
        refine GO.congr ?_ kp.futures kp.scopes kp.threads
        refine go.snoc x (fun _ _ _ _ _ _ q=>absurd q (by rw [hk8]; decide)) (fun _ _ _ _ _ _ q=>absurd q (by rw [hk8]; decide)) (fun _ _ _ _ _ _ q=>absurd q (by rw [hk8]; decide)) (fun j f' hf' he' hd' hk' hc' _ he=>?_) (fun j hj=>List.mem_cons_of_mem _ hj) (fun j f' hf' hd' hk'=>?_) (fun _ h=>h) go.ud (fun _ _ q=>absurd q (by rw [hk8]; decide)) (fun _ h=>h) (fun _ _ _ _ _ q=>absurd q (by rw [hk8]; decide))
        ·rw [hxa] at he
         have:=go.fu i j f f' hf hf' he hev
         subst this
         rw [hf] at hf'; cases hf'
         rcases hc' with q|q
         ·rw [hc] at q; cases q
         ·exact nil_ q
        ·rcases go.fz j f' hf' hd' hk' with q|q
         ·exact .inl q
         ·rcases List.mem_cons.1 q with q|q
          ·subst q; rw [hf] at hf'; cases hf'; omega
          ·exact .inr q
       ·have hu:undoS s i f=(s.emit (evM (undoK f.kind) f.event 0 0)).2.setDone i 0 3:=by unfold undoS; rw [if_pos (by simpa using h5)]
        have hk8:x.kind=6∨x.kind=7:=by
         rcases undoK_cases f.kind with e|⟨e,ek⟩|⟨e,ek⟩|⟨e,ek⟩
         ·exact absurd e hk
         ·exact .inl (hxk.trans e)
         ·exact .inr (hxk.trans e)
         ·exact absurd ek h5
        have hsd:=setDone_at hf hd 0 3
        have hfi:(s.setDone i 0 3).futures[i]?=some (f.end_ 0 3):=by rw [hsd]; show (s.futures.set i _)[i]?=_; rw [List.getElem?_set,if_pos rfl,if_pos (get_lt hf)]
        have go1:=go.done i 0 3
        obtain ⟨r1,r2,r3,r4,r5,r6,r7⟩:=setDone_rest (s.emit (evM (undoK f.kind) f.event 0 0)).2 i 0 3
        obtain ⟨q1,q2,-⟩:=setDone_rest s i 0 3
        have hfut:((s.emit (evM (undoK f.kind) f.event 0 0)).2.setDone i 0 3).futures=(s.setDone i 0 3).futures:=setDone_congr kp.futures _ _ _
        have hno:∀(j:Nat) (f':Fut),(s.setDone i 0 3).futures[j]?=some f'→f'.event≠0→f'.done=false→x.a≠f'.event:=fun j f' hf' he' hd' he=>by
         rw [hxa] at he
         have:=go1.fu i j _ f' hfi hf' he hev
         subst this
         rw [hfi] at hf'; cases hf'; cases hd'
        rw [hu]
        refine ⟨⟨k.1.congr r3 r4 r5 r6 r7,fun _=>?_⟩,fun j hj=>?_⟩
        ·have e:hist h0 ((s.emit (evM (undoK f.kind) f.event 0 0)).2.setDone i 0 3)=hist h0 s++[x]:=by rw [←hh]; unfold hist; rw [r6]
         rw [e]
         refine GO.congr (s:=s.setDone i 0 3) ?_ hfut (by rw [r1,q1,kp.scopes]) (by rw [r2,q2,kp.threads])
         have nc:∀ks:List Int,ks.contains 6=false→ks.contains 7=false→¬ks.contains x.kind=true:=fun ks a b q=>by
          rcases hk8 with e|e<;>rw [e] at q
          ·rw [a] at q; cases q
          ·rw [b] at q; cases q
         refine go1.snoc x (fun j f' hf' he' hd' _ _=>hno j f' hf' he' hd') (fun j f' hf' he' hd' _ _=>hno j f' hf' he' hd') (fun j f' hf' he' hd' _ _=>hno j f' hf' he' hd') (fun j f' hf' he' hd' _ _ _=>hno j f' hf' he' hd') (fun j hj=>List.mem_cons_of_mem _ hj) (fun j f' hf' hd' hk'=>?_) (fun _ h=>h) go.ud (fun _ _ q=>absurd q (nc _ (by decide) (by decide))) (fun _ h=>h) (fun _ _ _ _ _ q=>absurd q (nc _ (by decide) (by decide)))
         rcases go1.fz j f' hf' hd' hk' with q|q
         ·exact .inl q
         ·rcases List.mem_cons.1 q with q|q
          ·subst q; rw [hfi] at hf'; cases hf'; cases hd'
          ·exact .inr q
        ·rw [hfut,hsd]
         show (s.futures.set i _)[j]?=_
         rw [List.getElem?_set,if_neg (Ne.symm hj)]
      refine undoAll_gi l _ pu dx iv'.1 iv'.2 hov main.1 ndl fun j hj f' hf'=>?_
      have hji:j≠i:=fun h=>nil_ (h▸hj)
      rw [main.2 j hji] at hf'
      exact hdn j (List.mem_cons_of_mem _ hj) f' hf'
theorem hits_facts (s:VS):s.hits.Nodup∧∀j∈s.hits,∀f,s.futures[j]?=some f→f.done=false:=by
 refine ⟨List.Pairwise.filter _ List.nodup_range,fun j hj f hf=>?_⟩
 unfold VS.hits VS.hitAt at hj
 rw [List.mem_filter,hf] at hj
 have:=hj.2
 simp at this
 exact this.1
theorem mark_rest (s:VS) (i:Int):(s.mark i).expect=s.expect∧(s.mark i).now=s.now∧(s.mark i).count=s.count∧(s.mark i).made=s.made∧(s.mark i).over=s.over:=by
 rcases mark_cases s i with e|⟨c,-,e⟩<;>rw [e]<;>exact ⟨rfl,rfl,rfl,rfl,rfl⟩
theorem cancels_gi {s:VS} {pu:List Ev} {dx:Option Nat} (g:GI h0 now s [] pu dx) (iv:Inv p s) (rm:Room s) (ho:s.over=false) (i:Int):GI h0 now (s.cancels i) [] pu dx:=by
 unfold VS.cancels
 split
 ·split
  ·exact g
  ·obtain ⟨m1,m2,m3,m4,m5⟩:=mark_rest s i
   have iv':=(FStep.mark (p:=p) (b:=true) s i).inv iv rm
   have hf:=hits_facts s
   exact undoAll_gi s.hits (s.mark i) pu dx iv'.1 iv'.2 (m5.trans ho) (g.congr m1 m2 m3 m4 m5 fun q=>q.mark iv rm i) hf.1 (by rw [mark_futs]; exact hf.2)
 ·exact g
structure RG (p:Prg) (h0:List Ev) (now:Int) (i:Nat) (r:Rn):Prop extends RnIn p r where
 g:GI h0 now r.s [] [] none
 at_:∃t,r.s.threads[i]?=some t∧t.update=r.t.update
variable {i:Nat} {r:Rn}
theorem RG.take (h:RG p h0 now i r):RG p h0 now i r.take.2:=⟨h.toRnIn.take,by rw [take_s]; exact h.g,by rw [take_s,take_t]; exact h.at_⟩
theorem RG.opens (h:RG p h0 now i r) {e:Ev} (hk:e.kind=3∨e.kind=4∨e.kind=5) (hv:∀id,1≤id→id≤256→validM { e with id:=id,time:=now }=true):GI h0 now (r.opens e).s [] [] none:=by
 unfold Rn.opens
 split
 ·exact h.g.congr rfl rfl rfl rfl rfl fun q=>q.fut _ (fun _=>.inl rfl) (fun n=>absurd rfl n)
 ·rename_i hc
  have h18:e.kind≠18:=by omega
  have hcm:cmdM e.kind=true:=by rcases hk with e1|e1|e1<;>rw [e1]<;>rfl
  have hnm:namers.contains e.kind=false:=by rcases hk with e1|e1|e1<;>rw [e1]<;>decide
  have hv':∀id,1≤id→id≤256→validM (fix7 { e with id:=id,time:=now })=true:=fun id a b=>by rw [fix7_ne (by exact h18)]; exact hv id a b
  have hxk:(fix7 (r.s.stamp e)).kind=e.kind:=fix7_kind _
  have hn:namesP (hist h0 r.s) (fix7 (r.s.stamp e))=true:=names_else (by rw [hxk]; exact hnm) (by rw [hxk]; omega) (by rw [hxk]; omega)
  have em:=h.g.emit (pd':=[]) (pu':=[]) (dx':=none) h.inv h.room h.ho hcm hv' hn (fun _ q=>q.plain _ (by rw [hxk]; exact hnm))
  have k:=h.g.toGT.emit h.inv h.room h.ho hcm hv' hn
  split
  ·exact em
  ·rename_i hok
   have hok:(r.s.emit e).1.2=true:=by simpa using hok
   have hid:=idE r.s e hok
   have kp:=keepE r.s e
   have hl:=h.g.len
   have hc0:=h.inv.c0
   have hh:=k.2 hok
   refine em.congr rfl rfl rfl rfl rfl fun q=>q.fut _ (fun n=>?_) fun n=>⟨?_,hk,?_,?_,?_⟩
   ·exfalso
    have n:(r.s.emit e).1.1=0:=n
    omega
   ·show isP _ (r.s.emit e).1.1 e.kind=true
    have:=isP_last (hist h0 r.s) (fix7 (r.s.stamp e))
    rw [hxk] at this
    rw [hid,hh,←hl]; exact this
   ·intro ks hks
    refine named_none em.gram hks ?_
    show _≤(r.s.emit e).1.1
    rw [hid,hh,List.length_append,List.length_singleton]
    omega
   ·intro j f2 hf2 he
    rw [kp.futures] at hf2
    have he:f2.event=(r.s.emit e).1.1:=he
    rw [hid] at he
    obtain ⟨-,h2,-⟩:=isP_some ((h.g.go h.ho).fe j f2 hf2 (by omega)).1
    omega
   ·show (r.s.emit e).2.cancelled r.t.scope=false
    rw [keepE_canc kp.scopes]; simpa using hc
theorem RG.threads (h:RG p h0 now i r) (op a:Int):GI h0 now (r.threads op a).s [] [] none:=by
 have hs:=take_s r
 unfold Rn.threads
 split
 ·split
  ·rw [hs]; exact h.g
  ·split
   ·exact GI.fails h.g.toGT h.inv h.room h.ho _ _ _ _
   ·exact h.g.congr rfl rfl rfl rfl rfl fun q=>(q.fut ⟨0,0,r.t.scope,false,0,0⟩ (fun _=>.inr rfl) (fun n=>absurd rfl n)).thr _ (fun _ e=>by cases e) (fun n=>absurd rfl n)
 ·split
  ·split
   ·exact h.g
   ·split
    ·exact GI.fails h.g.toGT h.inv h.room h.ho _ _ _ _
    ·exact h.g.congr rfl rfl rfl rfl rfl fun q=>q.scp h.inv h.thr.scope.2
  ·split
   ·split
    ·rw [scope_s]; exact h.g
    ·show GI h0 now r.scope.2.s [] [] none
     rw [scope_s]; exact h.g
   ·split
    ·split
     ·rw [scope_s]; exact h.g
     ·exact cancels_gi h.g h.inv h.room h.ho _
    ·exact h.g
theorem clamp_le (v:Int):0≤clampM v∧clampM v≤1048576:=by unfold clampM; omega
theorem RG.command (h:RG p h0 now i r) {op a:Int} (o:OpOk p op a) (ev v:Int) (h5:op=34→isP (hist h0 r.s) ev 5=true):GI h0 now (r.command op a ev v).s [] [] none:=by
 have n0:=h.g.n0
 have hnow:=h.g.tm.nw
 unfold Rn.command
 split
 ·exact h.g.congr rfl rfl rfl rfl rfl fun q=>q.congr rfl rfl rfl
 ·split
  ·rename_i e
   exact h.opens (.inl rfl) fun id a b=>valid_3 ⟨a,b⟩ n0 (o.o20 e)
  ·split
   ·refine h.opens (.inr (.inl rfl)) fun id a b=>valid_4 ⟨a,b⟩ n0 ?_
    have:=clamp_le v
    rw [wrapi (by omega) (by omega)]
    show (0:Int)≤r.s.now+clampM v
    omega
   ·split
    ·rename_i e
     exact h.opens (.inr (.inr rfl)) fun id a b=>valid_5 ⟨a,b⟩ n0 (o.o22 e)
    ·split
     ·rename_i e
      have hxk:(fix7 (r.s.stamp (evM 10 a v 0))).kind=10:=fix7_kind _
      have em:=h.g.emit (pd':=[]) (pu':=[]) (dx':=none) h.inv h.room h.ho (e:=evM 10 a v 0) rfl (fun id h1 h2=>by rw [fix7_ne (by show (10:Int)≠18; decide)]; exact valid_10 ⟨h1,h2⟩ n0 (o.o33 e)) (names_else (by rw [hxk]; decide) (by rw [hxk]; decide) (by rw [hxk]; decide)) (fun _ q=>q.plain _ (by rw [hxk]; decide))
      split
      ·exact em.congr rfl rfl rfl rfl rfl fun q=>q.congr rfl rfl rfl
      ·exact em
     ·split
      ·rename_i e
       have hi:=h5 e
       obtain ⟨i1,-,-⟩:=isP_some hi
       have hxk:(fix7 (r.s.stamp (evM 9 ev a v))).kind=9:=fix7_kind _
       have hxa:(fix7 (r.s.stamp (evM 9 ev a v))).a=ev:=fix7_a _
       exact h.g.emit (pd':=[]) (pu':=[]) (dx':=none) h.inv h.room h.ho (e:=evM 9 ev a v) rfl (fun id h1 h2=>by rw [fix7_ne (by show (9:Int)≠18; decide)]; exact valid_9 ⟨h1,h2⟩ n0 i1 (o.o34 e)) (names_9 hxk (by rw [hxa]; exact hi)) (fun _ q=>q.plain _ (by rw [hxk]; decide))
      ·exact h.g
theorem RG.commands (h:RG p h0 now i r) {op a:Int} (o:OpOk p op a):GI h0 now (r.commands op a).s [] [] none:=by
 have n0:=h.g.n0
 have hs:=take_s r
 unfold Rn.commands
 split
 ·split
  ·exact h.g
  ·simp only
   have g1:GI h0 now { r.s with draws:=IntKind.u64.wrap (r.s.draws+1) } [] [] none:=h.g.congr rfl rfl rfl rfl rfl fun q=>q.congr rfl rfl rfl
   have iv1:=(FStep.draws (p:=p) (b:=true) r.s (IntKind.u64.wrap (r.s.draws+1))).inv h.inv h.room
   have hxk:(fix7 (({ r.s with draws:=IntKind.u64.wrap (r.s.draws+1) }:VS).stamp (evM 11 (IntKind.i64.wrap (mix64 r.s.draws)) 0 0))).kind=11:=fix7_kind _
   have em:=g1.emit (pd':=[]) (pu':=[]) (dx':=none) iv1.1 iv1.2 h.ho (e:=evM 11 (IntKind.i64.wrap (mix64 r.s.draws)) 0 0) rfl (fun id h1 h2=>by rw [fix7_ne (by show (11:Int)≠18; decide)]; exact valid_11 ⟨h1,h2⟩ n0) (names_else (by rw [hxk]; decide) (by rw [hxk]; decide) (by rw [hxk]; decide)) (fun _ q=>q.plain _ (by rw [hxk]; decide))
   split
   ·exact em
   ·exact em
 ·rcases told_cases r op with ⟨h1,h2,h3⟩|⟨h1,h2⟩|⟨h1,⟨f,hf,hk,he,h2⟩,h3⟩
  ·rw [if_pos (by rw [decide_eq_true_iff]; exact h1),h3]
   exact h.g
  ·rw [h2]
   rw [if_neg (by show ¬decide ((0:Int)<0)=true; decide)]
   split
   ·rw [hs]; exact h.g
   ·exact h.take.command o _ _ (fun e=>absurd e h1)
  ·rw [h2]
   have hev:=(h.inv.futs f hf).1
   rw [if_neg (by rw [decide_eq_true_iff]; show ¬f.event<0; omega)]
   split
   ·rw [hs]; exact h.g
   ·refine h.take.command o _ _ (fun _=>?_)
    rw [hs]
    obtain ⟨j,hj⟩:=List.getElem?_of_mem hf
    have:=((h.g.go h.ho).fe j f hj he).1
    rw [hk] at this; exact this
theorem GI.any {s:VS} {pd:List Nat} {pu:List Ev} (g:GI h0 now s pd pu none) (d:Option Nat):GI h0 now s pd pu d:=⟨g.toGT,fun ho=>(g.go ho).dx d⟩
def thru (i:Nat) (k:Int):Option Nat:=if k=2 then some i else none
theorem RG.ends (h:RG p h0 now i r) (op:Int):GI h0 now (r.ends op).2.s [] [] (thru i (r.ends op).1):=by
 have n0:=h.g.n0
 have hs:=take_s r
 unfold Rn.ends
 split
 ·show GI h0 now r.take.2.s [] [] (thru i 0)
  rw [hs]; exact h.g
 ·show GI h0 now (if (op==35)=true then (r.s.emit (evM 18 r.take.1 0 0)).2 else
   if (r.t.update != 0)=true then (r.s.emit (evM 14 r.t.update r.take.1 (if (op==37)=true then 1 else 0))).2 else
   if decide (r.t.future≥0)=true then r.s.setDone r.t.future r.take.1 (if (op==37)=true then 1 else 0) else
   if (op==36)=true then (r.s.emit (evM 15 r.take.1 0 0)).2 else
   if r.s.cancelled 0=true then (r.s.emit (evM 17 r.take.1 0 0)).2 else (r.s.emit (evM 16 r.take.1 0 0)).2) [] [] (some i)
  have close:∀e:Ev,closeM e.kind=true→cmdM e.kind=true→(∀id,1≤id→id≤256→validM (fix7 { e with id:=id,time:=now })=true)→namers.contains e.kind=false→e.kind≠9→e.kind≠29→GI h0 now (r.s.emit e).2 [] [] (some i):=fun e hc hk hv hn h9 h29=>by
   have hxk:(fix7 (r.s.stamp e)).kind=e.kind:=fix7_kind _
   exact h.g.emit h.inv h.room h.ho hk hv (names_else (by rw [hxk]; exact hn) (by rw [hxk]; exact h9) (by rw [hxk]; exact h29)) (fun q=>by rw [hc] at q; cases q)
  split
  ·exact close _ rfl rfl (fun id h1 h2=>by show validM ⟨id,now,18,_,7,0,0,0,0⟩=true; exact valid_18 ⟨h1,h2⟩ n0) (by show namers.contains 18=false; decide) (by show (18:Int)≠9; decide) (by show (18:Int)≠29; decide)
  ·split
   ·rename_i hu
    have hu:r.t.update≠0:=by simpa using hu
    obtain ⟨t,ht,hte⟩:=h.at_
    have go:=h.g.go h.ho
    obtain ⟨a1,a2,a3⟩:=go.ta i t ht (by rw [hte]; exact hu)
    rw [hte] at a1 a2 a3
    have a3:=a3 (by simp)
    obtain ⟨i1,-,-⟩:=isP_some a1
    have hc:(if (op==37)=true then (1:Int) else 0)=0∨(if (op==37)=true then (1:Int) else 0)=1:=by split<;>simp
    generalize (if (op==37)=true then (1:Int) else 0)=c at hc
    have hxk:(fix7 (r.s.stamp (evM 14 r.t.update r.take.1 c))).kind=14:=fix7_kind _
    have hxa:(fix7 (r.s.stamp (evM 14 r.t.update r.take.1 c))).a=r.t.update:=fix7_a _
    refine h.g.emit h.inv h.room h.ho (e:=evM 14 r.t.update r.take.1 c) rfl (fun id h1 h2=>by rw [fix7_ne (by show (14:Int)≠18; decide)]; exact valid_14 ⟨h1,h2⟩ n0 i1 hc) (names_14 hxk (by rw [hxa]; exact a1) (by rw [hxa]; exact a2) (by rw [hxa]; exact a3)) (fun _ q=>?_)
    refine q.snoc _ (fun _ _ _ _ _ _ q=>absurd q (by rw [hxk]; decide)) (fun _ _ _ _ _ _ q=>absurd q (by rw [hxk]; decide)) (fun _ _ _ _ _ _ q=>absurd q (by rw [hxk]; decide)) (fun _ _ _ _ _ _ _ q=>absurd q (by rw [hxk]; decide)) (fun _ h=>h) q.fz (fun _ h=>h) q.ud (fun _ _ q=>absurd q (by rw [hxk]; decide)) (fun _ _=>by simp) (fun j t' ht' hn' hj _ he=>?_)
    rw [hxa,←hte] at he
    have:=q.tu i j t t' ht ht' he (by rw [hte]; exact hu)
    exact hj (by rw [this])
   ·split
    ·obtain ⟨q1,q2,q3,q4,q5,q6,q7⟩:=setDone_rest r.s r.t.future r.take.1 (if (op==37)=true then 1 else 0)
     exact h.g.congr q3 q4 q5 q6 q7 fun q=>(q.done _ _ _).dx _
    ·split
     ·exact close _ rfl rfl (fun id h1 h2=>by rw [fix7_ne (by show (15:Int)≠18; decide)]; exact valid_15 ⟨h1,h2⟩ n0) (by show namers.contains 15=false; decide) (by show (15:Int)≠9; decide) (by show (15:Int)≠29; decide)
     ·split
      ·exact close _ rfl rfl (fun id h1 h2=>by rw [fix7_ne (by show (17:Int)≠18; decide)]; exact valid_17 ⟨h1,h2⟩ n0) (by show namers.contains 17=false; decide) (by show (17:Int)≠9; decide) (by show (17:Int)≠29; decide)
      ·exact close _ rfl rfl (fun id h1 h2=>by rw [fix7_ne (by show (16:Int)≠18; decide)]; exact valid_fail ⟨h1,h2⟩ n0) (by show namers.contains 16=false; decide) (by show (16:Int)≠9; decide) (by show (16:Int)≠29; decide)
theorem RG.awaits (h:RG p h0 now i r) (op:Int):GI h0 now (r.awaits op).2.s [] [] none:=by
 have hs:=take_s r
 unfold Rn.awaits
 rcases asked_cases r 0 with e|⟨v,e,h0',h1⟩
 ·rw [e,if_pos (by show decide ((-1:Int)<0)=true; decide)]; exact h.g
 ·rw [e,if_neg (by rw [decide_eq_true_iff]; show ¬v<0; omega)]
  split
  ·split
   ·exact h.g
   ·split
    ·show GI h0 now r.take.2.s [] [] none; rw [hs]; exact h.g
    ·show GI h0 now r.take.2.s [] [] none; rw [hs]; exact h.g
  ·exact h.g
theorem RG.waitS (h:RG p h0 now i r) (a:Int):GI h0 now (r.waitS a).2.s [] [] none:=by
 unfold Rn.waitS
 split
 ·exact h.g
 ·split
  ·exact h.g
  ·exact h.g.congr rfl rfl rfl rfl rfl fun q=>q.congr rfl rfl rfl
theorem RG.does (h:RG p h0 now i r) {op a:Int} (o:OpOk p op a):GI h0 now (r.does op a).2.s [] [] (thru i (r.does op a).1):=by
 unfold Rn.does
 split
 ·exact (h.awaits op).any _
 ·split
  ·exact (h.waitS a).any _
  ·split
   ·exact h.ends op
   ·split
    ·exact h.g.any _
    ·split
     ·exact (h.threads op a).any _
     ·exact (h.commands o).any _
end
section
variable {h0:List Ev} {now:Int} {p:Prg}
theorem instr_gi (ok : Okp p) {s : VS} {i : Nat} {t : Thr} (ht : s.threads[i]?=some t) (iv : Inv p s) (rm : Room s) (ho : s.over=false) (sk : (s.futures.length : Int)+s.fuel+1≤1000*s.count) (g : GI h0 now s [] [] none) :
  GI h0 now (s.instruction p i).2 [] [] (thru i (s.instruction p i).1):=by
 have hT:=iv.thr t (List.mem_of_getElem? ht)
 have af:=run_after ok ht iv rm ho sk
 have hin:RG p h0 now i ⟨s,t.wake,false⟩:=⟨⟨⟨iv,rm,ho,wake_thr hT⟩,sk⟩,g,t,ht,rfl⟩
 obtain ⟨j,k,f,c,a,st⟩:=stands hT
 have key:GI h0 now (s.run p i).2.s [] [] (thru i (s.run p i).1)∧(s.run p i).2.t.update=t.update:=by
  rw [run_eq_ ht,st.op]
  split
  ·refine ⟨?_,fix_update.pure_ _ _ _⟩
   show GI h0 now ((⟨s,t.wake,false⟩:Rn).pure_ c a).s [] [] (thru i 0)
   rw [pure_s]; exact g
  ·exact ⟨hin.does (opOk ok st.fn st.o),fix_update.does _ _ _⟩
 unfold VS.instruction
 split
 ·rename_i hf
  have iv2:=af.steps.inv iv rm
  exact GI.fails key.1.toGT iv2.1 iv2.2 (af.fault hf) _ _ _ _
 ·obtain ⟨l,hl⟩:=af.steps.threads
  have hl:(s.run p i).2.s.threads=s.threads++l:=hl
  have hti:(s.run p i).2.s.threads[i]?=some t:=by rw [hl,List.getElem?_append_left (get_lt ht)]; exact ht
  exact key.1.congr rfl rfl rfl rfl rfl fun q=>q.set hti key.2
theorem stepsG_gi (ok:Okp p) (i:Nat):∀(n:Nat) (s:VS),s.fuel=n→Inv p s→Room s→i<s.threads.length→GI h0 now s [] [] none→GI h0 now (VS.stepsG p i n s).2 [] [] (thru i (VS.stepsG p i n s).1)
 | 0,s,hf,iv,rm,hi,g=>by
  rw [stepsG_eq]
  split
  ·exact g
  ·rename_i ho
   exact GI.fails g.toGT iv rm (by simpa using ho) _ _ _ _
 | n+1,s,hf,iv,rm,hi,g=>by
  rw [stepsG_eq]
  split
  ·exact g
  ·rename_i ho
   have ho:s.over=false:=by simpa using ho
   obtain ⟨st,iv1,rm1,sk⟩:=fuel_step iv rm hf
   obtain ⟨t,ht⟩:=get_some hi
   have ht1:(s.fuelAt n).threads[i]?=some t:=ht
   have st2:=st.one.trans (instr_steps ok ht1 iv1 rm1 ho sk)
   have tl:=instr_threads ok ht1 iv1 rm1 ho sk
   have tl:s.threads.length≤((s.fuelAt n).instruction p i).2.threads.length:=tl
   have fl:=instr_fuel ok ht1 iv1 rm1 ho sk
   have fl:((s.fuelAt n).instruction p i).2.fuel=n:=fl
   have g1:GI h0 now (s.fuelAt n) [] [] none:=g.congr rfl rfl rfl rfl rfl fun q=>q.congr rfl rfl rfl
   have g2:=instr_gi ok ht1 iv1 rm1 ho sk g1
   simp only
   split
   ·exact g2
   ·rename_i hk
    have hk:((s.fuelAt n).instruction p i).1=0:=by simpa using hk
    have iv2:=st2.inv iv rm
    rw [hk] at g2
    exact stepsG_gi ok i n _ fl iv2.1 iv2.2 (by omega) g2
theorem steps_gi (ok:Okp p) {i:Nat} {s:VS} (iv:Inv p s) (rm:Room s) (hi:i<s.threads.length) (g:GI h0 now s [] [] none):GI h0 now (s.steps p i).2 [] [] (thru i (s.steps p i).1) :=
 stepsG_gi ok i _ s (by have:=iv.fuel; omega) iv rm hi g
theorem pass_gi (ok:Okp p):∀(g:Nat) (s:VS) (i:Nat) (went:Bool),Inv p s→Room s→GI h0 now s [] [] none→GI h0 now (passG p g s i went) [] [] none
 | 0,s,i,went,_,_,gi=>gi
 | g+1,s,i,went,iv,rm,gi=>by
  cases ht:s.threads[i]? with
  | none =>
   rw [pass_none ht]
   split
   ·exact gi
   ·exact pass_gi ok g s 0 false iv rm gi
  | some t =>
   have hil:=get_lt ht
   rw [pass_some ht]
   split
   ·exact gi
   ·split
    ·exact pass_gi ok g s (i+1) went iv rm gi
    ·have ss:=steps_steps ok iv rm hil
     have iv1:=ss.1.inv iv rm
     have g1:=steps_gi ok iv rm hil gi
     split
     ·rename_i hk
      simp only [Bool.and_eq_true,beq_iff_eq] at hk
      have he:=(FStep.erase (p:=p) (b:=true) (s.steps p i).2 i rfl).inv iv1.1 iv1.2
      rw [hk.1] at g1
      exact pass_gi ok g _ i true he.1 he.2 (g1.congr rfl rfl rfl rfl rfl fun q=>q.erase)
     ·rename_i hk
      refine pass_gi ok g _ (i+1) true iv1.1 iv1.2 ?_
      cases ho:(s.steps p i).2.over with
      | true=>exact .shut g1.toGT ho _ _ _
      | false =>
       have:(s.steps p i).1≠2:=fun e=>hk (by rw [e,ho]; rfl)
       unfold thru at g1
       rw [if_neg this] at g1
       exact g1
theorem admit2_gi {s:VS} {u:Ev} {pu:List Ev} (iv:Inv p s) (rm:Room s) (ho:s.over=false) (g:GI h0 now s [] (u::pu) none) (fn:Int):GI h0 now (s.admit2 fn u) [] pu none:=by
 have n0:=g.n0
 have go:=g.go ho
 obtain ⟨u1,u2⟩:=go.ua u (List.mem_cons_self ..)
 obtain ⟨i1,-,-⟩:=isP_some u1
 have hud:=List.pairwise_cons.1 go.ud
 unfold VS.admit2
 split
 ·exact GI.fails g.toGT iv rm ho _ _ _ _
 ·have hxk:(fix7 (s.stamp (evM 12 u.id 0 0))).kind=12:=fix7_kind _
  have hxa:(fix7 (s.stamp (evM 12 u.id 0 0))).a=u.id:=fix7_a _
  have hv:∀id,1≤id→id≤256→validM (fix7 { (evM 12 u.id 0 0) with id:=id,time:=now })=true:=fun id h1 h2=>by rw [fix7_ne (by show (12:Int)≠18; decide)]; exact valid_12 ⟨h1,h2⟩ n0 i1
  have hn:namesP (hist h0 s) (fix7 (s.stamp (evM 12 u.id 0 0)))=true:=names_12 (.inl hxk) (by rw [hxa]; exact u1) (by rw [hxa]; exact u2)
  have em:=g.emit (pd':=[]) (pu':=pu) (dx':=none) iv rm ho (e:=evM 12 u.id 0 0) rfl hv hn (fun _ q=>q.snoc _ (fun _ _ _ _ _ _ q=>absurd q (by rw [hxk]; decide)) (fun _ _ _ _ _ _ q=>absurd q (by rw [hxk]; decide)) (fun _ _ _ _ _ _ q=>absurd q (by rw [hxk]; decide)) (fun _ _ _ _ _ _ _ q=>absurd q (by rw [hxk]; decide)) (fun _ h=>h) q.fz (fun v hv=>List.mem_cons_of_mem _ hv) hud.2 (fun v hv _ he=>by rw [hxa] at he; exact hud.1 v hv he) (fun _ h=>h) (fun _ _ _ _ _ q=>absurd q (by rw [hxk]; decide)))
  have k:=g.toGT.emit iv rm ho (e:=evM 12 u.id 0 0) rfl hv hn
  split
  ·rename_i hok
   have hh:=k.2 hok
   have kp:=keepE s (evM 12 u.id 0 0)
   refine em.congr rfl rfl rfl rfl rfl fun q=>q.thr _ (fun _ e=>by cases e) fun _=>?_
   show isP (hist h0 (s.emit (evM 12 u.id 0 0)).2) u.id 21=true∧anyP (hist h0 (s.emit (evM 12 u.id 0 0)).2) u.id [12]=true∧anyP (hist h0 (s.emit (evM 12 u.id 0 0)).2) u.id [14]=false∧∀(j:Nat) (v:Thr),(s.emit (evM 12 u.id 0 0)).2.threads[j]?=some v→v.update≠u.id
   rw [hh]
   refine ⟨isP_mono u1 _,?_,?_,fun j v hv2 he=>?_⟩
   ·rw [anyP_snoc,hxk,hxa]; simp
   ·refine any_snoc_no ?_ (fun q=>absurd q (by rw [hxk]; decide))
    cases h14:anyP (hist h0 s) u.id [14] with
    | false=>rfl
    | true =>
     have:=answered_accepted g.gram h14
     rw [any_sub (ks:=[12]) (ls:=[12,13]) (fun k q=>by simp at q ⊢; omega) u2] at this; cases this
   ·rw [kp.threads] at hv2
    obtain ⟨-,b2,-⟩:=go.ta j v hv2 (by omega)
    rw [he,any_sub (ks:=[12]) (ls:=[12,13]) (fun k q=>by simp at q ⊢; omega) u2] at b2; cases b2
  ·exact em
theorem reject_gi {s:VS} {u:Ev} {pu:List Ev} (iv:Inv p s) (rm:Room s) (ho:s.over=false) (g:GI h0 now s [] (u::pu) none) (b:Int):GI h0 now (s.emit (evM 13 u.id b 0)).2 [] pu none:=by
 have n0:=g.n0
 have go:=g.go ho
 obtain ⟨u1,u2⟩:=go.ua u (List.mem_cons_self ..)
 obtain ⟨i1,-,-⟩:=isP_some u1
 have hud:=List.pairwise_cons.1 go.ud
 have hxk:(fix7 (s.stamp (evM 13 u.id b 0))).kind=13:=fix7_kind _
 have hxa:(fix7 (s.stamp (evM 13 u.id b 0))).a=u.id:=fix7_a _
 exact g.emit iv rm ho (e:=evM 13 u.id b 0) rfl (fun id h1 h2=>by rw [fix7_ne (by show (13:Int)≠18; decide)]; exact valid_13 ⟨h1,h2⟩ n0 i1) (names_12 (.inr hxk) (by rw [hxa]; exact u1) (by rw [hxa]; exact u2))
  (fun _ q=>q.snoc _ (fun _ _ _ _ _ _ q=>absurd q (by rw [hxk]; decide)) (fun _ _ _ _ _ _ q=>absurd q (by rw [hxk]; decide)) (fun _ _ _ _ _ _ q=>absurd q (by rw [hxk]; decide)) (fun _ _ _ _ _ _ _ q=>absurd q (by rw [hxk]; decide)) (fun _ h=>h) q.fz (fun v hv=>List.mem_cons_of_mem _ hv) hud.2 (fun v hv _ he=>by rw [hxa] at he; exact hud.1 v hv he) (fun _ h=>h) (fun _ _ _ _ _ q=>absurd q (by rw [hxk]; decide)))
theorem admits_gi {s:VS} {u:Ev} {pu:List Ev} (iv:Inv p s) (rm:Room s) (ho:s.over=false) (g:GI h0 now s [] (u::pu) none):GI h0 now (s.admits p u) [] pu none:=by
 unfold VS.admits
 split
 ·exact reject_gi iv rm ho g _
 ·split
  ·have hfu:=iv.fuel
   have hl:=purelyG_left p (p.find 4 u.a) s.fuel.toNat ⟨s,⟨p.find 4 u.a,0,0,[],u.b,0,0,0,0⟩,false⟩
   have hl:(s.purely p (p.find 4 u.a) u.b s.fuel.toNat).2.2≤s.fuel.toNat:=hl
   have st:FStep p true s { s with fuel:=((s.purely p (p.find 4 u.a) u.b s.fuel.toNat).2.2:Int) }:=.fuel s _ rfl ⟨by omega,by omega⟩
   have iv1:=st.inv iv rm
   have g1:GI h0 now { s with fuel:=((s.purely p (p.find 4 u.a) u.b s.fuel.toNat).2.2:Int) } [] (u::pu) none:=g.congr rfl rfl rfl rfl rfl fun q=>q.congr rfl rfl rfl
   exact ite_V (P:=fun z=>GI h0 now z [] pu none) (GI.fails g1.toGT iv1.1 iv1.2 ho _ _ _ _) (ite_V (P:=fun z=>GI h0 now z [] pu none) (reject_gi iv1.1 iv1.2 ho g1 _) (admit2_gi iv1.1 iv1.2 ho g1 _))
  ·exact admit2_gi iv rm ho g _
theorem admitAll_gi (ok:Okp p):∀(l:List Ev) (s:VS),Inv p s→Room s→(∀u∈l,0≤u.id)→GI h0 now s [] l none→GI h0 now (admitAll p l s) [] [] none
 | [],s,_,_,_,g=>g
 | u::l,s,iv,rm,hid,g=>by
  rw [admitAll]
  split
  ·rename_i ho
   have ho:s.over=false:=by simpa using ho
   have iv1:=(admits_steps ok iv rm ho (hid u (List.mem_cons_self ..))).inv iv rm
   exact admitAll_gi ok l _ iv1.1 iv1.2 (fun v hv=>hid v (List.mem_cons_of_mem _ hv)) (admits_gi iv rm ho g)
  ·rename_i ho
   have ho:s.over=true:=by simpa using ho
   exact admitAll_gi ok l s iv rm (fun v hv=>hid v (List.mem_cons_of_mem _ hv)) (.shut g.toGT ho _ _ _)
end
structure BI (h:List Ev) (now:Int) (s:VS):Prop where
 x:s.expect=none
 c:s.count=h.length
 fixd:h.map fix7=h
 gram:Gram h
 shut:h≠[]→s.over=closeM (lastP h).kind
 time:h≠[]→(lastP h).time≤now
 n0:0≤now∧now≤1099511627776
 go:s.over=false→GO h s [] s.updates none
theorem BI.later {h:List Ev} {now now':Int} {s:VS} (b:BI h now s) (h1:now≤now') (h2:now'≤1099511627776):BI h now' s :=
 ⟨b.x,b.c,b.fixd,b.gram,b.shut,fun e=>Int.le_trans (b.time e) h1,⟨Int.le_trans b.n0.1 h1,h2⟩,b.go⟩
section
variable {p:Prg}
theorem begin_gi {h:List Ev} {now:Int} {s:VS} (b:BI h now s) (tk:s.taskE now=0):GI h now (s.begin_ now) [] s.updates none:=by
 obtain ⟨ho,hc,h254,n1,n2⟩:=taskE_ok tk
 have tm:=begin_tm b.x ho now
 rw [b.c] at tm
 have hne:h≠[]:=fun e=>hc (by rw [b.c,e]; rfl)
 have hcl:=b.c
 have hpos:0<h.length:=List.length_pos_iff.2 hne
 have hcls:closeM (lastP h).kind=false:=by rw [←b.shut hne]; exact ho
 have hh:hist h (s.begin_ now)=h++[⟨s.count+1,now,2,s.count,0,0,0,0,0⟩]:=rfl
 refine ⟨⟨tm,b.n0,?_⟩,fun _=>?_⟩
 ·rw [hh]
  refine gram_snoc b.gram (may_of hne (valid_2 ⟨by omega,by omega⟩ b.n0 (by omega)) (by show s.count+1=_; omega) (by show (2:Int)≠1; decide) (b.time hne) hcls (fun _=>hcl) (fun e=>by cases e) (names_else (by show namers.contains 2=false; decide) (by show (2:Int)≠9; decide) (by show (2:Int)≠29; decide)))
 ·rw [hh]
  exact ((b.go ho).plain _ (by show namers.contains 2=false; decide)).congr rfl rfl rfl
theorem task_bi (ok:Okp p) {h:List Ev} {now:Int} {s:VS} (b:BI h now s) (iv:Inv p s) (tk:s.taskE now=0) (draw:Int):BI ((h++(s.Task p now draw).1.1).map fix7) now (s.Task p now draw).2:=by
 have e:=Task_eq s p now draw
 rw [if_neg (by rw [tk]; simp)] at e
 have b1:BI h now (s.ready_ draw):=⟨rfl,b.c,b.fixd,b.gram,b.shut,b.time,b.n0,fun ho=>(b.go ho).congr rfl rfl rfl⟩
 have iv1:=ready_inv iv draw
 have tks:=ready_tasks tk draw
 have g0:=begin_gi b1 tk
 have h0:=begin_inv iv1 tks now
 have g1:GI h now ((s.ready_ draw).opened now) [] (s.ready_ draw).updates none:=by
  unfold VS.opened
  split
  ·exact cancels_gi g0 h0.1 h0.2 tks.ho 0
  ·exact g0
 have s1:=opened_steps (p:=p) tks.ho now
 have h1:=s1.inv h0.1 h0.2
 have g2:=admitAll_gi ok (s.ready_ draw).updates _ h1.1 h1.2 iv1.updI g1
 have s2:=admitAll_steps ok (s.ready_ draw).updates _ h1.1 h1.2 iv1.updI
 have h2:=s2.inv h1.1 h1.2
 have g3:=pass_gi ok passGas _ 0 false h2.1 h2.2 g2
 have st:=task_steps ok iv1 tks now
 rw [e]
 have hm:(h++((s.ready_ draw).task p now).made).map fix7=hist h ((s.ready_ draw).task p now):=by unfold hist; rw [List.map_append,b.fixd]
 show BI ((h++((s.ready_ draw).task p now).made).map fix7) now ((s.ready_ draw).task p now)
 rw [hm]
 have g3:GI h now ((s.ready_ draw).task p now) [] [] none:=g3
 have hup:((s.ready_ draw).task p now).updates=[]:=st.stay.updates
 refine ⟨g3.tm.x,g3.len.symm,?_,g3.gram,fun _=>?_,fun _=>?_,b.n0,fun ho=>by rw [hup]; exact g3.go ho⟩
 ·have idem : ∀l : List Ev, (l.map fix7).map fix7=l.map fix7 := fun l => by
   rw [List.map_map]
   apply List.map_congr_left
   intro x _
   show fix7 (fix7 x)=fix7 x
   unfold fix7
   by_cases hk:x.kind=18
   ·rw [if_pos hk,if_pos (by exact hk)]
   ·rw [if_neg hk,if_neg hk]
  unfold hist; rw [List.map_append,b.fixd,idem]
 ·cases ho:((s.ready_ draw).task p now).over with
  | false=>exact (g3.last.2.2.2 ho).symm
  | true =>
   obtain ⟨x,hx,hc,-⟩:=g3.tm.shut ho
   obtain ⟨y,l,hy,hhy⟩:=g3.lastEv
   rw [hy] at hx
   have:y=x:=by simpa using hx
   subst this
   rw [hhy,lastP_snoc,fix7_kind]; exact hc.symm
 ·rw [g3.last.2.1]; exact Int.le_refl _
theorem future_at {H:List Ev} {s:VS} {pd:List Nat} {pu:List Ev} {dx:Option Nat} (g:GO H s pd pu dx) {j:Nat} {f:Fut} (hf:s.futures[j]?=some f) (hn:f.event≠0):s.future f.event=j:=by
 unfold VS.future
 have hit:∀(k:Nat) (v:Int),s.futHit f.event k=some v→k=j∧v=k:=fun k v h=>by
  unfold VS.futHit at h
  split at h
  ·rename_i f2 hf2
   split at h
   ·rename_i hx
    simp at hx
    cases h
    exact ⟨g.fu k j f2 f hf2 hf hx.2 hx.1,rfl⟩
   ·cases h
  ·cases h
 have hj:s.futHit f.event j=some (j:Int):=by
  unfold VS.futHit; rw [hf]; simp [hn]
 rw [scan_hit (get_lt hf) (fun k hk=>?_) hj]
 cases e:s.futHit f.event k with
 | none=>rfl
 | some v=>have:=(hit k v e).1; omega
theorem GO.settle {H:List Ev} {s:VS} {pu:List Ev} (g:GO H s [] pu none) (x:Ev) (h12:x.kind≠12) (h13:x.kind≠13) (h14:x.kind≠14) (v k:Int):GO (H++[x]) (s.setDone (s.future x.a) v k) [] pu none:=by
 have go1:=g.done (s.future x.a) v k
 have hno:∀(j:Nat) (f':Fut),(s.setDone (s.future x.a) v k).futures[j]?=some f'→f'.event≠0→f'.done=false→x.a≠f'.event:=fun j f' hf' he' hd' he=>by
  have hl:=get_lt hf'
  rw [setDone_len] at hl
  obtain ⟨f,hf⟩:=get_some hl
  have key:f.event=f'.event∧(f.done=false→False):=by
   rcases setDone_cases s (s.future x.a) v k with e|⟨f0,hf0,hp0,hd0,e⟩
   ·rw [e,hf] at hf'; cases hf'
    refine ⟨rfl,fun hd=>?_⟩
    rw [he,future_at g hf he',setDone_at hf hd] at e
    have e2:=congrArg (fun z:VS=>z.futures[j]?) e
    have e2:(s.futures.set j (f'.end_ v k))[j]?=s.futures[j]?:=e2
    rw [List.getElem?_set,if_pos rfl,if_pos (get_lt hf),hf] at e2
    have e2:f'.end_ v k=f':=by injection e2
    rw [←e2] at hd; cases hd
   ·rw [e] at hf'
    have hf':(s.futures.set (s.future x.a).toNat (f0.end_ v k))[j]?=some f':=hf'
    rw [List.getElem?_set] at hf'
    by_cases hj:(s.future x.a).toNat=j
    ·subst hj
     rw [if_pos rfl,if_pos (get_lt hf0)] at hf'
     cases hf'; cases hd'
    ·rw [if_neg hj,hf] at hf'
     cases hf'
     refine ⟨rfl,fun _=>hj ?_⟩
     rw [he,future_at g hf he']; rfl
  have hfd:f.done=false:=by
   rcases setDone_cases s (s.future x.a) v k with e|⟨f0,hf0,hp0,hd0,e⟩
   ·rw [e,hf] at hf'; cases hf'; exact hd'
   ·rw [e] at hf'
    have hf':(s.futures.set (s.future x.a).toNat (f0.end_ v k))[j]?=some f':=hf'
    rw [List.getElem?_set] at hf'
    by_cases hj:(s.future x.a).toNat=j
    ·subst hj
     rw [if_pos rfl,if_pos (get_lt hf0)] at hf'
     cases hf'; cases hd'
    ·rw [if_neg hj,hf] at hf'
     cases hf'; exact hd'
  exact key.2 hfd
 refine go1.snoc x (fun j f' hf' he' hd' _ _=>hno j f' hf' he' hd') (fun j f' hf' he' hd' _ _=>hno j f' hf' he' hd') (fun j f' hf' he' hd' _ _=>hno j f' hf' he' hd') (fun j f' hf' he' hd' _ _ _=>hno j f' hf' he' hd') (fun _ h=>h) go1.fz (fun _ h=>h) go1.ud (fun _ _ q=>?_) (fun _ h=>h) (fun _ _ _ _ _ q=>?_)
 ·simp at q; omega
 ·simp at q; omega
theorem apply_bi {h:List Ev} {now:Int} {s:VS} (b:BI h now s) {e:Ev} (ht:e.time=now) (hr:s.refuses e=false) (ho:s.over=false) (hg:Gram (h++[e])):BI (h++[e]) now (s.counted.applied e):=by
 have tk:=taken hr
 have go:=b.go ho
 have gc:GO h s.counted [] s.updates none:=go.congr rfl rfl rfl
 have m:mayP h e=true:=by
  have:=hg h.length e (by simp)
  rw [List.take_left] at this; exact this
 have hcnt:=b.c
 have hid:=tk.id
 have hout:=tk.out
 have hk:e.kind=1∨e.kind=16∨19≤e.kind:=by
  unfold outsideM at hout
  split at hout
  ·rename_i q; right; left; simpa using q
  ·simp at hout; omega
 have h18:e.kind≠18:=by omega
 have ap:=applied_count s.counted e
 have base:∀s':VS,s'=s.counted.applied e→(s'.over=false→GO (h++[e]) s' [] s'.updates none)→(s'.over=closeM e.kind)→BI (h++[e]) now s':=fun s' hs' g1 g2=>by
  subst hs'
  refine ⟨by rw [ap.2]; exact b.x,by rw [ap.1,List.length_append,List.length_singleton]; show s.count+1=_; omega,?_,hg,fun _=>by rw [lastP_snoc]; exact g2,fun _=>by rw [lastP_snoc,ht]; exact Int.le_refl _,b.n0,g1⟩
  rw [List.map_append,b.fixd]
  show h++[fix7 e]=_
  rw [fix7_ne h18]
 have settle:∀v k,s.counted.applied e=s.counted.setDone (s.counted.future e.a) v k→closeM e.kind=false→19≤e.kind→BI (h++[e]) now (s.counted.applied e):=fun v k he hc h19=>by
  refine base _ rfl (fun _=>?_) ?_
  ·rw [he]
   have hu:(s.counted.setDone (s.counted.future e.a) v k).updates=s.updates:=by rcases setDone_cases s.counted (s.counted.future e.a) v k with q|⟨f,_,_,_,q⟩<;>rw [q]<;>rfl
   rw [hu]
   exact gc.settle e (by omega) (by omega) (by omega) v k
  ·rw [he,setDone_over,hc]; exact ho
 by_cases h1:e.kind=1
 ·have he:s.counted.applied e={ s.counted with threads:=[Thr.new 0 0 e.b (-1) 0] }:=by unfold VS.applied; rw [if_pos h1]
  refine base _ rfl (fun _=>?_) (by rw [he,h1]; exact ho)
  rw [he]
  have g1:=gc.plain e (by rw [h1]; decide)
  have z:∀(i:Nat) (t:Thr),[Thr.new 0 0 e.b (-1) 0][i]?=some t→t.update=0:=fun i t hi=>by
   cases i with
   | zero=>cases hi; rfl
   | succ i=>cases hi
  have cc:=keepE_canc (s:=s.counted) (s':={ s.counted with threads:=[Thr.new 0 0 e.b (-1) 0] }) rfl
  exact ⟨g1.fe,g1.f0,g1.fu,g1.f3,g1.f4,g1.f5,by simp only [cc]; exact g1.f8,by simp only [cc]; exact g1.fz,g1.ua,g1.ud,fun i t hi hn=>absurd (z i t hi) hn,fun i j t u hi _ _ hn=>absurd (z i t hi) hn⟩
 by_cases h19:e.kind=19
 ·have he:s.counted.applied e=s.counted.signal e.a e.b:=by unfold VS.applied; rw [if_neg h1,if_pos h19]
  refine base _ rfl (fun _=>?_) (by rw [he,h19]; exact ho)
  rw [he]
  exact (gc.plain e (by rw [h19]; decide)).congr rfl rfl rfl
 by_cases h20:e.kind=20
 ·have he:s.counted.applied e={ s.counted with cancel:=true }:=by unfold VS.applied; rw [if_neg h1,if_neg h19,if_pos h20]
  refine base _ rfl (fun _=>?_) (by rw [he,h20]; exact ho)
  rw [he]
  exact (gc.plain e (by rw [h20]; decide)).congr rfl rfl rfl
 by_cases h21:e.kind=21
 ·have he:s.counted.applied e={ s.counted with updates:=s.updates++[e] }:=by unfold VS.applied; rw [if_neg h1,if_neg h19,if_neg h20,if_pos h21]; rfl
  refine base _ rfl (fun _=>?_) (by rw [he,h21]; exact ho)
  rw [he]
  have g1:=(gc.plain e (by rw [h21]; decide))
  have hn:∀ks:List Int,(∀k,ks.contains k=true→namers.contains k=true)→anyP (h++[e]) e.id ks=false:=fun ks hks=>named_none hg hks (by rw [List.length_append,List.length_singleton]; omega)
  have cc:=keepE_canc (s:=s.counted) (s':={ s.counted with updates:=s.updates++[e] }) rfl
  refine ⟨g1.fe,g1.f0,g1.fu,g1.f3,g1.f4,g1.f5,by simp only [cc]; exact g1.f8,by simp only [cc]; exact g1.fz,fun u hu=>?_,?_,g1.ta,g1.tu⟩
  ·rcases List.mem_append.1 hu with hu|hu
   ·exact g1.ua u hu
   ·rw [List.mem_singleton] at hu; subst hu
    have:=isP_last h u
    rw [h21] at this
    refine ⟨by rw [hid,hcnt]; exact this,hn _ fun k q=>?_⟩
    simp [namers] at q ⊢; omega
  ·show (s.updates++[e]).Pairwise _
   rw [List.pairwise_append]
   refine ⟨g1.ud,List.pairwise_singleton _ _,fun u hu v hv=>?_⟩
   rw [List.mem_singleton] at hv; subst hv
   obtain ⟨-,i2,-⟩:=isP_some (go.ua u hu).1
   omega
 by_cases h22:e.kind=22
 ·exact settle e.b 0 (by unfold VS.applied; rw [if_neg h1,if_neg h19,if_neg h20,if_neg h21,if_pos h22]) (by rw [h22]; rfl) (by omega)
 by_cases h23:e.kind=23∨e.kind=27
 ·exact settle e.b 1 (by unfold VS.applied; rw [if_neg h1,if_neg h19,if_neg h20,if_neg h21,if_neg h22,if_pos h23]) (by rcases h23 with q|q<;>rw [q]<;>rfl) (by omega)
 by_cases h24:e.kind=24
 ·exact settle e.b 2 (by unfold VS.applied; rw [if_neg h1,if_neg h19,if_neg h20,if_neg h21,if_neg h22,if_neg h23,if_pos h24]) (by rw [h24]; rfl) (by omega)
 by_cases h25:e.kind=25
 ·exact settle 0 0 (by unfold VS.applied; rw [if_neg h1,if_neg h19,if_neg h20,if_neg h21,if_neg h22,if_neg h23,if_neg h24,if_pos h25]) (by rw [h25]; rfl) (by omega)
 by_cases h28:e.kind=28
 ·exact settle e.b e.c (by unfold VS.applied; rw [if_neg h1,if_neg h19,if_neg h20,if_neg h21,if_neg h22,if_neg h23,if_neg h24,if_neg h25,if_pos h28]) (by rw [h28]; rfl) (by omega)
 by_cases h16:e.kind=16∨e.kind=30∨e.kind=31
 ·have he:s.counted.applied e={ s.counted with over:=true }:=by unfold VS.applied; rw [if_neg h1,if_neg h19,if_neg h20,if_neg h21,if_neg h22,if_neg h23,if_neg h24,if_neg h25,if_neg h28,if_pos h16]
  refine base _ rfl (fun q=>by rw [he] at q; cases q) (by rw [he]; rcases h16 with q|q|q<;>rw [q]<;>rfl)
 ·have he:s.counted.applied e=s.counted:=by unfold VS.applied; rw [if_neg h1,if_neg h19,if_neg h20,if_neg h21,if_neg h22,if_neg h23,if_neg h24,if_neg h25,if_neg h28,if_neg h16]
  have hval:=(may_head m).1
  have hk31:e.kind=26∨e.kind=29:=by
   have h0:=(valid_head hval).2.2.2.2
   have:¬(e.kind<1∨e.kind>31):=fun q=>by have:=fields_neg.2 q; omega
   omega
  refine base _ rfl (fun _=>?_) (by rw [he]; rcases hk31 with q|q<;>rw [q]<;>exact ho)
  rw [he]
  refine gc.snoc e (fun _ _ _ _ _ _ q=>?_) (fun _ _ _ _ _ _ q=>?_) (fun _ _ _ _ _ _ q=>?_) (fun _ _ _ _ _ _ _ q=>?_) (fun _ h=>h) gc.fz (fun _ h=>h) gc.ud (fun _ _ q=>?_) (fun _ h=>h) (fun _ _ _ _ _ q=>?_)
  all_goals
   exfalso
   simp at q
   omega
theorem LS.bi (ok:Okp p) {L:LS} (li:LInv p L) (b:BI L.h L.now L.s) (a:ActM):BI (L.step p a).h (L.step p a).now (L.step p a).s:=by
 have hclk:L.now≤L.clock a∧L.clock a≤1099511627776:=by
  have:=b.n0
  unfold LS.clock
  split
  ·rename_i q; simp at q; omega
  ·omega
 unfold LS.step
 split
 ·split
  ·exact b
  ·rename_i hs
   rcases apply_cases L.s (L.next a) with ⟨e1,e2⟩|⟨e1,ho,hr,e2⟩
   ·rw [if_neg e1]; show BI L.h L.now (L.s.apply (L.next a)).2; rw [e2]; exact b
   ·rw [if_pos e1]; show BI (L.h++[L.next a]) L.now (L.s.apply (L.next a)).2; rw [e2]
    exact apply_bi b rfl hr ho (gram_of hs)
 ·split
  ·have b1:=b.later hclk.1 hclk.2
   split
   ·rename_i he
    show BI L.h (L.clock a) (L.s.Task p (L.clock a) a.value).2
    rw [Task_no he]; exact b1
   ·rename_i he
    exact task_bi ok b1 li.inv (by rw [←Task_ok]; exact Decidable.not_not.1 he) a.value
  ·exact b
theorem BI.init:BI [] 0 VS.init:=by
 refine ⟨rfl,rfl,rfl,fun j x hx=>(by cases hx),fun h=>absurd rfl h,fun h=>absurd rfl h,by decide,fun _=>?_⟩
 exact ⟨fun i f h=>(by cases h),fun i f h=>(by cases h),fun i j f g h=>(by cases h),fun i f h=>(by cases h),fun i f h=>(by cases h),fun i f h=>(by cases h),fun i f h=>(by cases h),fun i f h=>(by cases h),fun u h=>(by cases h),List.Pairwise.nil,fun i f h=>(by cases h),fun i j f g h=>(by cases h)⟩
end
def VS.rp (s:VS) (d:Int) (l:List Ev):VS:={ s with expect:=some l,draws:=d,made:=s.made.map fix7 }
structure Syn (K:List Ev) (s s':VS):Prop where
 x:s.expect=none
 ex:∃d l,s'=s.rp d l∧s.made.map fix7++l=K
structure Off (K m:List Ev) (s':VS):Prop where
 drift:s'.drift=true
 over:s'.over=true
 ex:∃k e,m[k]?=some e∧s'.made=K.take k∧k≤K.length∧(m.map fix7).take k=K.take k∧K[k]?≠some (fix7 e)
def Good (K m:List Ev):Prop:=∀(k:Nat) (e w:Ev),m[k]?=some e→K[k]?=some w→matchesM e w=true→w=fix7 e
theorem Good.pre {K m m':List Ev} (g:Good K m') (h:m <+: m'):Good K m:=fun k e w he hw hm=>by
 obtain ⟨t,rfl⟩:=h
 exact g k e w (by rw [List.getElem?_append_left (get_lt he)]; exact he) hw hm
theorem Off.pre {K m m':List Ev} {s:VS} (o:Off K m s) (h:m <+: m'):Off K m' s:=by
 obtain ⟨t,rfl⟩:=h
 obtain ⟨k,e,h1,h2,h3,h4,h5⟩:=o.ex
 refine ⟨o.drift,o.over,k,e,by rw [List.getElem?_append_left (get_lt h1)]; exact h1,h2,h3,?_,h5⟩
 rw [List.map_append,List.take_append_of_le_length (by rw [List.length_map]; exact Nat.le_of_lt (get_lt h1))]
 exact h4
theorem Off.congr {K m:List Ev} {s s':VS} (o:Off K m s) (e1:s'.drift=s.drift) (e2:s'.over=s.over) (e3:s'.made=s.made):Off K m s':=⟨e1.trans o.drift,e2.trans o.over,by rw [e3]; exact o.ex⟩
theorem FStep.pre {p:Prg} {b:Bool} {s s':VS} (q:FStep p b s s') (hx:s.expect=none):s'.expect=none∧s.made <+: s'.made:=by
 have live:∀e:Ev,(s.emit0 e).2.expect=none∧s.made <+: (s.emit0 e).2.made:=fun e=>by
  have k:=emits s e
  generalize s.emit0 e=q at k ⊢
  cases k with
  | live=>exact ⟨hx,List.prefix_append _ _⟩
  | none h=>rw [hx] at h; cases h
  | other w l h=>rw [hx] at h; cases h
  | same w l h=>rw [hx] at h; cases h
 have keep:∀t:VS,t.expect=s.expect→t.made=s.made→t.expect=none∧s.made <+: t.made:=fun t h1 h2=>⟨h1.trans hx,by rw [h2]; exact List.prefix_rfl⟩
 cases q with
 | emit e ho hc=>unfold VS.emit; split<;>exact live _
 | fails c ho=>exact live _
 | done i v k=>rcases setDone_cases s i v k with e|⟨f,-,-,-,e⟩<;>rw [e]<;>exact keep _ rfl rfl
 | fut f h0 h1 hm hd=>exact keep _ rfl rfl
 | scp i h1 h2=>exact keep _ rfl rfl
 | mark i=>rcases mark_cases s i with e|⟨c,-,e⟩<;>rw [e]<;>exact keep _ rfl rfl
 | thr t ht h=>exact keep _ rfl rfl
 | set i t hb ht=>exact keep _ rfl rfl
 | erase i hb=>exact keep _ rfl rfl
 | vars k v=>exact keep _ rfl rfl
 | attrs k v=>exact keep _ rfl rfl
 | draws v=>exact keep _ rfl rfl
 | fuel n hb h=>exact keep _ rfl rfl
 | sig k x l h=>exact keep _ rfl rfl
theorem FSteps.pre {p:Prg} {b:Bool} {s s':VS} (q:FSteps p b s s') (hx:s.expect=none):s'.expect=none∧s.made <+: s'.made:=by
 induction q with
 | refl=>exact ⟨hx,List.prefix_rfl⟩
 | tail _ q ih =>
  have:=q.pre ih.1
  exact ⟨this.1,ih.2.trans this.2⟩
theorem Syn.map {K:List Ev} {s s':VS} (h:Syn K s s') (g:VS→VS) (hc:∀d l,∃d',g (s.rp d l)=(g s).rp d' l) (e1:(g s).expect=s.expect) (e2:(g s).made=s.made):Syn K (g s) (g s'):=by
 obtain ⟨d,l,rfl,hk⟩:=h.ex
 obtain ⟨d',e⟩:=hc d l
 exact ⟨e1.trans h.x,d',l,e,by rw [e2]; exact hk⟩
theorem Syn.same {K:List Ev} {s s':VS} (h:Syn K s s'):s'.vars=s.vars∧s'.attrs=s.attrs∧s'.now=s.now∧s'.threads=s.threads∧s'.futures=s.futures∧s'.scopes=s.scopes∧s'.signals=s.signals∧s'.over=s.over∧s'.updates=s.updates∧s'.cancel=s.cancel∧s'.count=s.count∧s'.fuel=s.fuel:=by
 obtain ⟨d,l,rfl,-⟩:=h.ex
 exact ⟨rfl,rfl,rfl,rfl,rfl,rfl,rfl,rfl,rfl,rfl,rfl,rfl⟩
theorem matches_fix (e:Ev):matchesM e (fix7 e)=true:=by
 unfold matchesM fix7 Ev.beqM
 by_cases h:e.kind=18
 ·rw [if_pos h,if_neg (by omega),if_pos h]; simp
 ·rw [if_neg h,if_neg h]; simp
def EmS (K:List Ev) (x y:(Int×Bool)×VS):Prop:=(y.1=x.1∧Syn K x.2 y.2)∨(y.1=(0,false)∧Off K x.2.made y.2)
theorem emit0_sim {K:List Ev} {s s':VS} (h:Syn K s s') {e e':Ev} (he:∀w,matchesM e' w=matchesM e w) (g:Good K (s.push e).made):EmS K (s.emit0 e) (s'.emit0 e'):=by
 obtain ⟨d,l,rfl,hk⟩:=h.ex
 have e0:s.emit0 e=((e.id,true),s.push e):=by unfold VS.emit0; rw [h.x]
 rw [e0]
 have hat:(s.push e).made[s.made.length]?=some e:=by show (s.made++[e])[s.made.length]?=_; simp
 have htk:K.take s.made.length=s.made.map fix7:=by rw [←hk]; exact List.take_left' (by simp)
 have hle:s.made.length≤K.length:=by rw [←hk]; simp
 have hat2:K[s.made.length]?=l.head?:=by rw [←hk,List.getElem?_append_right (by simp)]; cases l<;>simp
 have off:∀t:VS,t.drift=true→t.over=true→t.made=s.made.map fix7→l.head?≠some (fix7 e)→Off K (s.push e).made t:=fun t t1 t2 t3 t4 =>
  ⟨t1,t2,s.made.length,e,hat,by rw [htk]; exact t3,hle,by rw [htk]; show ((s.made++[e]).map fix7).take _=_; rw [List.map_append]; exact List.take_left' (by simp),by rw [hat2]; exact t4⟩
 unfold VS.emit0
 cases l with
 | nil=>exact .inr ⟨rfl,off _ rfl rfl rfl (by simp)⟩
 | cons w l =>
  show EmS K _ (if matchesM e' w=true then _ else _)
  rw [he]
  by_cases hm:matchesM e w=true
  ·rw [if_pos hm]
   have hw:w=fix7 e:=g _ e w hat (by rw [hat2]; rfl) hm
   subst hw
   refine .inl ⟨?_,⟨h.x,d,l,?_,?_⟩⟩
   ·show ((fix7 e).id,true)=_; rw [fix7_id]
   ·unfold VS.push VS.rp
    simp only [List.map_append,List.map_cons,List.map_nil,fix7_kind]
   ·show (s.made++[e]).map fix7++l=K
    rw [←hk]; simp
  ·rw [if_neg hm]
   refine .inr ⟨rfl,off _ rfl rfl rfl fun q=>hm ?_⟩
   cases q; exact matches_fix e
theorem fails_sim {K:List Ev} {s s':VS} (h:Syn K s s') {c:Int} (g:Good K (s.fails c).made):Syn K (s.fails c) (s'.fails c)∨Off K (s.fails c).made (s'.fails c):=by
 have e0:s.emit0 (s.stamp (evM 16 c 0 0))=(((s.stamp (evM 16 c 0 0)).id,true),s.push (s.stamp (evM 16 c 0 0))):=by unfold VS.emit0; rw [h.x]
 have es:s'.stamp (evM 16 c 0 0)=s.stamp (evM 16 c 0 0):=by obtain ⟨d,l,rfl,-⟩:=h.ex; rfl
 have:=emit0_sim h (e:=s.stamp (evM 16 c 0 0)) (e':=s'.stamp (evM 16 c 0 0)) (fun w=>by rw [es]) (by unfold VS.fails at g; rw [e0] at g; exact g)
 exact this.imp And.right And.right
theorem emit_sim {K:List Ev} {s s':VS} (h:Syn K s s') {e e':Ev} (hk:e'.kind=e.kind) (he:∀w,matchesM (s.stamp e') w=matchesM (s.stamp e) w) (g:Good K (s.emit e).2.made):EmS K (s.emit e) (s'.emit e'):=by
 have es:s'.stamp e'=s.stamp e':=by obtain ⟨d,l,rfl,-⟩:=h.ex; rfl
 have e0:s.emit0 (s.stamp e)=(((s.stamp e).id,true),s.push (s.stamp e)):=by unfold VS.emit0; rw [h.x]
 have hc:s'.count=s.count:=h.same.2.2.2.2.2.2.2.2.2.2.1
 unfold VS.emit at g ⊢
 rw [hk,hc]
 split
 ·rename_i hx
  rw [if_pos hx] at g
  rcases fails_sim h g with q|q
  ·exact .inl ⟨rfl,q⟩
  ·exact .inr ⟨rfl,q⟩
 ·rename_i hx
  rw [if_neg hx,e0] at g
  rw [es]
  exact emit0_sim h he g
theorem emit_same {K:List Ev} {s s':VS} (h:Syn K s s') {e:Ev} (g:Good K (s.emit e).2.made):EmS K (s.emit e) (s'.emit e):=emit_sim h rfl (fun _=>rfl) g
theorem rp_setDone (s:VS) (d:Int) (l:List Ev) (i v k:Int):(s.rp d l).setDone i v k=(s.setDone i v k).rp d l:=by
 unfold VS.setDone
 show (match s.futures[i.toNat]? with|some f=>_|none=>_)=_
 cases s.futures[i.toNat]? with
 | none=>rfl
 | some f=>simp only; split<;>rfl
theorem rp_mark (s:VS) (d:Int) (l:List Ev) (i:Int):(s.rp d l).mark i=(s.mark i).rp d l:=by
 unfold VS.mark
 show (match s.scopes[i.toNat]? with|some f=>_|none=>_)=_
 cases s.scopes[i.toNat]? with
 | none=>rfl
 | some f=>rfl
theorem Syn.done {K:List Ev} {s s':VS} (h:Syn K s s') (i v k:Int):Syn K (s.setDone i v k) (s'.setDone i v k):=by
 obtain ⟨q1,q2,q3,q4,q5,q6,q7⟩:=setDone_rest s i v k
 exact h.map (fun z=>z.setDone i v k) (fun d l=>⟨d,rp_setDone s d l i v k⟩) q3 q6
theorem Syn.mark {K:List Ev} {s s':VS} (h:Syn K s s') (i:Int):Syn K (s.mark i) (s'.mark i):=by
 obtain ⟨m1,m2,m3,m4,m5⟩:=mark_rest s i
 exact h.map (fun z=>z.mark i) (fun d l=>⟨d,rp_mark s d l i⟩) m1 m4
theorem Syn.canc {K:List Ev} {s s':VS} (h:Syn K s s') (i:Int):s'.cancelled i=s.cancelled i:=keepE_canc h.same.2.2.2.2.2.1 i
theorem hits_congr {s s':VS} (e1:s'.futures=s.futures) (e2:s'.scopes=s.scopes):s'.hits=s.hits:=by
 have:s'.hitAt=s.hitAt:=by
  funext i
  unfold VS.hitAt
  rw [e1]
  simp only [keepE_canc e2]
 unfold VS.hits
 rw [this,e1]
def VSim (K:List Ev) (s s':VS):Prop:=Syn K s s'∨Off K s.made s'
theorem undoAll_sim {K:List Ev}:∀(l:List Nat) (s s':VS),s.over=false→Syn K s s'→Good K (undoAll l s).made→VSim K (undoAll l s) (undoAll l s')
 | [],s,s',_,h,_=>.inl h
 | i::l,s,s',ho,h,g=>by
  cases hf:s.futures[i]? with
  | none =>
   have hf':s'.futures[i]?=none:=by rw [h.same.2.2.2.2.1]; exact hf
   rw [undoAll,hf] at g
   rw [undoAll,undoAll,hf,hf']
   exact undoAll_sim l s s' ho h g
  | some f =>
   have hf':s'.futures[i]?=some f:=by rw [h.same.2.2.2.2.1]; exact hf
   rw [undoAll_cons hf] at g ⊢
   rw [undoAll_cons hf',h.canc]
   split
   ·rename_i hc; rw [if_pos hc] at g; exact undoAll_sim l s s' ho h g
   ·rename_i hc
    rw [if_neg hc] at g
    split
    ·rename_i hk; rw [if_pos hk] at g; exact undoAll_sim l s s' ho h g
    ·rename_i hk
     rw [if_neg hk] at g
     by_cases hok:(s.emit (evM (undoK f.kind) f.event 0 0)).1.2=true
     ·have hov:=undoS_over (i:=i) ho hk hok
      have st0:FSteps ⟨[],[]⟩ true (s.emit (evM (undoK f.kind) f.event 0 0)).2 (undoS s i f):=by
       unfold undoS
       split
       ·exact (FStep.done _ _ _ _).one
       ·exact .refl _
      have st1:=undoAll_steps (p:=⟨[],[]⟩) (b:=true) l (undoS s i f) hov
      have em0:=(FStep.emit (p:=⟨[],[]⟩) (b:=true) s (evM (undoK f.kind) f.event 0 0) ho (undoK_cmd hk).1).pre h.x
      rw [if_neg (by rw [hok]; decide)] at g ⊢
      have g':Good K (undoAll l (undoS s i f)).made:=g
      have pr:=(st0.trans st1).pre em0.1
      have em:=emit_same h (e:=evM (undoK f.kind) f.event 0 0) (g'.pre pr.2)
      rcases em with ⟨a,b⟩|⟨a,b⟩
      ·rw [if_neg (by rw [a,hok]; decide)]
       refine undoAll_sim l (undoS s i f) (undoS s' i f) hov ?_ g'
       unfold undoS
       split
       ·exact b.done _ _ _
       ·exact b
      ·rw [if_pos (by rw [a]; rfl)]
       exact .inr (b.pre pr.2)
     ·rw [if_pos (by simpa using hok)] at g ⊢
      have em:=emit_same h (e:=evM (undoK f.kind) f.event 0 0) g
      rcases em with ⟨a,b⟩|⟨a,b⟩
      ·rw [if_pos (by rw [a]; simpa using hok)]; exact .inl b
      ·rw [if_pos (by rw [a]; rfl)]; exact .inr b
theorem cancels_sim {K:List Ev} {s s':VS} (h:Syn K s s') (ho:s.over=false) (i:Int) (g:Good K (s.cancels i).made):VSim K (s.cancels i) (s'.cancels i):=by
 unfold VS.cancels at g ⊢
 rw [h.same.2.2.2.2.2.1,hits_congr h.same.2.2.2.2.1 h.same.2.2.2.2.2.1]
 split
 ·split
  ·exact .inl h
  ·rename_i hs hc
   rw [hs] at g
   simp only at g
   rw [if_neg hc] at g
   exact undoAll_sim _ _ _ ((mark_over s i).trans ho) (h.mark i) g
 ·exact .inl h
structure RSyn (K:List Ev) (x y:Rn):Prop where
 e:y=x.vs y.s
 s:Syn K x.s y.s
def ROut (K:List Ev) (x y:Rn):Prop:=RSyn K x y∨(y.fault=false∧Off K x.s.made y.s)
def RO (K:List Ev) (x y:Int×Rn):Prop:=(y.1=x.1∧RSyn K x.2 y.2)∨(y.2.fault=false∧Off K x.2.s.made y.2.s)
variable {K:List Ev} {r:Rn} {s':VS}
theorem RSyn.of (h:Syn K r.s s'):RSyn K r (r.vs s'):=⟨rfl,h⟩
theorem RSyn.t {x y:Rn} (h:RSyn K x y):y.t=x.t:=by have:=congrArg Rn.t h.e; exact this
theorem RSyn.fault {x y:Rn} (h:RSyn K x y):y.fault=x.fault:=by have:=congrArg Rn.fault h.e; exact this
theorem RSyn.pc {x y:Rn} (h:RSyn K x y) (n:Int):RSyn K (x.pc n) (y.pc n):=⟨by obtain ⟨e,-⟩:=h; rw [e]; rfl,h.s⟩
theorem ROut.pc {x y:Rn} (h:ROut K x y) (n m:Int) (e:RSyn K x y→m=n):ROut K (x.pc n) (y.pc m):=by
 rcases h with h|h
 ·rw [e h]; exact .inl (h.pc n)
 ·exact .inr h
theorem RO.of {x y:Rn} (h:ROut K x y) (n:Int):RO K (n,x) (n,y):=h.imp (fun q=>⟨rfl,q⟩) id
theorem ROut.next {x y:Rn} (h:ROut K x y):ROut K (x.pc (x.t.pc+1)) (y.pc (y.t.pc+1)):=h.pc _ _ fun q=>by rw [q.t]
theorem vs_s (r:Rn) (s':VS):(r.vs s').s=s':=rfl
theorem vs_t (r:Rn) (s':VS):(r.vs s').t=r.t:=rfl
theorem take_vs (r:Rn) (s':VS):(r.vs s').take=(r.take.1,r.take.2.vs s'):=by
 unfold Rn.take
 show (match r.t.stack.getLast? with|some v=>_|none=>_)=_
 cases r.t.stack.getLast?<;>rfl
theorem take2_vs (r:Rn) (s':VS):(r.vs s').take.2=r.take.2.vs s':=by rw [take_vs]
theorem leave_vs (r:Rn) (s':VS) (l:List Int):(r.vs s').leave l=(r.leave l).vs s':=rfl
theorem asked_vs {r:Rn} {s':VS} (e:s'.futures=r.s.futures) (d:Nat):(r.vs s').asked d=((r.asked d).1,(r.asked d).2.vs s'):=by
 unfold Rn.asked
 show (match (r.t.stack.reverse)[d]? with|some v=>if (decide (v<0)||decide (v≥(s'.futures.length:Int)))=true then _ else _|none=>_)=_
 rw [e]
 cases (r.t.stack.reverse)[d]? with
 | none=>rfl
 | some v=>simp only; split<;>rfl
theorem scope_vs {r:Rn} {s':VS} (e:s'.scopes=r.s.scopes):(r.vs s').scope=(r.scope.1,r.scope.2.vs s'):=by
 have e2:r.take.2.s.scopes=r.s.scopes:=by rw [take_s]
 unfold Rn.scope
 rw [take_vs]
 show (r.take.1,if (decide (r.take.1<0)||decide (r.take.1≥(s'.scopes.length:Int)))=true then _ else _)=_
 rw [e,e2]
 split<;>rfl
theorem told_vs {r:Rn} {s':VS} (e:s'.futures=r.s.futures) (op:Int):(r.vs s').told op=((r.told op).1,(r.told op).2.vs s'):=by
 unfold Rn.told
 rw [asked_vs e]
 split
 ·show (match (if decide ((r.asked 1).1<0)=true then none else s'.futures[(r.asked 1).1.toNat]?) with|some f=>_|none=>_)=_
  rw [e]
  cases (if decide ((r.asked 1).1<0)=true then none else r.s.futures[(r.asked 1).1.toNat]?) with
  | none=>rfl
  | some f=>simp only; split<;>rfl
 ·rfl
theorem vs_same {r:Rn} (h:Syn K r.s s'):Syn K r.take.2.s s':=by rw [take_s]; exact h
theorem opens_sim (h:Syn K r.s s') (hf:r.fault=false) {e:Ev} (g:Good K (r.opens e).s.made):ROut K (r.opens e) ((r.vs s').opens e):=by
 have hc:(r.vs s').s.cancelled (r.vs s').t.scope=r.s.cancelled r.t.scope:=h.canc _
 have hold:∀{z z':VS} (f:Fut),Syn K z z'→RSyn K ((r.vs z).hold f) ((r.vs z').hold f):=fun {z z'} f q=>by
  refine ⟨?_,q.map (fun z=>z.fut f) (fun d l=>⟨d,rfl⟩) rfl rfl⟩
  show ((r.vs z').leave [(z'.futures.length:Int)]).vs (z'.fut f)=_
  rw [q.same.2.2.2.2.1]; rfl
 unfold Rn.opens at g ⊢
 rw [hc]
 split
 ·exact .inl (hold (z:=r.s) (z':=s') _ h)
 ·rename_i hcn
  rw [if_neg hcn] at g
  by_cases hok:(r.s.emit e).1.2=true
  ·rw [if_neg (by rw [hok]; decide)] at g ⊢
   rcases emit_same h (e:=e) g with ⟨a,b⟩|⟨a,b⟩
   ·have a':((r.vs s').s.emit e).1=(r.s.emit e).1:=a
    rw [if_neg (by rw [a',hok]; decide),a']
    exact .inl (hold _ b)
   ·have a':((r.vs s').s.emit e).1=(0,false):=a
    rw [if_pos (by rw [a']; rfl)]
    exact .inr ⟨hf,b⟩
  ·rw [if_pos (by simpa using hok)] at g ⊢
   rcases emit_same h (e:=e) g with ⟨a,b⟩|⟨a,b⟩
   ·have a':((r.vs s').s.emit e).1=(r.s.emit e).1:=a
    rw [if_pos (by rw [a']; simpa using hok)]
    exact .inl (RSyn.of (r:=r.vs (r.s.emit e).2) b)
   ·have a':((r.vs s').s.emit e).1=(0,false):=a
    rw [if_pos (by rw [a']; rfl)]
    exact .inr ⟨hf,b⟩
theorem vsim_out {x:Rn} {z z':VS} (h:VSim K z z') (hf:x.fault=false):ROut K (x.vs z) (x.vs z'):=h.imp (fun q=>RSyn.of (r:=x.vs z) q) (fun q=>⟨hf,q⟩)
theorem threads_sim (h:Syn K r.s s') (hf:r.fault=false) (ho:r.s.over=false) (op a:Int) (g:Good K (r.threads op a).s.made):ROut K (r.threads op a) ((r.vs s').threads op a):=by
 have q6:=h.same.2.2.2.2.2.1
 have hc:(r.vs s').s.cancelled (r.vs s').t.scope=r.s.cancelled r.t.scope:=h.canc _
 unfold Rn.threads at g ⊢
 rw [take_vs,scope_vs q6,hc]
 have ht:=vs_same h
 have hs:Syn K r.scope.2.s s':=by rw [scope_s]; exact h
 obtain ⟨d,l,rfl,hk⟩:=h.ex
 show ROut K _ (if op=27 then (if r.take.2.fault=true then r.take.2.vs (r.s.rp d l) else if decide ((r.s.threads.length:Int)≥16)=true then (r.take.2.vs (r.s.rp d l)).vs ((r.s.rp d l).fails (-3)) else ((r.take.2.vs (r.s.rp d l)).leave [(r.s.futures.length:Int)]).vs (((r.s.rp d l).fut ⟨0,0,r.t.scope,false,0,0⟩).thread (Thr.new a r.t.scope r.take.1 (r.s.futures.length:Int) 0)))
  else if op=29 then (if ((r.t.stack.length:Int)==32)=true then (r.vs (r.s.rp d l)).fail else if decide ((r.s.scopes.length:Int)≥32)=true then (r.vs (r.s.rp d l)).vs ((r.s.rp d l).fails (-3)) else ((r.vs (r.s.rp d l)).leave [(r.s.scopes.length:Int)]).vs { (r.s.rp d l) with scopes:=r.s.scopes++[⟨r.t.scope,false⟩] })
  else if op=30 then (if r.scope.2.fault=true then r.scope.2.vs (r.s.rp d l) else { r.scope.2.vs (r.s.rp d l) with t:={ r.scope.2.t with scope:=r.scope.1 } })
  else if op=31 then (if r.scope.2.fault=true then r.scope.2.vs (r.s.rp d l) else (r.scope.2.vs (r.s.rp d l)).vs ((r.s.rp d l).cancels r.scope.1))
  else (r.vs (r.s.rp d l)).leave [truthM (r.s.cancelled r.t.scope)])
 split
 ·rename_i e27
  rw [if_pos e27] at g
  split
  ·exact .inl (RSyn.of ht)
  ·rename_i hft
   rw [if_neg hft] at g
   split
   ·rename_i hl
    rw [if_pos hl] at g
    exact vsim_out (x:=r.take.2) (fails_sim h g) (by simpa using hft)
   ·refine .inl ⟨rfl,h.map (fun z=>(z.fut ⟨0,0,r.t.scope,false,0,0⟩).thread (Thr.new a r.t.scope r.take.1 (r.s.futures.length:Int) 0)) (fun d l=>⟨d,rfl⟩) rfl rfl⟩
 ·rename_i e27
  rw [if_neg e27] at g
  split
  ·rename_i e29
   rw [if_pos e29] at g
   split
   ·exact .inl ⟨rfl,h⟩
   ·rename_i h32
    rw [if_neg h32] at g
    split
    ·rename_i hl
     rw [if_pos hl] at g
     exact vsim_out (x:=r) (fails_sim h g) hf
    ·exact .inl ⟨rfl,h.map (fun z=>{ z with scopes:=r.s.scopes++[⟨r.t.scope,false⟩] }) (fun d l=>⟨d,rfl⟩) rfl rfl⟩
  ·rename_i e29
   rw [if_neg e29] at g
   split
   ·split
    ·exact .inl (RSyn.of hs)
    ·exact .inl ⟨rfl,hs⟩
   ·rename_i e30
    rw [if_neg e30] at g
    split
    ·rename_i e31
     rw [if_pos e31] at g
     split
     ·exact .inl (RSyn.of hs)
     ·rename_i hft
      rw [if_neg hft] at g
      exact vsim_out (x:=r.scope.2) (cancels_sim h ho _ g) (by simpa using hft)
    ·exact .inl ⟨rfl,h⟩
theorem command_sim (h:Syn K r.s s') (hf:r.fault=false) (op a ev v:Int) (h2:op=34→r.take.2.fault=false) (g:Good K (r.command op a ev v).s.made):ROut K (r.command op a ev v) ((r.vs s').command op a ev v):=by
 have hnow:(r.vs s').s.now=r.s.now:=h.same.2.2.1
 unfold Rn.command at g ⊢
 rw [hnow]
 split
 ·exact .inl ⟨rfl,h.map (fun z=>{ z with vars:=z.vars.set a.toNat v }) (fun d l=>⟨d,rfl⟩) rfl rfl⟩
 ·rename_i e; rw [if_neg e] at g
  split
  ·rename_i e; rw [if_pos e] at g; exact opens_sim h hf g
  ·rename_i e; rw [if_neg e] at g
   split
   ·rename_i e; rw [if_pos e] at g; exact opens_sim h hf g
   ·rename_i e; rw [if_neg e] at g
    split
    ·rename_i e; rw [if_pos e] at g; exact opens_sim h hf g
    ·rename_i e; rw [if_neg e] at g
     split
     ·rename_i e; rw [if_pos e] at g
      by_cases hok:(r.s.emit (evM 10 a v 0)).1.2=true
      ·rw [if_pos hok] at g ⊢
       rcases emit_same h (e:=evM 10 a v 0) g with ⟨q,b⟩|⟨q,b⟩
       ·have q':((r.vs s').s.emit (evM 10 a v 0)).1=(r.s.emit (evM 10 a v 0)).1:=q
        rw [if_pos (by rw [q']; exact hok)]
        exact .inl ⟨rfl,b.map (fun z=>{ z with attrs:=z.attrs.set a.toNat v }) (fun d l=>⟨d,rfl⟩) rfl rfl⟩
       ·have q':((r.vs s').s.emit (evM 10 a v 0)).1=(0,false):=q
        rw [if_neg (by rw [q']; decide)]
        exact .inr ⟨hf,b⟩
      ·rw [if_neg hok] at g ⊢
       rcases emit_same h (e:=evM 10 a v 0) g with ⟨q,b⟩|⟨q,b⟩
       ·have q':((r.vs s').s.emit (evM 10 a v 0)).1=(r.s.emit (evM 10 a v 0)).1:=q
        rw [if_neg (by rw [q']; exact hok)]
        exact .inl ⟨rfl,b⟩
       ·have q':((r.vs s').s.emit (evM 10 a v 0)).1=(0,false):=q
        rw [if_neg (by rw [q']; decide)]
        exact .inr ⟨hf,b⟩
     ·rename_i e; rw [if_neg e] at g
      split
      ·rename_i e; rw [if_pos e] at g
       rw [take2_vs]
       exact (emit_same h (e:=evM 9 ev a v) g).elim (fun q=>.inl ⟨rfl,q.2⟩) (fun q=>.inr ⟨h2 e,q.2⟩)
      ·exact .inl ⟨rfl,h⟩
theorem last_a {l:List Ev}:((l.map fix7).getLast?.map Ev.a).getD 0=(l.getLast?.map Ev.a).getD 0:=by
 rw [List.getLast?_map]
 cases l.getLast? with
 | none=>rfl
 | some x=>exact fix7_a x
theorem match_draw {s:VS} (x y:Int) (w:Ev):matchesM (s.stamp (evM 11 x 0 0)) w=matchesM (s.stamp (evM 11 y 0 0)) w:=rfl
def Rn.draws (r:Rn) (q:(Int×Bool)×VS):Rn:=if q.1.2=true then (r.vs q.2).leave [((q.2.made.getLast?).map Ev.a).getD 0] else r.vs q.2
theorem commands_draw (r:Rn) (a:Int) (h:¬((r.t.stack.length:Int)==32)=true):r.commands 19 a=r.draws (({ r.s with draws:=IntKind.u64.wrap (r.s.draws+1) }:VS).emit (evM 11 (IntKind.i64.wrap (mix64 r.s.draws)) 0 0)):=by
 unfold Rn.commands
 rw [if_pos rfl,if_neg h]
 rfl
theorem draw_sim {z z':VS} (h1:Syn K z z') (x y:Int) (hf:r.fault=false) (g:Good K (r.draws (z.emit (evM 11 x 0 0))).s.made):ROut K (r.draws (z.emit (evM 11 x 0 0))) ((r.vs s').draws (z'.emit (evM 11 y 0 0))):=by
 have em:=fun g=>emit_sim h1 (e:=evM 11 x 0 0) (e':=evM 11 y 0 0) rfl (fun w=>match_draw y x w) g
 unfold Rn.draws at g ⊢
 by_cases hok:(z.emit (evM 11 x 0 0)).1.2=true
 ·rw [if_pos hok] at g ⊢
  rcases em g with ⟨ex,b⟩|⟨ex,b⟩
  ·rw [if_pos (by rw [ex]; exact hok)]
   refine .inl ⟨?_,b⟩
   have hm:(z'.emit (evM 11 y 0 0)).2.made=(z.emit (evM 11 x 0 0)).2.made.map fix7:=by
    obtain ⟨d,l,e,-⟩:=b.ex
    rw [e]; rfl
   rw [hm,last_a]; rfl
  ·rw [if_neg (by rw [ex]; decide)]
   exact .inr ⟨hf,b⟩
 ·rw [if_neg hok] at g ⊢
  rcases em g with ⟨ex,b⟩|⟨ex,b⟩
  ·rw [if_neg (by rw [ex]; exact hok)]
   exact .inl ⟨rfl,b⟩
  ·rw [if_neg (by rw [ex]; decide)]
   exact .inr ⟨hf,b⟩
theorem commands_sim (h:Syn K r.s s') (hf:r.fault=false) (op a:Int) (g:Good K (r.commands op a).s.made):ROut K (r.commands op a) ((r.vs s').commands op a):=by
 by_cases e19:op=19
 ·subst e19
  by_cases h32:((r.t.stack.length:Int)==32)=true
  ·have e1:r.commands 19 a=r.fail:=by unfold Rn.commands; rw [if_pos rfl,if_pos h32]
   have e2:(r.vs s').commands 19 a=(r.vs s').fail:=by unfold Rn.commands; rw [if_pos rfl,if_pos (show (((r.vs s').t.stack.length:Int)==32)=true from h32)]
   rw [e1,e2]
   exact .inl ⟨rfl,h⟩
  ·have h1 : Syn K { r.s with draws := IntKind.u64.wrap (r.s.draws+1) } { (r.vs s').s with draws := IntKind.u64.wrap ((r.vs s').s.draws+1) } := by
    obtain ⟨d,l,e,hk⟩:=h.ex
    subst e
    exact ⟨h.x,IntKind.u64.wrap (d+1),l,rfl,hk⟩
   rw [commands_draw r a h32] at g ⊢
   rw [commands_draw (r.vs s') a h32]
   exact draw_sim h1 _ _ hf g
 have q5:=h.same.2.2.2.2.1
 unfold Rn.commands at g ⊢
 rw [if_neg e19] at g ⊢
 rw [if_neg e19]
 rw [told_vs q5,take_vs]
 split
 ·refine .inl ⟨rfl,?_⟩
  rcases told_cases r op with ⟨-,-,e3⟩|⟨-,e2⟩|⟨-,⟨f,-,-,-,e2⟩,-⟩
  ·rw [e3]; exact h
  ·rw [e2]; exact h
  ·rw [e2]; exact h
 ·rename_i ht
  rw [if_neg ht] at g
  show ROut K _ (if r.take.2.fault=true then r.take.2.vs s' else (r.take.2.vs s').command op a (r.told op).1 r.take.1)
  split
  ·exact .inl (RSyn.of (vs_same h))
  ·rename_i hft
   rw [if_neg hft] at g
   refine command_sim (vs_same h) (by simpa using hft) op a _ _ (fun e=>?_) g
   have hft:r.take.2.fault=false:=by simpa using hft
   rw [take_nofault hft,take_t]
   rcases told_cases r op with ⟨e1,-,-⟩|⟨e1,-⟩|⟨-,-,e3⟩
   ·exact absurd (by simpa using e1) ht
   ·exact absurd e e1
   ·show r.t.stack.dropLast.isEmpty=false
    rw [List.isEmpty_eq_false_iff]
    intro hn
    have:=congrArg List.length hn
    rw [List.length_dropLast] at this
    have this:r.t.stack.length-1=0:=this
    omega
theorem emitV_sim {s:VS} (h:Syn K s s') (e:Ev) (g:Good K (s.emit e).2.made):VSim K (s.emit e).2 (s'.emit e).2:=(emit_same h g).imp And.right And.right
def endS (r:Rn) (op:Int) (s:VS):VS :=
 if (op==35)=true then (s.emit (evM 18 r.take.1 0 0)).2 else
 if (r.t.update != 0)=true then (s.emit (evM 14 r.t.update r.take.1 (if (op==37)=true then 1 else 0))).2 else
 if decide (r.t.future≥0)=true then s.setDone r.t.future r.take.1 (if (op==37)=true then 1 else 0) else
 if (op==36)=true then (s.emit (evM 15 r.take.1 0 0)).2 else
 if s.cancelled 0=true then (s.emit (evM 17 r.take.1 0 0)).2 else (s.emit (evM 16 r.take.1 0 0)).2
theorem ends_eq (r:Rn) (op:Int):r.ends op=if r.take.2.fault=true then (0,r.take.2) else (2,r.take.2.vs (endS r op r.s)):=rfl
theorem ends_sim (h:Syn K r.s s') (op:Int) (g:Good K (r.ends op).2.s.made):RO K (r.ends op) ((r.vs s').ends op):=by
 have e:(r.vs s').ends op=if r.take.2.fault=true then (0,r.take.2.vs s') else (2,r.take.2.vs (endS r op s')):=by
  rw [ends_eq,take_vs]
  show (if r.take.2.fault=true then _ else (2,(r.take.2.vs s').vs (endS (r.vs s') op s')))=_
  have:endS (r.vs s') op s'=endS r op s':=by unfold endS; rw [take_vs]; rfl
  rw [this]; rfl
 rw [e,ends_eq]
 rw [ends_eq] at g
 split
 ·exact RO.of (.inl (RSyn.of (vs_same h))) 0
 ·rename_i hft
  rw [if_neg hft] at g
  refine RO.of (vsim_out (x:=r.take.2) ?_ (by simpa using hft)) 2
  have g:Good K (endS r op r.s).made:=g
  unfold endS at g ⊢
  rw [h.canc]
  by_cases c1:(op==35)=true
  ·rw [if_pos c1] at g ⊢; rw [if_pos c1]; exact emitV_sim h _ g
  rw [if_neg c1] at g ⊢; rw [if_neg c1]
  by_cases c2:(r.t.update != 0)=true
  ·rw [if_pos c2] at g ⊢; rw [if_pos c2]; exact emitV_sim h _ g
  rw [if_neg c2] at g ⊢; rw [if_neg c2]
  by_cases c3:decide (r.t.future≥0)=true
  ·rw [if_pos c3,if_pos c3]; exact .inl (h.done _ _ _)
  rw [if_neg c3] at g ⊢; rw [if_neg c3]
  by_cases c4:(op==36)=true
  ·rw [if_pos c4] at g ⊢; rw [if_pos c4]; exact emitV_sim h _ g
  rw [if_neg c4] at g ⊢; rw [if_neg c4]
  by_cases c5:r.s.cancelled 0=true
  ·rw [if_pos c5] at g ⊢; rw [if_pos c5]; exact emitV_sim h _ g
  rw [if_neg c5] at g ⊢; rw [if_neg c5]
  exact emitV_sim h _ g
theorem awaits_sim (h:Syn K r.s s') (op:Int):RO K (r.awaits op) ((r.vs s').awaits op):=by
 have q5:=h.same.2.2.2.2.1
 have ha:(r.asked 0).2.s=r.s:=by
  rcases asked_cases r 0 with e|⟨v,e,-,-⟩<;>rw [e]<;>rfl
 unfold Rn.awaits
 rw [asked_vs q5,take_vs]
 show RO K _ (if decide ((r.asked 0).1<0)=true then (0,(r.asked 0).2.vs s') else match s'.futures[(r.asked 0).1.toNat]? with|some f=>_|none=>(0,r.vs s'))
 rw [q5]
 split
 ·exact .inl ⟨rfl,rfl,by rw [ha]; exact h⟩
 ·cases r.s.futures[(r.asked 0).1.toNat]? with
  | none=>exact .inl ⟨rfl,rfl,h⟩
  | some f =>
   simp only
   split
   ·exact .inl ⟨rfl,rfl,h⟩
   ·split
    ·exact .inl ⟨rfl,rfl,vs_same h⟩
    ·exact .inl ⟨rfl,rfl,vs_same h⟩
theorem waitS_sim (h:Syn K r.s s') (a:Int):RO K (r.waitS a) ((r.vs s').waitS a):=by
 have q7:=h.same.2.2.2.2.2.2.1
 unfold Rn.waitS
 show RO K _ (match s'.signals[a.toNat]?.getD [] with|[]=>_|x::l=>_)
 rw [q7]
 cases hl:r.s.signals[a.toNat]?.getD [] with
 | nil=>exact .inl ⟨rfl,rfl,h⟩
 | cons x l =>
  have hm:Syn K { r.s with signals:=r.s.signals.set a.toNat l } { s' with signals:=s'.signals.set a.toNat l }:=h.map (fun z=>{ z with signals:=z.signals.set a.toNat l }) (fun d l=>⟨d,rfl⟩) rfl rfl
  show RO K (if (r.leave [x]).fault=true then _ else _) (if (r.leave [x]).fault=true then _ else _)
  split
  ·exact .inl ⟨rfl,rfl,h⟩
  ·exact .inl ⟨rfl,rfl,hm⟩
theorem does_sim (h:Syn K r.s s') (hf:r.fault=false) (ho:r.s.over=false) (op a:Int) (g:Good K (r.does op a).2.s.made):RO K (r.does op a) ((r.vs s').does op a):=by
 unfold Rn.does at g ⊢
 split
 ·exact awaits_sim h op
 ·rename_i c1; rw [if_neg c1] at g
  split
  ·exact waitS_sim h a
  ·rename_i c2; rw [if_neg c2] at g
   split
   ·rename_i c3; rw [if_pos c3] at g; exact ends_sim h op g
   ·rename_i c3; rw [if_neg c3] at g
    split
    ·exact .inl ⟨rfl,rfl,h⟩
    ·rename_i c4; rw [if_neg c4] at g
     split
     ·rename_i c5; rw [if_pos c5] at g; exact RO.of (threads_sim h hf ho op a g).next 0
     ·rename_i c5; rw [if_neg c5] at g; exact RO.of (commands_sim h hf op a g).next 0
variable {K:List Ev} {p:Prg}
theorem ite_vs {P:Prop} [Decidable P] (x y:Rn) (s':VS):(if P then x else y).vs s'=if P then x.vs s' else y.vs s':=by split<;>rfl
theorem pc_vs (r:Rn) (s':VS) (n:Int):(r.vs s').pc n=(r.pc n).vs s':=rfl
theorem pure1_vs {r:Rn} {s':VS} (e1:s'.vars=r.s.vars) (e2:s'.now=r.s.now) (e3:s'.signals=r.s.signals) (op a:Int):(r.vs s').pure1 op a=(r.pure1 op a).vs s':=by
 unfold Rn.pure1
 simp only [take_vs,leave_vs,pc_vs,ite_vs,vs_s,vs_t,e1,e2,e3]
theorem pure_vs {r:Rn} {s':VS} (e1:s'.vars=r.s.vars) (e2:s'.now=r.s.now) (e3:s'.signals=r.s.signals) (op a:Int):(r.vs s').pure_ op a=(r.pure_ op a).vs s':=by
 unfold Rn.pure_
 rw [vs_t,pc_vs]
 exact pure1_vs (r:=r.pc (r.t.pc+1)) e1 e2 e3 op a
theorem purelyG_vs {s s':VS} (e1:s'.vars=s.vars) (e2:s'.now=s.now) (e3:s'.signals=s.signals) (fn:Int):∀(n:Nat) (r:Rn),r.s=s→purelyG p fn n (r.vs s')=purelyG p fn n r
 | 0,_,_=>rfl
 | n+1,r,hr=>by
  subst hr
  unfold purelyG
  rw [take_vs,pure_vs e1 e2 e3,vs_t]
  show (if _ then (if r.take.2.fault=true then _ else _) else if (r.pure_ _ _).fault=true then _ else purelyG p fn n ((r.pure_ _ _).vs s'))=_
  rw [purelyG_vs e1 e2 e3 fn n _ (pure_s r _ _)]
theorem purely_vs {s s':VS} (e1:s'.vars=s.vars) (e2:s'.now=s.now) (e3:s'.signals=s.signals) (fn arg:Int) (n:Nat):s'.purely p fn arg n=s.purely p fn arg n :=
 purelyG_vs (s:=s) e1 e2 e3 fn n ⟨s,⟨fn,0,0,[],arg,0,0,0,0⟩,false⟩ rfl
variable {s s':VS}
theorem admit2_sim (h:Syn K s s') (fn:Int) (e:Ev) (g:Good K (s.admit2 fn e).made):VSim K (s.admit2 fn e) (s'.admit2 fn e):=by
 obtain ⟨q1,q2,q3,q4,q5,q6,-⟩:=h.same
 unfold VS.admit2 at g ⊢
 rw [q4]
 split
 ·rename_i c; rw [if_pos c] at g; exact fails_sim h g
 ·rename_i c
  rw [if_neg c] at g
  by_cases hok:(s.emit (evM 12 e.id 0 0)).1.2=true
  ·rw [if_pos hok] at g ⊢
   rcases emit_same h (e:=evM 12 e.id 0 0) g with ⟨x,b⟩|⟨x,b⟩
   ·rw [if_pos (by rw [x]; exact hok)]
    exact .inl (b.map (fun z=>z.thread (Thr.new fn 0 e.b (-1) e.id)) (fun d l=>⟨d,rfl⟩) rfl rfl)
   ·rw [if_neg (by rw [x]; decide)]
    exact .inr b
  ·rw [if_neg hok] at g ⊢
   rcases emit_same h (e:=evM 12 e.id 0 0) g with ⟨x,b⟩|⟨x,b⟩
   ·rw [if_neg (by rw [x]; exact hok)]; exact .inl b
   ·rw [if_neg (by rw [x]; decide)]; exact .inr b
theorem admits_sim (h:Syn K s s') (e:Ev) (g:Good K (s.admits p e).made):VSim K (s.admits p e) (s'.admits p e):=by
 obtain ⟨q1,q2,q3,q4,q5,q6,q7,q8,q9,q10,q11,q12⟩:=h.same
 unfold VS.admits at g ⊢
 by_cases c1:decide (p.find 3 e.a<0)=true
 ·rw [if_pos c1] at g ⊢; rw [if_pos c1]; exact emitV_sim h _ g
 rw [if_neg c1] at g ⊢; rw [if_neg c1]
 by_cases c2:decide (p.find 4 e.a≥0)=true
 ·rw [if_pos c2] at g ⊢; rw [if_pos c2]
  simp only at g ⊢
  rw [q12,purely_vs (s:=s) q1 q3 q7]
  have h1:Syn K { s with fuel:=((s.purely p (p.find 4 e.a) e.b s.fuel.toNat).2.2:Int) } { s' with fuel:=((s.purely p (p.find 4 e.a) e.b s.fuel.toNat).2.2:Int) }:=h.map (fun z=>{ z with fuel:=((s.purely p (p.find 4 e.a) e.b s.fuel.toNat).2.2:Int) }) (fun d l=>⟨d,rfl⟩) rfl rfl
  generalize s.purely p (p.find 4 e.a) e.b s.fuel.toNat=q at *
  by_cases c3:(q.2.1==3)=true
  ·rw [if_pos c3] at g ⊢; rw [if_pos c3]; exact fails_sim h1 g
  rw [if_neg c3] at g ⊢; rw [if_neg c3]
  by_cases c4:(q.2.1 != 0||(if (q.2.1==2)=true then (-2:Int) else q.1) != 0)=true
  ·rw [if_pos c4] at g ⊢; rw [if_pos c4]; exact emitV_sim h1 _ g
  rw [if_neg c4] at g ⊢; rw [if_neg c4]
  exact admit2_sim h1 _ _ g
 ·rw [if_neg c2] at g ⊢; rw [if_neg c2]
  exact admit2_sim h _ _ g
theorem admitAll_over:∀(l:List Ev) (s:VS),s.over=true→admitAll p l s=s
 | [],_,_=>rfl
 | e::l,s,ho=>by
  rw [admitAll,if_neg (by rw [ho]; decide)]
  exact admitAll_over l s ho
theorem admitAll_sim (ok:Okp p):∀(l:List Ev) (s s':VS),Inv p s→Room s→(∀u∈l,0≤u.id)→Syn K s s'→Good K (admitAll p l s).made→VSim K (admitAll p l s) (admitAll p l s')
 | [],s,s',_,_,_,h,_=>.inl h
 | u::l,s,s',iv,rm,hid,h,g=>by
  have ho':=h.same.2.2.2.2.2.2.2.1
  cases ho:s.over with
  | true=>rw [admitAll_over _ s ho,admitAll_over _ s' (by rw [ho',ho])]; exact .inl h
  | false =>
   have ho1:s'.over=false:=by rw [ho',ho]
   rw [admitAll,if_pos (by rw [ho]; rfl)] at g
   rw [admitAll,admitAll,if_pos (by rw [ho]; rfl),if_pos (by rw [ho1]; rfl)]
   have st:=admits_steps ok iv rm ho (hid u (List.mem_cons_self ..))
   have iv1:=st.inv iv rm
   have x1:=(st.pre h.x).1
   have pr:=(admitAll_steps ok l _ iv1.1 iv1.2 (fun v hv=>hid v (List.mem_cons_of_mem _ hv))).pre x1
   rcases admits_sim h u (g.pre pr.2) with b|b
   ·exact admitAll_sim ok l _ _ iv1.1 iv1.2 (fun v hv=>hid v (List.mem_cons_of_mem _ hv)) b g
   ·rw [admitAll_over l _ b.over]
    exact .inr (b.pre pr.2)
def InOff (K:List Ev) (x y:Int×VS):Prop:=(y.1=x.1∧Syn K x.2 y.2)∨Off K x.2.made y.2
theorem run_sim (h:Syn K s s') (ho:s.over=false) {i:Nat} {t:Thr} (ht:s.threads[i]?=some t) (g:Good K (s.run p i).2.s.made):RO K (s.run p i) (s'.run p i):=by
 obtain ⟨q1,q2,q3,q4,q5,q6,q7,-⟩:=h.same
 have ht':s'.threads[i]?=some t:=by rw [q4]; exact ht
 rw [run_eq_ ht] at g ⊢
 rw [run_eq_ ht']
 split
 ·show RO K _ (0,((⟨s,t.wake,false⟩:Rn).vs s').pure_ _ _)
  rw [pure_vs (r:=⟨s,t.wake,false⟩) q1 q3 q7]
  exact .inl ⟨rfl,rfl,by show Syn K ((⟨s,t.wake,false⟩:Rn).pure_ _ _).s s'; rw [pure_s]; exact h⟩
 ·rename_i c
  rw [if_neg c] at g
  exact does_sim (r:=⟨s,t.wake,false⟩) h rfl ho _ _ g
theorem instr_sim (ok : Okp p) (h : Syn K s s') {i : Nat} {t : Thr} (ht : s.threads[i]?=some t) (iv : Inv p s) (rm : Room s) (ho : s.over=false) (sk : (s.futures.length : Int)+s.fuel+1≤1000*s.count) (g : Good K (s.instruction p i).2.made) :
  InOff K (s.instruction p i) (s'.instruction p i):=by
 have af:=run_after ok ht iv rm ho sk
 have px:=af.steps.pre h.x
 have pr:(s.run p i).2.s.made <+: (s.instruction p i).2.made:=by
  unfold VS.instruction
  split
  ·rename_i hf
   exact ((FStep.fails (p:=p) (b:=true) _ (-2) (af.fault hf)).pre px.1).2
  ·exact List.prefix_rfl
 have rs:=run_sim h ho ht (g.pre pr)
 unfold VS.instruction at g pr ⊢
 rcases rs with ⟨e1,b⟩|⟨hf,b⟩
 ·rw [b.fault,b.t,e1]
  split
  ·rename_i hf
   rw [if_pos hf] at g
   exact (fails_sim b.s g).imp (fun q=>⟨rfl,q⟩) id
  ·exact .inl ⟨rfl,b.s.map (fun z=>{ z with threads:=z.threads.set i (s.run p i).2.t }) (fun d l=>⟨d,rfl⟩) rfl rfl⟩
 ·refine .inr ?_
  rw [if_neg (c:=(s'.run p i).2.fault=true) (by rw [hf]; decide)]
  exact (b.pre pr).congr rfl rfl rfl
theorem stepsG_over (i n:Nat) {s:VS} (ho:s.over=true):VS.stepsG p i n s=(1,s):=by rw [stepsG_eq,if_pos ho]
theorem stepsG_sim (ok:Okp p) (i:Nat):∀(n:Nat) (s s':VS),s.fuel=n→Inv p s→Room s→i<s.threads.length→Syn K s s'→Good K (VS.stepsG p i n s).2.made→InOff K (VS.stepsG p i n s) (VS.stepsG p i n s')
 | 0,s,s',hf,iv,rm,hi,h,g=>by
  have ho':=h.same.2.2.2.2.2.2.2.1
  rw [stepsG_eq] at g ⊢
  rw [stepsG_eq,ho']
  split
  ·exact .inl ⟨rfl,h⟩
  ·rename_i ho
   rw [if_neg ho] at g
   exact (fails_sim h g).imp (fun q=>⟨rfl,q⟩) id
 | n+1,s,s',hf,iv,rm,hi,h,g=>by
  have ho':=h.same.2.2.2.2.2.2.2.1
  by_cases ho:s.over=true
  ·rw [stepsG_over i _ ho,stepsG_over i _ (by rw [ho',ho])]; exact .inl ⟨rfl,h⟩
  have ho1:s.over=false:=by simpa using ho
  rw [stepsG_eq,if_neg ho] at g ⊢
  rw [stepsG_eq,if_neg (by rw [ho']; exact ho)]
  simp only at g ⊢
  obtain ⟨st,iv1,rm1,sk⟩:=fuel_step iv rm hf
  obtain ⟨t,ht⟩:=get_some hi
  have ht1:(s.fuelAt n).threads[i]?=some t:=ht
  have is:=instr_steps ok ht1 iv1 rm1 ho1 sk
  have tl:=instr_threads ok ht1 iv1 rm1 ho1 sk
  have tl:s.threads.length≤((s.fuelAt n).instruction p i).2.threads.length:=tl
  have fl:=instr_fuel ok ht1 iv1 rm1 ho1 sk
  have fl:((s.fuelAt n).instruction p i).2.fuel=n:=fl
  have h1:Syn K (s.fuelAt n) (s'.fuelAt n):=h.map (fun z=>z.fuelAt n) (fun d l=>⟨d,rfl⟩) rfl rfl
  have iv2:=(st.one.trans is).inv iv rm
  have px:=is.pre h1.x
  change Good K (if (((s.fuelAt n).instruction p i).1 != 0)=true then (s.fuelAt n).instruction p i else VS.stepsG p i n ((s.fuelAt n).instruction p i).2).2.made at g
  show InOff K (if (((s.fuelAt n).instruction p i).1 != 0)=true then (s.fuelAt n).instruction p i else VS.stepsG p i n ((s.fuelAt n).instruction p i).2) (if (((s'.fuelAt n).instruction p i).1 != 0)=true then (s'.fuelAt n).instruction p i else VS.stepsG p i n ((s'.fuelAt n).instruction p i).2)
  have pr:((s.fuelAt n).instruction p i).2.made <+: (if (((s.fuelAt n).instruction p i).1 != 0)=true then (s.fuelAt n).instruction p i else VS.stepsG p i n ((s.fuelAt n).instruction p i).2).2.made:=by
   split
   ·exact List.prefix_rfl
   ·exact ((stepsG_steps ok i n _ fl iv2.1 iv2.2 (by omega)).1.pre px.1).2
  rcases instr_sim ok h1 ht1 iv1 rm1 ho1 sk (g.pre pr) with ⟨e1,b⟩|b
  ·rw [e1]
   split
   ·exact .inl ⟨e1,b⟩
   ·rename_i c
    rw [if_neg c] at g
    exact stepsG_sim ok i n _ _ fl iv2.1 iv2.2 (by omega) b g
  ·refine .inr ?_
   have b2:=b.pre pr
   by_cases c:(((s'.fuelAt n).instruction p i).1 != 0)=true
   ·rw [if_pos c]; exact b2
   ·rw [if_neg c,stepsG_over i n b.over]; exact b2
theorem steps_sim (ok:Okp p) {i:Nat} (iv:Inv p s) (rm:Room s) (hi:i<s.threads.length) (h:Syn K s s') (g:Good K (s.steps p i).2.made):InOff K (s.steps p i) (s'.steps p i):=by
 have e:s'.steps p i=VS.stepsG p i s.fuel.toNat s':=by unfold VS.steps; rw [h.same.2.2.2.2.2.2.2.2.2.2.2]
 rw [e]
 exact stepsG_sim ok i _ s s' (by have:=iv.fuel; omega) iv rm hi h g
theorem pass_over:∀(g:Nat) (s:VS) (i:Nat) (went:Bool),s.over=true→passG p g s i went=s
 | 0,_,_,_,_=>rfl
 | g+1,s,i,went,ho=>by
  cases ht:s.threads[i]? with
  | none =>
   rw [pass_none ht]
   split
   ·rfl
   ·exact pass_over g s 0 false ho
  | some t=>rw [pass_some ht,if_pos ho]
theorem pass_sim (ok:Okp p):∀(n:Nat) (s s':VS) (i:Nat) (went:Bool),Inv p s→Room s→Syn K s s'→Good K (passG p n s i went).made→VSim K (passG p n s i went) (passG p n s' i went)
 | 0,s,s',i,went,_,_,h,_=>.inl h
 | n+1,s,s',i,went,iv,rm,h,g=>by
  obtain ⟨q1,q2,q3,q4,q5,q6,q7,q8,-⟩:=h.same
  cases ht:s.threads[i]? with
  | none =>
   have ht':s'.threads[i]?=none:=by rw [q4]; exact ht
   rw [pass_none ht] at g ⊢
   rw [pass_none ht']
   split
   ·exact .inl h
   ·rename_i c
    rw [if_neg c] at g
    exact pass_sim ok n s s' 0 false iv rm h g
  | some t =>
   have ht':s'.threads[i]?=some t:=by rw [q4]; exact ht
   have hil:=get_lt ht
   rw [pass_some ht] at g ⊢
   rw [pass_some ht',q8]
   have hrd:s'.ready t=s.ready t:=by unfold VS.ready; rw [q5,q7]
   rw [hrd]
   split
   ·exact .inl h
   ·rename_i ho
    rw [if_neg ho] at g
    split
    ·rename_i c
     rw [if_pos c] at g
     exact pass_sim ok n s s' (i+1) went iv rm h g
    ·rename_i c
     rw [if_neg c] at g
     have ss:=steps_steps ok iv rm hil
     have iv1:=ss.1.inv iv rm
     have px:=ss.1.pre h.x
     have he:=(FStep.erase (p:=p) (b:=true) (s.steps p i).2 i rfl).inv iv1.1 iv1.2
     have pr:(s.steps p i).2.made <+: (if ((s.steps p i).1==2&&!(s.steps p i).2.over)=true then passG p n { (s.steps p i).2 with threads:=(s.steps p i).2.threads.eraseIdx i } i true else passG p n (s.steps p i).2 (i+1) true).made:=by
      split
      ·exact ((pass_steps ok n { (s.steps p i).2 with threads:=(s.steps p i).2.threads.eraseIdx i } i true he.1 he.2).pre px.1).2
      ·exact ((pass_steps ok n (s.steps p i).2 (i+1) true iv1.1 iv1.2).pre px.1).2
     rcases steps_sim ok iv rm hil h (g.pre pr) with ⟨e1,b⟩|b
     ·rw [e1,b.same.2.2.2.2.2.2.2.1]
      split
      ·rename_i c2
       rw [if_pos c2] at g
       exact pass_sim ok n _ _ i true he.1 he.2 (b.map (fun z=>{ z with threads:=z.threads.eraseIdx i }) (fun d l=>⟨d,rfl⟩) rfl rfl) g
      ·rename_i c2
       rw [if_neg c2] at g
       exact pass_sim ok n _ _ (i+1) true iv1.1 iv1.2 b g
     ·refine .inr ?_
      rw [if_neg (c:=((s'.steps p i).1==2&&!(s'.steps p i).2.over)=true) (by rw [b.over]; simp),pass_over n _ _ _ b.over]
      exact b.pre pr
theorem task_sim (ok : Okp p) {s : VS} (iv : Inv p s) (tk : Tasks s) (hx : s.expect=none) (now d : Int) {m0 : List Ev} {l : List Ev} (hk : K=⟨s.count+1, now, 2, s.count, 0, 0, 0, 0, 0⟩::l) (g : Good K (s.task p now).made) :
  VSim K (s.task p now) (({ s with expect:=some l,draws:=d,made:=m0 }:VS).task p now):=by
 have h0:=begin_inv iv tk now
 have hb:Syn K (s.begin_ now) (({ s with expect:=some l,draws:=d,made:=m0 }:VS).begin_ now):=⟨hx,d,l,rfl,by rw [hk]; rfl⟩
 have ho':(s.begin_ now).over=false:=tk.ho
 have s1:=opened_steps (p:=p) tk.ho now
 have h1:=s1.inv h0.1 h0.2
 have x1:=s1.pre (show (s.begin_ now).expect=none from hx)
 have s2:=admitAll_steps ok s.updates _ h1.1 h1.2 iv.updI
 have h2:=s2.inv h1.1 h1.2
 have x2:=s2.pre x1.1
 have s3:=pass_steps ok passGas _ 0 false h2.1 h2.2
 have x3:=s3.pre x2.1
 rw [task_eq] at g ⊢
 rw [task_eq]
 have e1:VSim K (s.opened now) (({ s with expect:=some l,draws:=d,made:=m0 }:VS).opened now):=by
  unfold VS.opened
  show VSim K _ (if s.cancel=true then _ else _)
  have g1:=(g.pre x3.2).pre x2.2
  unfold VS.opened at g1
  split
  ·rename_i c
   rw [if_pos c] at g1
   exact cancels_sim hb ho' 0 g1
  ·exact .inl hb
 rcases e1 with b|b
 ·rcases admitAll_sim ok s.updates _ _ h1.1 h1.2 iv.updI b (g.pre x3.2) with b2|b2
  ·exact pass_sim ok passGas _ _ 0 false h2.1 h2.2 b2 g
  ·refine .inr ?_
   show Off K _ (passG p passGas (admitAll p s.updates _) 0 false)
   rw [pass_over _ _ _ _ b2.over]
   exact b2.pre x3.2
 ·refine .inr ?_
  show Off K _ (passG p passGas (admitAll p s.updates _) 0 false)
  rw [admitAll_over _ _ b.over,pass_over _ _ _ _ b.over]
  exact (b.pre x2.2).pre x3.2
end Go.Proofs.YtkofafcgcnciaaaGreatDoor
