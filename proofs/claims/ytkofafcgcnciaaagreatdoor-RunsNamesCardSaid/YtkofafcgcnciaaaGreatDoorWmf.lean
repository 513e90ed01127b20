/- The statement that provedRunsNames proves, and the last lemmas that it needs. Conditions: none but the row's own. -/
import Derived.Test.YtkofafcgcnciaaaGreatDoorWme
import Derived.Test.YtkofafcgcnciaaaGreatDoorRows
set_option maxRecDepth 100000
namespace Go.Proofs.YtkofafcgcnciaaaGreatDoor
open Go.Ax
theorem five {P:Nat → Prop} (h0:P 0) (h1:P 1) (h2:P 2) (h3:P 3) (h4:P 4):∀ c,c < 5 → P c:=fun c hc=>by
  rcases (show c = 0 ∨ c = 1 ∨ c = 2 ∨ c = 3 ∨ c = 4 by omega) with rfl | rfl | rfl | rfl | rfl
  · exact h0
  · exact h1
  · exact h2
  · exact h3
  · exact h4
structure RS.Small (R:RS):Prop where
  e:R.events.length ≤ 1000000
  a:R.acts.length ≤ R.events.length
  t:R.timers.length ≤ R.events.length
  k:R.kids.length ≤ R.events.length
  u:R.updates.length ≤ R.events.length
structure RunE (G H:Heap) (b:Nat) (R:RS):Prop where
  out:∃ sl,RunX G H b sl R
theorem RunX.e {G H:Heap} {b:Nat} {sl:Nat → SlH} {R:RS} (h:RunX G H b sl R):RunE G H b R:=⟨sl,h⟩
section
variable {G H:Heap} {b:Nat} {sl:Nat → SlH} {R:RS}
theorem RunX.push (h : RunX G H b sl R) {c : Nat} (hc : c < 5) {T : TypeId} {bytes : Nat} {new : List Value} (hk : new.length = szR c) (h1 : allOne new = true) (hb : ((sl c).n + 1) * bytes ≤ 140737488355328) (hl : (sl c).n + 1 ≤ 9223372036854775807) (R' : RS)
    (e:∀ hn:SlH,(rCells sl R).set (15 + c) hn.v = rCells (setH sl c hn) R') (e0:contR R' c = contR R c ++ new) (ec:∀ c',c' < 5 → c' ≠ c → contR R' c' = contR R c') (ea:R'.attrs.length = 4) {Q:Heap → Prop} (q:∀ H',RunE G H' b R' → Q H') :
    appC T (szR c) bytes H (sl c).A (sl c).n (sl c).c new 1 fun A' n' c' H'=>Sub G H' ∧ ∃ a,some (⟨b,0,none⟩:Addr) = some a ∧ Wr H' (a.add (15 + c)) (.slice A' n' c') fun H''=>Sub G H'' ∧ Q H'' :=
  h.app hc (by rw [hk,Nat.one_mul]) h1 hb hl fun _ _ _ h' r=>⟨h'.gh,_,rfl,h'.wrSl hc r (by omega) R' (e _) e0 ec ea fun _ h''=>⟨h''.gh,q _ h''.e⟩⟩
theorem RunX.give (h : RunX G H b sl R) {H' : Heap} {c : Nat} (hc : c < 5) {q : SlH} {cs : List Value} (hd : Hand H H' q (szR c) cs) (R' : RS) (e : (rCells sl R).set (15 + c) q.v = rCells (setH sl c q) R') (e0 : contR R' c = cs) (ec : ∀ c', c' < 5 → c' ≠ c → contR R' c' = contR R c') (ea : R'.attrs.length = 4) {Q : Heap → Prop}
    (k:∀ H',RunE G H' b R' → Q H'):Sub G H' ∧ ∃ a,some (⟨b,0,none⟩:Addr) = some a ∧ Wr H' (a.add (15 + c)) q.v fun H''=>Sub G H'' ∧ Q H'' :=
  have h':=h.grow hd.g
  ⟨h'.gh,_,rfl,h'.wrSl hc ⟨hd.sl,fun _ hi=>h.new_free (hd.free _ hi)⟩ (by omega) R' e e0 ec ea fun _ h''=>⟨h''.gh,k _ h''.e⟩⟩
theorem RunX.drop (h : RunX G H b sl R) {c : Nat} (hc : c < 5) (R' : RS) (e : (rCells sl R).set (15 + c) (.slice none 0 0) = rCells (setH sl c ⟨none, 0, 0⟩) R') (e0 : contR R' c = []) (ec : ∀ c', c' < 5 → c' ≠ c → contR R' c' = contR R c') (ea : R'.attrs.length = 4) {Q : Heap → Prop}
    (k:∀ sl' H',RunX G H' b sl' R' → Q H'):Wr H ((⟨b,0,none⟩:Addr).add (15 + c)) (.slice none 0 0) Q :=
  h.wrSl (hn:=⟨none,0,0⟩) hc ⟨(Hand.nil (Sub.refl H) (szR c)).sl,fun i hi=>by cases hi⟩ (by omega) R' e e0 ec ea fun _ h''=>k _ _ h''
theorem t91 (event opts input now:Int) (H:Heap):Tr Tryz.prog 91 #[.int .i64 event,.int .i64 opts,.int .i64 input,.int .i64 now] H fun v H'=>v = .agg ⟨(AcM.new event opts input now).cells⟩ ∧ Sub H H':=v91 (show _ from ⟨rfl,Sub.refl _⟩)
theorem t52 (e:Ev) (H:Heap):Tr Tryz.prog 52 #[e.val] H fun v H'=>v = .bool (outR e) ∧ Sub H H':=v52 (show _ from ⟨rfl,Sub.refl _⟩)
theorem t100 (k:Int) (H:Heap):Tr Tryz.prog 100 #[.int .i64 k] H fun v H'=>v = .int .i64 (statusM k) ∧ Sub H H':=by
  apply v100; unfold F100
  refine ⟨fun q=>⟨?_,Sub.refl _⟩,fun n1=>⟨fun q=>⟨?_,Sub.refl _⟩,fun n2=>⟨fun q=>⟨?_,Sub.refl _⟩,fun n3=>⟨fun q=>⟨?_,Sub.refl _⟩,fun n4=>⟨fun q=>⟨?_,Sub.refl _⟩,fun n5=>⟨?_,Sub.refl _⟩⟩⟩⟩⟩⟩
  all_goals unfold statusM
  · rw [if_pos (by simpa using q)]
  · rw [if_neg (by simpa using n1),if_pos (by simpa using q)]
  · rw [if_neg (by simpa using n1),if_neg (by simpa using n2),if_pos (by simpa using q)]
  · rw [if_neg (by simpa using n1),if_neg (by simpa using n2),if_neg (by simpa using n3),if_pos (by simpa using q)]
  · rw [if_neg (by simpa using n1),if_neg (by simpa using n2),if_neg (by simpa using n3),if_neg (by simpa using n4),if_pos (by simpa using q)]
  · rw [if_neg (by simpa using n1),if_neg (by simpa using n2),if_neg (by simpa using n3),if_neg (by simpa using n4),if_neg (by simpa using n5)]
structure TellR (G:Heap) (b:Nat) (R:RS) (l:List OutM) (v:Value) (H':Heap):Prop where
  out:∃ A n c,v = .slice A n c ∧ RunE G H' b R ∧ n = l.length ∧ Src H' A (l.flatMap OutM.cells)
theorem t90 (h:RunX G H b sl R) {rb:Nat} (hr:At G ⟨rb,0,none⟩ [.pointer (some ⟨b,0,none⟩)]) (kind event a b1 c:Int):Tr Tryz.prog 90 #[.int .i64 kind,.int .i64 event,.int .i64 a,.int .i64 b1,.int .i64 c,.pointer (some ⟨rb,0,none⟩)] H fun v H'=>TellR G b R [⟨0,kind,R.number,event,a,b1,c⟩] v H':=by
  apply v90; unfold F90
  refine ⟨_,hr.sub h.gh,_,rfl,R.number,h.cell (k:=0) rfl,fun i hi H1 e1=>?_⟩
  subst e1
  refine ⟨_,_,_,rfl,(h.grow (Sub.upd_new hi)).e,rfl,.inr ⟨_,rfl,⟨⟨_,_,_,Heap.upd_same,rfl,fun j v hv=>?_⟩⟩⟩⟩
  have e0:([⟨0,kind,R.number,event,a,b1,c⟩]:List OutM).flatMap OutM.cells = OutM.cells ⟨0,kind,R.number,event,a,b1,c⟩:=by simp
  rw [e0] at hv
  simpa [OutM.cells] using hv
structure BookR (G:Heap) (b:Nat) (R:RS) (e:Ev) (v:Value) (H':Heap):Prop where
  out:∃ A n c,v = .slice A n c ∧ RunE G H' b (R.book e) ∧ n = (R.tells e).length ∧ Src H' A ((R.tells e).flatMap OutM.cells)
theorem RS.see_eq (R:RS) (e:Ev):∃ s,R.see e = { R with seen:=s }:=by
  unfold RS.see; split
  · exact ⟨_,rfl⟩
  · exact ⟨R.seen,rfl⟩
theorem pred_ac {e:Ev} {eb:Nat} (he:At G ⟨eb,0,none⟩ e.cells):Pred Tryz.prog G (.func (.func 93) #[] #[.pointer (some ⟨eb,0,none⟩)]) AcM.cells fun x=>x.event == e.a:=by
  refine ⟨fun x H s=>⟨93,_,⟨⟨_,_,rfl,rfl⟩,rfl⟩,?_⟩⟩
  apply v93; unfold F93
  exact ⟨e.a,at_one 3 (he.sub s) rfl,rfl,Sub.refl _⟩
theorem pred_tm {e:Ev} {eb:Nat} (he:At G ⟨eb,0,none⟩ e.cells):Pred Tryz.prog G (.func (.func 95) #[] #[.pointer (some ⟨eb,0,none⟩)]) TmM.cells fun x=>x.event == e.a:=by
  refine ⟨fun x H s=>⟨95,_,⟨⟨_,_,rfl,rfl⟩,rfl⟩,?_⟩⟩
  apply v95; unfold F95
  exact ⟨e.a,at_one 3 (he.sub s) rfl,rfl,Sub.refl _⟩
end
end Go.Proofs.YtkofafcgcnciaaaGreatDoor
set_option maxRecDepth 100000
namespace Go.Proofs.YtkofafcgcnciaaaGreatDoor
open Go.Ax
structure MidB (G H:Heap) (b:Nat) (R:RS) (e:Ev):Prop where
  n5:e.kind ≠ 5
  n8:e.kind ≠ 8
  n9:e.kind ≠ 9
  out:RunE G H b R
theorem RS.sw_all {Q : RS → Prop} (R : RS) (e : Ev) (h1 : Q { R with type := e.a, deadline := e.c, parent := e.d, event := e.e, begun := e.time, status := 1 }) (h3 : Q { R with acts := R.acts ++ [AcM.new e.id e.a e.b e.time] }) (h4 : Q { R with timers := R.timers ++ [⟨e.id, e.a⟩] }) (h5 : Q { R with kids := R.kids ++ [⟨e.id, e.a, e.b, 0, false⟩] })
    (h6:Q { R with acts:=R.acts.filter fun a=>!(a.event == e.a) }) (h7:Q { R with timers:=R.timers.filter fun a=>!(a.event == e.a) }) (h10:Q { R with attrs:=R.attrs.set e.a.toNat e.b }) (h21:Q { R with updates:=R.updates ++ [⟨e.id,0,0,0⟩] }) (h12:∀ st v k,Q { R with updates:=R.updates.map (upd1 e.a st v k) })
    (h26:Q { R with kids:=R.kids.map (kidR e.a e.b) }) (h27:Q { R with kids:=R.kids.map (kidO e.a) }) (h0:Q R):Q (R.sw e):=by
  have c:∀ {P:Prop} [Decidable P] {x y:RS},Q x → Q y → Q (if P then x else y):=fun h1 h2=>by split; exact h1; exact h2
  unfold RS.sw
  exact c h1 (c h3 (c h4 (c h5 (c h6 (c h7 (c h10 (c h21 (c (h12 _ _ _) (c (h12 _ _ _) (c (h12 _ _ _) (c h26 (c h27 h0))))))))))))
theorem RS.sw_rest (R:RS) (e:Ev) (h:e.kind ≠ 1):(R.sw e).number = R.number ∧ (R.sw e).parent = R.parent:=by
  have:e.kind = 1 ∨ ((R.sw e).number = R.number ∧ (R.sw e).parent = R.parent):=by
    by_cases h1:e.kind = 1
    · exact .inl h1
    · right
      have e1:R.sw e = if e.kind = 1 then R else R.sw e:=by rw [if_neg h1]
      rw [e1]
      unfold RS.sw
      rw [if_neg h1,if_neg h1]
      have c:∀ {P:Prop} [Decidable P] {x y:RS},(x.number = R.number ∧ x.parent = R.parent) → (y.number = R.number ∧ y.parent = R.parent) → ((if P then x else y).number = R.number ∧ (if P then x else y).parent = R.parent):=fun h1 h2=>by split; exact h1; exact h2
      exact c ⟨rfl,rfl⟩ (c ⟨rfl,rfl⟩ (c ⟨rfl,rfl⟩ (c ⟨rfl,rfl⟩ (c ⟨rfl,rfl⟩ (c ⟨rfl,rfl⟩ (c ⟨rfl,rfl⟩ (c ⟨rfl,rfl⟩ (c ⟨rfl,rfl⟩ (c ⟨rfl,rfl⟩ (c ⟨rfl,rfl⟩ (c ⟨rfl,rfl⟩ ⟨rfl,rfl⟩)))))))))))
  exact this.resolve_left h
theorem t43 {G H:Heap} {b:Nat} {sl:Nat → SlH} {R:RS} (h:RunX G H b sl R) (sm:R.Small) (e:Ev) (h10:e.kind = 10 → 0 ≤ e.a ∧ e.a < 4):Tr Tryz.prog 43 #[.pointer (some ⟨b,0,none⟩),e.val] H fun v H'=>BookR G b R e v H':=by
  obtain ⟨sE,sA,sT,sK,sU⟩:=sm
  apply v43; unfold F43
  intro rb hrb H1 e1 eb heb H2 e2
  have hG1:G rb = none:=none_below h.gh hrb
  have x1:=h.ext hrb (.cells #[.pointer (some ⟨b,0,none⟩)] 65 (0,0))
  rw [← e1] at x1
  have hG2:(G.upd rb (.cells #[.pointer (some ⟨b,0,none⟩)] 65 (0,0))) eb = none:=none_below x1.gh heb
  have x2:=x1.ext heb (.cells ⟨e.cells⟩ 47 (0,0))
  have gg:Sub G ((G.upd rb (.cells #[.pointer (some ⟨b,0,none⟩)] 65 (0,0))).upd eb (.cells ⟨e.cells⟩ 47 (0,0))):=(Sub.upd_new hG1).trans (Sub.upd_new hG2)
  have hr:At ((G.upd rb (.cells #[.pointer (some ⟨b,0,none⟩)] 65 (0,0))).upd eb (.cells ⟨e.cells⟩ 47 (0,0))) ⟨rb,0,none⟩ [.pointer (some ⟨b,0,none⟩)]:=(⟨⟨_,_,_,Heap.upd_same,rfl,fun j v hv=>by simpa using hv⟩⟩:At (G.upd rb (.cells #[.pointer (some ⟨b,0,none⟩)] 65 (0,0))) ⟨rb,0,none⟩ [.pointer (some ⟨b,0,none⟩)]).sub (Sub.upd_new hG2)
  have he:At ((G.upd rb (.cells #[.pointer (some ⟨b,0,none⟩)] 65 (0,0))).upd eb (.cells ⟨e.cells⟩ 47 (0,0))) ⟨eb,0,none⟩ e.cells:=⟨⟨_,_,_,Heap.upd_same,rfl,fun j v hv=>by simpa using hv⟩⟩
  have e2:H2 = H1.upd eb (.cells ⟨e.cells⟩ 47 (0,0)):=e2
  rw [← e2] at x2
  generalize ((G.upd rb (.cells #[.pointer (some ⟨b,0,none⟩)] 65 (0,0))).upd eb (.cells ⟨e.cells⟩ 47 (0,0))) = G1 at x2 gg hr he
  clear e1 e2 x1 hG1 hG2 hrb heb
  have ee:∀ {H':Heap},Sub G1 H' → ∀ {k:Nat} {v:Value},e.cells[k]? = some v → At H' ((⟨eb,0,none⟩:Addr).add k) [v]:=fun s k v hv=>at_one k (he.sub s) hv
  have l0:=x2.len0
  refine ⟨fun H'=>RunE G1 H' b (R.add e),?_,fun H3 ⟨sl3,x3⟩=>⟨fun H'=>RunE G1 H' b ((R.add e).see e),?_,fun H4 ⟨sl4,x4⟩=>⟨fun H'=>MidB G1 H' b (((R.add e).see e).sw e) e,?_,fun H5 m5=>?_⟩⟩⟩
  · have core:=x2.push (c:=0) (by decide) (T:=47) (bytes:=72) (new:=e.cells) rfl rfl (by omega) (by omega) (R.add e) (fun _=>rfl) (by show (R.events ++ [e]).flatMap Ev.cells = _; rw [List.flatMap_append,List.flatMap_singleton]; rfl) (five (P:=fun c'=>c' ≠ 0 → contR (R.add e) c' = contR R c') (fun q=>absurd rfl q) (fun _=>rfl) (fun _=>rfl) (fun _=>rfl) (fun _=>rfl)) h.attrs (Q:=fun H'=>RunE G1 H' b (R.add e)) fun H' h'=>h'
    exact ⟨G1,x2.gh,_,hr,_,hr,_,rfl,_,_,_,_,_,_,_,_,_,he,⟨_,_,_,x2.cell (k:=15) rfl,x2.gh,x2.gh,core⟩,x2.gh,_,_,_,x2.cell (k:=15) rfl,x2.gh,core⟩
  · refine ⟨e.kind,ee x3.gh (k:=2) rfl,e.kind,fun _=>ee x3.gh (k:=2) rfl,_,fun _=>t89 e.kind H3,_,_,_,_,_,_,_,_,_,fun _=>he.sub x3.gh,_,fun _=>t52 e H3,fun q=>?_,fun q=>?_⟩
    · refine ⟨_,hr.sub x3.gh,e.id,ee x3.gh (k:=0) rfl,_,rfl,?_⟩
      have hs:(R.add e).see e = { R.add e with seen:=e.id }:=by unfold RS.see; rw [if_pos q]
      rw [hs]
      exact x3.wr (k:=9) (by decide) { R.add e with seen:=e.id } rfl (fun _=>rfl) x3.attrs fun H' h'=>h'.e
    · have hs:(R.add e).see e = R.add e:=by unfold RS.see; rw [if_neg (by rw [q]; decide)]
      rw [hs]; exact x3.e
  · obtain ⟨s,hs⟩:=RS.see_eq (R.add e) e
    have ra:((R.add e).see e).acts = R.acts:=by rw [hs]; rfl
    have rt:((R.add e).see e).timers = R.timers:=by rw [hs]; rfl
    have rk:((R.add e).see e).kids = R.kids:=by rw [hs]; rfl
    have ru:((R.add e).see e).updates = R.updates:=by rw [hs]; rfl
    have rn:((R.add e).see e).number = R.number:=by rw [hs]; rfl
    have rp:((R.add e).see e).parent = R.parent:=by rw [hs]; rfl
    have bk:R.book e = (((R.add e).see e).sw e).close e:=rfl
    generalize (R.add e).see e = S at x4 ra rt rk ru rn rp bk ⊢
    have l1:=x4.len1
    have l2:=x4.len2
    have l3:=x4.len3
    have l4:=x4.len4
    rw [ra] at l1
    rw [rt] at l2
    rw [rk] at l3
    rw [ru] at l4
    have r2:=hr.sub x4.gh
    -- what is told,and nothing closes
    have told:∀ {H':Heap} {l:List OutM} {v:Value},TellR G1 b (S.sw e) l v H' → (S.sw e).close e = S.sw e → R.tells e = l → BookR G b R e v H':=fun {H' l v} ⟨A,n,c,hv,⟨sl',x'⟩,hn,hsrc⟩ hc ht=>⟨A,n,c,hv,by rw [bk,hc]; exact (x'.weaken gg).e,by rw [ht]; exact hn,by rw [ht]; exact hsrc⟩
    refine ⟨e.kind,ee x4.gh (k:=2) rfl,fun q=>?_,fun n1=>⟨fun q=>?_,fun n3=>⟨fun q=>?_,fun n4=>⟨fun q=>?_,fun n5=>?_⟩⟩⟩⟩
    · -- begun
      have hk:e.kind = 1:=by simpa using q
      have hw:S.sw e = { S with type:=e.a,deadline:=e.c,parent:=e.d,event:=e.e,begun:=e.time,status:=1 }:=by unfold RS.sw; rw [if_pos hk]
      rw [hw]
      refine ⟨G1,x4.gh,_,hr,_,hr,_,hr,_,hr,e.a,ee (Sub.refl _) (k:=3) rfl,_,rfl,e.c,ee (Sub.refl _) (k:=5) rfl,e.d,ee (Sub.refl _) (k:=6) rfl,e.e,ee (Sub.refl _) (k:=7) rfl,?_⟩
      refine x4.wr (k:=1) (by decide) { S with type:=e.a } rfl (fun _=>rfl) x4.attrs fun H6 y6=>⟨y6.gh,_,rfl,?_⟩
      refine y6.wr (k:=6) (by decide) { S with type:=e.a,deadline:=e.c } rfl (fun _=>rfl) x4.attrs fun H7 y7=>⟨y7.gh,_,rfl,?_⟩
      refine y7.wr (k:=7) (by decide) { S with type:=e.a,deadline:=e.c,parent:=e.d } rfl (fun _=>rfl) x4.attrs fun H8 y8=>⟨y8.gh,_,rfl,?_⟩
      refine y8.wr (k:=8) (by decide) { S with type:=e.a,deadline:=e.c,parent:=e.d,event:=e.e } rfl (fun _=>rfl) x4.attrs fun H9 y9=>⟨y9.gh,?_⟩
      refine ⟨G1,y9.gh,_,hr,_,hr,e.time,ee (Sub.refl _) (k:=1) rfl,_,rfl,?_⟩
      refine y9.wr (k:=4) (by decide) { S with type:=e.a,deadline:=e.c,parent:=e.d,event:=e.e,begun:=e.time } rfl (fun _=>rfl) x4.attrs fun H10 y10=>⟨y10.gh,_,rfl,?_⟩
      exact y10.wr (k:=2) (by decide) { S with type:=e.a,deadline:=e.c,parent:=e.d,event:=e.e,begun:=e.time,status:=1 } rfl (fun _=>rfl) x4.attrs fun H11 y11=>⟨y11.gh,by omega,by omega,by omega,y11.e⟩
    · -- an activity
      have hk:e.kind = 3:=by simpa using q
      have hw:S.sw e = { S with acts:=S.acts ++ [AcM.new e.id e.a e.b e.time] }:=by unfold RS.sw; rw [hk]; rfl
      rw [hw]
      have core:=x4.push (c:=1) (by decide) (T:=53) (bytes:=80) (new:=(AcM.new e.id e.a e.b e.time).cells) rfl rfl (by omega) (by omega) { S with acts:=S.acts ++ [AcM.new e.id e.a e.b e.time] } (fun _=>rfl) (by show (S.acts ++ [_]).flatMap AcM.cells = _; rw [List.flatMap_append,List.flatMap_singleton]; rfl) (five (P:=fun c'=>c' ≠ 1 → contR { S with acts:=S.acts ++ [AcM.new e.id e.a e.b e.time] } c' = contR S c') (fun _=>rfl) (fun q=>absurd rfl q) (fun _=>rfl) (fun _=>rfl) (fun _=>rfl)) x4.attrs
        (Q:=fun H'=>MidB G1 H' b { S with acts:=S.acts ++ [AcM.new e.id e.a e.b e.time] } e) fun H' h'=>⟨by omega,by omega,by omega,h'⟩
      have nw:=t91 e.id e.a e.b e.time H4
      exact ⟨G1,x4.gh,_,hr,_,hr,_,rfl,e.id,ee (Sub.refl _) (k:=0) rfl,e.a,ee (Sub.refl _) (k:=3) rfl,e.b,ee (Sub.refl _) (k:=4) rfl,e.time,ee (Sub.refl _) (k:=1) rfl,⟨_,_,_,x4.cell (k:=16) rfl,x4.gh,_,_,_,_,_,_,_,_,_,_,nw,x4.gh,x4.gh,core⟩,_,_,_,_,_,_,_,_,_,_,nw,x4.gh,⟨_,_,_,x4.cell (k:=16) rfl,x4.gh,x4.gh,core⟩,x4.gh,_,_,_,x4.cell (k:=16) rfl,x4.gh,core⟩
    · -- a timer
      have hk:e.kind = 4:=by simpa using q
      have hw:S.sw e = { S with timers:=S.timers ++ [⟨e.id,e.a⟩] }:=by unfold RS.sw; rw [hk]; rfl
      rw [hw]
      have core:=x4.push (c:=2) (by decide) (T:=83) (bytes:=16) (new:=(TmM.mk e.id e.a).cells) rfl rfl (by omega) (by omega) { S with timers:=S.timers ++ [⟨e.id,e.a⟩] } (fun _=>rfl) (by show (S.timers ++ [_]).flatMap TmM.cells = _; rw [List.flatMap_append,List.flatMap_singleton]; rfl) (five (P:=fun c'=>c' ≠ 2 → contR { S with timers:=S.timers ++ [⟨e.id,e.a⟩] } c' = contR S c') (fun _=>rfl) (fun _=>rfl) (fun q=>absurd rfl q) (fun _=>rfl) (fun _=>rfl)) x4.attrs
        (Q:=fun H'=>MidB G1 H' b { S with timers:=S.timers ++ [⟨e.id,e.a⟩] } e) fun H' h'=>⟨by omega,by omega,by omega,h'⟩
      exact ⟨G1,x4.gh,_,hr,_,hr,_,rfl,e.id,ee (Sub.refl _) (k:=0) rfl,e.a,ee (Sub.refl _) (k:=3) rfl,⟨_,_,_,x4.cell (k:=17) rfl,x4.gh,x4.gh,core⟩,x4.gh,_,_,_,x4.cell (k:=17) rfl,x4.gh,core⟩
    · -- a child
      have hk:e.kind = 5:=by simpa using q
      have hw:S.sw e = { S with kids:=S.kids ++ [⟨e.id,e.a,e.b,0,false⟩] }:=by unfold RS.sw; rw [hk]; rfl
      have hcl:(S.sw e).close e = S.sw e:=by unfold RS.close; rw [hk]; rfl
      have htl:R.tells e = [⟨0,1,R.number,e.id,0,0,0⟩]:=by unfold RS.tells; rw [hk]; rfl
      have core:=x4.push (c:=3) (by decide) (T:=98) (bytes:=40) (new:=(KdM.mk e.id e.a e.b 0 false).cells) rfl rfl (by omega) (by omega) (S.sw e) (fun _=>by rw [hw]; rfl) (by rw [hw]; show (S.kids ++ [_]).flatMap KdM.cells = _; rw [List.flatMap_append,List.flatMap_singleton]; rfl) (by rw [hw]; exact five (P:=fun c'=>c' ≠ 3 → contR { S with kids:=S.kids ++ [⟨e.id,e.a,e.b,0,false⟩] } c' = contR S c') (fun _=>rfl) (fun _=>rfl) (fun _=>rfl) (fun q=>absurd rfl q) (fun _=>rfl)) (by rw [hw]; exact x4.attrs)
        (Q:=fun H'=>∃ x:Int,At H' ((⟨eb,0,none⟩:Addr).add 0) [.int .i64 x] ∧ Tr Tryz.prog 90 #[.int .i64 1,.int .i64 x,.int .i64 0,.int .i64 0,.int .i64 0,.pointer (some ⟨rb,0,none⟩)] H' fun v H''=>∃ A n c,v = .slice A n c ∧ BookR G b R e (.slice A n c) H'') fun H' ⟨sl',h'⟩=>by
          refine ⟨e.id,ee h'.gh (k:=0) rfl,(t90 h' hr 1 e.id 0 0 0).mono fun v H'' t=>?_⟩
          have hnum:(S.sw e).number = R.number:=by rw [hw]; exact rn
          rw [hnum] at t
          obtain ⟨A,n,c,hv,-⟩:=t.out
          exact ⟨A,n,c,hv,by rw [← hv]; exact told t hcl htl⟩
      exact ⟨G1,x4.gh,_,hr,_,hr,_,rfl,e.id,ee (Sub.refl _) (k:=0) rfl,e.a,ee (Sub.refl _) (k:=3) rfl,e.b,ee (Sub.refl _) (k:=4) rfl,⟨_,_,_,x4.cell (k:=18) rfl,x4.gh,x4.gh,core⟩,x4.gh,_,_,_,x4.cell (k:=18) rfl,x4.gh,core⟩
    · have n5:e.kind ≠ 5:=by simpa using n5
      have acs : (e.kind = 6 ∨ e.kind = 22 ∨ e.kind = 23 ∨ e.kind = 24) → ∃ Hs : Heap, Sub Hs H4 ∧ ∃ v, At Hs (⟨rb, 0, none⟩ : Addr) [.pointer v] ∧ ∃ v1, At Hs (⟨rb, 0, none⟩ : Addr) [.pointer v1] ∧ ∃ a, v1 = some a ∧ ∃ A n c, At H4 (a.add 16) [.slice A n c] ∧ Sub Hs H4 ∧
          Tr Tryz.prog 92 #[.slice A n c,.func (.func 93) #[] #[.pointer (some ⟨eb,0,none⟩)]] H4 fun v2 H'=>∃ A n c,v2 = .slice A n c ∧ Sub Hs H' ∧ ∃ a,v = some a ∧ Wr H' (a.add 16) (.slice A n c) fun H''=>Sub Hs H'' ∧ MidB G1 H'' b (S.sw e) e:=fun hk=>by
        have hw:S.sw e = { S with acts:=S.acts.filter fun a=>!(a.event == e.a) }:=by unfold RS.sw; rcases hk with hk | hk | hk | hk <;> rw [hk] <;> rfl
        rw [hw]
        refine ⟨G1,x4.gh,_,hr,_,hr,_,rfl,_,_,_,x4.cell (k:=16) rfl,x4.gh,(t92 (q:=sl4 1) (l:=S.acts) (x4.ok 1 (by decide)) ((pred_ac he).grow x4.gh) (by rw [ra]; omega)).mono fun v2 H' ⟨q,hv,hd⟩=>⟨_,_,_,hv,?_⟩⟩
        exact x4.give (c:=1) (by decide) hd { S with acts:=S.acts.filter fun a=>!(a.event == e.a) } rfl rfl (five (P:=fun c'=>c' ≠ 1 → contR { S with acts:=S.acts.filter fun a=>!(a.event == e.a) } c' = contR S c') (fun _=>rfl) (fun q=>absurd rfl q) (fun _=>rfl) (fun _=>rfl) (fun _=>rfl)) x4.attrs fun H'' h'=>⟨by omega,by omega,by omega,h'⟩
      have tms : (e.kind = 7 ∨ e.kind = 25) → ∃ Hs : Heap, Sub Hs H4 ∧ ∃ v, At Hs (⟨rb, 0, none⟩ : Addr) [.pointer v] ∧ ∃ v1, At Hs (⟨rb, 0, none⟩ : Addr) [.pointer v1] ∧ ∃ a, v1 = some a ∧ ∃ A n c, At H4 (a.add 17) [.slice A n c] ∧ Sub Hs H4 ∧
          Tr Tryz.prog 94 #[.slice A n c,.func (.func 95) #[] #[.pointer (some ⟨eb,0,none⟩)]] H4 fun v2 H'=>∃ A n c,v2 = .slice A n c ∧ Sub Hs H' ∧ ∃ a,v = some a ∧ Wr H' (a.add 17) (.slice A n c) fun H''=>Sub Hs H'' ∧ MidB G1 H'' b (S.sw e) e:=fun hk=>by
        have hw:S.sw e = { S with timers:=S.timers.filter fun a=>!(a.event == e.a) }:=by unfold RS.sw; rcases hk with hk | hk <;> rw [hk] <;> rfl
        rw [hw]
        refine ⟨G1,x4.gh,_,hr,_,hr,_,rfl,_,_,_,x4.cell (k:=17) rfl,x4.gh,(t94 (q:=sl4 2) (l:=S.timers) (x4.ok 2 (by decide)) ((pred_tm he).grow x4.gh) (by rw [rt]; omega)).mono fun v2 H' ⟨q,hv,hd⟩=>⟨_,_,_,hv,?_⟩⟩
        exact x4.give (c:=2) (by decide) hd { S with timers:=S.timers.filter fun a=>!(a.event == e.a) } rfl rfl (five (P:=fun c'=>c' ≠ 2 → contR { S with timers:=S.timers.filter fun a=>!(a.event == e.a) } c' = contR S c') (fun _=>rfl) (fun _=>rfl) (fun q=>absurd rfl q) (fun _=>rfl) (fun _=>rfl)) x4.attrs fun H'' h'=>⟨by omega,by omega,by omega,h'⟩
      have upd:∀ st v k,S.sw e = { S with updates:=S.updates.map (upd1 e.a st v k) } → e.kind ≠ 8 → e.kind ≠ 9 → Tr Tryz.prog 96 #[.pointer (some ⟨b,0,none⟩),.int .i64 e.a,.int .i64 st,.int .i64 v,.int .i64 k] H4 fun v H'=>v = .tuple #[] ∧ MidB G1 H' b (S.sw e) e:=fun st v k hw n8 n9=>by
        rw [hw]
        exact (t96 x4 e.a st v k (by rw [ru]; omega)).mono fun v H' ⟨hv,h'⟩=>⟨hv,n5,n8,n9,h'.e⟩
      have over:S.sw e = { S with kids:=S.kids.map (kidO e.a) } → e.kind ≠ 8 → e.kind ≠ 9 → Tr Tryz.prog 97 #[.pointer (some ⟨b,0,none⟩),.int .i64 e.a,.func (.func 99) #[] #[]] H4 fun v H'=>v = .tuple #[] ∧ MidB G1 H' b (S.sw e) e:=fun hw n8 n9=>by
        rw [hw]
        exact (t97 x4 e.a chg_over (by rw [rk]; omega)).mono fun v H' ⟨hv,h'⟩=>⟨hv,n5,n8,n9,h'.e⟩
      refine ⟨fun q=>acs (.inl (by simpa using q)),fun n6=>⟨fun q=>acs (.inr (.inl (by simpa using q))),fun n22=>⟨fun q=>acs (.inr (.inr (.inl (by simpa using q)))),fun n23=>⟨fun q=>acs (.inr (.inr (.inr (by simpa using q)))),fun n24=>⟨fun q=>tms (.inl (by simpa using q)),fun n7=>⟨fun q=>tms (.inr (by simpa using q)),fun n25=>⟨fun q=>?_,fun n8=>⟨fun q=>?_,fun n9=>?_⟩⟩⟩⟩⟩⟩⟩⟩
      · -- a child is called off
        have hk:e.kind = 8:=by simpa using q
        have hw:S.sw e = S:=by unfold RS.sw; rw [hk]; rfl
        have hcl:(S.sw e).close e = S.sw e:=by unfold RS.close; rw [hk]; rfl
        refine ⟨e.a,ee x4.gh (k:=3) rfl,(t90 x4 hr 3 e.a 0 0 0).mono fun v H' t=>?_⟩
        rw [rn,← hw] at t
        obtain ⟨A,n,c,hv,-⟩:=t.out
        exact ⟨A,n,c,hv,by rw [← hv]; exact told t hcl (by unfold RS.tells; rw [hk]; rfl)⟩
      · -- a telling
        have hk:e.kind = 9:=by simpa using q
        have hw:S.sw e = S:=by unfold RS.sw; rw [hk]; rfl
        have hcl:(S.sw e).close e = S.sw e:=by unfold RS.close; rw [hk]; rfl
        refine ⟨e.id,ee x4.gh (k:=0) rfl,e.a,ee x4.gh (k:=3) rfl,e.b,ee x4.gh (k:=4) rfl,e.c,ee x4.gh (k:=5) rfl,(t90 x4 hr 2 e.id e.a e.b e.c).mono fun v H' t=>?_⟩
        rw [rn,← hw] at t
        obtain ⟨A,n,c,hv,-⟩:=t.out
        exact ⟨A,n,c,hv,by rw [← hv]; exact told t hcl (by unfold RS.tells; rw [hk]; rfl)⟩
      have n8:e.kind ≠ 8:=by simpa using n8
      have n9:e.kind ≠ 9:=by simpa using n9
      refine ⟨fun q=>?_,fun n10=>⟨fun q=>?_,fun n21=>⟨fun q=>?_,fun n12=>⟨fun q=>?_,fun n13=>⟨fun q=>?_,fun n14=>⟨fun q=>?_,fun n26=>⟨fun q=>?_,fun n27=>⟨fun q=>?_,fun n28=>⟨n5,n8,n9,?_⟩⟩⟩⟩⟩⟩⟩⟩⟩
      · -- an attribute
        have hk:e.kind = 10:=by simpa using q
        obtain ⟨ha,hb⟩:=h10 hk
        have hw:S.sw e = { S with attrs:=S.attrs.set e.a.toNat e.b }:=by unfold RS.sw; rw [hk]; rfl
        rw [hw]
        refine ⟨G1,x4.gh,_,hr,_,rfl,e.a,ee (Sub.refl _) (k:=3) rfl,e.b,ee (Sub.refl _) (k:=4) rfl,⟨ha,hb⟩,?_⟩
        have hx:((⟨b,0,none⟩:Addr).add 11).add (e.a.toNat * 1) = (⟨b,0,none⟩:Addr).add (11 + e.a.toNat):=by rw [Nat.mul_one]; exact add2 b 11 _
        show Wr H4 (((⟨b,0,none⟩:Addr).add 11).add (e.a.toNat * 1)) _ _
        rw [hx]
        refine x4.wr (k:=11 + e.a.toNat) (by omega) { S with attrs:=S.attrs.set e.a.toNat e.b } ?_ (fun _=>rfl) (by show (S.attrs.set _ _).length = 4; rw [List.length_set]; exact x4.attrs) fun H' h'=>⟨h'.gh,n5,n8,n9,h'.e⟩
        unfold rCells
        rw [List.set_append_left _ _ (by simp [cellsV]; omega),List.set_append_right _ _ (by simp),← cellsV_set x4.attrs (by omega)]
        simp
      · -- an update
        have hk:e.kind = 21:=by simpa using q
        have hw:S.sw e = { S with updates:=S.updates ++ [⟨e.id,0,0,0⟩] }:=by unfold RS.sw; rw [hk]; rfl
        rw [hw]
        have core:=x4.push (c:=4) (by decide) (T:=107) (bytes:=32) (new:=(UpM.mk e.id 0 0 0).cells) rfl rfl (by omega) (by omega) { S with updates:=S.updates ++ [⟨e.id,0,0,0⟩] } (fun _=>rfl) (by show (S.updates ++ [_]).flatMap UpM.cells = _; rw [List.flatMap_append,List.flatMap_singleton]; rfl) (five (P:=fun c'=>c' ≠ 4 → contR { S with updates:=S.updates ++ [⟨e.id,0,0,0⟩] } c' = contR S c') (fun _=>rfl) (fun _=>rfl) (fun _=>rfl) (fun _=>rfl) (fun q=>absurd rfl q)) x4.attrs
          (Q:=fun H'=>MidB G1 H' b { S with updates:=S.updates ++ [⟨e.id,0,0,0⟩] } e) fun H' h'=>⟨n5,n8,n9,h'⟩
        exact ⟨G1,x4.gh,_,hr,_,hr,_,rfl,e.id,ee (Sub.refl _) (k:=0) rfl,⟨_,_,_,x4.cell (k:=19) rfl,x4.gh,x4.gh,core⟩,x4.gh,_,_,_,x4.cell (k:=19) rfl,x4.gh,core⟩
      · have hk:e.kind = 12:=by simpa using q
        exact ⟨_,r2,e.a,ee x4.gh (k:=3) rfl,upd 1 0 0 (by unfold RS.sw; rw [hk]; rfl) n8 n9⟩
      · have hk:e.kind = 13:=by simpa using q
        exact ⟨_,r2,e.a,ee x4.gh (k:=3) rfl,e.b,ee x4.gh (k:=4) rfl,upd 2 e.b 0 (by unfold RS.sw; rw [hk]; rfl) n8 n9⟩
      · have hk:e.kind = 14:=by simpa using q
        exact ⟨_,r2,e.a,ee x4.gh (k:=3) rfl,e.b,ee x4.gh (k:=4) rfl,e.c,ee x4.gh (k:=5) rfl,upd 3 e.b e.c (by unfold RS.sw; rw [hk]; rfl) n8 n9⟩
      · have hk:e.kind = 26:=by simpa using q
        have hw:S.sw e = { S with kids:=S.kids.map (kidR e.a e.b) }:=by unfold RS.sw; rw [hk]; rfl
        refine ⟨_,r2,e.a,ee x4.gh (k:=3) rfl,?_⟩
        rw [hw]
        exact (t97 x4 e.a (chg_run he) (by rw [rk]; omega)).mono fun v H' ⟨hv,h'⟩=>⟨hv,n5,n8,n9,h'.e⟩
      · have hk:e.kind = 27:=by simpa using q
        exact ⟨_,r2,e.a,ee x4.gh (k:=3) rfl,over (by unfold RS.sw; rw [hk]; rfl) n8 n9⟩
      · have hk:e.kind = 28:=by simpa using q
        exact ⟨_,r2,e.a,ee x4.gh (k:=3) rfl,over (by unfold RS.sw; rw [hk]; rfl) n8 n9⟩
      · have hw : S.sw e = S := by
          unfold RS.sw
          have m:∀ {k:Int},(e.kind == k) = false → e.kind ≠ k:=fun q=>by simpa using q
          have m1:=m n1; have m3:=m n3; have m4:=m n4; have m6:=m n6; have m22:=m n22; have m23:=m n23; have m24:=m n24; have m7:=m n7; have m25:=m n25
          have m10:=m n10; have m21:=m n21; have m12:=m n12; have m13:=m n13; have m14:=m n14; have m26:=m n26; have m27:=m n27; have m28:=m n28
          rw [if_neg m1,if_neg m3,if_neg m4,if_neg n5,if_neg (by omega),if_neg (by omega),if_neg m10,if_neg m21,if_neg m12,if_neg m13,if_neg m14,if_neg m26,if_neg (by omega)]
        rw [hw]; exact x4.e
  · -- does it close the run?
    obtain ⟨n5,n8,n9,⟨sl5,x5⟩⟩:=m5
    obtain ⟨s,hs⟩:=RS.see_eq (R.add e) e
    have bk:R.book e = (((R.add e).see e).sw e).close e:=rfl
    have nil:∀ {H':Heap},RunE G1 H' b (R.book e) → R.tells e = [] → BookR G b R e (.slice none 0 0) H':=fun ⟨sl',x'⟩ ht=>⟨none,0,0,rfl,(x'.weaken gg).e,by rw [ht]; rfl,by rw [ht]; exact .inl rfl⟩
    have tl:R.tells e = if (closeM e.kind && !(R.parent == 0 || e.kind == 18)) = true then [⟨0,4,R.number,0,0,0,0⟩] else []:=by unfold RS.tells; rw [if_neg n5,if_neg n8,if_neg n9]
    refine ⟨e.kind,ee x5.gh (k:=2) rfl,_,t53 e.kind H5,fun q=>?_,fun q=>?_⟩
    · have hc:closeM e.kind = false:=by simpa using q
      refine nil ?_ (by rw [tl,hc]; rfl)
      have:R.book e = ((R.add e).see e).sw e:=by rw [bk]; unfold RS.close; rw [if_neg (by rw [hc]; decide)]
      rw [this]; exact x5.e
    · have hc:closeM e.kind = true:=by simpa using q
      have h1:e.kind ≠ 1:=fun k=>by rw [k] at hc; cases hc
      obtain ⟨hnum,hpar⟩:=RS.sw_rest ((R.add e).see e) e h1
      have hnum:(((R.add e).see e).sw e).number = R.number:=by rw [hnum,hs]; rfl
      have hpar:(((R.add e).see e).sw e).parent = R.parent:=by rw [hpar,hs]; rfl
      have hcl:R.book e = { ((R.add e).see e).sw e with status:=statusM e.kind,value:=e.a,ended:=e.time,acts:=[],timers:=[] }:=by rw [bk]; unfold RS.close; rw [if_pos hc]
      generalize ((R.add e).see e).sw e = S at x5 hnum hpar hcl bk
      refine ⟨G1,x5.gh,_,hr,_,hr,_,hr,e.kind,ee (Sub.refl _) (k:=2) rfl,e.a,ee (Sub.refl _) (k:=3) rfl,e.time,ee (Sub.refl _) (k:=1) rfl,_,t100 e.kind H5,x5.gh,_,rfl,?_⟩
      refine x5.wr (k:=2) (by decide) { S with status:=statusM e.kind } rfl (fun _=>rfl) x5.attrs fun H6 y6=>⟨y6.gh,_,rfl,?_⟩
      refine y6.wr (k:=10) (by decide) { S with status:=statusM e.kind,value:=e.a } rfl (fun _=>rfl) x5.attrs fun H7 y7=>⟨y7.gh,_,rfl,?_⟩
      refine y7.wr (k:=5) (by decide) { S with status:=statusM e.kind,value:=e.a,ended:=e.time } rfl (fun _=>rfl) x5.attrs fun H8 y8=>⟨y8.gh,?_⟩
      refine ⟨G1,y8.gh,_,hr,_,rfl,_,hr,?_⟩
      refine y8.drop (c:=1) (by decide) { S with status:=statusM e.kind,value:=e.a,ended:=e.time,acts:=[] } rfl rfl (five (P:=fun c'=>c' ≠ 1 → contR { S with status:=statusM e.kind,value:=e.a,ended:=e.time,acts:=[] } c' = contR { S with status:=statusM e.kind,value:=e.a,ended:=e.time } c') (fun _=>rfl) (fun q=>absurd rfl q) (fun _=>rfl) (fun _=>rfl) (fun _=>rfl)) x5.attrs fun sl9 H9 y9=>⟨y9.gh,_,rfl,?_⟩
      refine y9.drop (c:=2) (by decide) (R.book e) (by rw [hcl]; rfl) (by rw [hcl]; rfl) (by rw [hcl]; exact five (P:=fun c'=>c' ≠ 2 → contR { S with status:=statusM e.kind,value:=e.a,ended:=e.time,acts:=[],timers:=[] } c' = contR { S with status:=statusM e.kind,value:=e.a,ended:=e.time,acts:=[] } c') (fun _=>rfl) (fun _=>rfl) (fun q=>absurd rfl q) (fun _=>rfl) (fun _=>rfl)) (by rw [hcl]; exact x5.attrs) fun sl10 H10 y10=>⟨y10.gh,?_⟩
      have bpar:(R.book e).parent = R.parent:=by rw [hcl]; exact hpar
      have bnum:(R.book e).number = R.number:=by rw [hcl]; exact hnum
      refine ⟨_,hr.sub y10.gh,_,rfl,R.parent,y10.cell (k:=7) (by rw [← bpar]; rfl),e.kind,fun _=>ee y10.gh (k:=2) rfl,fun q=>nil y10.e ?_,fun q=>?_⟩
      · rw [tl,hc,q]; rfl
      · refine (t90 y10 hr 4 0 0 0 0).mono fun v H' t=>?_
        rw [bnum] at t
        obtain ⟨A,n,c,hv,⟨sl',x'⟩,hn,hsrc⟩:=t.out
        have ht:R.tells e = [⟨0,4,R.number,0,0,0,0⟩]:=by rw [tl,hc,q]; rfl
        exact ⟨A,n,c,hv,A,n,c,rfl,(x'.weaken gg).e,by rw [ht]; exact hn,by rw [ht]; exact hsrc⟩
end Go.Proofs.YtkofafcgcnciaaaGreatDoor
set_option maxRecDepth 100000
set_option linter.unusedVariables false
namespace Go.Proofs.YtkofafcgcnciaaaGreatDoor
open Go.Ax
noncomputable def c21:Cx:={ P:=Tryz.prog,res:=[],pub:=[7],loops:=[],quiet:=[],asm:=true }
def F21 (number:Int) (id:ByteArray) (xId:Int) (xTime:Int) (xKind:Int) (xA:Int) (xB:Int) (xC:Int) (xD:Int) (xE:Int) (xF:Int) (H:Heap) (K:Value → Heap → Prop):Prop :=
 ∀ (b:Nat),
 H b = none →
 ∀ (H1:Heap),
 H1 =
 H.upd b
 (Obj.cells
 #[.int .i64 0,.int .i64 0,.int .i64 0,.string ({ data:=#[] }:ByteArray),.int .i64 0,.int .i64 0,.int .i64 0,.int .i64 0,.int .i64 0,.int .i64 0,.int .i64 0,.int .i64 0,.int .i64 0,.int .i64 0,.int .i64 0,.slice none (0:Nat) (0:Nat),.slice none (0:Nat) (0:Nat),
 .slice none (0:Nat) (0:Nat),.slice none (0:Nat) (0:Nat),.slice none (0:Nat) (0:Nat)]
 (34:Nat)) →
 ∃ (c:Array Value) (T:TypeId),
 H1 ({ block:=b,off:=(0:Nat) }:Addr).block = some (Obj.cells c T) ∧
 ({ block:=b,off:=(0:Nat) }:Addr).spot = none ∧
 ({ block:=b,off:=(0:Nat) }:Addr).off +
 [Value.int IntKind.i64 number,Value.int IntKind.i64 (0:Int),Value.int IntKind.i64 (0:Int),Value.string id,Value.int IntKind.i64 (0:Int),Value.int IntKind.i64 (0:Int),Value.int IntKind.i64 (0:Int),Value.int IntKind.i64 (0:Int),Value.int IntKind.i64 (0:Int),Value.int IntKind.i64 (0:Int),Value.int IntKind.i64 (0:Int),Value.int IntKind.i64 (0:Int),Value.int IntKind.i64 (0:Int),Value.int IntKind.i64 (0:Int),Value.int IntKind.i64 (0:Int),Value.slice none (0:Nat) (0:Nat),Value.slice none (0:Nat) (0:Nat),
 Value.slice none (0:Nat) (0:Nat),Value.slice none (0:Nat) (0:Nat),Value.slice none (0:Nat) (0:Nat)].length ≤
 c.size ∧
 ∀ (H11:Heap),
 H11 =
 H1.upd ({ block:=b,off:=(0:Nat) }:Addr).block
 (Obj.cells
 (splice c ({ block:=b,off:=(0:Nat) }:Addr).off
 [.int .i64 number,.int .i64 0,.int .i64 0,.string id,.int .i64 0,.int .i64 0,.int .i64 0,.int .i64 0,.int .i64 0,.int .i64 0,.int .i64 0,.int .i64 0,.int .i64 0,.int .i64 0,.int .i64 0,.slice none (0:Nat) (0:Nat),.slice none (0:Nat) (0:Nat),
 .slice none (0:Nat) (0:Nat),.slice none (0:Nat) (0:Nat),.slice none (0:Nat) (0:Nat)])
 T) →
 Tr Tryz.prog (43:Nat) #[.pointer (some ({ block:=b,off:=(0:Nat) }:Addr)),.agg #[.int .i64 1,.int .i64 xTime,.int .i64 1,.int .i64 xA,.int .i64 xB,.int .i64 xC,.int .i64 xD,.int .i64 xE,.int .i64 xF]] H11 fun v H' =>
 ∃ (A:Option Addr) (n c1:Nat),
 v = .slice A n c1 ∧
 ∃ (x x1 x2:Int) (s:ByteArray) (x3 x4 x5 x6 x7 x8 x9 x10 x11 x12 x13:Int) (A1:Option Addr) (n1 c2:Nat) (A2:Option Addr) (n2 c3:Nat) (A3:Option Addr) (n3 c4:Nat) (A4:Option Addr) (n4 c5:Nat) (A5:Option Addr) (n5 c6:Nat),
 At H' ({ block:=b,off:=(0:Nat) }:Addr)
 [.int .i64 x,.int .i64 x1,.int .i64 x2,.string s,.int .i64 x3,.int .i64 x4,.int .i64 x5,.int .i64 x6,.int .i64 x7,.int .i64 x8,.int .i64 x9,.int .i64 x10,.int .i64 x11,.int .i64 x12,.int .i64 x13,.slice A1 n1 c2,.slice A2 n2 c3,.slice A3 n3 c4,.slice A4 n4 c5,.slice A5 n5 c6] ∧
 K
 (.agg
 #[.int .i64 x,.int .i64 x1,.int .i64 x2,.string s,.int .i64 x3,.int .i64 x4,.int .i64 x5,.int .i64 x6,.int .i64 x7,.int .i64 x8,.int .i64 x9,.int .i64 x10,.int .i64 x11,.int .i64 x12,.int .i64 x13,.slice A1 n1 c2,.slice A2 n2 c3,.slice A3 n3 c4,.slice A4 n4 c5,.slice A5 n5 c6])
 H'
theorem v21 {number:Int} {id:ByteArray} {xId:Int} {xTime:Int} {xKind:Int} {xA:Int} {xB:Int} {xC:Int} {xD:Int} {xE:Int} {xF:Int} {H:Heap} {K:Value → Heap → Prop} (h:F21 number id xId xTime xKind xA xB xC xD xE xF H K):Tr Tryz.prog 21 #[.int .i64 number,.string id,.agg #[.int .i64 xId,.int .i64 xTime,.int .i64 xKind,.int .i64 xA,.int .i64 xB,.int .i64 xC,.int .i64 xD,.int .i64 xE,.int .i64 xF]] H K :=
  tr_of_eq (C:=c21) Tryz.func21 (show vcFn c21 Tryz.f21 [.int .i64 number,.string id,.agg #[.int .i64 xId,.int .i64 xTime,.int .i64 xKind,.int .i64 xA,.int .i64 xB,.int .i64 xC,.int .i64 xD,.int .i64 xE,.int .i64 xF]] H K = F21 number id xId xTime xKind xA xB xC xD xE xF H K by kernel_rfl) h
noncomputable def c16:Cx:={ P:=Tryz.prog,res:=[],pub:=[],loops:=[],quiet:=[26,36,52,53],draws:=[⟨6,[5],[],false,true⟩,⟨10,[1,4],[],false,true⟩,⟨11,[1,3],[],false,true⟩],asm:=true,cuts:=[⟨7,[(9,.int .i64)],[10,29,30,31,32,33,34,35,36,37,38,39,40],[]⟩] }
def F16 (r:Option Addr) (eId:Int) (eTime:Int) (eKind:Int) (eA:Int) (eB:Int) (eC:Int) (eD:Int) (eE:Int) (eF:Int) (now:Int) (H:Heap) (K:Value → Heap → Prop):Prop :=
 (r.isNone = true → K (.tuple #[.int .i64 0,.slice none (0:Nat) (0:Nat),.int .i64 42]) H) ∧
 (r.isNone = false →
 ∃ (a:Addr),
 r = some a ∧
 ∃ (x x1 x2:Int) (s:ByteArray) (x3 x4 x5 x6 x7 x8 x9 x10 x11 x12 x13:Int) (A:Option Addr) (n c:Nat) (A1:Option Addr) (n1 c1:Nat) (A2:Option Addr) (n2 c2:Nat) (A3:Option Addr) (n3 c3:Nat) (A4:Option Addr) (n4 c4:Nat),
 At H a [.int .i64 x,.int .i64 x1,.int .i64 x2,.string s,.int .i64 x3,.int .i64 x4,.int .i64 x5,.int .i64 x6,.int .i64 x7,.int .i64 x8,.int .i64 x9,.int .i64 x10,.int .i64 x11,.int .i64 x12,.int .i64 x13,.slice A n c,.slice A1 n1 c1,.slice A2 n2 c2,.slice A3 n3 c3,.slice A4 n4 c4] ∧
 ∃ (b:Bool),
 (Tr Tryz.prog (26:Nat)
 #[.agg #[.int .i64 x,.int .i64 x1,.int .i64 x2,.string s,.int .i64 x3,.int .i64 x4,.int .i64 x5,.int .i64 x6,.int .i64 x7,.int .i64 x8,.int .i64 x9,.int .i64 x10,.int .i64 x11,.int .i64 x12,.int .i64 x13,.slice A n c,.slice A1 n1 c1,.slice A2 n2 c2,.slice A3 n3 c3,.slice A4 n4 c4]] H
 fun v H'=>v = .bool b ∧ Ax.Sub H H') ∧
 ((!b) = true → K (.tuple #[.int .i64 0,.slice none (0:Nat) (0:Nat),.int .i64 46]) H) ∧
 ((!b) = false →
 ∃ (a1:Addr),
 r = some a1 ∧
 ∃ (A5:Option Addr) (n5 c5:Nat),
 At H (a1.add (nat_lit 15)) [.slice A5 n5 c5] ∧
 ∃ (Mid:Int → Heap → Prop),
 (∃ (a2:Addr),
 r = some a2 ∧
 (∃ (A6:Option Addr),
 ∃ (n6 c6:Nat),
 At H (a2.add (nat_lit 15)) [.slice A6 n6 c6] ∧
 (Tr Tryz.prog (51:Nat) #[.slice A6 n6 c6] H fun v1 H'1 =>
 ∃ (A7:Option Addr) (n7 c7:Nat),
 v1 = .slice A7 n7 c7 ∧
 appC (47:Nat) (nat_lit 9) (nat_lit 72) H'1 A7 n7 c7 [.int .i64 (IntKind.i64.wrap ((↑n5:Int) + 1)),.int .i64 now,.int .i64 eKind,.int .i64 eA,.int .i64 eB,.int .i64 eC,.int .i64 eD,.int .i64 eE,.int .i64 eF] (1:Nat) fun (A':Option Addr) (n' c':Nat) (H'2:Heap) =>
 ∃ (x14:Int),∃ (x15:Int),(Tr Tryz.prog (36:Nat) #[.slice A' n' c'] H'2 fun v2 H'3=>v2 = .tuple #[.int .i64 x14,.int .i64 x15] ∧ Ax.Sub H'2 H'3) ∧ Mid x14 H'2) ∧
 Tr Tryz.prog (51:Nat) #[.slice A6 n6 c6] H fun v3 H'4 =>
 ∃ (A8:Option Addr) (n8 c8:Nat),
 v3 = .slice A8 n8 c8 ∧
 appC (47:Nat) (nat_lit 9) (nat_lit 72) H'4 A8 n8 c8 [.int .i64 (IntKind.i64.wrap ((↑n5:Int) + 1)),.int .i64 now,.int .i64 eKind,.int .i64 eA,.int .i64 eB,.int .i64 eC,.int .i64 eD,.int .i64 eE,.int .i64 eF] (1:Nat) fun (A'1:Option Addr) (n'1 c'1:Nat) (H'5:Heap) =>
 ∃ (x16:Int),∃ (x17:Int),(Tr Tryz.prog (36:Nat) #[.slice A'1 n'1 c'1] H'5 fun v4 H'6=>v4 = .tuple #[.int .i64 x16,.int .i64 x17] ∧ Ax.Sub H'5 H'6) ∧ Mid x16 H'5) ∧
 ∃ (A9:Option Addr) (n9 c9:Nat),
 At H (a2.add (nat_lit 15)) [.slice A9 n9 c9] ∧
 Tr Tryz.prog (51:Nat) #[.slice A9 n9 c9] H fun v5 H'7 =>
 ∃ (A10:Option Addr) (n10 c10:Nat),
 v5 = .slice A10 n10 c10 ∧
 appC (47:Nat) (nat_lit 9) (nat_lit 72) H'7 A10 n10 c10 [.int .i64 (IntKind.i64.wrap ((↑n5:Int) + 1)),.int .i64 now,.int .i64 eKind,.int .i64 eA,.int .i64 eB,.int .i64 eC,.int .i64 eD,.int .i64 eE,.int .i64 eF] (1:Nat) fun (A'2:Option Addr) (n'2 c'2:Nat) (H'8:Heap) =>
 ∃ (x18:Int),∃ (x19:Int),(Tr Tryz.prog (36:Nat) #[.slice A'2 n'2 c'2] H'8 fun v6 H'9=>v6 = .tuple #[.int .i64 x18,.int .i64 x19] ∧ Ax.Sub H'8 H'9) ∧ Mid x18 H'8) ∧
 ∀ (x20:Int) (H1:Heap),
 Mid x20 H1 →
 ∃ (b1:Bool),
 (Tr Tryz.prog (52:Nat) #[.agg #[.int .i64 (IntKind.i64.wrap ((↑n5:Int) + 1)),.int .i64 now,.int .i64 eKind,.int .i64 eA,.int .i64 eB,.int .i64 eC,.int .i64 eD,.int .i64 eE,.int .i64 eF]] H1 fun v7 H'10=>v7 = .bool b1 ∧ Ax.Sub H1 H'10) ∧
 ((!b1 || x20 != 0) = true → K (.tuple #[.int .i64 0,.slice none (0:Nat) (0:Nat),.int .i64 54]) H1) ∧
 ((!b1 || x20 != 0) = false →
 ∃ (b2:Bool),
 ((IntKind.i64.wrap ((↑n5:Int) + 1) == 256) = true → Tr Tryz.prog (53:Nat) #[.int .i64 eKind] H1 fun v8 H'11=>v8 = .bool b2 ∧ Ax.Sub H1 H'11) ∧
 ((IntKind.i64.wrap ((↑n5:Int) + 1) == 256 && !b2) = true →
 Tr Tryz.prog (54:Nat) #[.int .i64 (IntKind.i64.wrap ((↑n5:Int) + 1)),.int .i64 now] H1 fun v9 H'12 =>
 ∃ (x21 x22 x23 x24 x25 x26 x27 x28 x29:Int),
 v9 = .agg #[.int .i64 x21,.int .i64 x22,.int .i64 x23,.int .i64 x24,.int .i64 x25,.int .i64 x26,.int .i64 x27,.int .i64 x28,.int .i64 x29] ∧
 Tr Tryz.prog (43:Nat) #[.pointer r,.agg #[.int .i64 x21,.int .i64 x22,.int .i64 x23,.int .i64 x24,.int .i64 x25,.int .i64 x26,.int .i64 x27,.int .i64 x28,.int .i64 x29]] H'12 fun v10 H'13 =>
 ∃ (A11:Option Addr),∃ (n11:Nat),∃ (c11:Nat),v10 = .slice A11 n11 c11 ∧ K (.tuple #[.int .i64 (IntKind.i64.wrap ((↑n5:Int) + 1)),.slice A11 n11 c11,.int .i64 49]) H'13) ∧
 ((IntKind.i64.wrap ((↑n5:Int) + 1) == 256 && !b2) = false →
 Tr Tryz.prog (43:Nat) #[.pointer r,.agg #[.int .i64 (IntKind.i64.wrap ((↑n5:Int) + 1)),.int .i64 now,.int .i64 eKind,.int .i64 eA,.int .i64 eB,.int .i64 eC,.int .i64 eD,.int .i64 eE,.int .i64 eF]] H1 fun v11 H'14 =>
 ∃ (A12:Option Addr),∃ (n12:Nat),∃ (c12:Nat),v11 = .slice A12 n12 c12 ∧ K (.tuple #[.int .i64 (IntKind.i64.wrap ((↑n5:Int) + 1)),.slice A12 n12 c12,.int .i64 0]) H'14))))
theorem v16 {r:Option Addr} {eId:Int} {eTime:Int} {eKind:Int} {eA:Int} {eB:Int} {eC:Int} {eD:Int} {eE:Int} {eF:Int} {now:Int} {H:Heap} {K:Value → Heap → Prop} (h:F16 r eId eTime eKind eA eB eC eD eE eF now H K):Tr Tryz.prog 16 #[.pointer r,.agg #[.int .i64 eId,.int .i64 eTime,.int .i64 eKind,.int .i64 eA,.int .i64 eB,.int .i64 eC,.int .i64 eD,.int .i64 eE,.int .i64 eF],.int .i64 now] H K :=
  tr_of_eq (C:=c16) Tryz.func16 (show vcFn c16 Tryz.f16 [.pointer r,.agg #[.int .i64 eId,.int .i64 eTime,.int .i64 eKind,.int .i64 eA,.int .i64 eB,.int .i64 eC,.int .i64 eD,.int .i64 eE,.int .i64 eF],.int .i64 now] H K = F16 r eId eTime eKind eA eB eC eD eE eF now H K by kernel_rfl) h
noncomputable def c18:Cx:={ P:=Tryz.prog,res:=[],pub:=[],loops:=[⟨16,[],[],[(3,0,.sl)]⟩],quiet:=[26],draws:=[⟨6,[0,1],[],false,true⟩,⟨7,[0,1],[],false,true⟩,⟨18,[1,2],[3],false,true⟩],asm:=true,rfs:=[⟨16,[([.int .i64],false),([.int .i64,.int .i64,.int .i64,.int .i64,.int .i64,.int .i64,.int .i64,.int .i64,.int .i64],true)]⟩] }
def F18 (r:Option Addr) (pFuncsA:Option Addr) (pFuncsn pFuncsc:Nat) (pOptsA:Option Addr) (pOptsn pOptsc:Nat) (now:Int) (draw:Int) (next:Int) (H:Heap) (K:Value → Heap → Prop):Prop :=
 ∃ (a:Addr),
 ((!(r.isNone || decide (now < 0) || decide (now > 1099511627776))) = true → r = some a) ∧
 ∃ (A:Option Addr) (n c:Nat),
 ((!(r.isNone || decide (now < 0) || decide (now > 1099511627776))) = true → At H (a.add (nat_lit 15)) [.slice A n c]) ∧
 ∃ (a1:Addr),
 ((!(r.isNone || decide (now < 0) || decide (now > 1099511627776)) && decide ((↑n:Int) > 0)) = true → r = some a1) ∧
 ∃ (A1:Option Addr) (n1 c1:Nat),
 ((!(r.isNone || decide (now < 0) || decide (now > 1099511627776)) && decide ((↑n:Int) > 0)) = true → At H (a1.add (nat_lit 15)) [.slice A1 n1 c1]) ∧
 ∃ (a2:Addr),
 ((!(r.isNone || decide (now < 0) || decide (now > 1099511627776)) && decide ((↑n:Int) > 0)) = true → r = some a2) ∧
 ∃ (A2:Option Addr) (n2 c2:Nat),
 ((!(r.isNone || decide (now < 0) || decide (now > 1099511627776)) && decide ((↑n:Int) > 0)) = true → At H (a2.add (nat_lit 15)) [.slice A2 n2 c2]) ∧
 ∃ (a3:Addr),
 ((!(r.isNone || decide (now < 0) || decide (now > 1099511627776)) && decide ((↑n:Int) > 0)) = true → A1 = some a3 ∧ (0:Int) ≤ IntKind.i64.wrap ((↑n2:Int) - 1) ∧ IntKind.i64.wrap ((↑n2:Int) - 1) < (↑n1:Int)) ∧
 ∃ (x:Int),
 ((!(r.isNone || decide (now < 0) || decide (now > 1099511627776)) && decide ((↑n:Int) > 0)) = true → At H ((a3.add ((IntKind.i64.wrap ((↑n2:Int) - 1)).toNat * nat_lit 9)).add (nat_lit 1)) [.int .i64 x]) ∧
 ((r.isNone || decide (now < 0) || decide (now > 1099511627776) || decide ((↑n:Int) > 0) && decide (now < x)) = true → K (.tuple #[.slice none (0:Nat) (0:Nat),.int .i64 42]) H) ∧
 ((r.isNone || decide (now < 0) || decide (now > 1099511627776) || decide ((↑n:Int) > 0) && decide (now < x)) = false →
 ∃ (a4:Addr),
 r = some a4 ∧
 ∃ (x1 x2 x3:Int) (s:ByteArray) (x4 x5 x6 x7 x8 x9 x10 x11 x12 x13 x14:Int) (A3:Option Addr) (n3 c3:Nat) (A4:Option Addr) (n4 c4:Nat) (A5:Option Addr) (n5 c5:Nat) (A6:Option Addr) (n6 c6:Nat) (A7:Option Addr) (n7 c7:Nat),
 At H a4
 [.int .i64 x1,.int .i64 x2,.int .i64 x3,.string s,.int .i64 x4,.int .i64 x5,.int .i64 x6,.int .i64 x7,.int .i64 x8,.int .i64 x9,.int .i64 x10,.int .i64 x11,.int .i64 x12,.int .i64 x13,.int .i64 x14,.slice A3 n3 c3,.slice A4 n4 c4,.slice A5 n5 c5,.slice A6 n6 c6,
 .slice A7 n7 c7] ∧
 ∃ (b:Bool),
 (Tr Tryz.prog (26:Nat)
 #[.agg
 #[.int .i64 x1,.int .i64 x2,.int .i64 x3,.string s,.int .i64 x4,.int .i64 x5,.int .i64 x6,.int .i64 x7,.int .i64 x8,.int .i64 x9,.int .i64 x10,.int .i64 x11,.int .i64 x12,.int .i64 x13,.int .i64 x14,.slice A3 n3 c3,.slice A4 n4 c4,.slice A5 n5 c5,.slice A6 n6 c6,
 .slice A7 n7 c7]]
 H fun v H'=>v = .bool b ∧ Ax.Sub H H') ∧
 ((!b) = true → K (.tuple #[.slice none (0:Nat) (0:Nat),.int .i64 46]) H) ∧
 ((!b) = false →
 ∃ (a5:Addr),
 r = some a5 ∧
 ∃ (A8:Option Addr) (n8 c8:Nat),
 At H (a5.add (nat_lit 15)) [.slice A8 n8 c8] ∧
 (decide ((↑n8:Int) > 254) = true →
 ∃ (a6:Addr),
 r = some a6 ∧
 ∃ (A9:Option Addr) (n9 c9:Nat),
 At H (a6.add (nat_lit 15)) [.slice A9 n9 c9] ∧
 Tr Tryz.prog (54:Nat) #[.int .i64 (IntKind.i64.wrap ((↑n9:Int) + 1)),.int .i64 now] H fun v1 H'1 =>
 ∃ (x15 x16 x17 x18 x19 x20 x21 x22 x23:Int),
 v1 = .agg #[.int .i64 x15,.int .i64 x16,.int .i64 x17,.int .i64 x18,.int .i64 x19,.int .i64 x20,.int .i64 x21,.int .i64 x22,.int .i64 x23] ∧
 Tr Tryz.prog (43:Nat) #[.pointer r,.agg #[.int .i64 x15,.int .i64 x16,.int .i64 x17,.int .i64 x18,.int .i64 x19,.int .i64 x20,.int .i64 x21,.int .i64 x22,.int .i64 x23]] H'1 fun v2 H'2 =>
 ∃ (A10:Option Addr),∃ (n10:Nat),∃ (c10:Nat),v2 = .slice A10 n10 c10 ∧ K (.tuple #[.slice A10 n10 c10,.int .i64 49]) H'2) ∧
 (decide ((↑n8:Int) > 254) = false →
 ∃ (a7:Addr),
 r = some a7 ∧
 ∃ (A11:Option Addr) (n11 c11:Nat),
 At H (a7.add (nat_lit 15)) [.slice A11 n11 c11] ∧
 Tr Tryz.prog (23:Nat) #[.agg #[.slice pFuncsA pFuncsn pFuncsc,.slice pOptsA pOptsn pOptsc],.slice A11 n11 c11] H fun v3 H'3 =>
 ∃ (v4:Option Addr) (x24 x25:Int),
 v3 = .tuple #[.pointer v4,.int .i64 x24,.int .i64 x25] ∧
 ((x24 != 0) = true → K (.tuple #[.slice none (0:Nat) (0:Nat),.int .i64 x24]) H'3) ∧
 ((x24 != 0) = false →
 Tr Tryz.prog (56:Nat) #[.pointer v4,.int .i64 now,.int .i64 draw] H'3 fun v5 H'4 =>
 ∃ (A12:Option Addr) (n12 c12:Nat) (x26:Int),
 v5 = .tuple #[.slice A12 n12 c12,.int .i64 x26] ∧
 ((x26 != 0) = true → K (.tuple #[.slice none (0:Nat) (0:Nat),.int .i64 x26]) H'4) ∧
 ((x26 != 0) = false →
 Tr Tryz.prog (42:Nat) #[.slice A12 n12 c12,.slice none (0:Nat) (0:Nat)] H'4 fun v6 H'5 =>
 ∃ (v7:Value),
 v6 = v7 ∧
 ∃ (g:Nat) (caps:List Value),
 (v7 = .func (Fn.func g) #[] { toList:=caps } ∧ canCall Tryz.prog g = true) ∧
 ∃ (HI:Heap) (m:Nat) (E:Nat → Int × Int × Int × Int × Int × Int × Int × Int × Int × Int × PUnit) (ys:List Nat),
 Ax.Sub HI H'5 ∧
 It Tryz.prog g caps HI m
 (fun (i:Nat) =>
 [.int .i64 (E i).fst,
 .agg
 #[.int .i64 (E i).snd.fst,.int .i64 (E i).snd.snd.fst,.int .i64 (E i).snd.snd.snd.fst,.int .i64 (E i).snd.snd.snd.snd.fst,.int .i64 (E i).snd.snd.snd.snd.snd.fst,.int .i64 (E i).snd.snd.snd.snd.snd.snd.fst,.int .i64 (E i).snd.snd.snd.snd.snd.snd.snd.fst,
 .int .i64 (E i).snd.snd.snd.snd.snd.snd.snd.snd.fst,.int .i64 (E i).snd.snd.snd.snd.snd.snd.snd.snd.snd.fst]])
 ys ∧
 ∃ (Rel:List Nat → Option Addr → Nat → Nat → Heap → Prop),
 Rel [] none (0:Nat) (0:Nat) H'5 ∧
 (∀ (pre:List Nat) (i:Nat),
 i < m →
 pre.length < ys.length →
 ∀ (A13:Option Addr) (n13 c13:Nat) (H1:Heap),
 Rel pre A13 n13 c13 H1 →
 Ax.Sub HI H1 →
 NCs H'5 H1 →
 ∀ (x27 x28 x29 x30 x31 x32 x33 x34 x35 x36:Int),
 E i = (x27,x28,x29,x30,x31,x32,x33,x34,x35,x36,()) →
 (NCs H'5 H1 ∧ Ax.Sub HI H1) ∧
 ((x30 == 18) = true →
 (Tr Tryz.prog (43:Nat) #[.pointer r,.agg #[.int .i64 x28,.int .i64 x29,.int .i64 x30,.int .i64 x31,.int .i64 next,.int .i64 x33,.int .i64 x34,.int .i64 x35,.int .i64 x36]] H1 fun v8 H'6 =>
 ∃ (A14:Option Addr),∃ (n14:Nat),∃ (c14:Nat),v8 = .slice A14 n14 c14 ∧ appS (160:Nat) (nat_lit 7) (nat_lit 56) H'6 A13 n13 c13 A14 n14 fun (A':Option Addr) (n' c':Nat) (H'7:Heap)=>Rel (pre ++ [i]) A' n' c' (cutN H'5 H'7) ∧ Ax.Sub HI H'7) ∧
 Tr Tryz.prog (43:Nat) #[.pointer r,.agg #[.int .i64 x28,.int .i64 x29,.int .i64 x30,.int .i64 x31,.int .i64 next,.int .i64 x33,.int .i64 x34,.int .i64 x35,.int .i64 x36]] H1 fun v9 H'8 =>
 ∃ (A15:Option Addr),∃ (n15:Nat),∃ (c15:Nat),v9 = .slice A15 n15 c15 ∧ appS (160:Nat) (nat_lit 7) (nat_lit 56) H'8 A13 n13 c13 A15 n15 fun (A'1:Option Addr) (n'1 c'1:Nat) (H'9:Heap)=>Rel (pre ++ [i]) A'1 n'1 c'1 (cutN H'5 H'9) ∧ Ax.Sub HI H'9) ∧
 ((x30 == 18) = false →
 (Tr Tryz.prog (43:Nat) #[.pointer r,.agg #[.int .i64 x28,.int .i64 x29,.int .i64 x30,.int .i64 x31,.int .i64 x32,.int .i64 x33,.int .i64 x34,.int .i64 x35,.int .i64 x36]] H1 fun v10 H'10 =>
 ∃ (A16:Option Addr),∃ (n16:Nat),∃ (c16:Nat),v10 = .slice A16 n16 c16 ∧ appS (160:Nat) (nat_lit 7) (nat_lit 56) H'10 A13 n13 c13 A16 n16 fun (A'2:Option Addr) (n'2 c'2:Nat) (H'11:Heap)=>Rel (pre ++ [i]) A'2 n'2 c'2 (cutN H'5 H'11) ∧ Ax.Sub HI H'11) ∧
 Tr Tryz.prog (43:Nat) #[.pointer r,.agg #[.int .i64 x28,.int .i64 x29,.int .i64 x30,.int .i64 x31,.int .i64 x32,.int .i64 x33,.int .i64 x34,.int .i64 x35,.int .i64 x36]] H1 fun v11 H'12 =>
 ∃ (A17:Option Addr),∃ (n17:Nat),∃ (c17:Nat),v11 = .slice A17 n17 c17 ∧ appS (160:Nat) (nat_lit 7) (nat_lit 56) H'12 A13 n13 c13 A17 n17 fun (A'3:Option Addr) (n'3 c'3:Nat) (H'13:Heap)=>Rel (pre ++ [i]) A'3 n'3 c'3 (cutN H'5 H'13) ∧ Ax.Sub HI H'13)) ∧
 ∀ (A18:Option Addr) (n18 c18:Nat) (H2:Heap),Rel ys A18 n18 c18 H2 → NCs H'5 H2 → K (.tuple #[.slice A18 n18 c18,.int .i64 0]) H2)))))
theorem v18 {r:Option Addr} {pFuncsA:Option Addr} {pFuncsn pFuncsc:Nat} {pOptsA:Option Addr} {pOptsn pOptsc:Nat} {now:Int} {draw:Int} {next:Int} {H:Heap} {K:Value → Heap → Prop} (h:F18 r pFuncsA pFuncsn pFuncsc pOptsA pOptsn pOptsc now draw next H K):Tr Tryz.prog 18 #[.pointer r,.agg #[.slice pFuncsA pFuncsn pFuncsc,.slice pOptsA pOptsn pOptsc],.int .i64 now,.int .i64 draw,.int .i64 next] H K :=
  tr_of_eq (C:=c18) Tryz.func18 (show vcFn c18 Tryz.f18 [.pointer r,.agg #[.slice pFuncsA pFuncsn pFuncsc,.slice pOptsA pOptsn pOptsc],.int .i64 now,.int .i64 draw,.int .i64 next] H K = F18 r pFuncsA pFuncsn pFuncsc pOptsA pOptsn pOptsc now draw next H K by kernel_rfl) h
noncomputable def c10:Cx:={ P:=Tryz.prog,res:=[],pub:=[],loops:=[],quiet:=[40],asm:=true }
def F10 (number:Int) (event:Int) (H:Heap) (K:Value → Heap → Prop):Prop :=
 ∃ (s:ByteArray),(Tr Tryz.prog (40:Nat) #[.int .i64 number] H fun v H'=>v = .string s ∧ Ax.Sub H H') ∧ s.size + ({ data:=#[(46:UInt8)] }:ByteArray).size ≤ (9223372036854775807:Nat) ∧ ∃ (s1:ByteArray),(Tr Tryz.prog (40:Nat) #[.int .i64 event] H fun v1 H'1=>v1 = .string s1 ∧ Ax.Sub H H'1) ∧ (s ++ ({ data:=#[(46:UInt8)] }:ByteArray)).size + s1.size ≤ (9223372036854775807:Nat) ∧ K (.string (s ++ ({ data:=#[(46:UInt8)] }:ByteArray) ++ s1)) H
theorem v10 {number:Int} {event:Int} {H:Heap} {K:Value → Heap → Prop} (h:F10 number event H K):Tr Tryz.prog 10 #[.int .i64 number,.int .i64 event] H K :=
  tr_of_eq (C:=c10) Tryz.func10 (show vcFn c10 Tryz.f10 [.int .i64 number,.int .i64 event] H K = F10 number event H K by kernel_rfl) h
noncomputable def c39:Cx:={ P:=Tryz.prog,res:=[],pub:=[6,8],loops:=[],quiet:=[],asm:=true }
def F39  (H:Heap) (K:Value → Heap → Prop):Prop :=
 ∀ (b:Nat),
 H b = none →
 ∀ (H1:Heap),
 H1 = H.upd b (Obj.cells #[.int .i64 0,.int .i64 4,.int .i64 21,.int .i64 0,.int .i64 23,.int .i64 0,.int .i64 1,.int .i64 0,.int .i64 36,.int .i64 0] (179:Nat)) →
 ∀ (b1:Nat),H1 b1 = none → ∀ (H11:Heap),H11 = H1.upd b1 (Obj.cells #[.int .i64 0,.int .i64 0,.slice (some ({ block:=b,off:=(0:Nat) }:Addr)) (5:Nat) (5:Nat)] (132:Nat)) → K (.agg #[.slice (some ({ block:=b1,off:=(0:Nat) }:Addr)) (1:Nat) (1:Nat),.slice none (0:Nat) (0:Nat)]) H11
theorem v39 {H:Heap} {K:Value → Heap → Prop} (h:F39  H K):Tr Tryz.prog 39 #[] H K :=
  tr_of_eq (C:=c39) Tryz.func39 (show vcFn c39 Tryz.f39 [] H K = F39  H K by kernel_rfl) h
noncomputable def c9:Cx:={ P:=Tryz.prog,res:=[],pub:=[1],loops:=[],quiet:=[10,26],asm:=true }
def F9  (H:Heap) (K:Value → Heap → Prop):Prop :=
 Tr Tryz.prog (21:Nat) #[.int .i64 3,.string ({ data:=#[(97:UInt8)] }:ByteArray),.agg #[.int .i64 0,.int .i64 5,.int .i64 0,.int .i64 0,.int .i64 0,.int .i64 0,.int .i64 0,.int .i64 0,.int .i64 0]] H fun v H' =>
 ∃ (x x1 x2:Int) (s:ByteArray) (x3 x4 x5 x6 x7 x8 x9 x10 x11 x12 x13:Int) (A:Option Addr) (n c:Nat) (A1:Option Addr) (n1 c1:Nat) (A2:Option Addr) (n2 c2:Nat) (A3:Option Addr) (n3 c3:Nat) (A4:Option Addr) (n4 c4:Nat),
 v = .agg #[.int .i64 x,.int .i64 x1,.int .i64 x2,.string s,.int .i64 x3,.int .i64 x4,.int .i64 x5,.int .i64 x6,.int .i64 x7,.int .i64 x8,.int .i64 x9,.int .i64 x10,.int .i64 x11,.int .i64 x12,.int .i64 x13,.slice A n c,.slice A1 n1 c1,.slice A2 n2 c2,.slice A3 n3 c3,.slice A4 n4 c4] ∧
 ∀ (b:Nat),
 H' b = none →
 ∀ (H1:Heap),
 H1 =
 H'.upd b
 (Obj.cells
 #[.int .i64 0,.int .i64 0,.int .i64 0,.string ({ data:=#[] }:ByteArray),.int .i64 0,.int .i64 0,.int .i64 0,.int .i64 0,.int .i64 0,.int .i64 0,.int .i64 0,.int .i64 0,.int .i64 0,.int .i64 0,.int .i64 0,
 .slice none (0:Nat) (0:Nat),.slice none (0:Nat) (0:Nat),.slice none (0:Nat) (0:Nat),.slice none (0:Nat) (0:Nat),.slice none (0:Nat) (0:Nat)]
 (34:Nat)) →
 ∃ (c5:Array Value) (T:TypeId),
 H1 ({ block:=b,off:=(0:Nat) }:Addr).block = some (Obj.cells c5 T) ∧
 ({ block:=b,off:=(0:Nat) }:Addr).spot = none ∧
 ({ block:=b,off:=(0:Nat) }:Addr).off +
 [Value.int IntKind.i64 x,Value.int IntKind.i64 x1,Value.int IntKind.i64 x2,Value.string s,Value.int IntKind.i64 x3,Value.int IntKind.i64 x4,Value.int IntKind.i64 x5,Value.int IntKind.i64 x6,Value.int IntKind.i64 x7,Value.int IntKind.i64 x8,Value.int IntKind.i64 x9,Value.int IntKind.i64 x10,Value.int IntKind.i64 x11,Value.int IntKind.i64 x12,Value.int IntKind.i64 x13,Value.slice A n c,Value.slice A1 n1 c1,Value.slice A2 n2 c2,Value.slice A3 n3 c3,Value.slice A4 n4 c4].length ≤
 c5.size ∧
 ∀ (H11:Heap),
 H11 =
 H1.upd ({ block:=b,off:=(0:Nat) }:Addr).block
 (Obj.cells
 (splice c5 ({ block:=b,off:=(0:Nat) }:Addr).off
 [.int .i64 x,.int .i64 x1,.int .i64 x2,.string s,.int .i64 x3,.int .i64 x4,.int .i64 x5,.int .i64 x6,.int .i64 x7,.int .i64 x8,.int .i64 x9,.int .i64 x10,.int .i64 x11,.int .i64 x12,.int .i64 x13,.slice A n c,.slice A1 n1 c1,.slice A2 n2 c2,.slice A3 n3 c3,.slice A4 n4 c4])
 T) →
 Tr Tryz.prog (39:Nat) #[] H11 fun v1 H'1 =>
 ∃ (A5:Option Addr) (n5 c6:Nat) (A6:Option Addr) (n6 c7:Nat),
 v1 = .agg #[.slice A5 n5 c6,.slice A6 n6 c7] ∧
 Tr Tryz.prog (18:Nat) #[.pointer (some ({ block:=b,off:=(0:Nat) }:Addr)),.agg #[.slice A5 n5 c6,.slice A6 n6 c7],.int .i64 5,.int .i64 0,.int .i64 9] H'1 fun v2 H'2 =>
 ∃ (A7:Option Addr) (n7 c8:Nat) (x14:Int),
 v2 = .tuple #[.slice A7 n7 c8,.int .i64 x14] ∧
 ∃ (A8:Option Addr) (n8 c9:Nat),
 At H'2 (({ block:=b,off:=(0:Nat) }:Addr).add (nat_lit 17)) [.slice A8 n8 c9] ∧
 ∃ (A9:Option Addr) (n9 c10:Nat),
 ((!(↑n8:Int) != 1) = true → At H'2 (({ block:=b,off:=(0:Nat) }:Addr).add (nat_lit 17)) [.slice A9 n9 c10]) ∧
 ∃ (a:Addr),
 ((!(↑n8:Int) != 1) = true → A9 = some a ∧ (0:Int) ≤ (0:Int) ∧ (0:Int) < (↑n9:Int)) ∧
 ∃ (x15:Int),
 ((!(↑n8:Int) != 1) = true → At H'2 ((a.add (Int.toNat (0:Int) * nat_lit 2)).add (nat_lit 1)) [.int .i64 x15]) ∧
 ∃ (x16:Int),
 ((!((↑n8:Int) != 1 || x15 != 9)) = true → At H'2 (({ block:=b,off:=(0:Nat) }:Addr).add (nat_lit 9)) [.int .i64 x16]) ∧
 (((↑n8:Int) != 1 || x15 != 9 || x16 != 3) = true → K (.bool false) H'2) ∧
 (((↑n8:Int) != 1 || x15 != 9 || x16 != 3) = false →
 Tr Tryz.prog (16:Nat) #[.pointer (some ({ block:=b,off:=(0:Nat) }:Addr)),.agg #[.int .i64 0,.int .i64 0,.int .i64 25,.int .i64 3,.int .i64 0,.int .i64 0,.int .i64 0,.int .i64 0,.int .i64 0],.int .i64 8] H'2
 fun v3 H'3 =>
 ∃ (x17:Int) (A10:Option Addr) (n10 c11:Nat) (x18:Int),
 v3 = .tuple #[.int .i64 x17,.slice A10 n10 c11,.int .i64 x18] ∧
 Tr Tryz.prog (16:Nat) #[.pointer (some ({ block:=b,off:=(0:Nat) }:Addr)),.agg #[.int .i64 0,.int .i64 0,.int .i64 25,.int .i64 3,.int .i64 0,.int .i64 0,.int .i64 0,.int .i64 0,.int .i64 0],.int .i64 9] H'3
 fun v4 H'4 =>
 ∃ (x19:Int) (A11:Option Addr) (n11 c12:Nat) (x20:Int),
 v4 = .tuple #[.int .i64 x19,.slice A11 n11 c12,.int .i64 x20] ∧
 Tr Tryz.prog (39:Nat) #[] H'4 fun v5 H'5 =>
 ∃ (A12:Option Addr) (n12 c13:Nat) (A13:Option Addr) (n13 c14:Nat),
 v5 = .agg #[.slice A12 n12 c13,.slice A13 n13 c14] ∧
 Tr Tryz.prog (18:Nat) #[.pointer (some ({ block:=b,off:=(0:Nat) }:Addr)),.agg #[.slice A12 n12 c13,.slice A13 n13 c14],.int .i64 9,.int .i64 0,.int .i64 9] H'5 fun v6 H'6 =>
 ∃ (A14:Option Addr) (n14 c15:Nat) (x21:Int),
 v6 = .tuple #[.slice A14 n14 c15,.int .i64 x21] ∧
 ∃ (s1:ByteArray),
 (Tr Tryz.prog (10:Nat) #[.int .i64 12,.int .i64 7] H'6 fun v7 H'7=>v7 = .string s1 ∧ Ax.Sub H'6 H'7) ∧
 ∃ (x22 x23 x24:Int) (s2:ByteArray) (x25 x26 x27 x28 x29 x30 x31 x32 x33 x34 x35:Int) (A15:Option Addr) (n15 c16:Nat) (A16:Option Addr) (n16 c17:Nat) (A17:Option Addr) (n17 c18:Nat) (A18:Option Addr) (n18 c19:Nat) (A19:Option Addr) (n19 c20:Nat),
 At H'6 ({ block:=b,off:=(0:Nat) }:Addr)
 [.int .i64 x22,.int .i64 x23,.int .i64 x24,.string s2,.int .i64 x25,.int .i64 x26,.int .i64 x27,.int .i64 x28,.int .i64 x29,.int .i64 x30,.int .i64 x31,.int .i64 x32,
 .int .i64 x33,.int .i64 x34,.int .i64 x35,.slice A15 n15 c16,.slice A16 n16 c17,.slice A17 n17 c18,.slice A18 n18 c19,.slice A19 n19 c20] ∧
 ∃ (b1:Bool),
 (Tr Tryz.prog (26:Nat)
 #[.agg
 #[.int .i64 x22,.int .i64 x23,.int .i64 x24,.string s2,.int .i64 x25,.int .i64 x26,.int .i64 x27,.int .i64 x28,.int .i64 x29,.int .i64 x30,.int .i64 x31,.int .i64 x32,
 .int .i64 x33,.int .i64 x34,.int .i64 x35,.slice A15 n15 c16,.slice A16 n16 c17,.slice A17 n17 c18,.slice A18 n18 c19,.slice A19 n19 c20]]
 H'6 fun v8 H'8=>v8 = .bool b1 ∧ Ax.Sub H'6 H'8) ∧
 ∃ (A20:Option Addr) (n20 c21:Nat),
 ((x14 == 0 && x18 == 54 && x20 == 0 && x19 == 4 && x21 == 0) = true → At H'6 (({ block:=b,off:=(0:Nat) }:Addr).add (nat_lit 15)) [.slice A20 n20 c21]) ∧
 K (.bool (x14 == 0 && x18 == 54 && x20 == 0 && x19 == 4 && x21 == 0 && (↑n20:Int) == 6 && !b1 && beqS s1 ({ data:=#[(49:UInt8),(50:UInt8),(46:UInt8),(55:UInt8)] }:ByteArray))) H'6)
theorem v9 {H:Heap} {K:Value → Heap → Prop} (h:F9  H K):Tr Tryz.prog 9 #[] H K :=
  tr_of_eq (C:=c9) Tryz.func9 (show vcFn c9 Tryz.f9 [] H K = F9  H K by kernel_rfl) h
noncomputable def c3:Cx:={ P:=Tryz.prog,res:=[],pub:=[],loops:=[],quiet:=[9,10,11],asm:=true }
def F3 (withNumber:Int) (withEvent:Int) (withOther:Int) (withMore:Int) (H:Heap) (K:Value → Heap → Prop):Prop :=
 ∃ (b:Bool),
 (Tr Tryz.prog (9:Nat) #[] H fun v H'=>v = .bool b ∧ Ax.Sub H H') ∧
 ∃ (s:ByteArray),
 (Tr Tryz.prog (10:Nat) #[.int .i64 withNumber,.int .i64 withEvent] H fun v1 H'1=>v1 = .string s ∧ Ax.Sub H H'1) ∧
 ∃ (s1:ByteArray),(Tr Tryz.prog (10:Nat) #[.int .i64 withOther,.int .i64 withMore] H fun v2 H'2=>v2 = .string s1 ∧ Ax.Sub H H'2) ∧ ∃ (s2:ByteArray),(b = true → Tr Tryz.prog (11:Nat) #[.int .i64 withNumber,.int .i64 withEvent] H fun v3 H'3=>v3 = .string s2 ∧ Ax.Sub H H'3) ∧ K (.bool (b && beqS s s2 && beqS s s1 == (withNumber == withOther && withEvent == withMore))) H
theorem v3 {withNumber:Int} {withEvent:Int} {withOther:Int} {withMore:Int} {H:Heap} {K:Value → Heap → Prop} (h:F3 withNumber withEvent withOther withMore H K):Tr Tryz.prog 3 #[.agg #[.int .i64 withNumber,.int .i64 withEvent,.int .i64 withOther,.int .i64 withMore]] H K :=
  tr_of_eq (C:=c3) Tryz.func3 (show vcFn c3 Tryz.f3 [.agg #[.int .i64 withNumber,.int .i64 withEvent,.int .i64 withOther,.int .i64 withMore]] H K = F3 withNumber withEvent withOther withMore H K by kernel_rfl) h
end Go.Proofs.YtkofafcgcnciaaaGreatDoor
set_option maxRecDepth 100000
namespace Go.Proofs.YtkofafcgcnciaaaGreatDoor
open Go.Ax
theorem own_upd {H H1:Heap} {A:Option Addr} {n c sz:Nat} {cs:List Value} (h:OwnS H H1 A n c sz cs) {b:Nat} (o:Obj) (hb:H b ≠ none):OwnS (H.upd b o) (H1.upd b o) A n c sz cs:=by
  refine ⟨⟨fun i o' e=>?_⟩,h.len,h.cap,?_⟩
  · by_cases hi:i = b
    · subst hi; rw [Heap.upd_same] at e ⊢; exact e
    · rw [Heap.upd_other hi] at e ⊢; exact h.sub.sub i o' e
  · rcases h.at_ with q | ⟨bb,cur,T,q0,q1,q2,q3,q4⟩
    · exact .inl q
    · have hne:bb ≠ b:=fun e=>by subst e; exact hb q1
      exact .inr ⟨bb,cur,T,q0,by rw [Heap.upd_other hne]; exact q1,by rw [Heap.upd_other hne]; exact q2,q3,q4⟩
theorem sub_upd_none {H H1:Heap} (h:Sub H H1) {b:Nat} (o:Obj) (hb:H b = none):Sub H (H1.upd b o):=⟨fun i o' e=>by
  have hne:i ≠ b:=fun q=>by subst q; rw [hb] at e; cases e
  rw [Heap.upd_other hne]; exact h.sub i o' e⟩
structure Rd (l:List Ev) (H:Heap) (b b1:Nat) (x:Int) (Hc:Heap):Prop where
  out:∃ m:Nat,x = m ∧ m ≤ l.length ∧ (∀ j,j < m → ∀ y,l[j]? = some y → mayP (l.take j) y = true) ∧ ∃ (A:Option Addr) (n c:Nat) (es:Array MapEntry) (cl:Nat),
    Hc b1 = some (.cells #[.slice A n c,.map (some b),.bool (overP (l.take m))] 177 (0,0)) ∧ Hc b = some (.map es cl) ∧ Marks es (marks (l.take m)) ∧ ∃ Ho:Heap,Sub H Ho ∧ Ho b ≠ none ∧ Ho b1 ≠ none ∧ OwnS Ho Hc A n c 9 ((l.take m).flatMap Ev.cells)
theorem keep_at {Ho H1 H2:Heap} {b:Nat} {o:Obj} (h:Ho b ≠ none) (s1:Sub Ho H1) (s2:Sub Ho H2) (e:H1 b = some o):H2 b = some o:=by
  cases hh:Ho b with
  | none=>exact absurd hh h
  | some o' =>
    have:=s1.sub b o' hh
    rw [e] at this; cases this
    exact s2.sub b _ hh
def ReadV (l:List Ev) (H:Heap) (v:Value) (H':Heap):Prop:=∃ b1:Nat,v = .tuple #[.pointer (some ⟨b1,0,none⟩),.int .i64 (stand l:Nat)] ∧ Book H' b1 (l.take (stand l)) ∧ Sub H H'
theorem t84 {l:List Ev} (hb:l.length * 72 ≤ 140737488355328) {H:Heap} {A:Option Addr} {n c:Nat} (h:HasEvs H A n l):Tr Tryz.prog 84 #[.slice A n c] H (ReadV l H):=by
  have hn:=h.len; subst hn
  apply v84; unfold F84
  intro b hb0 H1 e1 b1 hb1 H11 e11
  have hbb:b ≠ b1:=fun e=>by subst e; rw [e1,Heap.upd_same] at hb1; cases hb1
  have hHb1:H b1 = none:=by rw [e1,Heap.upd_other hbb.symm] at hb1; exact hb1
  have s11:Sub H H11:=by subst e1; subst e11; exact sub_upd_none (sub_upd_none (Sub.refl _) _ hb0) _ hHb1
  refine ⟨Rd l H b b1,fun i _=>(l.length - i).toNat,⟨0,rfl,by omega,fun j hj=>absurd hj (by omega),none,0,0,#[],0,?_,?_,Marks.nil,H11,s11,?_,?_,OwnS.nil _ _⟩,fun x Hc r=>?_⟩
  · subst e11; exact Heap.upd_same
  · subst e11; subst e1; rw [Heap.upd_other hbb,Heap.upd_same]
  · subst e11; subst e1; rw [Heap.upd_other hbb,Heap.upd_same]; simp
  · subst e11; rw [Heap.upd_same]; simp
  obtain ⟨m,rfl,hm,hs,B,n,c',es,cl,g1,g2,g3,Ho,k1,k2,k3,o⟩:=r.out
  have ho:=OwnS.evs o
  have hn:n = m:=by rw [ho.len,len_take hm]
  subst hn
  have bk:Book Hc b1 (l.take n):=⟨B,n,c',b,es,cl,g1,ho,g2,g3⟩
  have sc:Sub H Hc:=k1.trans o.sub
  refine ⟨fun hlt=>?_,fun hge=>?_⟩
  · have hlt:=of_decide_eq_true hlt
    obtain ⟨x,hx⟩:=get_some (l:=l) (i:=n) (by omega)
    obtain ⟨a,ha,hat⟩:=h.at_ n x hx
    refine ⟨a,⟨ha,by omega,by omega⟩,_,_,_,_,_,_,_,_,_,hat.sub sc,_,t128 (by rw [len_take hm]; omega) bk x,fun q=>?_,fun q=>?_⟩
    · have q:mayP (l.take n) x = false:=by simpa using q
      have hst:stand l = n:=stand_spec hs (by omega) fun y hy=>by rw [hx] at hy; cases hy; exact q
      exact ⟨b1,by rw [hst],by rw [hst]; exact bk,sc⟩
    · have q:mayP (l.take n) x = true:=by simpa using q
      have hk : ∀ (A' : Option Addr) (c'' : Nat) (H' : Heap), OwnS Ho H' A' (n + 1) c'' 9 ((l.take n).flatMap Ev.cells ++ x.cells) →
          ∃ a2:Addr,some (⟨b1,0,none⟩:Addr) = some a2 ∧ ∃ (c1:Array Value) (T:TypeId),H' (a2.add 0).block = some (Obj.cells c1 T) ∧ (a2.add 0).spot = none ∧ (a2.add 0).off + [Value.slice A' (n + 1) c''].length ≤ c1.size ∧
          ∀ H12:Heap,H12 = H'.upd (a2.add 0).block (Obj.cells (splice c1 (a2.add 0).off [Value.slice A' (n + 1) c'']) T) →
          ∃ a3:Addr,some (⟨b1,0,none⟩:Addr) = some a3 ∧ ∃ v1:Option Nat,At H12 (a3.add 1) [Value.map v1] ∧
          Sm Tryz.prog (updU (Instr.mapUpdate 175 (Value.map v1) (Value.agg #[Value.int .i64 x.kind,Value.int .i64 x.a]) (Value.bool true))) H12 fun v2 H'2=>∃ b3:Bool,
            (Tr Tryz.prog 53 #[Value.int .i64 x.kind] H'2 fun v3 H'3=>v3 = Value.bool b3 ∧ Sub H'2 H'3) ∧ ∃ a4:Addr,some (⟨b1,0,none⟩:Addr) = some a4 ∧ ∃ (c2:Array Value) (T1:TypeId),H'2 (a4.add 2).block = some (Obj.cells c2 T1) ∧ (a4.add 2).spot = none ∧
            (a4.add 2).off + [Value.bool b3].length ≤ c2.size ∧ ∀ H13:Heap,H13 = H'2.upd (a4.add 2).block (Obj.cells (splice c2 (a4.add 2).off [Value.bool b3]) T1) →
            Rd l H b b1 (IntKind.i64.wrap ((n:Int) + 1)) H13 ∧ (l.length - IntKind.i64.wrap ((n:Int) + 1)).toNat < (l.length - (n:Int)).toNat:=by
        intro A' c'' H' o'
        have g1':=keep_at k3 o.sub o'.sub g1
        have g2':=keep_at k2 o.sub o'.sub g2
        refine ⟨_,rfl,#[.slice B n c',.map (some b),.bool (overP (l.take n))],177,g1',rfl,by show 0 + 1 ≤ 3; omega,fun H12 e12=>?_⟩
        have e12:H12 = H'.upd b1 (.cells #[.slice A' (n + 1) c'',.map (some b),.bool (overP (l.take n))] 177 (0,0)):=e12
        have g3':H12 b = some (.map es cl):=by rw [e12,Heap.upd_other hbb]; exact g2'
        refine ⟨_,rfl,some b,at_fld (T:=177) (fz:=(0,0)) (c:=#[.slice A' (n + 1) c'',.map (some b),.bool (overP (l.take n))]) 1 (by rw [e12]; exact Heap.upd_same) rfl,smMono (sm_update g3' g3 x.kind x.a) fun v Hu=>?_⟩
        rintro ⟨es',cl',hm',eu⟩
        have g4:Hu b1 = some (.cells #[.slice A' (n + 1) c'',.map (some b),.bool (overP (l.take n))] 177 (0,0)):=by rw [eu,Heap.upd_other hbb.symm,e12]; exact Heap.upd_same
        refine ⟨_,t53 x.kind _,_,rfl,#[.slice A' (n + 1) c'',.map (some b),.bool (overP (l.take n))],177,g4,rfl,by show 2 + 1 ≤ 3; omega,fun H13 e13=>?_⟩
        have e13:H13 = Hu.upd b1 (.cells #[.slice A' (n + 1) c'',.map (some b),.bool (closeM x.kind)] 177 (0,0)):=e13
        rw [wrapi (by omega) (by omega)]
        refine ⟨⟨n + 1,by omega,by omega,fun j hj y hy=>?_,A',n + 1,c'',es',cl',?_,?_,?_,((Ho.upd b1 (.cells #[.slice A' (n + 1) c'',.map (some b),.bool (overP (l.take n))] 177 (0,0))).upd b (.map es' cl')).upd b1 (.cells #[.slice A' (n + 1) c'',.map (some b),.bool (closeM x.kind)] 177 (0,0)),?_,?_,?_,?_⟩,?_⟩
        · by_cases hjn:j = n
          · subst hjn; rw [hx] at hy; cases hy; exact q
          · exact hs j (by omega) y hy
        · rw [take_snoc hx,overP_snoc,e13]; exact Heap.upd_same
        · rw [e13,Heap.upd_other hbb,eu]; exact Heap.upd_same
        · rw [take_snoc hx,marks_snoc]; exact hm'
        · exact sub_upd_none (sub_upd_none (sub_upd_none k1 _ hHb1) _ hb0) _ hHb1
        · rw [Heap.upd_other hbb,Heap.upd_same]; simp
        · rw [Heap.upd_same]; simp
        · rw [e13,eu,e12,take_snoc hx,List.flatMap_append]
          have:[x].flatMap Ev.cells = x.cells:=by simp
          rw [this]
          refine own_upd (own_upd (own_upd o' _ k3) _ ?_) _ ?_
          · rw [Heap.upd_other hbb]; exact k2
          · rw [Heap.upd_other hbb.symm,Heap.upd_same]; simp
        · omega
      refine ⟨_,rfl,⟨B,n,c',at_fld 0 g1 rfl,own_app o (m:=1) (by rfl) (by rfl) (Nat.le_trans (Nat.mul_le_mul_right 72 (show n + 1 ≤ l.length by omega)) hb) (by omega) hk⟩,⟨B,n,c',at_fld 0 g1 rfl,own_app o (m:=1) (by rfl) (by rfl) (Nat.le_trans (Nat.mul_le_mul_right 72 (show n + 1 ≤ l.length by omega)) hb) (by omega) hk⟩⟩
  · have hge:=of_decide_eq_false hge
    have hnl:n = l.length:=by omega
    have hst:stand l = n:=stand_spec hs (by omega) fun y hy=>by rw [hnl,List.getElem?_eq_none (Nat.le_refl _)] at hy; cases hy
    exact ⟨b1,by rw [hst,hnl],by rw [hst]; exact bk,sc⟩
theorem t36 {l:List Ev} (hb:l.length * 72 ≤ 140737488355328) {H:Heap} {A:Option Addr} {n c:Nat} (h:HasEvs H A n l):Tr Tryz.prog 36 #[.slice A n c] H (fun v H'=>v = checkV l ∧ Sub H H'):=by
  have hn:=h.len; subst hn
  apply v36; unfold F36
  refine (t84 hb h).mono fun v H'=>?_
  rintro ⟨b1,rfl,bk,s⟩
  refine ⟨_,_,rfl,fun q=>⟨?_,s⟩,fun q=>⟨?_,s⟩⟩
  · have q:=of_decide_eq_true q
    unfold checkV; rw [if_pos (by omega)]
  · have q:=of_decide_eq_false q
    unfold checkV; rw [if_neg (by omega)]
theorem t130 {l : List Int} (hb : l.length ≤ 9223372036854775807) {H : Heap} {A : Option Addr} {n c : Nat} (h : HasI H A n l) (v : Int) :
    ∃ x:Int,(decide (x ≥ 0) = l.contains v) ∧ Tr Tryz.prog 130 #[.slice A n c,.int .i64 v] H (fun r H'=>r = .int .i64 x ∧ Sub H H'):=by
  have hn:=h.len; subst hn
  by_cases hv:v ∈ l
  · obtain ⟨k, hk, hkv⟩ : ∃ k : Nat, l[k]? = some v ∧ ∀ j, j < k → ∀ x, l[j]? = some x → x ≠ v := by
      refine ⟨l.idxOf v,?_,fun j hj x hx e=>?_⟩
      · have:=List.idxOf_lt_length_of_mem hv
        rw [List.getElem?_eq_getElem this,List.getElem_idxOf this]
      · subst e
        have hjl:=get_lt hx
        have:=List.not_of_lt_findIdx (p:=(· == x)) (xs:=l) (i:=j) hj
        rw [List.getElem?_eq_getElem hjl] at hx
        cases hx
        simp at this
    refine ⟨k,by simp [hv],?_⟩
    have hkl:=get_lt hk
    apply v130; unfold F130
    refine ⟨fun i H1=>H1 = H ∧ ∃ m:Nat,i = m ∧ m ≤ k,fun i _=>(l.length - i).toNat,⟨rfl,0,rfl,by omega⟩,fun i H1 r=>?_⟩
    obtain ⟨hH,m,rfl,hm⟩:=r
    subst hH
    refine ⟨fun hlt=>?_,fun hge=>?_⟩
    · have hlt:=of_decide_eq_true hlt
      obtain ⟨x,hx⟩:=get_some (l:=l) (i:=m) (by omega)
      obtain ⟨a,ha,hat⟩:=h.at_ m x hx
      refine ⟨a,⟨ha,by omega,by omega⟩,x,hat,fun q=>⟨?_,Sub.refl _⟩,fun q=>?_⟩
      · have q:v = x:=by simpa using q
        have:m = k:=by
          by_cases e:m < k
          · exact absurd q.symm (hkv m e x hx)
          · omega
        rw [this]
      · have q:v ≠ x:=by simpa using q
        have:m ≠ k:=fun e=>by subst e; rw [hk] at hx; cases hx; exact q rfl
        rw [wrapi (by omega) (by omega)]
        refine ⟨⟨rfl,m + 1,by omega,by omega⟩,?_⟩
        show (l.length - ((m:Int) + 1)).toNat < (l.length - (m:Int)).toNat
        omega
    · have hge:=of_decide_eq_false hge
      omega
  · refine ⟨-1,by simp [hv],?_⟩
    apply v130; unfold F130
    refine ⟨fun i H1=>H1 = H ∧ ∃ m:Nat,i = m ∧ m ≤ l.length,fun i _=>(l.length - i).toNat,⟨rfl,0,rfl,by omega⟩,fun i H1 r=>?_⟩
    obtain ⟨hH,m,rfl,hm⟩:=r
    subst hH
    refine ⟨fun hlt=>?_,fun hge=>⟨rfl,Sub.refl _⟩⟩
    have hlt:=of_decide_eq_true hlt
    obtain ⟨x,hx⟩:=get_some (l:=l) (i:=m) (by omega)
    obtain ⟨a,ha,hat⟩:=h.at_ m x hx
    refine ⟨a,⟨ha,by omega,by omega⟩,x,hat,fun q=>?_,fun q=>?_⟩
    · have q:v = x:=by simpa using q
      subst q; exact absurd (List.mem_of_getElem? hx) hv
    · rw [wrapi (by omega) (by omega)]
      refine ⟨⟨rfl,m + 1,by omega,by omega⟩,?_⟩
      show (l.length - ((m:Int) + 1)).toNat < (l.length - (m:Int)).toNat
      omega
theorem t88 {l : List Int} (hb : l.length ≤ 9223372036854775807) {H : Heap} {A : Option Addr} {n c : Nat} (h : HasI H A n l) (v : Int) :
    Tr Tryz.prog 88 #[.slice A n c,.int .i64 v] H (fun r H'=>r = .bool (l.contains v) ∧ Sub H H'):=by
  obtain ⟨x,hx,ht⟩:=t130 (c:=c) hb h v
  apply v88; unfold F88
  exact ⟨x,ht,by rw [hx],Sub.refl _⟩
end Go.Proofs.YtkofafcgcnciaaaGreatDoor
set_option maxRecDepth 100000
namespace Go.Proofs.YtkofafcgcnciaaaGreatDoor
open Go.Ax
theorem check_one {l:List Ev}:(checkV l = .tuple #[.int .i64 52,.int .i64 (stand l:Nat)] ∧ stand l < l.length) ∨ (checkV l = .tuple #[.int .i64 0,.int .i64 0] ∧ ¬ stand l < l.length):=by
  unfold checkV
  split
  · rename_i h; exact .inl ⟨rfl,h⟩
  · rename_i h; exact .inr ⟨rfl,h⟩
end Go.Proofs.YtkofafcgcnciaaaGreatDoor
set_option maxRecDepth 100000
namespace Go.Proofs.YtkofafcgcnciaaaGreatDoor
open Go.Ax
theorem Hand.app {G0 H : Heap} {q : SlH} {sz : Nat} {cs : List Value} (hd : Hand G0 H q sz cs) {e : TypeId} {bytes : Nat} {new : List Value} {k : Nat} (hk : new.length = k * sz) (h1 : allOne new = true) (hb : (q.n + k) * bytes ≤ 140737488355328) (hl : q.n + k ≤ 9223372036854775807)
    {K:Option Addr → Nat → Nat → Heap → Prop} (r:∀ A' c' H',Hand G0 H' ⟨A',q.n + k,c'⟩ sz (cs ++ new) → K A' (q.n + k) c' H'):appC e sz bytes H q.A q.n q.c new k K:=by
  have ok:=hd.sl
  have hlen:=ok.len
  refine ⟨⟨cs,ok.src,ok.len,hk,h1,hb,hl,fun hcap=>?_,fun hcap i cap rest hbn hle hr=>?_⟩⟩
  · rcases ok.at_ with ⟨a1,a2,a3⟩ | ⟨i,off,cur,T,a1,a2,a3,a4⟩
    · left
      have k0:k = 0:=by omega
      subst k0
      have hn:new = []:=List.length_eq_zero_iff.1 (by omega)
      subst hn
      refine ⟨rfl,r _ _ _ ⟨hd.g,⟨by rw [List.append_nil]; simpa using ok.len,hcap,.inl ⟨a1,by simp only; omega,a3⟩⟩,fun i hi=>?_⟩⟩
      unfold SlH.blk at hi; simp only at hi; rw [a1] at hi; cases hi
    · right
      have hsz:(off + q.n * sz) + new.length ≤ cur.size:=by
        have:(q.n + k) * sz ≤ q.c * sz:=Nat.mul_le_mul_right _ hcap
        rw [Nat.add_mul] at this
        omega
      have hblk:q.blk = some i:=by unfold SlH.blk; rw [a1]; rfl
      refine ⟨⟨i,off,none⟩,cur,T,a1,rfl,a2,hsz,r _ _ _ ⟨base_upd hd.g (hd.free i hblk) _,⟨?_,hcap,.inr ⟨i,off,_,T,a1,Heap.upd_same,?_,fun j v hv=>?_⟩⟩,fun b' hb'=>?_⟩⟩
      · rw [List.length_append,hlen,hk,Nat.add_mul]
      · rw [splice_size hsz]; exact a3
      · by_cases hj:j < q.n * sz
        · rw [List.getElem?_append_left (by omega)] at hv
          rw [splice_get hsz,if_pos (by omega)]; exact a4 j v hv
        · have hlt:=get_lt hv
          rw [List.length_append] at hlt
          rw [List.getElem?_append_right (by omega),hlen] at hv
          rw [splice_get hsz,if_neg (by omega),if_pos (by omega)]
          rw [← hv]; congr 1; omega
      · unfold SlH.blk at hb'; simp only at hb'; rw [a1] at hb'; cases hb'
        exact hd.free i hblk
  · refine r _ _ _ ⟨hd.g.trans (Sub.upd_new hbn),⟨by rw [List.length_append,ok.len,hk,Nat.add_mul],hle,.inr ⟨i,0,_,e,rfl,Heap.upd_same,?_,fun j v hv=>?_⟩⟩,fun b' hb'=>?_⟩
    · simp only [List.size_toArray,List.length_append,ok.len,hk,hr]
      rw [← Nat.add_mul,← Nat.add_mul]
      have:q.n + k + (cap - (q.n + k)) = cap:=by omega
      rw [this]; simp
    · have hj:=get_lt hv
      simp only [List.getElem?_toArray,Nat.zero_add]
      rw [List.getElem?_append_left hj]; exact hv
    · unfold SlH.blk at hb'; simp only at hb'; cases hb'
      exact none_below hd.g hbn
structure RunL (G H:Heap) (sl:Nat → SlH) (R:RS):Prop where
  gh:Sub G H
  own:∀ c,c < 5 → ∀ i,(sl c).blk = some i → G i = none
  inj:∀ c c' i,c < 5 → c' < 5 → (sl c).blk = some i → (sl c').blk = some i → c = c'
  ok:∀ c,c < 5 → SlOk H (sl c) (szR c) (contR R c)
  attrs:R.attrs.length = 4
theorem RunX.l {G H:Heap} {b:Nat} {sl:Nat → SlH} {R:RS} (h:RunX G H b sl R):RunL G H sl R:=⟨h.gh,fun c hc i hi=>(h.own c hc i hi).1,h.inj,h.ok,h.attrs⟩
theorem RunL.box {G H:Heap} {sl:Nat → SlH} {R:RS} (h:RunL G H sl R) {b:Nat} (hb:H b = none):RunX G (H.upd b (.cells ⟨rCells sl R⟩ 34 (0,0))) b sl R :=
  ⟨h.gh.trans (Sub.upd_new hb),none_below h.gh hb,Heap.upd_same,fun c hc i hi=>⟨h.own c hc i hi,fun e=>(by subst e; have:=(h.ok c hc).blk_some hi; rw [hb] at this; cases this)⟩,h.inj,fun c hc=>(h.ok c hc).sub (Sub.upd_new hb),h.attrs⟩
theorem splice_all {cur:Array Value} {vs:List Value} (h:cur.size = vs.length):splice cur 0 vs = ⟨vs⟩:=by
  unfold splice
  rw [List.take_zero,List.nil_append,Nat.zero_add,List.drop_of_length_le (by simp [h]),List.append_nil]
theorem RunL.var {G H : Heap} {sl : Nat → SlH} {R : RS} (h : RunL G H sl R) {b : Nat} (hb : H b = none) {cur : List Value} (hc : cur.length = 20) {H1 : Heap} (e1 : H1 = H.upd b (.cells ⟨cur⟩ 34 (0, 0))) {K : Heap → Prop} (k : ∀ H', RunX G H' b sl R → K H') :
    ∃ (c:Array Value) (T:TypeId),H1 (⟨b,0,none⟩:Addr).block = some (.cells c T (0,0)) ∧ (⟨b,0,none⟩:Addr).spot = none ∧ (⟨b,0,none⟩:Addr).off + (rCells sl R).length ≤ c.size ∧ ∀ H2,H2 = H1.upd (⟨b,0,none⟩:Addr).block (.cells (splice c (⟨b,0,none⟩:Addr).off (rCells sl R)) T (0,0)) → K H2:=by
  subst e1
  refine ⟨⟨cur⟩,_,Heap.upd_same,rfl,by show 0 + 20 ≤ cur.length; omega,fun H2 e2=>k H2 ?_⟩
  rw [e2]
  show RunX G ((H.upd b _).upd b (.cells (splice ⟨cur⟩ 0 (rCells sl R)) 34 (0,0))) b sl R
  rw [Heap.upd_upd,splice_all (by show cur.length = 20; exact hc)]
  exact h.box hb
def RS.start (number:Int) (id:ByteArray):RS:={ RS.zero with number:=number,id:=id }
def RS.new (number:Int) (id:ByteArray) (x:Ev):RS:=(RS.start number id).book { x with id:=1,kind:=1 }
def slNil:Nat → SlH:=fun _=>⟨none,0,0⟩
theorem zero_l (H:Heap) (number:Int) (id:ByteArray):RunL H H slNil (RS.start number id) :=
  ⟨Sub.refl _,fun c hc i hi=>(by cases hi),fun c c' i _ _ hi=>(by cases hi),five (P:=fun c=>SlOk H (slNil c) (szR c) (contR (RS.start number id) c)) (Hand.nil (Sub.refl H) 9).sl (Hand.nil (Sub.refl H) 10).sl (Hand.nil (Sub.refl H) 2).sl (Hand.nil (Sub.refl H) 5).sl (Hand.nil (Sub.refl H) 4).sl,rfl⟩
structure NewR (G:Heap) (R:RS) (v:Value) (H':Heap):Prop where
  out:∃ sl,v = .agg ⟨rCells sl R⟩ ∧ RunL G H' sl R
theorem t21 (number:Int) (id:ByteArray) (x:Ev) (H:Heap):Tr Tryz.prog 21 #[.int .i64 number,.string id,x.val] H fun v H'=>NewR H (RS.new number id x) v H':=by
  apply v21; unfold F21
  intro b hb H1 e1
  refine (zero_l H number id).var hb (cur:=rCells slNil RS.zero) rfl e1 fun H2 h2=>?_
  refine (t43 h2 ⟨Nat.zero_le _,Nat.zero_le _,Nat.zero_le _,Nat.zero_le _,Nat.zero_le _⟩ { x with id:=1,kind:=1 } (fun e=>by cases e)).mono fun v H3 ⟨A,n,c,hv,⟨sl3,h3⟩,_,_⟩=>?_
  exact ⟨A,n,c,hv,_,_,_,_,_,_,_,_,_,_,_,_,_,_,_,_,_,_,_,_,_,_,_,_,_,_,_,_,_,_,h3.at,⟨sl3,rfl,h3.l⟩⟩
theorem t26 (sl:Nat → SlH) (R:RS) (H:Heap):Tr Tryz.prog 26 #[.agg ⟨rCells sl R⟩] H fun v H'=>v = .bool (R.status == 1) ∧ Sub H H':=v26 (show _ from ⟨rfl,Sub.refl _⟩)
def fullM (id now:Int):Ev:=⟨id,now,16,-4,0,0,0,0,0⟩
def RS.next (R:RS) (e:Ev) (now:Int):Ev:={ e with id:=(R.events.length:Int) + 1,time:=now }
def RS.Add (R:RS) (e:Ev) (now:Int):(Int × List OutM × Int) × RS :=
  if (!(R.status == 1)) = true then ((0,[],46),R) else
  if (!outR (R.next e now) || decide (stand (R.events ++ [R.next e now]) < (R.events ++ [R.next e now]).length)) = true then ((0,[],54),R) else
  if ((R.next e now).id == 256 && !closeM e.kind) = true then (((R.next e now).id,R.tells (fullM (R.next e now).id now),49),R.book (fullM (R.next e now).id now)) else
  (((R.next e now).id,R.tells (R.next e now),0),R.book (R.next e now))
structure AddR (G:Heap) (b:Nat) (z:(Int × List OutM × Int) × RS) (v:Value) (H':Heap):Prop where
  out:∃ A n c,v = .tuple #[.int .i64 z.1.1,.slice A n c,.int .i64 z.1.2.2] ∧ RunE G H' b z.2 ∧ n = z.1.2.1.length ∧ Src H' A (z.1.2.1.flatMap OutM.cells)
theorem t54 (id now:Int) (H:Heap):Tr Tryz.prog 54 #[.int .i64 id,.int .i64 now] H fun v H'=>v = (fullM id now).val ∧ H' = H:=v54 (show _ from ⟨rfl,rfl⟩)
structure RAdd (G H:Heap) (b:Nat) (sl:Nat → SlH) (R:RS) (l:List Ev) (x:Int) (H1:Heap):Prop where
  x:x = if stand l < l.length then 52 else 0
  h:RunX G H1 b sl R
theorem t16 {G H:Heap} {b:Nat} {sl:Nat → SlH} {R:RS} (h:RunX G H b sl R) (sm:R.Small) (e:Ev) (now:Int):Tr Tryz.prog 16 #[.pointer (some ⟨b,0,none⟩),e.val,.int .i64 now] H fun v H'=>AddR G b (R.Add e now) v H':=by
  have sE:=sm.e
  have l0:=h.len0
  apply v16; unfold F16
  refine ⟨fun e=>absurd e (by simp),fun _=>⟨_,rfl,_,_,_,_,_,_,_,_,_,_,_,_,_,_,_,_,_,_,_,_,_,_,_,_,_,_,_,_,_,_,h.at,_,t26 sl R H,fun q=>?_,fun q=>⟨_,rfl,_,_,_,h.cell (k:=15) rfl,?_⟩⟩⟩
  · have ea:R.Add e now = ((0,[],46),R):=by unfold RS.Add; rw [if_pos q]
    rw [ea]
    exact ⟨none,0,0,rfl,h.e,rfl,.inl rfl⟩
  have hw:IntKind.i64.wrap (((sl 0).n:Int) + 1) = (R.events.length:Int) + 1:=by rw [wrapi (by omega) (by omega),l0]
  rw [hw]
  have ea : R.Add e now = if (!outR (R.next e now) || decide (stand (R.events ++ [R.next e now]) < (R.events ++ [R.next e now]).length)) = true then ((0, [], 54), R) else
      if ((R.next e now).id == 256 && !closeM e.kind) = true then (((R.next e now).id,R.tells (fullM (R.next e now).id now),49),R.book (fullM (R.next e now).id now)) else (((R.next e now).id,R.tells (R.next e now),0),R.book (R.next e now)):=by
    conv=>lhs; unfold RS.Add
    rw [if_neg (by rw [q]; decide)]
  have hx:R.next e now = { e with id:=(R.events.length:Int) + 1,time:=now }:=rfl
  refine ⟨RAdd G H b sl R (R.events ++ [R.next e now]),?_,fun x H1 ⟨hxx,h1⟩=>?_⟩
  · have core : Tr Tryz.prog 51 #[(sl 0).v] H fun v H1 => ∃ A n c, v = .slice A n c ∧ appC 47 9 72 H1 A n c (R.next e now).cells 1 fun A' n' c' H2 => ∃ x y : Int, (Tr Tryz.prog 36 #[.slice A' n' c'] H2 fun v H3 => v = .tuple #[.int .i64 x, .int .i64 y] ∧ Sub H2 H3) ∧ RAdd G H b sl R (R.events ++ [R.next e now]) x H2 := by
      refine Tr.mono (K:=fun v H1=>∃ q1:SlH,v = q1.v ∧ q1.n = R.events.length ∧ Hand H H1 q1 9 (R.events.flatMap Ev.cells)) ?_ fun v H1 ⟨q1,hv,hqn,hd⟩=>⟨_,_,_,hv,?_⟩
      · apply v51; unfold F51
        have ok:=h.ok 0 (by decide)
        exact clone_in (bytes:=72) (K:=fun v H1=>∃ q1:SlH,v = q1.v ∧ q1.n = R.events.length ∧ Hand H H1 q1 9 (R.events.flatMap Ev.cells)) ok.src ok.len ok.nil_n (evs_one _) (by omega) (by omega) fun q1 H1 hq hd=>⟨q1,rfl,by rw [hq,l0],hd⟩
      · refine hd.app (new:=(R.next e now).cells) (k:=1) rfl rfl (by omega) (by omega) fun A' c' H2 hd2=>?_
        have hd2:Hand H H2 ⟨A',q1.n + 1,c'⟩ 9 ((R.events ++ [R.next e now]).flatMap Ev.cells):=by rw [List.flatMap_append,List.flatMap_singleton]; exact hd2
        have he:=hand_evs hd2.sl
        have gc:=t36 (c:=c') (by rw [List.length_append,List.length_singleton]; omega) he
        rcases check_one (l:=R.events ++ [R.next e now]) with ⟨cv,hs⟩ | ⟨cv,hs⟩
        · rw [cv] at gc
          exact ⟨_,_,gc,by rw [if_pos hs],h.grow hd2.g⟩
        · rw [cv] at gc
          exact ⟨_,_,gc,by rw [if_neg hs],h.grow hd2.g⟩
    exact ⟨_,rfl,⟨_,_,_,h.cell (k:=15) rfl,core,core⟩,_,_,_,h.cell (k:=15) rfl,core⟩
  · have key : (!outR (R.next e now) || x != 0) = (!outR (R.next e now) || decide (stand (R.events ++ [R.next e now]) < (R.events ++ [R.next e now]).length)) := by
      rw [hxx]
      by_cases hs:stand (R.events ++ [R.next e now]) < (R.events ++ [R.next e now]).length
      · rw [if_pos hs,decide_eq_true hs]; rfl
      · rw [if_neg hs,decide_eq_false hs]; rfl
    refine ⟨_,t52 (R.next e now) H1,fun q2=>?_,fun q2=>?_⟩
    · rw [ea,if_pos (by rw [← key]; exact q2)]
      exact ⟨none,0,0,rfl,h1.e,rfl,.inl rfl⟩
    have q4:¬ (!outR (R.next e now) || decide (stand (R.events ++ [R.next e now]) < (R.events ++ [R.next e now]).length)) = true:=by rw [← key,q2]; decide
    rw [if_neg q4] at ea
    refine ⟨_,fun _=>t53 e.kind H1,fun q3=>?_,fun q3=>?_⟩
    · rw [if_pos (show ((R.next e now).id == 256 && !closeM e.kind) = true from q3)] at ea
      rw [ea]
      refine (t54 ((R.events.length:Int) + 1) now H1).mono fun v H2 ⟨hv,eH⟩=>⟨_,_,_,_,_,_,_,_,_,hv,?_⟩
      rw [eH]
      exact (t43 h1 sm (fullM ((R.events.length:Int) + 1) now) (fun e=>by cases e)).mono fun v H3 ⟨A,n,c,hv,h3,hn,hs⟩=>⟨A,n,c,hv,A,n,c,rfl,h3,hn,hs⟩
    · rw [if_neg (by rw [show ((R.next e now).id == 256 && !closeM e.kind) = false from q3]; decide)] at ea
      rw [ea]
      have hk:(R.next e now).kind = 10 → 0 ≤ (R.next e now).a ∧ (R.next e now).a < 4:=fun k=>by
        exfalso
        apply q4
        have:outR (R.next e now) = false:=by unfold outR; rw [k]; rfl
        rw [this]; rfl
      exact (t43 h1 sm (R.next e now) hk).mono fun v H3 ⟨A,n,c,hv,h3,hn,hs⟩=>⟨A,n,c,hv,A,n,c,rfl,h3,hn,hs⟩
end Go.Proofs.YtkofafcgcnciaaaGreatDoor
set_option maxRecDepth 100000
namespace Go.Proofs.YtkofafcgcnciaaaGreatDoor
open Go.Ax Go.RowKit Go.Shelf
attribute [local go_sem] Oper.semAt_some
def ofU (l:List Ev) (ks:List Int) (k:Nat):List (Fin l.length):=((List.finRange l.length).take k).filter fun i=>hasM ks (l[i]).kind
theorem ofU_succ {l:List Ev} {ks:List Int} {k:Nat} {x:Ev} (hk:k < l.length) (hx:l[k]? = some x):ofU l ks (k + 1) = ofU l ks k ++ (if hasM ks x.kind = true then [⟨k,hk⟩] else []):=by
  unfold ofU
  have h1:(List.finRange l.length)[k]? = some ⟨k,hk⟩:=by simp [hk]
  rw [List.take_add_one,h1,List.filter_append]
  have:l[k] = x:=by rw [List.getElem?_eq_getElem hk] at hx; simpa using hx
  simp only [Option.toList_some,List.filter_cons,List.filter_nil,Fin.getElem_fin,this]
theorem ofU_lt {l:List Ev} {ks:List Int} {k:Nat} {x:Ev} (hk:k < l.length) (hx:l[k]? = some x) (h:hasM ks x.kind = true):(ofU l ks k).length < (ofU l ks l.length).length:=by
  have h1:(ofU l ks (k + 1)).length = (ofU l ks k).length + 1:=by rw [ofU_succ hk hx,if_pos h]; simp
  have h2:∀ j,(ofU l ks (k + 1)).length ≤ (ofU l ks (k + 1 + j)).length:=by
    intro j
    unfold ofU
    have:((List.finRange l.length).take (k + 1)) = ((List.finRange l.length).take (k + 1 + j)).take (k + 1):=by rw [List.take_take,Nat.min_eq_left (by omega)]
    rw [this]
    exact ((List.take_sublist _ _).filter _).length_le
  have:=h2 (l.length - (k + 1))
  rw [show k + 1 + (l.length - (k + 1)) = l.length by omega] at this
  omega
theorem holds_alloc {H:Heap} {w:World} (h:Holds H w) (o:Obj):Holds H (w.alloc o):=fun b o' e=>by
  have hb:=heap_lt (h b o' e)
  have:=h b o' e
  show (w.heap.push o)[b]? = some o'
  rw [Array.getElem?_push_lt hb]
  rw [Array.getElem?_eq_getElem hb] at this
  exact this
theorem grown_alloc {H:Heap} {w:World} (h:Holds H w) (o:Obj):w.grownBy (w.alloc o) none ∧ Holds H (w.alloc o) ∧ (w.alloc o).heap[w.heap.size]? = some o:=by
  refine ⟨⟨rfl,rfl,rfl,?_,fun i hi _=>?_⟩,holds_alloc h o,?_⟩
  · show w.heap.size ≤ (w.heap.push o).size
    rw [Array.size_push]; omega
  · show (w.heap.push o)[i]? = w.heap[i]?
    rw [Array.getElem?_push_lt hi,Array.getElem?_eq_getElem hi]
  · show (w.heap.push o)[w.heap.size]? = some o
    exact Array.getElem?_push_size
theorem grown_keeps {H H':Heap} {w w':World} {o:Obj} (h:Holds H w) (k:Keeps H (w.alloc o) H' w') (s:Sub H H'):w.grownBy w' none ∧ Holds H w' ∧ w'.heap[w.heap.size]? = some o:=by
  obtain ⟨⟨a1,a2,a3,a4,a5⟩,b2,b3⟩:=grown_alloc h o
  have hlt:w.heap.size < (w.alloc o).heap.size:=by
    show w.heap.size < (w.heap.push o).size
    rw [Array.size_push]; omega
  have hn:H w.heap.size = none:=by
    cases hh:H w.heap.size with
    | none=>rfl
    | some o'=>have:=heap_lt (h _ _ hh); omega
  refine ⟨⟨?_,?_,?_,Nat.le_trans a4 k.size,fun i hi hr=>?_⟩,k.holds.sub s,(k.old _ hlt hn).1.trans b3⟩
  · first | exact k.os.trans a1 | exact k.tape.trans a1 | exact k.output.trans a1
  · first | exact k.os.trans a2 | exact k.tape.trans a2 | exact k.output.trans a2
  · first | exact k.os.trans a3 | exact k.tape.trans a3 | exact k.output.trans a3
  · cases hh:H i with
    | none=>exact (k.old i (by omega) hh).1.trans (a5 i hi hr)
    | some o'=>rw [k.holds.sub s i o' hh,h i o' hh]
theorem boxc {w:World} {b:Nat} {c:Array Value} {T:TypeId} (h:w.heap[b]? = some (.cells c T (0,0))) (j:Nat) (v:Value) (hv:c[j]? = some v):w.cell? ⟨b,j,none⟩ = some v:=by
  simp [World.cell?,h,hv]
theorem of1_in (n : Nat) (hn : 1 ≤ n) (lb : Nat) {HI : Heap} {B1 B2 : Nat} {A Bk : Option Addr} {cap kn kc : Nat} {T1 T2 : TypeId} {l : List Ev} {ks : List Int}
    (h1:HI B1 = some (.cells #[.slice A l.length cap] T1 (0,0))) (h2:HI B2 = some (.cells #[.slice Bk kn kc] T2 (0,0))) (hE:HasEvs HI A l.length l) (hK:HasI HI Bk kn ks) (hb:l.length ≤ 100000000000000000) (hkb:ks.length ≤ 9223372036854775807)
    (J Jx:List (Fin l.length) → World → Prop) (W:World) (hW:Holds HI W) (hJ:AbidesFrom W.heap.size J)
    (hY:∀ pre (x:Fin l.length) W1,J pre W1 → pre.length < (ofU l ks l.length).length → YieldAt Fence.wide (n - 1) Tryz.prog lb #[.int .i64 (x.1:Int),((l[x.1]?).getD Ev.zero).val] W1 fun e W' =>
      (e = .returned (.bool true) ∧ J (pre ++ [x]) W' ∧ (Holds HI W1 → Holds HI W')) ∨ (e = .returned (.bool false) ∧ Jx (pre ++ [x]) W'))
    (h0:J [] W) :
    CallsIn Fence.wide n Tryz.prog 87 #[.func (.yield lb) #[] #[],.pointer (some ⟨B1,0,none⟩),.pointer (some ⟨B2,0,none⟩)] W fun e W'=>(∃ v,e = .returned v) ∧
      ((∃ xs,xs = ofU l ks l.length ∧ J xs W') ∨ (∃ pre,(∃ j,pre = ofU l ks j) ∧ Jx pre W')):=by
  refine callsIn_of_wp Tryz.func87 rfl trivial ?_ rfl
  simp only [Tryz.ntmps87,List.size_toArray,List.length_cons,List.length_nil,Nat.reduceAdd,Nat.reduceSub,Array.replicate_succ,Array.replicate_zero,List.push_toArray,List.append_toArray,List.nil_append,List.cons_append]
  have c1:W.cell? ⟨B1,0,none⟩ = some (.slice A l.length cap):=(at_fld (k:=0) h1 rfl).cell hW 0 _ rfl
  gi_wp2
  gi_loopw [8] (fun i wr=>∃ k:Nat,k ≤ l.length ∧ i = .int .i64 k ∧ J (ofU l ks k) wr ∧ Holds HI wr)
    (fun i _=>l.length - (intOf i).toNat)
  case atStart=>exact ⟨0,Nat.zero_le _,rfl,h0,hW⟩
  case round =>
    obtain ⟨k,hk,rfl,hJs,hH⟩:=hrel
    by_cases hlt:k < l.length
    · obtain ⟨x,hx⟩:=get_some (l:=l) (i:=k) hlt
      obtain ⟨⟨ab,ao,asp⟩,ha,hat⟩:=hE.at_ k x hx
      obtain rfl:asp = none:=by
        obtain ⟨x0,hx0⟩:=get_some (l:=l) (i:=0) (by omega)
        obtain ⟨a0,ha0,hat0⟩:=hE.at_ 0 x0 hx0
        rw [ha] at ha0; cases ha0
        obtain ⟨_,_,_,_,q,_⟩:=hat0.out
        simpa [Addr.add] using q
      subst ha
      have hcell:∀ j v,x.cells[j]? = some v → wr.cell? ⟨ab,ao + k * 9 + j,none⟩ = some v:=fun j v hv=>by
        have:=hat.cell hH j v hv
        rw [addr_add,addr_add] at this; exact this
      have hc0:wr.cell? ⟨ab,ao + k * 9,none⟩ = some (.int .i64 x.id):=hcell 0 _ rfl
      have hc1:=hcell 1 _ rfl
      have hc2:=hcell 2 _ rfl
      have hc3:=hcell 3 _ rfl
      have hc4:=hcell 4 _ rfl
      have hc5:=hcell 5 _ rfl
      have hc6:=hcell 6 _ rfl
      have hc7:=hcell 7 _ rfl
      have hc8:=hcell 8 _ rfl
      have c2:wr.cell? ⟨B2,0,none⟩ = some (.slice Bk kn kc):=(at_fld (k:=0) h2 rfl).cell hH 0 _ rfl
      have l2:B2 < wr.heap.size:=heap_lt (hH _ _ h2)
      clear hat hcell
      gi_wp2
      · refine ⟨trivial,callsIn_wide.2 (((t88 hkb hK x.kind).run _ (holds_alloc hH _)).mono ?_)⟩
        rintro e w1 ⟨v,H',rfl,hkp,rfl,hs⟩
        obtain ⟨g1,g2,g3⟩:=grown_keeps hH hkp hs
        have hin0:hasM ks x.kind = ks.contains x.kind:=by
          unfold hasM
          have:ks.length ≠ 0:=by have:=hK.len; omega
          have:((ks.length:Int) == 0) = false:=by rw [beq_eq_false_iff_ne]; omega
          rw [this,Bool.or_false]
        clear hkp
        cases hin:ks.contains x.kind with
        | false =>
          rw [hin] at hin0
          gi_wp2
          go_roundw
          case rel=>exact ⟨k + 1,by omega,by simp,by rw [ofU_succ hlt hx,if_neg (by rw [hin0]; simp),List.append_nil]; exact hJ _ _ _ none hJs g1 (by simp),g2⟩
          case measure=>simp [intOf]; omega
        | true =>
          rw [hin] at hin0
          have hin:=hin0
          have hlx:(l[(⟨k,hlt⟩:Fin l.length).1]?).getD Ev.zero = x:=by show (l[k]?).getD Ev.zero = x; rw [hx]; rfl
          have hlen:(ofU l ks k).length < (ofU l ks l.length).length:=ofU_lt hlt hx hin
          obtain ⟨fn,tmps,assign,body,hy,hR⟩:=hY _ ⟨k,hlt⟩ w1 (hJ _ _ _ none hJs g1 (by simp)) hlen
          rw [hlx] at hy
          have hy:(Instr.yield lb #[.int .i64 (k:Int),.agg #[.int .i64 x.id,.int .i64 x.time,.int .i64 x.kind,.int .i64 x.a,.int .i64 x.b,.int .i64 x.c,.int .i64 x.d,.int .i64 x.e,.int .i64 x.f]]).run Tryz.prog w1 = .ok (.round lb fn tmps assign body) w1:=hy
          have d0:=boxc g3 0 _ rfl
          have d1:=boxc g3 1 _ rfl
          have d2:=boxc g3 2 _ rfl
          have d3:=boxc g3 3 _ rfl
          have d4:=boxc g3 4 _ rfl
          have d5:=boxc g3 5 _ rfl
          have d6:=boxc g3 6 _ rfl
          have d7:=boxc g3 7 _ rfl
          have d8:=boxc g3 8 _ rfl
          clear hc0 hc1 hc2 hc3 hc4 hc5 hc6 hc7 hc8
          gi_wp2
          refine hR.mono ?_
          rintro e W3 (⟨rfl,hJ3,hk3⟩ | ⟨rfl,hJx3⟩)
          · gi_wp2
            go_roundw
            case rel=>exact ⟨k + 1,by omega,by simp,by rw [ofU_succ hlt hx,if_pos hin]; exact hJ3,hk3 g2⟩
            case measure=>simp [intOf]; omega
          · gi_wp2
            refine bodyPost_ret (results_none rfl _ _ _) rfl ?_
            exact ⟨⟨_,rfl⟩,.inr ⟨_,⟨k + 1,by rw [ofU_succ hlt hx,if_pos hin]⟩,hJx3⟩⟩
      · refine ⟨trivial,?_⟩
        have hin:hasM ks x.kind = true:=by
          unfold hasM
          have:ks.length = 0:=by have:=hK.len; omega
          simp [this]
        obtain ⟨g1,g2,g3⟩:=grown_alloc hH (.cells #[.int .i64 x.id,.int .i64 x.time,.int .i64 x.kind,.int .i64 x.a,.int .i64 x.b,.int .i64 x.c,.int .i64 x.d,.int .i64 x.e,.int .i64 x.f] 47)
        generalize hw1:wr.alloc (.cells #[.int .i64 x.id,.int .i64 x.time,.int .i64 x.kind,.int .i64 x.a,.int .i64 x.b,.int .i64 x.c,.int .i64 x.d,.int .i64 x.e,.int .i64 x.f] 47) = w1 at g1 g2 g3 ⊢
        clear hw1
        have hlx:(l[(⟨k,hlt⟩:Fin l.length).1]?).getD Ev.zero = x:=by show (l[k]?).getD Ev.zero = x; rw [hx]; rfl
        have hlen:(ofU l ks k).length < (ofU l ks l.length).length:=ofU_lt hlt hx hin
        obtain ⟨fn,tmps,assign,body,hy,hR⟩:=hY _ ⟨k,hlt⟩ w1 (hJ _ _ _ none hJs g1 (by simp)) hlen
        rw [hlx] at hy
        have hy:(Instr.yield lb #[.int .i64 (k:Int),.agg #[.int .i64 x.id,.int .i64 x.time,.int .i64 x.kind,.int .i64 x.a,.int .i64 x.b,.int .i64 x.c,.int .i64 x.d,.int .i64 x.e,.int .i64 x.f]]).run Tryz.prog w1 = .ok (.round lb fn tmps assign body) w1:=hy
        have d0:=boxc g3 0 _ rfl
        have d1:=boxc g3 1 _ rfl
        have d2:=boxc g3 2 _ rfl
        have d3:=boxc g3 3 _ rfl
        have d4:=boxc g3 4 _ rfl
        have d5:=boxc g3 5 _ rfl
        have d6:=boxc g3 6 _ rfl
        have d7:=boxc g3 7 _ rfl
        have d8:=boxc g3 8 _ rfl
        clear hc0 hc1 hc2 hc3 hc4 hc5 hc6 hc7 hc8
        gi_wp2
        refine hR.mono ?_
        rintro e W3 (⟨rfl,hJ3,hk3⟩ | ⟨rfl,hJx3⟩)
        · gi_wp2
          go_roundw
          case rel=>exact ⟨k + 1,by omega,by simp,by rw [ofU_succ hlt hx,if_pos hin]; exact hJ3,hk3 g2⟩
          case measure=>simp [intOf]; omega
        · gi_wp2
          refine bodyPost_ret (results_none rfl _ _ _) rfl ?_
          exact ⟨⟨_,rfl⟩,.inr ⟨_,⟨k + 1,by rw [ofU_succ hlt hx,if_pos hin]⟩,hJx3⟩⟩
    · obtain rfl:k = l.length:=by omega
      gi_wp2
      go_end0
      exact ⟨⟨_,rfl⟩,.inl ⟨_,rfl,hJs⟩⟩
def evE (l:List Ev) (i:Nat):Int × Int × Int × Int × Int × Int × Int × Int × Int × Int × PUnit:=((i:Int),((l[i]?).getD Ev.zero).id,((l[i]?).getD Ev.zero).time,((l[i]?).getD Ev.zero).kind,((l[i]?).getD Ev.zero).a,((l[i]?).getD Ev.zero).b,((l[i]?).getD Ev.zero).c,((l[i]?).getD Ev.zero).d,((l[i]?).getD Ev.zero).e,((l[i]?).getD Ev.zero).f,())
def ofY (l:List Ev) (ks:List Int):List Nat:=(ofU l ks l.length).map (·.1)
theorem ofU_pre (l:List Ev) (ks:List Int) (j:Nat):List.IsPrefix ((ofU l ks j).map (·.1)) (ofY l ks):=by
  unfold ofY
  refine List.IsPrefix.map _ ?_
  unfold ofU
  refine List.IsPrefix.filter _ ?_
  have h1:(List.finRange l.length).take l.length = List.finRange l.length:=by rw [List.take_of_length_le]; simp
  rw [h1]
  exact List.take_prefix _ _
theorem it54 {HI : Heap} {B1 B2 : Nat} {A Bk : Option Addr} {cap kn kc : Nat} {T1 T2 : TypeId} {l : List Ev} {ks : List Int}
    (h1:HI B1 = some (.cells #[.slice A l.length cap] T1 (0,0))) (h2:HI B2 = some (.cells #[.slice Bk kn kc] T2 (0,0))) (hE:HasEvs HI A l.length l) (hK:HasI HI Bk kn ks) (hb:l.length ≤ 100000000000000000) (hkb:ks.length ≤ 9223372036854775807) :
    It Tryz.prog 87 [.pointer (some ⟨B1,0,none⟩),.pointer (some ⟨B2,0,none⟩)] HI l.length
      (fun i=>[Value.int .i64 (evE l i).1,Value.agg #[Value.int .i64 (evE l i).2.1,Value.int .i64 (evE l i).2.2.1,Value.int .i64 (evE l i).2.2.2.1,Value.int .i64 (evE l i).2.2.2.2.1,Value.int .i64 (evE l i).2.2.2.2.2.1,
        Value.int .i64 (evE l i).2.2.2.2.2.2.1,Value.int .i64 (evE l i).2.2.2.2.2.2.2.1,Value.int .i64 (evE l i).2.2.2.2.2.2.2.2.1,Value.int .i64 (evE l i).2.2.2.2.2.2.2.2.2.1]]) (ofY l ks):=by
  refine ⟨fun n w hn hw=>fun lb J Jx W hB hJ _ hY h0=>?_⟩
  have hW:Holds HI W:=fun b o e=>(hB.block b (heap_lt (hw b o e))).trans (hw b o e)
  have hlen:(ofY l ks).length = (ofU l ks l.length).length:=by simp [ofY]
  rw [hlen] at hY
  refine (of1_in n hn lb h1 h2 hE hK hb hkb J Jx W hW hJ hY h0).mono ?_
  rintro e W' ⟨he,⟨xs,rfl,hj⟩ | ⟨pre,⟨j,rfl⟩,hj⟩⟩
  · exact ⟨he,.inl ⟨_,rfl,hj⟩⟩
  · exact ⟨he,.inr ⟨_,ofU_pre l ks j,hj⟩⟩
end Go.Proofs.YtkofafcgcnciaaaGreatDoor
set_option maxRecDepth 100000
namespace Go.Proofs.YtkofafcgcnciaaaGreatDoor
open Go.Ax Go.RowKit Go.Shelf
attribute [local go_sem] Oper.semAt_some
def cmds (l:List Ev):List Ev:=l.takeWhile fun x=>cmdM x.kind
theorem cmds_pre (l:List Ev):cmds l <+: l:=List.takeWhile_prefix _
theorem cmds_le (l:List Ev):(cmds l).length ≤ l.length:=(cmds_pre l).length_le
theorem cmds_at:∀ (l:List Ev) (k:Nat) (x:Ev),k ≤ (cmds l).length → l[k]? = some x → (cmdM x.kind = true ↔ k < (cmds l).length)
  | [],k,x,_,hx=>by cases hx
  | y :: l,k,x,hk,hx=>by
    unfold cmds at hk ⊢
    rw [List.takeWhile_cons] at hk ⊢
    by_cases hy:cmdM y.kind = true
    · rw [if_pos hy] at hk ⊢
      cases k with
      | zero=>cases hx; simp [hy]
      | succ k =>
        have:=cmds_at l k x (by unfold cmds; simpa using hk) (by simpa using hx)
        rw [this]; unfold cmds; simp
    · rw [if_neg hy] at hk ⊢
      have:k = 0:=by simpa using hk
      subst this
      cases hx
      simp [hy]
def finTo (n k:Nat):List (Fin n):=(List.finRange n).take k
theorem finTo_succ {n k:Nat} (hk:k < n):finTo n (k + 1) = finTo n k ++ [⟨k,hk⟩]:=by
  unfold finTo
  rw [List.take_add_one]
  simp [hk]
theorem finTo_len {n k:Nat} (hk:k ≤ n):(finTo n k).length = k:=by simp [finTo,hk]
theorem rest1_in (n : Nat) (hn : 1 ≤ n) (lb : Nat) {HI : Heap} {B1 B2 : Nat} {A : Option Addr} {cap fr : Nat} {T1 T2 : TypeId} {l : List Ev}
    (h1:HI B1 = some (.cells #[.slice A l.length cap] T1 (0,0))) (h2:HI B2 = some (.cells #[.int .i64 (fr:Int)] T2 (0,0))) (hfr:fr ≤ l.length) (hcap:l.length ≤ cap) (hE:HasEvs HI A l.length l) (hb:l.length ≤ 100000000000000000)
    (J Jx:List (Fin (l.drop fr).length) → World → Prop) (W:World) (hW:Holds HI W) (hJ:AbidesFrom W.heap.size J)
    (hY:∀ pre (x:Fin (l.drop fr).length) W1,J pre W1 → pre.length < (cmds (l.drop fr)).length → YieldAt Fence.wide (n - 1) Tryz.prog lb #[(((l.drop fr)[x.1]?).getD Ev.zero).val] W1 fun e W' =>
      (e = .returned (.bool true) ∧ J (pre ++ [x]) W' ∧ (Holds HI W1 → Holds HI W')) ∨ (e = .returned (.bool false) ∧ Jx (pre ++ [x]) W'))
    (h0:J [] W) :
    CallsIn Fence.wide n Tryz.prog 114 #[.func (.yield lb) #[] #[],.pointer (some ⟨B1,0,none⟩),.pointer (some ⟨B2,0,none⟩)] W fun e W'=>(∃ v,e = .returned v) ∧
      ((∃ xs,xs = finTo (l.drop fr).length (cmds (l.drop fr)).length ∧ J xs W') ∨ (∃ pre,(∃ j,j ≤ (cmds (l.drop fr)).length ∧ pre = finTo (l.drop fr).length j) ∧ Jx pre W')):=by
  refine callsIn_of_wp Tryz.func114 rfl trivial ?_ rfl
  simp only [Tryz.ntmps114,List.size_toArray,List.length_cons,List.length_nil,Nat.reduceAdd,Nat.reduceSub,Array.replicate_succ,Array.replicate_zero,List.push_toArray,List.append_toArray,List.nil_append,List.cons_append]
  have c1:W.cell? ⟨B1,0,none⟩ = some (.slice A l.length cap):=(at_fld (k:=0) h1 rfl).cell hW 0 _ rfl
  have c2:W.cell? ⟨B2,0,none⟩ = some (.int .i64 (fr:Int)):=(at_fld (k:=0) h2 rfl).cell hW 0 _ rfl
  gi_wp2
  · rename_i hcf
    have hl0:(l.drop fr).length = 0:=by rw [List.length_drop]; omega
    have hc0:(cmds (l.drop fr)).length = 0:=by have:=cmds_le (l.drop fr); omega
    gi_loopw [10] (fun i wr=>i = .int .i64 0 ∧ J [] wr ∧ Holds HI wr)
      (fun i _=>0)
    case atStart=>exact ⟨rfl,h0,hW⟩
    case round =>
      obtain ⟨rfl,hJs,hH⟩:=hrel
      have:l.length - fr = 0:=by omega
      gi_wp2
      go_end0
      exact ⟨⟨_,rfl⟩,.inl ⟨_,rfl,by rw [hc0]; exact hJs⟩⟩
  · rename_i hcf
    generalize hA2:Option.map (fun x=>x.add (fr * 9)) A = A2
    gi_loopw [10] (fun i wr=>∃ k:Nat,k ≤ (cmds (l.drop fr)).length ∧ i = .int .i64 k ∧ J (finTo (l.drop fr).length k) wr ∧ Holds HI wr)
      (fun i _=>l.length - (intOf i).toNat)
    case atStart=>exact ⟨0,Nat.zero_le _,rfl,h0,hW⟩
    case round =>
      obtain ⟨k,hk,rfl,hJs,hH⟩:=hrel
      have hdl:(l.drop fr).length = l.length - fr:=List.length_drop
      have hcl:=cmds_le (l.drop fr)
      by_cases hlt:k < l.length - fr
      · obtain ⟨x,hx⟩:=get_some (l:=l.drop fr) (i:=k) (by omega)
        have hx0:l[fr + k]? = some x:=by rw [List.getElem?_drop] at hx; exact hx
        have hiff:=cmds_at (l.drop fr) k x hk hx
        obtain ⟨⟨ab,ao,asp⟩,ha,hat⟩:=hE.at_ (fr + k) x hx0
        obtain rfl:asp = none:=by
          obtain ⟨x0,hx0⟩:=get_some (l:=l) (i:=0) (by omega)
          obtain ⟨a0,ha0,hat0⟩:=hE.at_ 0 x0 hx0
          rw [ha] at ha0; cases ha0
          obtain ⟨_,_,_,_,q,_⟩:=hat0.out
          simpa [Addr.add] using q
        subst ha
        have hA3:A2 = some ⟨ab,ao + fr * 9,none⟩:=by rw [← hA2]; show some ((⟨ab,ao,none⟩:Addr).add (fr * 9)) = _; rw [addr_add]
        subst hA3
        clear hA2
        have hcell:∀ j v,x.cells[j]? = some v → wr.cell? ⟨ab,ao + fr * 9 + k * 9 + j,none⟩ = some v:=fun j v hv=>by
          have:=hat.cell hH j v hv
          rw [addr_add,addr_add] at this
          have e:ao + fr * 9 + k * 9 + j = ao + (fr + k) * 9 + j:=by omega
          rw [e]; exact this
        have hc0:wr.cell? ⟨ab,ao + fr * 9 + k * 9,none⟩ = some (.int .i64 x.id):=hcell 0 _ rfl
        have hc1:=hcell 1 _ rfl
        have hc2:=hcell 2 _ rfl
        have hc3:=hcell 3 _ rfl
        have hc4:=hcell 4 _ rfl
        have hc5:=hcell 5 _ rfl
        have hc6:=hcell 6 _ rfl
        have hc7:=hcell 7 _ rfl
        have hc8:=hcell 8 _ rfl
        clear hat hcell
        gi_wp2
        refine ⟨trivial,callsIn_wide.2 (((t89 x.kind HI).run _ (holds_alloc hH _)).mono ?_)⟩
        rintro e w1 ⟨v,H',rfl,hkp,rfl,hs⟩
        obtain ⟨g1,g2,g3⟩:=grown_keeps hH hkp hs
        clear hkp
        have hJ1:=hJ _ _ _ none hJs g1 (by simp)
        cases hin:cmdM x.kind with
        | false =>
          have hkk:k = (cmds (l.drop fr)).length:=by
            have:¬ k < (cmds (l.drop fr)).length:=fun h=>by rw [hiff.2 h] at hin; cases hin
            omega
          gi_wp2
          refine ⟨fun f hf=>(by cases hf),?_⟩
          gi_wp2
          refine bodyPost_ret (results_none rfl _ _ _) rfl ?_
          exact ⟨⟨_,rfl⟩,.inl ⟨_,rfl,by rw [← hkk]; exact hJ1⟩⟩
        | true =>
          have hkl:=hiff.1 hin
          have hlx:((l.drop fr)[(⟨k,by omega⟩:Fin (l.drop fr).length).1]?).getD Ev.zero = x:=by show ((l.drop fr)[k]?).getD Ev.zero = x; rw [hx]; rfl
          obtain ⟨fn,tmps,assign,body,hy,hR⟩:=hY _ ⟨k,by omega⟩ w1 hJ1 (by rw [finTo_len (by omega)]; exact hkl)
          rw [hlx] at hy
          have hy:(Instr.yield lb #[.agg #[.int .i64 x.id,.int .i64 x.time,.int .i64 x.kind,.int .i64 x.a,.int .i64 x.b,.int .i64 x.c,.int .i64 x.d,.int .i64 x.e,.int .i64 x.f]]).run Tryz.prog w1 = .ok (.round lb fn tmps assign body) w1:=hy
          have d0:=boxc g3 0 _ rfl
          have d1:=boxc g3 1 _ rfl
          have d2:=boxc g3 2 _ rfl
          have d3:=boxc g3 3 _ rfl
          have d4:=boxc g3 4 _ rfl
          have d5:=boxc g3 5 _ rfl
          have d6:=boxc g3 6 _ rfl
          have d7:=boxc g3 7 _ rfl
          have d8:=boxc g3 8 _ rfl
          clear hc0 hc1 hc2 hc3 hc4 hc5 hc6 hc7 hc8
          gi_wp2
          refine hR.mono ?_
          rintro e W3 (⟨rfl,hJ3,hk3⟩ | ⟨rfl,hJx3⟩)
          · gi_wp2
            go_roundw
            case rel=>exact ⟨k + 1,by omega,by simp,by rw [finTo_succ (by omega)]; exact hJ3,hk3 g2⟩
            case measure=>simp [intOf]; omega
          · gi_wp2
            refine bodyPost_ret (results_none rfl _ _ _) rfl ?_
            exact ⟨⟨_,rfl⟩,.inr ⟨_,⟨k + 1,by omega,by rw [finTo_succ (by omega)]⟩,hJx3⟩⟩
      · have hkk:k = (cmds (l.drop fr)).length:=by omega
        subst hkk
        gi_wp2
        go_end0
        exact ⟨⟨_,rfl⟩,.inl ⟨_,rfl,hJs⟩⟩
end Go.Proofs.YtkofafcgcnciaaaGreatDoor
set_option maxRecDepth 100000
namespace Go.Proofs.YtkofafcgcnciaaaGreatDoor
open Go.Ax
def VS.exp (s:VS) (l:List Ev):VS:={ s with expect:=some l }
def VS.noExp (s:VS):VS:={ s with expect:=none }
def VS.retask (s:VS) (p:Prg) (h:List Ev) (k:Nat) (now:Int):VS:=(s.exp (cmds (h.drop (k + 1)))).task p now
def VS.more (s:VS):Bool:=match s.expect with | some (x :: _)=>!outsideM x | _=>false
def rep1 (p:Prg) (h:List Ev) (k:Nat) (s:VS):Sum Nat (Nat × VS):=match h[k]? with
  | none=>.inr (k,s)
  | some e =>
    if e.kind ≠ 2 then (if (s.apply e).1 ≠ 0 then .inl k else .inr (k + 1,(s.apply e).2)) else
    if ((s.retask p h k e.time).drift || (s.retask p h k e.time).more) = true then .inl (k + (s.retask p h k e.time).made.length) else .inr (k + (s.retask p h k e.time).made.length,(s.retask p h k e.time).noExp)
def repN (p:Prg) (h:List Ev):Nat → Sum Nat (Nat × VS)
  | 0=>.inr (0,VS.init)
  | n + 1=>match repN p h n with
    | .inl a=>.inl a
    | .inr (k,s)=>if k < h.length then rep1 p h k s else .inr (k,s)
theorem repN_inl {p:Prg} {h:List Ev} {n a:Nat} (e:repN p h n = .inl a):∀ j,repN p h (n + j) = .inl a
  | 0=>e
  | j + 1=>by show (match repN p h (n + j) with | .inl a=>_ | .inr (k,s)=>_) = _; rw [repN_inl e j]
theorem repN_inr {p:Prg} {h:List Ev} {n k:Nat} {s:VS} (e:repN p h n = .inr (k,s)) (hk:h.length ≤ k):∀ j,repN p h (n + j) = .inr (k,s)
  | 0=>e
  | j + 1=>by
    show (match repN p h (n + j) with | .inl a=>_ | .inr (k,s)=>_) = _
    rw [repN_inr e hk j]
    show (if k < h.length then _ else _) = _
    rw [if_neg (by omega)]
structure RepIn (p:Prg) (h:List Ev) (k:Nat) (s:VS):Prop where
  inv:Inv p s
  x:s.expect = none
  tk:∀ e,h[k]? = some e → e.kind = 2 → Tasks (s.exp (cmds (h.drop (k + 1)))) ∧ Inv p (s.exp (cmds (h.drop (k + 1))))
theorem FStep.some_ {p:Prg} {b:Bool} {s s':VS} (q:FStep p b s s') (hx:s.expect.isSome = true):s'.expect.isSome = true:=by
  have live:∀ e:Ev,(s.emit0 e).2.expect.isSome = true:=fun e=>by
    have k:=emits s e
    generalize s.emit0 e = q at k ⊢
    cases k with
    | live h=>rw [h] at hx; cases hx
    | none h=>exact hx
    | other w l h=>rfl
    | same w l h=>rfl
  cases q with
  | emit e ho hc=>unfold VS.emit; split <;> exact live _
  | fails c ho=>exact live _
  | done i v k=>rcases setDone_cases s i v k with e | ⟨f,-,-,-,e⟩ <;> rw [e] <;> exact hx
  | mark i=>rcases mark_cases s i with e | ⟨c,-,e⟩ <;> rw [e] <;> exact hx
  | _=>exact hx
theorem FSteps.some_ {p:Prg} {b:Bool} {s s':VS} (q:FSteps p b s s') (hx:s.expect.isSome = true):s'.expect.isSome = true:=by
  induction q with
  | refl=>exact hx
  | tail k q ih=>exact q.some_ ih
section
variable {p:Prg}
theorem exp_inv {s:VS} (iv:Inv p s) {l:List Ev} (hl:s.count + l.length ≤ 256):Inv p (s.exp l) :=
  ⟨iv.scp,iv.scn,iv.sc32,iv.t16,fun t ht=>(iv.thr t ht).mono (Nat.le_refl _) (Nat.le_refl _),iv.futs,iv.fuel,iv.many,iv.c0,fun l' e=>(by cases e; exact hl),iv.made,iv.sig,iv.sg8,iv.upd,iv.updI,iv.v16,iv.a4⟩
end
end Go.Proofs.YtkofafcgcnciaaaGreatDoor
set_option maxRecDepth 100000
namespace Go.Proofs.YtkofafcgcnciaaaGreatDoor
open Go.Ax
def evR (l:List Ev) (i:Nat):Int × Int × Int × Int × Int × Int × Int × Int × Int × PUnit:=(((l[i]?).getD Ev.zero).id,((l[i]?).getD Ev.zero).time,((l[i]?).getD Ev.zero).kind,((l[i]?).getD Ev.zero).a,((l[i]?).getD Ev.zero).b,((l[i]?).getD Ev.zero).c,((l[i]?).getD Ev.zero).d,((l[i]?).getD Ev.zero).e,((l[i]?).getD Ev.zero).f,())
theorem finTo_map {n k:Nat} (hk:k ≤ n):(finTo n k).map (·.1) = List.range k:=by
  apply List.ext_getElem?
  intro j
  unfold finTo
  by_cases hj:j < k
  · rw [List.getElem?_map,List.getElem?_take_of_lt hj]
    have hjn:j < n:=by omega
    simp [hj,hjn]
  · rw [List.getElem?_eq_none (by simp; omega),List.getElem?_eq_none (by simp; omega)]
theorem range_pre {j k:Nat} (h:j ≤ k):List.range j <+: List.range k:=by
  refine List.prefix_iff_eq_take.2 ?_
  rw [List.length_range,List.take_range,Nat.min_eq_left h]
theorem itRest {HI : Heap} {B1 B2 : Nat} {A : Option Addr} {cap fr : Nat} {T1 T2 : TypeId} {l : List Ev}
    (h1:HI B1 = some (.cells #[.slice A l.length cap] T1 (0,0))) (h2:HI B2 = some (.cells #[.int .i64 (fr:Int)] T2 (0,0))) (hfr:fr ≤ l.length) (hcap:l.length ≤ cap) (hE:HasEvs HI A l.length l) (hb:l.length ≤ 100000000000000000) :
    It Tryz.prog 114 [.pointer (some ⟨B1,0,none⟩),.pointer (some ⟨B2,0,none⟩)] HI (l.drop fr).length
      (fun i=>[Value.agg #[Value.int .i64 (evR (l.drop fr) i).1,Value.int .i64 (evR (l.drop fr) i).2.1,Value.int .i64 (evR (l.drop fr) i).2.2.1,Value.int .i64 (evR (l.drop fr) i).2.2.2.1,Value.int .i64 (evR (l.drop fr) i).2.2.2.2.1,
        Value.int .i64 (evR (l.drop fr) i).2.2.2.2.2.1,Value.int .i64 (evR (l.drop fr) i).2.2.2.2.2.2.1,Value.int .i64 (evR (l.drop fr) i).2.2.2.2.2.2.2.1,Value.int .i64 (evR (l.drop fr) i).2.2.2.2.2.2.2.2.1]]) (List.range (cmds (l.drop fr)).length):=by
  refine ⟨fun n w hn hw=>fun lb J Jx W hB hJ _ hY h0=>?_⟩
  have hW:Holds HI W:=fun b o e=>(hB.block b (heap_lt (hw b o e))).trans (hw b o e)
  rw [List.length_range] at hY
  refine (rest1_in n hn lb h1 h2 hfr hcap hE hb J Jx W hW hJ hY h0).mono ?_
  rintro e W' ⟨he,⟨xs,rfl,hj⟩ | ⟨pre,⟨j,hj2,rfl⟩,hj⟩⟩
  · exact ⟨he,.inl ⟨_,finTo_map (cmds_le _),hj⟩⟩
  · exact ⟨he,.inr ⟨_,by show List.map (·.1) (finTo _ j) <+: _; rw [finTo_map (Nat.le_trans hj2 (cmds_le _))]; exact range_pre hj2,hj⟩⟩
theorem own_cut {H H1:Heap} {A:Option Addr} {n c sz:Nat} {cs:List Value} (h:OwnS H H1 A n c sz cs):OwnS H (cutN H H1) A n c sz cs:=by
  refine ⟨cutN_keep (Sub.refl _) h.sub,h.len,h.cap,?_⟩
  rcases h.at_ with q | ⟨bb,cur,T,q0,q1,q2,q3,q4⟩
  · exact .inl q
  · exact .inr ⟨bb,cur,T,q0,q1,by unfold cutN; rw [q2]; rfl,q3,q4⟩
theorem range_cmds (l:List Ev):(List.range (cmds l).length).map (fun i=>(l[i]?).getD Ev.zero) = cmds l:=by
  apply List.ext_getElem?
  intro j
  by_cases hj:j < (cmds l).length
  · obtain ⟨q,hq⟩:=cmds_pre l
    have:l[j]? = (cmds l)[j]?:=by
      have e:(cmds l ++ q)[j]? = (cmds l)[j]?:=List.getElem?_append_left hj
      rw [hq] at e; exact e
    rw [List.getElem?_map,List.getElem?_range hj,Option.map_some,this]
    obtain ⟨x,hx⟩:=get_some hj
    rw [hx]; rfl
  · rw [List.getElem?_eq_none (by simp; omega),List.getElem?_eq_none (by omega)]
theorem t113 {H : Heap} {B1 B2 : Nat} {A : Option Addr} {cap fr : Nat} {T1 T2 : TypeId} {l : List Ev}
    (h1:H B1 = some (.cells #[.slice A l.length cap] T1 (0,0))) (h2:H B2 = some (.cells #[.int .i64 (fr:Int)] T2 (0,0))) (hfr:fr ≤ l.length) (hcap:l.length ≤ cap) (hE:HasEvs H A l.length l) (hb:l.length * 72 ≤ 140737488355328) :
    Tr Tryz.prog 113 #[.slice none 0 0,.func (.func 114) #[] #[.pointer (some ⟨B1,0,none⟩),.pointer (some ⟨B2,0,none⟩)]] H
      fun v H'=>∃ A' n' c',v = .slice A' n' c' ∧ OwnS H H' A' n' c' 9 ((cmds (l.drop fr)).flatMap Ev.cells):=by
  have hdl:(l.drop fr).length = l.length - fr:=List.length_drop
  have hcl:=cmds_le (l.drop fr)
  apply v113; unfold F113
  refine ⟨114,[.pointer (some ⟨B1,0,none⟩),.pointer (some ⟨B2,0,none⟩)],⟨rfl,by kernel_rfl⟩,H,(l.drop fr).length,evR (l.drop fr),List.range (cmds (l.drop fr)).length,Sub.refl _,
    itRest h1 h2 hfr hcap hE (by omega),fun pre A n c Hc=>OwnS H Hc A n c 9 ((pre.map fun i=>((l.drop fr)[i]?).getD Ev.zero).flatMap Ev.cells),OwnS.nil _ _,fun pre i hi hpre A n c Hc o hsub hncs x x1 x2 x3 x4 x5 x6 x7 x8 he=>⟨⟨hncs,hsub⟩,?_⟩,fun A n c Hc o hncs=>?_⟩
  · rw [List.length_range] at hpre
    have ho:=o.len
    rw [flat_size (cells:=Ev.cells) (sz:=9) (fun _=>rfl),List.length_map] at ho
    have hn:n = pre.length:=by omega
    refine own_app o (m:=1) rfl rfl (Nat.le_trans (Nat.mul_le_mul_right 72 (show n + 1 ≤ l.length by omega)) hb) (by omega) fun A' c' H' o2=>⟨own_cut ?_,o2.sub⟩
    unfold evR at he
    cases he
    rw [List.map_append,List.flatMap_append]
    simpa [Ev.cells] using o2
  · simp only [range_cmds] at o
    exact ⟨_,_,_,rfl,o⟩
theorem t66 {H : Heap} {B1 B2 : Nat} {A : Option Addr} {cap fr : Nat} {T1 T2 : TypeId} {l : List Ev}
    (h1:H B1 = some (.cells #[.slice A l.length cap] T1 (0,0))) (h2:H B2 = some (.cells #[.int .i64 (fr:Int)] T2 (0,0))) (hfr:fr ≤ l.length) (hcap:l.length ≤ cap) (hE:HasEvs H A l.length l) (hb:l.length * 72 ≤ 140737488355328) :
    Tr Tryz.prog 66 #[.func (.func 114) #[] #[.pointer (some ⟨B1,0,none⟩),.pointer (some ⟨B2,0,none⟩)]] H
      fun v H'=>∃ A' n' c',v = .slice A' n' c' ∧ OwnS H H' A' n' c' 9 ((cmds (l.drop fr)).flatMap Ev.cells):=by
  apply v66; unfold F66
  exact (t113 h1 h2 hfr hcap hE hb).mono fun v H' ⟨A',n',c',e,o⟩=>⟨A',n',c',e,A',n',c',rfl,o⟩
theorem t67 {H : Heap} {A : Option Addr} {n c fr : Nat} :
    Tr Tryz.prog 67 #[.slice A n c,.int .i64 (fr:Int)] H fun v H'=>∃ b b1,v = .func (.func 114) #[] #[.pointer (some ⟨b,0,none⟩),.pointer (some ⟨b1,0,none⟩)] ∧
      H' b = some (.cells #[.slice A n c] 27 (0,0)) ∧ H' b1 = some (.cells #[.int .i64 (fr:Int)] 3 (0,0)) ∧ Sub H H':=by
  apply v67; unfold F67
  intro b hb H1 e1 b1 hb1 H2 e2
  have hne:b1 ≠ b:=fun e=>by subst e; rw [e1,Heap.upd_same] at hb1; cases hb1
  refine ⟨b,b1,rfl,?_,by rw [e2]; exact Heap.upd_same,?_⟩
  · rw [e2,Heap.upd_other hne.symm,e1]; exact Heap.upd_same
  · subst e2; subst e1; exact (Sub.upd_new hb).trans (Sub.upd_new hb1)
section
variable {p:Prg} {G H:Heap} {m:Nat} {pf po:SlH} {sl:Nat → SlH} {F:Heap} {ex:Value} {st:List SlH} {s:VS}
theorem VMX.slAt (h:VMX G H m pf po sl F ex st s) {c:Nat} (hc:c < 14) {b:Nat} (hb:(sl c).blk = some b):(H b).isSome = true:=by
  rcases (h.ok c hc).at_ with a | ⟨b',off,cur,T,a1,a2,a3,a4⟩
  · unfold SlH.blk at hb; rw [a.1] at hb; cases hb
  · unfold SlH.blk at hb; rw [a1] at hb; cases hb; rw [a2]; rfl
theorem VMX.newEx (h:VMX G H m pf po sl F ex st s) {ex':Value} {e':Option (List Ev)} (hE:∀ H',(∀ b,b ≠ m → H' b = H b) → ExpOk F G H' m sl ex' e') {Q:Heap → Prop} (q:∀ H',VMX G H' m pf po sl F ex' st { s with expect:=e' } → Q H'):Wr H ((⟨m,0,none⟩:Addr).add 34) ex' Q:=by
  refine wr_cells h.hm (by rw [mCells_len]; decide) (q _ ?_)
  have e:(mCells pf po sl ex s).set 34 ex' = mCells pf po sl ex' { s with expect:=e' }:=rfl
  rw [e]
  have ne:∀ c,c < 14 → ∀ b,(sl c).blk = some b → b ≠ m:=fun c hc b hb=>(h.own c hc b hb).2
  refine ⟨h.gf,⟨fun i o ho=>?_⟩,h.fm,Heap.upd_same,h.own,h.inj,fun c hc=>(h.ok c hc).mono fun b hb=>Heap.upd_other (ne c hc b hb),h.stl,h.stk,h.vars,h.attrs,h.sigs,hE _ fun b hb=>Heap.upd_other hb⟩
  rw [Heap.upd_other (fun e=>by subst e; rw [h.fm] at ho; cases ho)]; exact h.fh.sub _ _ ho
theorem VMX.noEx (h:VMX G H m pf po sl F ex st s) {Q:Heap → Prop} (q:∀ H',VMX G H' m pf po sl F .nilFunc st s.noExp → Q H'):Wr H ((⟨m,0,none⟩:Addr).add 34) .nilFunc Q :=
  h.newEx (e':=none) (fun _ _=>⟨fun _=>rfl,fun _ e=>by cases e⟩) q
theorem VMX.expects (h : VMX G H m pf po sl F ex st s) {l : List Ev} {A : Option Addr} {n c : Nat} {H0 H1 : Heap} (s0 : Sub H H0) (o : OwnS H0 H1 A n c 9 (l.flatMap Ev.cells)) {xb : Nat} {T : TypeId} (hxb : H1 xb = none) {H2 : Heap} (e2 : H2 = H1.upd xb (.cells #[.slice A n c] T (0, 0)))
    {Q:Heap → Prop} (q:∀ F' H3,VMX G H3 m pf po sl F' (.func (.func 112) #[] #[.pointer (some ⟨xb,0,none⟩)]) st (s.exp l) → Sub (dif F G) (dif F' G) → Q H3) :
    Wr H2 ((⟨m,0,none⟩:Addr).add 34) (.func (.func 112) #[] #[.pointer (some ⟨xb,0,none⟩)]) Q:=by
  have s1:Sub H H1:=s0.trans o.sub
  have hHx:H xb = none:=none_below s1 hxb
  have hnl:n = l.length:=by have:=o.len; rw [flat_size (cells:=Ev.cells) (sz:=9) (fun _=>rfl)] at this; omega
  have hm:H1 m = some _:=s1.sub _ _ h.hm
  have hxm:xb ≠ m:=fun e=>by rw [e,hm] at hxb; cases hxb
  have h2x:H2 xb = some (.cells #[.slice A n c] T (0,0)):=by rw [e2]; exact Heap.upd_same
  have h2o:∀ b,b ≠ xb → H2 b = H1 b:=fun b hb=>by rw [e2]; exact Heap.upd_other hb
  have slx:∀ c,c < 14 → (sl c).blk ≠ some xb:=fun c hc hb=>by have:=h.slAt hc hb; rw [hHx] at this; cases this
  have key:∀ F',VMX G H2 m pf po sl F' ex st s → F' xb = none → Src (dif F' G) A (l.flatMap Ev.cells) → Sub (dif F G) (dif F' G) → Wr H2 ((⟨m,0,none⟩:Addr).add 34) (.func (.func 112) #[] #[.pointer (some ⟨xb,0,none⟩)]) Q:=fun F' v f0 sr sd=>by
    refine v.newEx (e':=some l) (fun H' k=>⟨fun e=>(by cases e),fun l' e=>?_⟩) fun H' v'=>q F' H' v' sd
    cases e
    exact ⟨xb,A,n,c,T,rfl,by rw [k xb hxm]; exact h2x,f0,hxm,slx,⟨hnl,o.cap⟩,sr⟩
  have s2:Sub H H2:=⟨fun b ob hb=>by rw [h2o b (fun e=>by rw [e,hHx] at hb; cases hb)]; exact s1.sub _ _ hb⟩
  rcases o.at_ with ⟨a1,a2,a3⟩ | ⟨bb,cur,T',a1,a2,a3,a4,a5⟩
  · refine key F (h.grow s2) (none_below h.fh hHx) (.inl ?_) ⟨fun _ _ k=>k⟩
    have:l.length = 0:=by omega
    rw [List.length_eq_zero_iff.1 this]; rfl
  · have hHb:H bb = none:=none_below s0 a2
    have hFb:F bb = none:=none_below h.fh hHb
    have hGb:G bb = none:=none_below h.gf hFb
    have hbx:bb ≠ xb:=fun e=>by rw [e,hxb] at a3; cases a3
    have hd:Sub (dif F G) (dif (F.upd bb (.cells cur T' (0,0))) G):=⟨fun i x k=>by
      have hne:i ≠ bb:=fun e=>by subst e; unfold dif at k; split at k; cases k; rw [hFb] at k; cases k
      unfold dif at k ⊢
      rw [Heap.upd_other hne]; exact k⟩
    refine key (F.upd bb (.cells cur T' (0,0))) (h.frame (h.gf.trans (Sub.upd_new hFb)) ⟨fun i x k=>?_⟩ (fun b hn hs=>?_) hd) ?_ (.inr ⟨⟨bb,0,none⟩,a1,?_⟩) hd
    · by_cases hne:i = bb
      · subst hne; rw [Heap.upd_same] at k; rw [h2o _ hbx,a3]; exact k
      · rw [Heap.upd_other hne] at k; exact s2.sub _ _ (h.fh.sub _ _ k)
    · have hne:b ≠ bb:=fun e=>by rw [e,hHb] at hs; cases hs
      refine ⟨by rw [Heap.upd_other hne]; exact hn,?_⟩
      obtain ⟨x,hx⟩:=Option.isSome_iff_exists.1 hs
      rw [hx,s2.sub _ _ hx]
    · rw [Heap.upd_other hbx.symm]; exact none_below h.fh hHx
    · refine ⟨⟨cur,T',(0,0),?_,rfl,fun j v hv=>by simpa using a5 j v hv⟩⟩
      unfold dif
      rw [hGb]
      show (if (false:Bool) = true then none else _) = _
      rw [if_neg (by decide)]
      exact Heap.upd_same
end
end Go.Proofs.YtkofafcgcnciaaaGreatDoor
set_option maxRecDepth 100000
namespace Go.Proofs.YtkofafcgcnciaaaGreatDoor
open Go.Ax
theorem FStep.longer {p:Prg} {b:Bool} {s s':VS} (q:FStep p b s s'):s.made.length ≤ s'.made.length:=by
  have live:∀ e:Ev,s.made.length ≤ (s.emit0 e).2.made.length:=fun e=>by
    have k:=emits s e
    generalize s.emit0 e = q at k ⊢
    cases k with
    | live h=>show _ ≤ (s.made ++ [e]).length; rw [List.length_append]; omega
    | none h=>exact Nat.le_refl _
    | other w l h=>exact Nat.le_refl _
    | same w l h=>show _ ≤ (s.made ++ [w]).length; rw [List.length_append]; omega
  cases q with
  | emit e ho hc=>unfold VS.emit; split <;> exact live _
  | fails c ho=>exact live _
  | done i v k=>rcases setDone_cases s i v k with e | ⟨f,-,-,-,e⟩ <;> rw [e] <;> exact Nat.le_refl _
  | mark i=>rcases mark_cases s i with e | ⟨c,-,e⟩ <;> rw [e] <;> exact Nat.le_refl _
  | _=>exact Nat.le_refl _
theorem FSteps.longer {p:Prg} {b:Bool} {s s':VS} (q:FSteps p b s s'):s.made.length ≤ s'.made.length:=by
  induction q with
  | refl=>exact Nat.le_refl _
  | tail _ q ih=>exact Nat.le_trans ih q.longer
theorem retask_ok {p:Prg} (ok:Okp p) {s:VS} {l:List Ev} (iv:Inv p (s.exp l)) (tk:Tasks (s.exp l)) (now:Int):Inv p ((s.exp l).task p now) ∧ ((s.exp l).task p now).expect.isSome = true ∧ 1 ≤ ((s.exp l).task p now).made.length:=by
  have h0:=begin_inv iv tk now
  have st:=task_steps ok iv tk now
  exact ⟨(st.inv h0.1 h0.2).1,st.some_ rfl,st.longer⟩
section
variable {p:Prg} {G H:Heap} {m:Nat} {pf po:SlH} {sl:Nat → SlH} {F:Heap} {ex:Value} {st:List SlH} {s:VS}
theorem VMX.c35 (h:VMX G H m pf po sl F ex st s):At H ((⟨m,0,none⟩:Addr).add 35) [.bool s.drift]:=h.cell rfl
structure RRep (p:Prg) (h:List Ev) (H0:Heap) (m:Nat) (pf po:SlH) (x:Int) (H1:Heap):Prop where
  out:∃ j k s,x = (k:Nat) ∧ k ≤ 600 ∧ repN p h j = .inr (k,s) ∧ VMP p H0 H1 m pf po .nilFunc s
structure RepR (p:Prg) (h:List Ev) (H0:Heap) (v:Value) (H':Heap):Prop where
  out:(∃ j a,repN p h j = .inl a ∧ v = .tuple #[.pointer none,.int .i64 53,.int .i64 (a:Nat)] ∧ Sub H0 H') ∨
    (∃ j k s m pf po,repN p h j = .inr (k,s) ∧ h.length ≤ k ∧ v = .tuple #[.pointer (some ⟨m,0,none⟩),.int .i64 0,.int .i64 0] ∧ VMP p H0 H' m pf po .nilFunc s)
theorem repN_succ {h:List Ev} {j k:Nat} {s:VS} (e:repN p h j = .inr (k,s)) (hk:k < h.length):repN p h (j + 1) = rep1 p h k s:=by
  show (match repN p h j with | .inl a=>_ | .inr (k,s)=>_) = _
  rw [e]
  show (if k < h.length then _ else _) = _
  rw [if_pos hk]
theorem t23 {H : Heap} {fA oA : Option Addr} {fn fc on oc : Nat} {p : Prg} (ok : Okp p) (hp : HasP H fA fn oA on p) {A : Option Addr} {n c : Nat} {h : List Ev} (he : HasEvs H A n h) (hcap : n ≤ c) (hb : h.length ≤ 256) (hs : stand h = h.length)
    (hok:∀ j k s,repN p h j = .inr (k,s) → k < h.length → RepIn p h k s) :
    Tr Tryz.prog 23 #[.agg #[.slice fA fn fc,.slice oA on oc],.slice A n c] H fun v H'=>RepR p h H v H':=by
  have hn:=he.len
  apply v23; unfold F23
  refine (t63 hp).mono fun v H1 hr=>?_
  rcases hr with ⟨hne,-⟩ | ⟨-,m,pf,po,hv,s1,w⟩
  · exact absurd (ok_check ok) (fun e=>hne (by rw [e]))
  have gc:=t36 (c:=c) (by omega) (he.sub s1)
  have hcv:¬ stand h < h.length:=by omega
  have cv:checkV h = .tuple #[.int .i64 0,.int .i64 0]:=by unfold checkV; rw [if_neg hcv]
  rw [cv] at gc
  refine ⟨some ⟨m,0,none⟩,0,hv,fun e=>absurd e (by simp),fun _=>⟨_,_,gc,fun e=>absurd e (by simp),fun _=>⟨RRep p h H m pf po,fun x _=>((n:Int) - x).toNat,⟨0,0,VS.init,rfl,by decide,rfl,w⟩,fun x H2 r=>?_⟩⟩⟩
  obtain ⟨j,k,s,rfl,hk6,hj,w2⟩:=r.out
  refine ⟨fun hlt=>?_,fun hge=>?_⟩
  · have hlt:(k:Int) < (n:Int):=of_decide_eq_true hlt
    have hkl:k < h.length:=by omega
    have ri:=hok j k s hj hkl
    obtain ⟨e,hek⟩:=get_some hkl
    have g2:=w2.gh
    obtain ⟨a,ha,hat⟩:=he.at_ k e hek
    have bd:A = some a ∧ (0:Int) ≤ (k:Int) ∧ (k:Int) < (n:Int):=⟨ha,by omega,hlt⟩
    have hw1:IntKind.i64.wrap ((k:Int) + 1) = ((k + 1:Nat):Int):=by rw [wrapi (by omega) (by omega)]; rfl
    rw [hw1]
    obtain ⟨sl2,F2,st2,v2,p2⟩:=w2.out
    refine ⟨a,bd,e.kind,at_one 2 (hat.sub g2) rfl,fun e2=>?_,fun e2=>?_⟩
    · have e2:e.kind ≠ 2:=by simpa using e2
      refine ⟨a,bd,_,_,_,_,_,_,_,_,_,hat.sub g2,(t64 ok v2 p2 ri.inv e).mono fun v3 H3 ⟨hv3,w3⟩=>⟨_,hv3,fun e3=>?_,fun e3=>?_⟩⟩
      · have e3:(s.apply e).1 ≠ 0:=by simpa using e3
        refine ⟨.inl ⟨j + 1,k,?_,rfl,w3.gh⟩⟩
        rw [repN_succ hj hkl]
        unfold rep1
        rw [hek]
        simp only
        rw [if_pos e2,if_pos e3]
      · have e3:(s.apply e).1 = 0:=by simpa using e3
        refine ⟨⟨j + 1,k + 1,_,rfl,by omega,?_,w3⟩,by show ((n:Int) - ((k + 1:Nat):Int)).toNat < ((n:Int) - (k:Int)).toNat; omega⟩
        rw [repN_succ hj hkl]
        unfold rep1
        rw [hek]
        simp only
        rw [if_pos e2,if_neg (by rw [e3]; simp)]
    · have e2:e.kind = 2:=by simpa using e2
      obtain ⟨tk,ivx⟩:=ri.tk e hek e2
      obtain ⟨iv5,so5,len5⟩:=retask_ok ok ivx tk e.time
      refine (t67 (fr:=k + 1)).mono fun v3 H3 ⟨b,b1,hv3,hb3,hb4,s3⟩=>⟨_,_,_,hv3,?_⟩
      have s03:Sub H H3:=g2.trans s3
      rw [hn] at hb3
      refine (t66 (l:=h) hb3 hb4 (by omega) (by omega) (by rw [← hn]; exact he.sub s03) (by omega)).mono fun v4 H4 ⟨A4,n4,c4,hv4,o4⟩=>⟨A4,n4,c4,hv4,?_⟩
      apply v65; unfold F65
      intro xb hxb H5 e5
      refine ⟨_,_,_,rfl,_,rfl,?_⟩
      refine v2.expects s3 o4 hxb e5 fun F6 H6 v6 d6=>?_
      have w6:VMP p H H6 m pf po (.func (.func 112) #[] #[.pointer (some ⟨xb,0,none⟩)]) (s.exp (cmds (h.drop (k + 1)))):=⟨sl2,F6,st2,v6,p2.sub d6⟩
      refine ⟨a,bd,e.time,at_one 1 (hat.sub w6.gh) rfl,(t68 ok v6 (p2.sub d6) ivx tk e.time).mono fun v7 H7 ⟨hv7,w7⟩=>⟨hv7,?_⟩⟩
      obtain ⟨sl7,F7,st7,v7',p7⟩:=w7.out
      obtain ⟨l7,hl7⟩:=Option.isSome_iff_exists.1 so5
      obtain ⟨all,hf,td⟩:=t112 v7' hl7
      have hml:=iv5.made
      have hc5:=iv5.c0
      have r1:repN p h (j + 1) = if ((s.retask p h k e.time).drift || (s.retask p h k e.time).more) = true then .inl (k + (s.retask p h k e.time).made.length) else .inr (k + (s.retask p h k e.time).made.length,(s.retask p h k e.time).noExp):=by
        rw [repN_succ hj hkl]
        unfold rep1
        rw [hek]
        simp only
        rw [if_neg (by omega)]
      have eS:(s.exp (cmds (h.drop (k + 1)))).task p e.time = s.retask p h k e.time:=rfl
      rw [eS] at v7' hl7 hml hc5 len5 td
      generalize s.retask p h k e.time = S at v7' hl7 hml hc5 len5 td r1
      refine ⟨_,_,hf,td.mono fun v8 H8 r8=>?_⟩
      have nx:∃ (y:Ev) (b:Bool) (l8:List Ev),v8 = .tuple #[y.val,.bool b] ∧ VMX H H8 m pf po sl7 F7 (.func (.func 112) #[] #[.pointer (some ⟨xb,0,none⟩)]) st7 { S with expect:=some l8 } ∧ S.more = (b && !outsideM y):=by
        rcases r8 with ⟨e8,e9,e10⟩ | ⟨y,l8,e8,e9,v9⟩
        · refine ⟨Ev.zero,false,l7,e9,?_,?_⟩
          · rw [e10,← hl7]; exact v7'
          · unfold VS.more; rw [hl7,e8]; rfl
        · refine ⟨y,true,l8,e9,v9,?_⟩
          unfold VS.more; rw [hl7,e8]; rfl
      obtain ⟨y,b,l8,hv8,v8',hmore⟩:=nx
      refine ⟨_,_,_,_,_,_,_,_,_,b,hv8,_,rfl,v8'.noEx fun H9 v9=>?_⟩
      have hml9:=v9.madeLen
      have hml9:(sl7 5).n = S.made.length:=hml9
      have w9:VMP p H H9 m pf po .nilFunc S.noExp:=⟨sl7,F7,st7,v9,p7⟩
      have hw2:IntKind.i64.wrap ((k:Int) + ((sl7 5).n:Int)) = ((k + S.made.length:Nat):Int):=by rw [hml9,wrapi (by omega) (by omega)]; rfl
      refine ⟨_,rfl,_,_,_,v9.c32,_,rfl,S.drift,v9.c35,outsideM y,fun _=>t69 y H9,fun e=>?_,fun e=>?_⟩
      · rw [hw2]
        refine ⟨.inl ⟨j + 1,k + S.made.length,?_,rfl,w9.gh⟩⟩
        rw [r1,hmore,if_pos e]
      · rw [hw2]
        refine ⟨⟨j + 1,k + S.made.length,_,rfl,by omega,?_,w9⟩,by show ((n:Int) - ((k + S.made.length:Nat):Int)).toNat < ((n:Int) - (k:Int)).toNat; omega⟩
        rw [r1,hmore,if_neg (by rw [e]; decide)]
  · have hge:=of_decide_eq_false hge
    exact ⟨.inr ⟨j,k,s,m,pf,po,hj,by omega,rfl,w2⟩⟩
end
end Go.Proofs.YtkofafcgcnciaaaGreatDoor
set_option maxRecDepth 100000
namespace Go.Proofs.YtkofafcgcnciaaaGreatDoor
open Go.Ax
def fixN (next:Int) (e:Ev):Ev:=if e.kind = 18 then { e with b:=next } else e
def RS.step2 (z:RS × List OutM) (e:Ev):RS × List OutM:=(z.1.book e,z.2 ++ z.1.tells e)
def RS.all (R:RS) (l:List Ev):RS × List OutM:=l.foldl RS.step2 (R,[])
theorem RS.all_snoc (R:RS) (l:List Ev) (e:Ev):R.all (l ++ [e]) = ((R.all l).1.book e,(R.all l).2 ++ (R.all l).1.tells e):=by unfold RS.all; rw [List.foldl_append]; rfl
structure RS.Le (R:RS):Prop where
  a:R.acts.length ≤ R.events.length
  t:R.timers.length ≤ R.events.length
  k:R.kids.length ≤ R.events.length
  u:R.updates.length ≤ R.events.length
theorem RS.Le.small {R:RS} (h:R.Le) (e:R.events.length ≤ 1000000):R.Small:=⟨e,h.a,h.t,h.k,h.u⟩
theorem RS.book_events (R:RS) (e:Ev):(R.book e).events = R.events ++ [e]:=by
  obtain ⟨s,hs⟩:=RS.see_eq (R.add e) e
  have h1:((R.add e).see e).events = R.events ++ [e]:=by rw [hs]; rfl
  unfold RS.book
  generalize (R.add e).see e = S at h1
  have h2:(S.sw e).events = R.events ++ [e]:=by rw [← h1]; exact RS.sw_all (Q:=fun x=>x.events = S.events) S e rfl rfl rfl rfl rfl rfl rfl rfl (fun _ _ _=>rfl) rfl rfl rfl
  rw [← h2]; unfold RS.close; split <;> rfl
theorem RS.Le.book {R:RS} (h:R.Le) (e:Ev):(R.book e).Le:=by
  have he:=RS.book_events R e
  obtain ⟨s,hs⟩:=RS.see_eq (R.add e) e
  obtain ⟨a,t,k,u⟩:=h
  have l1:(R.events ++ [e]).length = R.events.length + 1:=by simp
  have h1:((R.add e).see e).acts.length ≤ R.events.length ∧ ((R.add e).see e).timers.length ≤ R.events.length ∧ ((R.add e).see e).kids.length ≤ R.events.length ∧ ((R.add e).see e).updates.length ≤ R.events.length:=by rw [hs]; exact ⟨a,t,k,u⟩
  have h2:(((R.add e).see e).sw e).acts.length ≤ R.events.length + 1 ∧ (((R.add e).see e).sw e).timers.length ≤ R.events.length + 1 ∧ (((R.add e).see e).sw e).kids.length ≤ R.events.length + 1 ∧ (((R.add e).see e).sw e).updates.length ≤ R.events.length + 1:=by
    generalize (R.add e).see e = S at h1 ⊢
    obtain ⟨a,t,k,u⟩:=h1
    refine RS.sw_all (Q:=fun x=>x.acts.length ≤ R.events.length + 1 ∧ x.timers.length ≤ R.events.length + 1 ∧ x.kids.length ≤ R.events.length + 1 ∧ x.updates.length ≤ R.events.length + 1) S e ?_ ?_ ?_ ?_ ?_ ?_ ?_ ?_ ?_ ?_ ?_ ?_
    all_goals first
      | exact ⟨by omega,by omega,by omega,by omega⟩
      | (simp only [List.length_append,List.length_singleton]; exact ⟨by omega,by omega,by omega,by omega⟩)
      | exact ⟨Nat.le_trans (List.length_filter_le _ _) (Nat.le_succ_of_le a),Nat.le_succ_of_le t,Nat.le_succ_of_le k,Nat.le_succ_of_le u⟩
      | exact ⟨Nat.le_succ_of_le a,Nat.le_trans (List.length_filter_le _ _) (Nat.le_succ_of_le t),Nat.le_succ_of_le k,Nat.le_succ_of_le u⟩
      | (simp only [List.length_map]; exact ⟨by omega,by omega,by omega,by omega⟩)
      | (intro _ _ _; simp only [List.length_map]; exact ⟨by omega,by omega,by omega,by omega⟩)
  have h3:(R.book e).acts.length ≤ R.events.length + 1 ∧ (R.book e).timers.length ≤ R.events.length + 1 ∧ (R.book e).kids.length ≤ R.events.length + 1 ∧ (R.book e).updates.length ≤ R.events.length + 1:=by
    unfold RS.book RS.close
    generalize ((R.add e).see e).sw e = S at h2
    split
    · exact ⟨Nat.zero_le _,Nat.zero_le _,h2.2.2.1,h2.2.2.2⟩
    · exact h2
  refine ⟨?_,?_,?_,?_⟩ <;> rw [he,l1]
  · exact h3.1
  · exact h3.2.1
  · exact h3.2.2.1
  · exact h3.2.2.2
theorem RS.all_le {R:RS} (h:R.Le) (l:List Ev):(R.all l).1.Le ∧ (R.all l).1.events = R.events ++ l:=by
  have:∀ (l:List Ev) (z:RS × List OutM),z.1.Le → (l.foldl RS.step2 z).1.Le ∧ (l.foldl RS.step2 z).1.events = z.1.events ++ l:=fun l=>by
    induction l with
    | nil=>intro z hz; exact ⟨hz,by simp⟩
    | cons e l ih =>
      intro z hz
      obtain ⟨h1,h2⟩:=ih (RS.step2 z e) (hz.book e)
      refine ⟨h1,?_⟩
      rw [List.foldl_cons,h2]
      show (z.1.book e).events ++ l = _
      rw [RS.book_events,List.append_assoc]; rfl
  exact this l _ h
section
variable {G0 G H H':Heap} {b:Nat} {sl:Nat → SlH} {R:RS} {q:SlH} {sz:Nat} {cs:List Value}
def addB (G H:Heap) (q:SlH):Heap:=fun i=>if q.blk = some i then H i else G i
theorem addB_sub (hd:Hand G H q sz cs):Sub G (addB G H q) ∧ Sub (addB G H q) H:=⟨⟨fun i o h=>by
  unfold addB; split
  · rename_i e; rw [hd.free i e] at h; cases h
  · exact h⟩,⟨fun i o h=>by
  unfold addB at h; split at h
  · exact h
  · exact hd.g.sub i o h⟩⟩
theorem addB_hand (hd:Hand G H q sz cs):Hand G (addB G H q) q sz cs:=⟨(addB_sub hd).1,hd.sl.mono fun i hi=>by unfold addB; rw [if_pos hi],hd.free⟩
theorem RunX.beside (h:RunX G H b sl R) (hd:Hand H H' q sz cs):RunX (addB G H' q) H' b sl R ∧ Hand G (addB G H' q) q sz cs:=by
  have hg:Hand G H' q sz cs:=⟨h.gh.trans hd.g,hd.sl,fun i hi=>none_below h.gh (hd.free i hi)⟩
  refine ⟨(h.grow hd.g).know (addB_sub hg).2 fun i hi=>?_,addB_hand hg⟩
  unfold addB at hi
  split at hi
  · rename_i e
    have hn:=h.new_free (c:=0) (hd.free i e)
    refine .inr ⟨hn.2.1,fun c hc hb=>?_⟩
    have:=(h.ok c hc).blk_some hb
    rw [hd.free i e] at this; cases this
  · exact .inl hi
theorem RunX.pushH (h : RunX G H b sl R) (hd : Hand G0 G q sz cs) {e : TypeId} {bytes : Nat} {new : List Value} {k : Nat} (hk : new.length = k * sz) (h1 : allOne new = true) (hb : (q.n + k) * bytes ≤ 140737488355328) (hl : q.n + k ≤ 9223372036854775807)
    {K:Option Addr → Nat → Nat → Heap → Prop} (r:∀ A' c' G' H',RunX G' H' b sl R → Hand G0 G' ⟨A',q.n + k,c'⟩ sz (cs ++ new) → K A' (q.n + k) c' H'):appC e sz bytes H q.A q.n q.c new k K:=by
  have ok:=hd.sl
  have okH:=ok.sub h.gh
  have hlen:=ok.len
  refine ⟨⟨cs,okH.src,ok.len,hk,h1,hb,hl,fun hcap=>?_,fun hcap i cap rest hbn hle hr=>?_⟩⟩
  · rcases ok.at_ with ⟨a1,a2,a3⟩ | ⟨i,off,cur,T,a1,a2,a3,a4⟩
    · left
      have k0:k = 0:=by omega
      subst k0
      have hn:new = []:=List.length_eq_zero_iff.1 (by omega)
      subst hn
      refine ⟨rfl,r _ _ _ _ h ⟨hd.g,⟨by rw [List.append_nil]; simpa using ok.len,hcap,.inl ⟨a1,by simp only; omega,a3⟩⟩,fun i hi=>?_⟩⟩
      unfold SlH.blk at hi; simp only at hi; rw [a1] at hi; cases hi
    · right
      have hsz:(off + q.n * sz) + new.length ≤ cur.size:=by
        have:(q.n + k) * sz ≤ q.c * sz:=Nat.mul_le_mul_right _ hcap
        rw [Nat.add_mul] at this
        omega
      have hblk:q.blk = some i:=by unfold SlH.blk; rw [a1]; rfl
      refine ⟨⟨i,off,none⟩,cur,T,a1,rfl,h.gh.sub _ _ a2,hsz,r _ _ _ _ (h.turn a2 _) ⟨base_upd hd.g (hd.free i hblk) _,⟨?_,hcap,.inr ⟨i,off,_,T,a1,Heap.upd_same,?_,fun j v hv=>?_⟩⟩,fun b' hb'=>?_⟩⟩
      · rw [List.length_append,hlen,hk,Nat.add_mul]
      · rw [splice_size hsz]; exact a3
      · by_cases hj:j < q.n * sz
        · rw [List.getElem?_append_left (by omega)] at hv
          rw [splice_get hsz,if_pos (by omega)]; exact a4 j v hv
        · have hlt:=get_lt hv
          rw [List.length_append] at hlt
          rw [List.getElem?_append_right (by omega),hlen] at hv
          rw [splice_get hsz,if_neg (by omega),if_pos (by omega)]
          rw [← hv]; congr 1; omega
      · unfold SlH.blk at hb'; simp only at hb'; rw [a1] at hb'; cases hb'
        exact hd.free i hblk
  · have hGn:=none_below h.gh hbn
    refine r _ _ _ _ (h.ext hbn _) ⟨hd.g.trans (Sub.upd_new hGn),⟨by rw [List.length_append,ok.len,hk,Nat.add_mul],hle,.inr ⟨i,0,_,e,rfl,Heap.upd_same,?_,fun j v hv=>?_⟩⟩,fun b' hb'=>?_⟩
    · simp only [List.size_toArray,List.length_append,ok.len,hk,hr]
      rw [← Nat.add_mul,← Nat.add_mul]
      have:q.n + k + (cap - (q.n + k)) = cap:=by omega
      rw [this]; simp
    · have hj:=get_lt hv
      simp only [List.getElem?_toArray,Nat.zero_add]
      rw [List.getElem?_append_left hj]; exact hv
    · unfold SlH.blk at hb'; simp only at hb'; cases hb'
      exact none_below hd.g hGn
theorem cutN_cells {H5 H:Heap} {i:Nat} {c:Array Value} {T:TypeId} {f:Nat × Nat} (h:H i = some (.cells c T f)):cutN H5 H i = some (.cells c T f):=by unfold cutN; rw [h]; rfl
theorem SlOk.cells {H:Heap} {h:SlH} {sz:Nat} {cs:List Value} (k:SlOk H h sz cs) {i:Nat} (hi:h.blk = some i):∃ c T,H i = some (.cells c T (0,0)):=by
  rcases k.at_ with a | ⟨b',off,cur,T,a1,a2,_⟩
  · unfold SlH.blk at hi; rw [a.1] at hi; cases hi
  · unfold SlH.blk at hi; rw [a1] at hi; cases hi; exact ⟨cur,T,a2⟩
theorem RunX.cut (h:RunX G H b sl R) (hd:Hand G0 G q sz cs) {H5:Heap} (hs:Sub G0 H5):∃ G',RunX G' (cutN H5 H) b sl R ∧ Hand G0 G' q sz cs:=by
  have w:=h.weaken (addB_sub hd).2
  refine ⟨addB G0 G q,w.frame ⟨fun i o ho=>?_⟩ fun i hn hsome hi=>⟨hn,?_⟩,addB_hand hd⟩
  · unfold addB at ho
    split at ho
    · rename_i e
      obtain ⟨c,T,hc⟩:=SlOk.cells hd.sl e
      rw [hc] at ho; cases ho
      exact cutN_cells (h.gh.sub _ _ hc)
    · exact (cutN_keep hs (hd.g.trans h.gh)).sub i o ho
  · rcases hi with rfl | ⟨c,hc,hb⟩
    · rw [h.hb]; exact cutN_cells h.hb
    · obtain ⟨cc,T,hcc⟩:=SlOk.cells (h.ok c hc) hb
      rw [hcc]; exact cutN_cells hcc
end
theorem outs_one:∀ l:List OutM,allOne (l.flatMap OutM.cells) = true
  | []=>rfl
  | x :: l=>by rw [List.flatMap_cons]; exact outs_one l
theorem RS.tells_len (R:RS) (e:Ev):(R.tells e).length ≤ 1:=by
  unfold RS.tells
  have c:∀ {P:Prop} [Decidable P] {x y:List OutM},x.length ≤ 1 → y.length ≤ 1 → (if P then x else y).length ≤ 1:=fun h1 h2=>by split; exact h1; exact h2
  exact c (Nat.le_refl _) (c (Nat.le_refl _) (c (Nat.le_refl _) (c (Nat.le_refl _) (Nat.zero_le _))))
theorem RS.all_tells (R:RS) (l:List Ev):(R.all l).2.length ≤ l.length:=by
  have:∀ (l:List Ev) (z:RS × List OutM),(l.foldl RS.step2 z).2.length ≤ z.2.length + l.length:=fun l=>by
    induction l with
    | nil=>intro z; exact Nat.le_refl _
    | cons e l ih =>
      intro z
      have h1:=ih (RS.step2 z e)
      have h2:=z.1.tells_len e
      have h3:(RS.step2 z e).2.length = z.2.length + (z.1.tells e).length:=List.length_append
      rw [List.foldl_cons,List.length_cons]; omega
  have:=this l (R,[])
  unfold RS.all
  simpa using this
end Go.Proofs.YtkofafcgcnciaaaGreatDoor
set_option maxRecDepth 100000
namespace Go.Proofs.YtkofafcgcnciaaaGreatDoor
open Go.Ax
section
variable {p:Prg} {G H:Heap} {m:Nat} {pf po:SlH} {sl:Nat → SlH} {F:Heap} {ex:Value} {st:List SlH} {s:VS}
structure TaskH (p:Prg) (G:Heap) (s:VS) (now draw:Int) (v:Value) (H':Heap):Prop where
  out:∃ A n c G',v = .tuple #[.slice A n c,.int .i64 (s.Task p now draw).1.2] ∧ Hand G G' ⟨A,n,c⟩ 9 ((s.Task p now draw).1.1.flatMap Ev.cells) ∧ Sub G' H'
theorem h56 (okp : Okp p) (h : VMX G H m pf po sl F ex st s) (pr : HasP (dif F G) pf.A pf.n po.A po.n p) (iv : Inv p s) (hx : s.expect = none) (now draw : Int) :
    Tr Tryz.prog 56 #[.pointer (some ⟨m,0,none⟩),.int .i64 now,.int .i64 draw] H fun v H'=>TaskH p G s now draw v H':=by
  have gh:=h.gf.trans h.fh
  have bad:∀ (k:Int),s.taskE now = k → k ≠ 0 → TaskH p G s now draw (.tuple #[.slice none 0 0,.int .i64 k]) H:=fun k hk h0=>by
    have e:s.Task p now draw = (([],k),s):=by rw [Task_eq,hk,if_pos h0]
    refine ⟨none,0,0,G,?_,?_,gh⟩
    · rw [e]
    · rw [e]; exact Hand.nil (Sub.refl _) 9
  apply v56; unfold F56
  refine ⟨fun e=>⟨_,fun _=>rfl,s.over,fun _=>h.c27,fun eo=>?_,fun eo=>?_⟩,fun e=>⟨_,rfl,s.over,h.c27,fun eo=>?_,fun eo=>⟨_,rfl,s.count,h.c30,fun e0=>?_,fun e0=>⟨_,rfl,s.count,h.c30,fun e4=>?_,fun e4=>⟨_,rfl,?_⟩⟩⟩⟩⟩
  · have e:(decide (now < 0) || decide (now > 1099511627776)) = true:=by simpa using e
    have eo:s.over = true:=by simpa using eo
    exact bad 46 (by unfold VS.taskE; rw [if_pos e,if_pos eo]) (by decide)
  · have e:(decide (now < 0) || decide (now > 1099511627776)) = true:=by simpa using e
    have eo:s.over = false:=by simpa using eo
    exact bad 42 (by unfold VS.taskE; rw [if_pos e,if_neg (by rw [eo]; simp)]) (by decide)
  all_goals have e:(decide (now < 0) || decide (now > 1099511627776)) = false:=by simpa using e
  · exact bad 46 (by unfold VS.taskE; rw [if_neg (by rw [e]; simp),if_pos eo]) (by decide)
  · exact bad 54 (by unfold VS.taskE; rw [if_neg (by rw [e]; simp),if_neg (by rw [eo]; simp),if_pos e0]) (by decide)
  · exact bad 49 (by unfold VS.taskE; rw [if_neg (by rw [e]; simp),if_neg (by rw [eo]; simp),if_neg (by rw [e0]; simp),if_pos e4]) (by decide)
  · have ht:s.taskE now = 0:=by unfold VS.taskE; rw [if_neg (by rw [e]; simp),if_neg (by rw [eo]; simp),if_neg (by rw [e0]; simp),if_neg (by rw [e4]; simp)]
    have eT:s.Task p now draw = ((((s.ready_ draw).task p now).made,0),(s.ready_ draw).task p now):=by rw [Task_eq,if_neg (by rw [ht]; simp)]
    have hex:=h.exNil hx
    subst hex
    refine h.wr (k:=33) (by decide) { s with draws:=IntKind.u64.wrap draw } rfl rfl rfl rfl rfl rfl rfl rfl h.vars h.attrs fun H1 v1=>⟨_,rfl,?_⟩
    refine v1.wr (k:=34) (by decide) (s.ready_ draw) rfl rfl rfl rfl rfl rfl rfl hx.symm h.vars h.attrs fun H2 v2=>?_
    have tk:=ready_tasks ht draw
    have iv2:=ready_inv iv draw
    have h0:=begin_inv iv2 tk now
    have iv3:=((task_steps okp iv2 tk now).inv h0.1 h0.2).1
    have hmd:=iv3.made
    have hc3:=iv3.c0
    refine (t68 okp v2 pr iv2 tk now).mono fun v H3 ⟨hv,w⟩=>?_
    obtain ⟨sl3,F3,st3,v3,pr3⟩:=w.out
    have hml:=v3.madeLen
    have hmc:contC sl3 st3 ((s.ready_ draw).task p now) 5 = ((s.ready_ draw).task p now).made.flatMap Ev.cells:=rfl
    have ok5:=v3.ok 5 (by decide)
    rw [hmc] at ok5
    have hsz:(((s.ready_ draw).task p now).made.flatMap Ev.cells).length = (sl3 5).n * 9:=ok5.len
    refine ⟨hv,_,rfl,_,_,_,v3.c32,⟨⟨_,ok5.src,hsz,?_⟩⟩⟩
    refine v3.side (q:=⟨none,0,0⟩) (Side.nil v3.gf 9) (k:=(sl3 5).n) hsz (evs_one _) (by show (0 + (sl3 5).n) * 72 ≤ _; omega) (by show 0 + (sl3 5).n ≤ _; omega) fun A' c' G4 F4 H4 v4 sd=>?_
    refine ⟨A',0 + (sl3 5).n,c',G4,?_,?_,v4.gf.trans v4.fh⟩
    · rw [eT]
    · rw [eT]; exact ⟨sd.g,sd.sl,fun i hi=>none_below v3.gf (sd.free i hi)⟩
structure Rep (p:Prg) (h:List Ev) (s:VS):Prop where
  st:stand h = h.length
  at_:∃ j k,repN p h j = .inr (k,s) ∧ h.length ≤ k
  ok:∀ j k t,repN p h j = .inr (k,t) → k < h.length → RepIn p h k t
  inv:Inv p s
  x:s.expect = none
theorem Rep.run {p:Prg} {h:List Ev} {s:VS} (r:Rep p h s) {H0:Heap} {v:Value} {H':Heap} (q:RepR p h H0 v H'):∃ m pf po,v = .tuple #[.pointer (some ⟨m,0,none⟩),.int .i64 0,.int .i64 0] ∧ VMP p H0 H' m pf po .nilFunc s:=by
  obtain ⟨j0,k0,e0,hk0⟩:=r.at_
  rcases q.out with ⟨j,a,hj,-,-⟩ | ⟨j,k,s',m,pf,po,hj,hk,hv,w⟩
  · exfalso
    have e1:=repN_inl hj j0
    have e2:=repN_inr e0 hk0 j
    rw [Nat.add_comm,e1] at e2
    cases e2
  · have e1:=repN_inr hj hk j0
    have e2:=repN_inr e0 hk0 j
    rw [Nat.add_comm,e1] at e2
    cases e2
    exact ⟨m,pf,po,hv,w⟩
end
def lastT (l:List Ev):Int:=((l.getLast?).map Ev.time).getD 0
def RS.Task (R:RS) (p:Prg) (s:VS) (now draw next:Int):(List OutM × Int) × RS :=
  if (decide (now < 0) || decide (now > 1099511627776) || decide ((R.events.length:Int) > 0) && decide (now < lastT R.events)) = true then (([],42),R) else
  if (!(R.status == 1)) = true then (([],46),R) else
  if decide ((R.events.length:Int) > 254) = true then ((R.tells (fullM ((R.events.length:Int) + 1) now),49),R.book (fullM ((R.events.length:Int) + 1) now)) else
  if (s.Task p now draw).1.2 ≠ 0 then (([],(s.Task p now draw).1.2),R) else
  (((R.all ((s.Task p now draw).1.1.map (fixN next))).2,0),(R.all ((s.Task p now draw).1.1.map (fixN next))).1)
structure TkR (G:Heap) (b:Nat) (z:(List OutM × Int) × RS) (v:Value) (H':Heap):Prop where
  out:∃ A n c,v = .tuple #[.slice A n c,.int .i64 z.1.2] ∧ RunE G H' b z.2 ∧ n = z.1.1.length ∧ Src H' A (z.1.1.flatMap OutM.cells)
structure RTk (G5:Heap) (b:Nat) (R:RS) (rows:List Ev) (next:Int) (pre:List Nat) (A:Option Addr) (n c:Nat) (H1:Heap):Prop where
  out:∃ G2 sl,RunX G2 H1 b sl (R.all (pre.map fun i=>fixN next ((rows[i]?).getD Ev.zero))).1 ∧ Hand G5 G2 ⟨A,n,c⟩ 7 ((R.all (pre.map fun i=>fixN next ((rows[i]?).getD Ev.zero))).2.flatMap OutM.cells)
theorem range_map {l:List Ev} {f:Ev → Ev}:(ofY l []).map (fun i=>f ((l[i]?).getD Ev.zero)) = l.map f:=by
  have h0:ofY l [] = List.range l.length:=by
    unfold ofY ofU
    have h1:(List.finRange l.length).take l.length = List.finRange l.length:=by rw [List.take_of_length_le]; simp
    rw [h1,List.filter_eq_self.2 (fun i _=>by unfold hasM; simp)]
    apply List.ext_getElem
    · simp
    · intro i h1 h2; simp
  rw [h0]
  apply List.ext_getElem?
  intro j
  rw [List.getElem?_map,List.getElem?_map]
  by_cases hj:j < l.length
  · obtain ⟨x,hx⟩:=get_some (l:=l) (i:=j) hj
    rw [List.getElem?_range hj,hx,Option.map_some,Option.map_some,hx]; rfl
  · rw [List.getElem?_eq_none (by simp; omega),List.getElem?_eq_none (by omega)]; rfl
end Go.Proofs.YtkofafcgcnciaaaGreatDoor
set_option maxRecDepth 100000
namespace Go.Proofs.YtkofafcgcnciaaaGreatDoor
open Go.Ax
theorem fixN_kind (next:Int) (x:Ev):(fixN next x).kind = x.kind ∧ (fixN next x).a = x.a:=by unfold fixN; split <;> exact ⟨rfl,rfl⟩
theorem lastT_snoc {l:List Ev} {x:Ev} (h:l[l.length - 1]? = some x):lastT l = x.time:=by
  unfold lastT
  rw [List.getLast?_eq_getElem?,h]; rfl
theorem tk_round {G5 H5 H1 : Heap} {b : Nat} {R : RS} {rows : List Ev} {next : Int} (le : R.Le) (hl : R.events.length ≤ 1000) (hrl : rows.length ≤ 256) (hs : Sub G5 H5) {pre : List Nat} {i : Nat} (hp : pre.length < rows.length) {x : Ev} (hx : rows[i]? = some x) (h10 : x.kind = 10 → 0 ≤ x.a ∧ x.a < 4) {A : Option Addr} {n c : Nat} (r : RTk G5 b R rows next pre A n c H1) :
    Tr Tryz.prog 43 #[.pointer (some ⟨b,0,none⟩),(fixN next x).val] H1 fun v H6=>∃ A' n' c',v = .slice A' n' c' ∧ appS 160 7 56 H6 A n c A' n' fun A'' n'' c'' H7=>RTk G5 b R rows next (pre ++ [i]) A'' n'' c'' (cutN H5 H7) ∧ Sub G5 H7:=by
  obtain ⟨G2,sl2,x2,hd⟩:=r.out
  have hmap:(pre ++ [i]).map (fun i=>fixN next ((rows[i]?).getD Ev.zero)) = pre.map (fun i=>fixN next ((rows[i]?).getD Ev.zero)) ++ [fixN next x]:=by rw [List.map_append,List.map_singleton,hx]; rfl
  have hal:=RS.all_le le (pre.map fun i=>fixN next ((rows[i]?).getD Ev.zero))
  have htl:=R.all_tells (pre.map fun i=>fixN next ((rows[i]?).getD Ev.zero))
  have hsn:=R.all_snoc (pre.map fun i=>fixN next ((rows[i]?).getD Ev.zero)) (fixN next x)
  have hpl:(pre.map fun i=>fixN next ((rows[i]?).getD Ev.zero)).length = pre.length:=List.length_map _
  rw [← hmap] at hsn
  have hn:=hd.flen (cells:=OutM.cells) (fun _=>rfl) (by decide)
  have hn:n = (R.all (pre.map fun i=>fixN next ((rows[i]?).getD Ev.zero))).2.length:=hn
  have gd:RTk G5 b R rows next (pre ++ [i]) = fun A n c H1=>RTk G5 b R rows next (pre ++ [i]) A n c H1:=rfl
  have fin:∀ {G3 H7:Heap} {sl3:Nat → SlH} {A':Option Addr} {n' c':Nat},RunX G3 H7 b sl3 ((R.all (pre.map fun i=>fixN next ((rows[i]?).getD Ev.zero))).1.book (fixN next x)) → Hand G5 G3 ⟨A',n',c'⟩ 7 (((R.all (pre.map fun i=>fixN next ((rows[i]?).getD Ev.zero))).2 ++ (R.all (pre.map fun i=>fixN next ((rows[i]?).getD Ev.zero))).1.tells (fixN next x)).flatMap OutM.cells) → RTk G5 b R rows next (pre ++ [i]) A' n' c' (cutN H5 H7) ∧ Sub G5 H7:=fun {G3 H7 sl3 A' n' c'} x3 hd3=>by
    obtain ⟨G4,x4,hd4⟩:=x3.cut hd3 hs
    exact ⟨⟨G4,sl3,by rw [hsn]; exact x4,by rw [hsn]; exact hd4⟩,hd3.g.trans x3.gh⟩
  have hk10:(fixN next x).kind = 10 → 0 ≤ (fixN next x).a ∧ (fixN next x).a < 4:=by rw [(fixN_kind next x).1,(fixN_kind next x).2]; exact h10
  generalize fixN next x = y at hk10 fin ⊢
  generalize (R.all (pre.map fun i=>fixN next ((rows[i]?).getD Ev.zero))).2 = outs at hd htl hn fin
  generalize (R.all (pre.map fun i=>fixN next ((rows[i]?).getD Ev.zero))).1 = R1 at x2 hal fin
  have hlen:R1.events.length ≤ 1000000:=by rw [hal.2,List.length_append,hpl]; omega
  refine (t43 x2 (hal.1.small hlen) y hk10).mono fun v H6 ⟨A',n',c',hv,⟨sl3,x3⟩,hn',hsrc⟩=>⟨A',n',c',hv,⟨_,hsrc,?_,?_⟩⟩
  · rw [flat_size (cells:=OutM.cells) (sz:=7) (fun _=>rfl),hn']
  · have ht1:=R1.tells_len y
    refine x3.pushH hd (k:=n') ?_ (outs_one _) (by show (n + n') * 56 ≤ _; omega) (by show n + n' ≤ _; omega) fun A'' c'' G3 H7 x7 hd7=>?_
    · rw [flat_size (cells:=OutM.cells) (sz:=7) (fun _=>rfl),hn']
    · refine fin x7 ?_
      rw [List.flatMap_append]; exact hd7
theorem t18 {G H : Heap} {b : Nat} {sl : Nat → SlH} {R : RS} (h : RunX G H b sl R) (le : R.Le) (hl : R.events.length ≤ 1000) {fA oA : Option Addr} {fn fc on oc : Nat} {p : Prg} (ok : Okp p) (hp : HasP H fA fn oA on p) {s : VS} (now draw next : Int)
    (rep:R.status = 1 → R.events.length ≤ 254 → Rep p R.events s) (h10:∀ x ∈ (s.Task p now draw).1.1,x.kind = 10 → 0 ≤ x.a ∧ x.a < 4) (hrl:(s.Task p now draw).1.1.length ≤ 256) :
    Tr Tryz.prog 18 #[.pointer (some ⟨b,0,none⟩),.agg #[.slice fA fn fc,.slice oA on oc],.int .i64 now,.int .i64 draw,.int .i64 next] H fun v H'=>TkR G b (R.Task p s now draw next) v H':=by
  have l0:=h.len0
  have he:HasEvs H (sl 0).A (sl 0).n R.events:=hand_evs (h.ok 0 (by decide))
  have bad:∀ {k:Int} {H':Heap},R.Task p s now draw next = (([],k),R) → Sub H H' → TkR G b (R.Task p s now draw next) (.tuple #[.slice none 0 0,.int .i64 k]) H':=fun e s'=>by rw [e]; exact ⟨none,0,0,rfl,(h.grow s').e,rfl,.inl rfl⟩
  apply v18; unfold F18
  -- the time
  have hlast:∃ a3:Addr,(decide (((sl 0).n:Int) > 0) = true → (sl 0).A = some a3 ∧ 0 ≤ IntKind.i64.wrap (((sl 0).n:Int) - 1) ∧ IntKind.i64.wrap (((sl 0).n:Int) - 1) < ((sl 0).n:Int)) ∧ (decide (((sl 0).n:Int) > 0) = true → At H ((a3.add ((IntKind.i64.wrap (((sl 0).n:Int) - 1)).toNat * 9)).add 1) [.int .i64 (lastT R.events)]):=by
    rcases Nat.eq_zero_or_pos R.events.length with q | q
    · exact ⟨⟨0,0,none⟩,fun e=>absurd (of_decide_eq_true e) (by omega),fun e=>absurd (of_decide_eq_true e) (by omega)⟩
    · obtain ⟨x,hx⟩:=get_some (l:=R.events) (i:=R.events.length - 1) (by omega)
      obtain ⟨a,ha,hat⟩:=he.at_ _ _ hx
      have hw:IntKind.i64.wrap (((sl 0).n:Int) - 1) = (R.events.length:Int) - 1:=by rw [wrapi (by omega) (by omega),l0]
      rw [hw,lastT_snoc hx,show ((R.events.length:Int) - 1).toNat = R.events.length - 1 by omega]
      exact ⟨a,fun _=>⟨ha,by omega,by omega⟩,fun _=>at_one 1 hat rfl⟩
  obtain ⟨a3,ha3,hx3⟩:=hlast
  have c15:=h.cell (k:=15) rfl
  have hb2:∀ {q r:Bool},(q && r) = true → r = true:=fun {q r} e=>by cases q <;> simp_all
  refine ⟨⟨b,0,none⟩,fun _=>rfl,_,_,_,fun _=>c15,⟨b,0,none⟩,fun _=>rfl,_,_,_,fun _=>c15,⟨b,0,none⟩,fun _=>rfl,_,_,_,fun _=>c15,a3,fun e=>ha3 (hb2 e),lastT R.events,fun e=>hx3 (hb2 e),fun q=>?_,fun q=>?_⟩
  · refine bad ?_ (Sub.refl _)
    unfold RS.Task
    rw [if_pos (by rw [← l0]; simpa using q)]
  have q1:¬ (decide (now < 0) || decide (now > 1099511627776) || decide ((R.events.length:Int) > 0) && decide (now < lastT R.events)) = true:=by
    rw [← l0]
    have q:(decide (now < 0) || decide (now > 1099511627776) || decide (((sl 0).n:Int) > 0) && decide (now < lastT R.events)) = false:=by simpa using q
    rw [q]; decide
  have e1 : R.Task p s now draw next = if (!(R.status == 1)) = true then (([], 46), R) else if decide ((R.events.length : Int) > 254) = true then ((R.tells (fullM ((R.events.length : Int) + 1) now), 49), R.book (fullM ((R.events.length : Int) + 1) now)) else
      if (s.Task p now draw).1.2 ≠ 0 then (([],(s.Task p now draw).1.2),R) else (((R.all ((s.Task p now draw).1.1.map (fixN next))).2,0),(R.all ((s.Task p now draw).1.1.map (fixN next))).1):=by
    conv=>lhs; unfold RS.Task
    rw [if_neg q1]
  refine ⟨_,rfl,_,_,_,_,_,_,_,_,_,_,_,_,_,_,_,_,_,_,_,_,_,_,_,_,_,_,_,_,_,_,h.at,_,t26 sl R H,fun q=>?_,fun q=>⟨_,rfl,_,_,_,c15,fun q2=>?_,fun q2=>⟨_,rfl,_,_,_,c15,?_⟩⟩⟩
  · exact bad (by rw [e1,if_pos q]) (Sub.refl _)
  · rw [if_neg (by rw [q]; decide)] at e1
    have q2':decide ((R.events.length:Int) > 254) = true:=by rw [← l0]; exact q2
    rw [if_pos q2'] at e1
    have hw:IntKind.i64.wrap (((sl 0).n:Int) + 1) = (R.events.length:Int) + 1:=by rw [wrapi (by omega) (by omega),l0]
    refine ⟨_,rfl,_,_,_,c15,?_⟩
    rw [hw]
    refine ((t54 ((R.events.length:Int) + 1) now H).mono fun v H2 ⟨hv,eH⟩=>⟨_,_,_,_,_,_,_,_,_,hv,?_⟩)
    rw [eH]
    exact (t43 h (le.small (by omega)) (fullM ((R.events.length:Int) + 1) now) (fun e=>by cases e)).mono fun v H3 ⟨A,n,c,hv,h3,hn,hs⟩=>⟨A,n,c,hv,by rw [e1]; exact ⟨A,n,c,rfl,h3,hn,hs⟩⟩
  · have hst:R.status = 1:=by simpa using q
    rw [if_neg (by rw [q]; decide)] at e1
    have q2':decide ((R.events.length:Int) > 254) = false:=by rw [← l0]; exact q2
    have h254:R.events.length ≤ 254:=by have:=of_decide_eq_false q2'; omega
    rw [if_neg (by rw [q2']; decide)] at e1
    have rp:=rep hst h254
    have hcap:(sl 0).n ≤ (sl 0).c:=(h.ok 0 (by decide)).cap
    refine (t23 (fc:=fc) (oc:=oc) ok hp he hcap (by omega) rp.st rp.ok).mono fun v H3 rr=>?_
    obtain ⟨m,pf,po,hv,w⟩:=rp.run rr
    refine ⟨_,_,_,hv,fun e=>absurd e (by simp),fun _=>?_⟩
    obtain ⟨slm,Fm,stm,vm,pm⟩:=w.out
    refine (h56 ok vm pm rp.inv rp.x now draw).mono fun v H4 ⟨A,n,c,G4,hv4,hd4,s4⟩=>⟨A,n,c,_,hv4,fun e=>?_,fun e=>?_⟩
    · have e:(s.Task p now draw).1.2 ≠ 0:=by simpa using e
      rw [if_pos e] at e1
      exact bad e1 (hd4.g.trans s4)
    have e0:(s.Task p now draw).1.2 = 0:=by simpa using e
    rw [if_neg (by rw [e0]; simp)] at e1
    rw [e1]
    generalize (s.Task p now draw).1.1 = rows at hd4 h10 hrl ⊢
    have hn:n = rows.length:=hd4.len
    obtain ⟨x4,hg4⟩:=h.beside (hd4.sub s4)
    generalize addB G H4 ⟨A,n,c⟩ = G1 at x4 hg4
    apply v42; unfold F42
    intro B1 hB1 Ha ea B2 hB2 H5 e5
    have x5:=x4.ext hB1 (.cells #[.slice A n c] 27 (0,0))
    rw [← ea] at x5
    have x6:=x5.ext hB2 (.cells #[.slice none 0 0] 101 (0,0))
    rw [← e5] at x6
    have hn1:G1 B1 = none:=none_below x4.gh hB1
    have hn2:(G1.upd B1 (.cells #[.slice A n c] 27 (0,0))) B2 = none:=none_below x5.gh hB2
    have gg:Sub G1 ((G1.upd B1 (.cells #[.slice A n c] 27 (0,0))).upd B2 (.cells #[.slice none 0 0] 101 (0,0))):=(Sub.upd_new hn1).trans (Sub.upd_new hn2)
    have g1:((G1.upd B1 (.cells #[.slice A n c] 27 (0,0))).upd B2 (.cells #[.slice none 0 0] 101 (0,0))) B1 = some (.cells #[.slice A rows.length c] 27 (0,0)):=by rw [← hn]; exact (Sub.upd_new hn2).sub _ _ Heap.upd_same
    have g2:((G1.upd B1 (.cells #[.slice A n c] 27 (0,0))).upd B2 (.cells #[.slice none 0 0] 101 (0,0))) B2 = some (.cells #[.slice none 0 0] 101 (0,0)):=Heap.upd_same
    generalize ((G1.upd B1 (.cells #[.slice A n c] 27 (0,0))).upd B2 (.cells #[.slice none 0 0] 101 (0,0))) = G5 at x6 gg g1 g2
    have hE:HasEvs G5 A rows.length rows:=by
      have:=(hand_evs (hg4.sub gg).sl)
      have this:HasEvs G5 A n rows:=this
      rw [hn] at this; exact this
    have hK:HasI G5 none 0 []:=⟨rfl,fun i x hx=>by simp at hx⟩
    have hlY:(ofY rows []).length = rows.length:=by
      have:=congrArg List.length (range_map (l:=rows) (f:=id))
      simpa using this
    refine ⟨_,rfl,_,_,⟨rfl,by kernel_rfl⟩,G5,rows.length,evE rows,ofY rows [],x6.gh,it54 g1 g2 hE hK (by omega) (by decide),RTk G5 b R rows next,⟨G5,sl,x6,Hand.nil (Sub.refl _) 7⟩,fun pre i hi hpl A1 n1 c1 H1 r hsub hnc x27 x28 x29 x30 x31 x32 x33 x34 x35 x36 eE=>⟨⟨hnc,hsub⟩,?_⟩,fun A1 n1 c1 H2 r _=>?_⟩
    · obtain ⟨x,hx⟩:=get_some (l:=rows) (i:=i) hi
      rw [hlY] at hpl
      have core:=tk_round (H5:=H5) le hl hrl x6.gh hpl hx (h10 x (List.mem_of_getElem? hx)) r
      have eE:(((i:Int),((rows[i]?).getD Ev.zero).id,((rows[i]?).getD Ev.zero).time,((rows[i]?).getD Ev.zero).kind,((rows[i]?).getD Ev.zero).a,((rows[i]?).getD Ev.zero).b,((rows[i]?).getD Ev.zero).c,((rows[i]?).getD Ev.zero).d,((rows[i]?).getD Ev.zero).e,((rows[i]?).getD Ev.zero).f,()):Int × Int × Int × Int × Int × Int × Int × Int × Int × Int × PUnit) = (x27,x28,x29,x30,x31,x32,x33,x34,x35,x36,()):=eE
      rw [hx] at eE
      simp only [Option.getD_some,Prod.mk.injEq] at eE
      obtain ⟨rfl,rfl,rfl,rfl,rfl,rfl,rfl,rfl,rfl,rfl,-⟩:=eE
      refine ⟨fun q=>?_,fun q=>?_⟩
      · have hf:fixN next x = { x with b:=next }:=by unfold fixN; rw [if_pos (by simpa using q)]
        rw [hf] at core
        exact ⟨core,core⟩
      · have hf:fixN next x = x:=by unfold fixN; rw [if_neg (by simpa using q)]
        rw [hf] at core
        exact ⟨core,core⟩
    · obtain ⟨G2,sl2,x2,hd⟩:=r.out
      rw [range_map] at x2 hd
      have hn2:=hd.flen (cells:=OutM.cells) (fun _=>rfl) (by decide)
      exact ⟨A1,n1,c1,rfl,(x2.weaken (hg4.g.trans (gg.trans hd.g))).e,hn2,(hd.sl.sub x2.gh).src⟩
end Go.Proofs.YtkofafcgcnciaaaGreatDoor
set_option maxRecDepth 100000
set_option linter.unusedVariables false
namespace Go.Proofs.YtkofafcgcnciaaaGreatDoor
open Go.Ax
noncomputable def c11:Cx:={ P:=Tryz.prog,res:=[],pub:=[],loops:=[],quiet:=[41],asm:=true }
def F11 (number:Int) (event:Int) (H:Heap) (K:Value → Heap → Prop):Prop :=
 ∃ (s:ByteArray),(Tr Tryz.prog (41:Nat) #[.int .i64 number] H fun v H'=>v = .string s ∧ Ax.Sub H H') ∧ s.size + ({ data:=#[(46:UInt8)] }:ByteArray).size ≤ (9223372036854775807:Nat) ∧ ∃ (s1:ByteArray),(Tr Tryz.prog (41:Nat) #[.int .i64 event] H fun v1 H'1=>v1 = .string s1 ∧ Ax.Sub H H'1) ∧ (s ++ ({ data:=#[(46:UInt8)] }:ByteArray)).size + s1.size ≤ (9223372036854775807:Nat) ∧ K (.string (s ++ ({ data:=#[(46:UInt8)] }:ByteArray) ++ s1)) H
theorem v11 {number:Int} {event:Int} {H:Heap} {K:Value → Heap → Prop} (h:F11 number event H K):Tr Tryz.prog 11 #[.int .i64 number,.int .i64 event] H K :=
  tr_of_eq (C:=c11) Tryz.func11 (show vcFn c11 Tryz.f11 [.int .i64 number,.int .i64 event] H K = F11 number event H K by kernel_rfl) h
noncomputable def c41:Cx:={ P:=Tryz.prog,res:=[],pub:=[16],loops:=[],quiet:=[41],asm:=true }
def F41 (n:Int) (H:Heap) (K:Value → Heap → Prop):Prop :=
 (decide (n < 0) = true →
 ((n == (-9223372036854775808)) = true → K (.string ({ data:=#[(45:UInt8),(57:UInt8),(50:UInt8),(50:UInt8),(51:UInt8),(51:UInt8),(55:UInt8),(50:UInt8),(48:UInt8),(51:UInt8),(54:UInt8),(56:UInt8),(53:UInt8),(52:UInt8),(55:UInt8),(55:UInt8),(53:UInt8),(56:UInt8),(48:UInt8),(56:UInt8)] }:ByteArray)) H) ∧
 ((n == (-9223372036854775808)) = false → ∃ (s:ByteArray),(Tr Tryz.prog (41:Nat) #[.int .i64 (IntKind.i64.wrap ((0:Int) - n))] H fun v H'=>v = .string s ∧ Ax.Sub H H') ∧ ({ data:=#[(45:UInt8)] }:ByteArray).size + s.size ≤ (9223372036854775807:Nat) ∧ K (.string (({ data:=#[(45:UInt8)] }:ByteArray) ++ s)) H)) ∧
 (decide (n < 0) = false →
 (10:Int) ≠ (0:Int) ∧
 ∀ (b:Nat),
 H b = none →
 ∀ (H1:Heap),
 H1 = H.upd b (Obj.cells #[.int .u8 (IntKind.u8.wrap (IntKind.i64.wrap ((48:Int) + n.tmod (10:Int))))] (5:Nat)) →
 ∃ (s1:ByteArray),bytesAt H1 (some ({ block:=b,off:=(0:Nat) }:Addr)) (1:Nat) s1 ∧ (decide (n < 10) = true → K (.string s1) H1) ∧ (decide (n < 10) = false → (10:Int) ≠ (0:Int) ∧ ∃ (s2:ByteArray),(Tr Tryz.prog (41:Nat) #[.int .i64 (IntKind.i64.wrap (n.tdiv (10:Int)))] H1 fun v1 H'1=>v1 = .string s2 ∧ Ax.Sub H1 H'1) ∧ s2.size + s1.size ≤ (9223372036854775807:Nat) ∧ K (.string (s2 ++ s1)) H1))
theorem v41 {n:Int} {H:Heap} {K:Value → Heap → Prop} (h:F41 n H K):Tr Tryz.prog 41 #[.int .i64 n] H K :=
  tr_of_eq (C:=c41) Tryz.func41 (show vcFn c41 Tryz.f41 [.int .i64 n] H K = F41 n H K by kernel_rfl) h
noncomputable def c40:Cx:={ P:=Tryz.prog,res:=[],pub:=[],loops:=[],quiet:=[86],asm:=true }
def F40 (i:Int) (H:Heap) (K:Value → Heap → Prop):Prop :=
 ∃ (s:ByteArray),(Tr Tryz.prog (86:Nat) #[.int .i64 i] H fun v H'=>v = .string s ∧ Ax.Sub H H') ∧ K (.string s) H
theorem v40 {i:Int} {H:Heap} {K:Value → Heap → Prop} (h:F40 i H K):Tr Tryz.prog 40 #[.int .i64 i] H K :=
  tr_of_eq (C:=c40) Tryz.func40 (show vcFn c40 Tryz.f40 [.int .i64 i] H K = F40 i H K by kernel_rfl) h
noncomputable def c86:Cx:={ P:=Tryz.prog,res:=[],pub:=[],loops:=[],quiet:=[129],asm:=true }
def F86 (i:Int) (H:Heap) (K:Value → Heap → Prop):Prop :=
 ∃ (s:ByteArray),(Tr Tryz.prog (129:Nat) #[.int .i64 i,.int .i64 10] H fun v H'=>v = .string s ∧ Ax.Sub H H') ∧ K (.string s) H
theorem v86 {i:Int} {H:Heap} {K:Value → Heap → Prop} (h:F86 i H K):Tr Tryz.prog 86 #[.int .i64 i] H K :=
  tr_of_eq (C:=c86) Tryz.func86 (show vcFn c86 Tryz.f86 [.int .i64 i] H K = F86 i H K by kernel_rfl) h
noncomputable def c129:Cx:={ P:=Tryz.prog,res:=[],pub:=[5],loops:=[],quiet:=[155,156],asm:=true }
def F129 (i:Int) (base:Int) (H:Heap) (K:Value → Heap → Prop):Prop :=
 ((base == 10) = true →
 ((decide ((0:Int) ≤ i) && decide (i < 100)) = true → ∃ (s:ByteArray),(Tr Tryz.prog (155:Nat) #[.int .i64 i] H fun v H'=>v = .string s ∧ Ax.Sub H H') ∧ K (.string s) H) ∧
 ((decide ((0:Int) ≤ i) && decide (i < 100)) = false →
 ∀ (b:Nat),
 H b = none →
 ∀ (H1:Heap),
 H1 =
 H.upd b
 (Obj.cells
 #[.int .u8 0,.int .u8 0,.int .u8 0,.int .u8 0,.int .u8 0,.int .u8 0,.int .u8 0,.int .u8 0,.int .u8 0,.int .u8 0,.int .u8 0,.int .u8 0,.int .u8 0,.int .u8 0,.int .u8 0,.int .u8 0,.int .u8 0,.int .u8 0,
 .int .u8 0,.int .u8 0,.int .u8 0,.int .u8 0,.int .u8 0,.int .u8 0]
 (236:Nat)) →
 (decide (i < 0) = true → ∃ (x:Int),(Tr Tryz.prog (156:Nat) #[.int .u64 (IntKind.u64.wrap ((0:Int) - IntKind.u64.wrap i))] H1 fun v1 H'1=>v1 = .int .i64 x ∧ Ax.Sub H1 H'1) ∧ False) ∧ (decide (i < 0) = false → ∃ (x1:Int),(Tr Tryz.prog (156:Nat) #[.int .u64 (IntKind.u64.wrap i)] H1 fun v2 H'2=>v2 = .int .i64 x1 ∧ Ax.Sub H1 H'2) ∧ False))) ∧
 ((base == 10) = false → Tr Tryz.prog (158:Nat) #[.slice none (0:Nat) (0:Nat),.int .u64 (IntKind.u64.wrap i),.int .i64 base,.bool (decide (i < 0)),.bool false] H fun v3 H'3=>∃ (A:Option Addr),∃ (n:Nat),∃ (c:Nat),∃ (s1:ByteArray),v3 = .tuple #[.slice A n c,.string s1] ∧ K (.string s1) H'3)
theorem v129 {i:Int} {base:Int} {H:Heap} {K:Value → Heap → Prop} (h:F129 i base H K):Tr Tryz.prog 129 #[.int .i64 i,.int .i64 base] H K :=
  tr_of_eq (C:=c129) Tryz.func129 (show vcFn c129 Tryz.f129 [.int .i64 i,.int .i64 base] H K = F129 i base H K by kernel_rfl) h
noncomputable def c155:Cx:={ P:=Tryz.prog,res:=[],pub:=[],loops:=[],quiet:=[],asm:=true }
def F155 (i:Int) (H:Heap) (K:Value → Heap → Prop):Prop :=
 (decide (i < 10) = true →
 ((0:Int) ≤ IntKind.i64.wrap (i + 1) ∧
 IntKind.i64.wrap (i + 1) ≤ (↑({ data:=#[(48:UInt8),(49:UInt8),(50:UInt8),(51:UInt8),(52:UInt8),(53:UInt8),(54:UInt8),(55:UInt8),(56:UInt8),(57:UInt8),(97:UInt8),(98:UInt8),(99:UInt8),(100:UInt8),(101:UInt8),(102:UInt8),(103:UInt8),(104:UInt8),(105:UInt8),(106:UInt8),(107:UInt8),(108:UInt8),(109:UInt8),(110:UInt8),(111:UInt8),(112:UInt8),(113:UInt8),(114:UInt8),(115:UInt8),(116:UInt8),(117:UInt8),(118:UInt8),(119:UInt8),(120:UInt8),(121:UInt8),(122:UInt8)] }:ByteArray).size:Int) ∧
 (0:Int) ≤ i ∧ i ≤ IntKind.i64.wrap (i + 1)) ∧
 K
 (.string
 (({ data:=#[(48:UInt8),(49:UInt8),(50:UInt8),(51:UInt8),(52:UInt8),(53:UInt8),(54:UInt8),(55:UInt8),(56:UInt8),(57:UInt8),(97:UInt8),(98:UInt8),(99:UInt8),(100:UInt8),(101:UInt8),(102:UInt8),(103:UInt8),(104:UInt8),(105:UInt8),(106:UInt8),(107:UInt8),(108:UInt8),(109:UInt8),(110:UInt8),(111:UInt8),(112:UInt8),(113:UInt8),(114:UInt8),(115:UInt8),(116:UInt8),(117:UInt8),(118:UInt8),(119:UInt8),(120:UInt8),(121:UInt8),(122:UInt8)] }:ByteArray).extract i.toNat
 (IntKind.i64.wrap (i + 1)).toNat))
 H) ∧
 (decide (i < 10) = false →
 ((0:Int) ≤ IntKind.i64.wrap (IntKind.i64.wrap (i * (2:Int)) + 2) ∧
 IntKind.i64.wrap (IntKind.i64.wrap (i * (2:Int)) + 2) ≤
 (↑({
 data :=
 (([(48:UInt8),(48:UInt8),(48:UInt8),(49:UInt8),(48:UInt8),(50:UInt8),(48:UInt8),(51:UInt8),(48:UInt8),(52:UInt8),(48:UInt8),(53:UInt8),(48:UInt8),(54:UInt8),(48:UInt8),(55:UInt8),(48:UInt8),(56:UInt8),(48:UInt8),(57:UInt8),(49:UInt8),(48:UInt8),(49:UInt8),(49:UInt8),(49:UInt8),(50:UInt8),(49:UInt8),(51:UInt8),(49:UInt8),(52:UInt8),(49:UInt8),(53:UInt8),(49:UInt8),(54:UInt8),(49:UInt8),(55:UInt8),(49:UInt8),(56:UInt8),(49:UInt8),(57:UInt8),(50:UInt8),
 (48:UInt8),(50:UInt8),(49:UInt8),(50:UInt8),(50:UInt8),(50:UInt8),(51:UInt8),(50:UInt8),(52:UInt8)].append
 [(50:UInt8),(53:UInt8),(50:UInt8),(54:UInt8),(50:UInt8),(55:UInt8),(50:UInt8),(56:UInt8),(50:UInt8),(57:UInt8),(51:UInt8),(48:UInt8),(51:UInt8),(49:UInt8),(51:UInt8),(50:UInt8),(51:UInt8),(51:UInt8),(51:UInt8),(52:UInt8),(51:UInt8),(53:UInt8),(51:UInt8),(54:UInt8),(51:UInt8),(55:UInt8),(51:UInt8),(56:UInt8),(51:UInt8),(57:UInt8),(52:UInt8),(48:UInt8),(52:UInt8),(49:UInt8),(52:UInt8),(50:UInt8),(52:UInt8),(51:UInt8),(52:UInt8),(52:UInt8),
 (52:UInt8),(53:UInt8),(52:UInt8),(54:UInt8),(52:UInt8),(55:UInt8),(52:UInt8),(56:UInt8),(52:UInt8),(57:UInt8)]).append
 ([(53:UInt8),(48:UInt8),(53:UInt8),(49:UInt8),(53:UInt8),(50:UInt8),(53:UInt8),(51:UInt8),(53:UInt8),(52:UInt8),(53:UInt8),(53:UInt8),(53:UInt8),(54:UInt8),(53:UInt8),(55:UInt8),(53:UInt8),(56:UInt8),(53:UInt8),(57:UInt8),(54:UInt8),(48:UInt8),(54:UInt8),(49:UInt8),(54:UInt8),(50:UInt8),(54:UInt8),(51:UInt8),(54:UInt8),(52:UInt8),(54:UInt8),(53:UInt8),(54:UInt8),(54:UInt8),(54:UInt8),(55:UInt8),(54:UInt8),(56:UInt8),(54:UInt8),(57:UInt8),
 (55:UInt8),(48:UInt8),(55:UInt8),(49:UInt8),(55:UInt8),(50:UInt8),(55:UInt8),(51:UInt8),(55:UInt8),(52:UInt8)].append
 [(55:UInt8),(53:UInt8),(55:UInt8),(54:UInt8),(55:UInt8),(55:UInt8),(55:UInt8),(56:UInt8),(55:UInt8),(57:UInt8),(56:UInt8),(48:UInt8),(56:UInt8),(49:UInt8),(56:UInt8),(50:UInt8),(56:UInt8),(51:UInt8),(56:UInt8),(52:UInt8),(56:UInt8),(53:UInt8),(56:UInt8),(54:UInt8),(56:UInt8),(55:UInt8),(56:UInt8),(56:UInt8),(56:UInt8),(57:UInt8),(57:UInt8),(48:UInt8),(57:UInt8),(49:UInt8),(57:UInt8),(50:UInt8),(57:UInt8),(51:UInt8),(57:UInt8),(52:UInt8),
 (57:UInt8),(53:UInt8),(57:UInt8),(54:UInt8),(57:UInt8),(55:UInt8),(57:UInt8),(56:UInt8),(57:UInt8),(57:UInt8)])).toArray }:ByteArray).size :
 Int) ∧
 (0:Int) ≤ IntKind.i64.wrap (i * (2:Int)) ∧ IntKind.i64.wrap (i * (2:Int)) ≤ IntKind.i64.wrap (IntKind.i64.wrap (i * (2:Int)) + 2)) ∧
 K
 (.string
 (({
 data :=
 (([(48:UInt8),(48:UInt8),(48:UInt8),(49:UInt8),(48:UInt8),(50:UInt8),(48:UInt8),(51:UInt8),(48:UInt8),(52:UInt8),(48:UInt8),(53:UInt8),(48:UInt8),(54:UInt8),(48:UInt8),(55:UInt8),(48:UInt8),(56:UInt8),(48:UInt8),(57:UInt8),(49:UInt8),(48:UInt8),(49:UInt8),(49:UInt8),(49:UInt8),(50:UInt8),(49:UInt8),(51:UInt8),(49:UInt8),(52:UInt8),(49:UInt8),(53:UInt8),(49:UInt8),(54:UInt8),(49:UInt8),(55:UInt8),(49:UInt8),(56:UInt8),(49:UInt8),(57:UInt8),(50:UInt8),
 (48:UInt8),(50:UInt8),(49:UInt8),(50:UInt8),(50:UInt8),(50:UInt8),(51:UInt8),(50:UInt8),(52:UInt8)].append
 [(50:UInt8),(53:UInt8),(50:UInt8),(54:UInt8),(50:UInt8),(55:UInt8),(50:UInt8),(56:UInt8),(50:UInt8),(57:UInt8),(51:UInt8),(48:UInt8),(51:UInt8),(49:UInt8),(51:UInt8),(50:UInt8),(51:UInt8),(51:UInt8),(51:UInt8),(52:UInt8),(51:UInt8),(53:UInt8),(51:UInt8),(54:UInt8),(51:UInt8),(55:UInt8),(51:UInt8),(56:UInt8),(51:UInt8),(57:UInt8),(52:UInt8),(48:UInt8),(52:UInt8),(49:UInt8),(52:UInt8),(50:UInt8),(52:UInt8),(51:UInt8),(52:UInt8),(52:UInt8),(52:UInt8),
 (53:UInt8),(52:UInt8),(54:UInt8),(52:UInt8),(55:UInt8),(52:UInt8),(56:UInt8),(52:UInt8),(57:UInt8)]).append
 ([(53:UInt8),(48:UInt8),(53:UInt8),(49:UInt8),(53:UInt8),(50:UInt8),(53:UInt8),(51:UInt8),(53:UInt8),(52:UInt8),(53:UInt8),(53:UInt8),(53:UInt8),(54:UInt8),(53:UInt8),(55:UInt8),(53:UInt8),(56:UInt8),(53:UInt8),(57:UInt8),(54:UInt8),(48:UInt8),(54:UInt8),(49:UInt8),(54:UInt8),(50:UInt8),(54:UInt8),(51:UInt8),(54:UInt8),(52:UInt8),(54:UInt8),(53:UInt8),(54:UInt8),(54:UInt8),(54:UInt8),(55:UInt8),(54:UInt8),(56:UInt8),(54:UInt8),(57:UInt8),(55:UInt8),
 (48:UInt8),(55:UInt8),(49:UInt8),(55:UInt8),(50:UInt8),(55:UInt8),(51:UInt8),(55:UInt8),(52:UInt8)].append
 [(55:UInt8),(53:UInt8),(55:UInt8),(54:UInt8),(55:UInt8),(55:UInt8),(55:UInt8),(56:UInt8),(55:UInt8),(57:UInt8),(56:UInt8),(48:UInt8),(56:UInt8),(49:UInt8),(56:UInt8),(50:UInt8),(56:UInt8),(51:UInt8),(56:UInt8),(52:UInt8),(56:UInt8),(53:UInt8),(56:UInt8),(54:UInt8),(56:UInt8),(55:UInt8),(56:UInt8),(56:UInt8),(56:UInt8),(57:UInt8),(57:UInt8),(48:UInt8),(57:UInt8),(49:UInt8),(57:UInt8),(50:UInt8),(57:UInt8),(51:UInt8),(57:UInt8),(52:UInt8),(57:UInt8),
 (53:UInt8),(57:UInt8),(54:UInt8),(57:UInt8),(55:UInt8),(57:UInt8),(56:UInt8),(57:UInt8),(57:UInt8)])).toArray }:ByteArray).extract
 (IntKind.i64.wrap (i * (2:Int))).toNat (IntKind.i64.wrap (IntKind.i64.wrap (i * (2:Int)) + 2)).toNat))
 H)
theorem v155 {i:Int} {H:Heap} {K:Value → Heap → Prop} (h:F155 i H K):Tr Tryz.prog 155 #[.int .i64 i] H K :=
  tr_of_eq (C:=c155) Tryz.func155 (show vcFn c155 Tryz.f155 [.int .i64 i] H K = F155 i H K by kernel_rfl) h
end Go.Proofs.YtkofafcgcnciaaaGreatDoor
set_option maxRecDepth 100000
namespace Go.Proofs.YtkofafcgcnciaaaGreatDoor
open Go.Ax
def s12:ByteArray:=⟨#[49,50]⟩
def s7:ByteArray:=⟨#[55]⟩
theorem small12 (H:Heap):Tr Tryz.prog 155 #[.int .i64 12] H fun v H'=>v = .string s12 ∧ Sub H H':=by
  apply v155; unfold F155
  exact ⟨fun e=>absurd e (by decide),fun _=>⟨by decide +kernel,congrArg Value.string (by kernel_rfl),Sub.refl _⟩⟩
theorem small7 (H:Heap):Tr Tryz.prog 155 #[.int .i64 7] H fun v H'=>v = .string s7 ∧ Sub H H':=by
  apply v155; unfold F155
  exact ⟨fun _=>⟨by decide +kernel,congrArg Value.string (by kernel_rfl),Sub.refl _⟩,fun e=>absurd e (by decide)⟩
theorem itoa_small {i:Int} (h0:0 ≤ i) (h1:i < 100) {s:ByteArray} (h:∀ H,Tr Tryz.prog 155 #[.int .i64 i] H fun v H'=>v = .string s ∧ Sub H H') (H:Heap):Tr Tryz.prog 40 #[.int .i64 i] H fun v H'=>v = .string s ∧ Sub H H':=by
  apply v40; unfold F40
  refine ⟨s,?_,rfl,Sub.refl _⟩
  apply v86; unfold F86
  refine ⟨s,?_,rfl,Sub.refl _⟩
  apply v129; unfold F129
  exact ⟨fun _=>⟨fun _=>⟨s,h H,rfl,Sub.refl _⟩,fun e=>absurd e (by rw [decide_eq_true h0,decide_eq_true h1]; decide)⟩,fun e=>absurd e (by decide)⟩
theorem child_small (H:Heap):Tr Tryz.prog 10 #[.int .i64 12,.int .i64 7] H fun v H'=>v = .string ⟨#[49,50,46,55]⟩ ∧ Sub H H':=by
  apply v10; unfold F10
  exact ⟨s12,itoa_small (by decide) (by decide) small12 H,by decide,s7,itoa_small (by decide) (by decide) small7 H,by decide,congrArg Value.string (by kernel_rfl),Sub.refl _⟩
def smallR:Prg:=⟨[⟨0,0,[(0,4),(21,0),(23,0),(1,0),(36,0)]⟩],[]⟩
theorem t39 (H:Heap):Tr Tryz.prog 39 #[] H (fun v H'=>∃ A n c A1 n1 c1,v = .agg #[.slice A n c,.slice A1 n1 c1] ∧ HasP H' A n A1 n1 smallR ∧ Sub H H'):=by
  apply v39; unfold F39
  intro b hb H1 e1 b1 hb1 H2 e2
  subst e1 e2
  refine ⟨_,_,_,_,_,_,rfl,⟨?_,⟨rfl,by decide,fun i o h=>by simp [smallR] at h⟩⟩,(Sub.upd_new hb).trans (Sub.upd_new hb1)⟩
  refine hasFns_of (l:=[(⟨0,0,[(0,4),(21,0),(23,0),(1,0),(36,0)]⟩,some ⟨b,0,none⟩,5,5)]) (.inr ⟨_,rfl,(at_new (k:=0) fun j v hv=>?_)⟩) rfl (by decide) fun z hz=>?_
  · simpa [fnC] using hv
  · simp at hz; subst hz
    have:HasOps (H.upd b (.cells #[.int .i64 0,.int .i64 4,.int .i64 21,.int .i64 0,.int .i64 23,.int .i64 0,.int .i64 1,.int .i64 0,.int .i64 36,.int .i64 0] 179)) (some ⟨b,0,none⟩) 5 [(0,4),(21,0),(23,0),(1,0),(36,0)] :=
      hasOps_of (.inr ⟨_,rfl,(at_new (k:=0) fun j v hv=>by simpa [opC] using hv)⟩) rfl (by decide)
    exact this.sub (Sub.upd_new hb1)
theorem smallR_ok:Okp smallR:=(check_ok (p:=smallR) (by kernel_rfl)).2
def ev1:Ev:=⟨1,5,1,0,0,0,0,0,0⟩
def tm1:VS:=(VS.init.apply ev1).2
def rows1:List Ev:=[⟨2,5,2,1,0,0,0,0,0⟩,⟨3,5,4,9,0,0,0,0,0⟩]
def ev4:Ev:=⟨4,9,25,3,0,0,0,0,0⟩
def hist4:List Ev:=[ev1] ++ rows1 ++ [ev4]
def tm2:VS:=((tm1.retask smallR hist4 1 5)).noExp
def tm3:VS:=(tm2.apply ev4).2
def rows2:List Ev:=[⟨5,9,2,4,0,0,0,0,0⟩,⟨6,9,15,0,0,0,0,0,0⟩]
theorem tm1_task:(tm1.Task smallR 5 0).1 = (rows1,0):=by kernel_rfl
theorem tm3_task:(tm3.Task smallR 9 0).1 = (rows2,0):=by kernel_rfl
theorem tm1_inv:Inv smallR tm1:=apply_inv smallR_ok (init_inv smallR) rfl (e:=ev1)
theorem tm2_ok:Inv smallR tm2:=by
  have tk:Tasks (tm1.exp (cmds (hist4.drop 2))):=⟨by kernel_rfl,by decide +kernel,fun q=>(by cases q),fun l e=>(by cases e; decide +kernel)⟩
  have iv:Inv smallR (tm1.exp (cmds (hist4.drop 2))):=exp_inv tm1_inv (by decide +kernel)
  have r:=(retask_ok smallR_ok iv tk 5).1
  exact ⟨r.scp,r.scn,r.sc32,r.t16,fun t ht=>(r.thr t ht).mono (Nat.le_refl _) (Nat.le_refl _),r.futs,r.fuel,r.many,r.c0,fun l hl=>(by cases hl),r.made,r.sig,r.sg8,r.upd,r.updI,r.v16,r.a4⟩
theorem tm3_inv:Inv smallR tm3:=apply_inv smallR_ok tm2_ok rfl (e:=ev4)
theorem rep1_ok:Rep smallR [ev1] tm1:=by
  have r0:repN smallR [ev1] 0 = .inr (0,VS.init):=rfl
  have r1:repN smallR [ev1] 1 = .inr (1,tm1):=by kernel_rfl
  refine ⟨by kernel_rfl,⟨1,1,r1,by decide⟩,fun j k t hj hk=>?_,tm1_inv,by kernel_rfl⟩
  cases j with
  | zero =>
    rw [r0] at hj; cases hj
    exact ⟨init_inv smallR,rfl,fun e he h2=>by cases he; cases h2⟩
  | succ j =>
    have:=repN_inr r1 (by decide) j
    rw [Nat.add_comm 1 j,hj] at this
    cases this
    exact absurd hk (by decide)
theorem rep4_ok:Rep smallR hist4 tm3:=by
  have r0:repN smallR hist4 0 = .inr (0,VS.init):=rfl
  have r1:repN smallR hist4 1 = .inr (1,tm1):=by kernel_rfl
  have r2:repN smallR hist4 2 = .inr (3,tm2):=by kernel_rfl
  have r3:repN smallR hist4 3 = .inr (4,tm3):=by kernel_rfl
  refine ⟨by kernel_rfl,⟨3,4,r3,by decide⟩,fun j k t hj hk=>?_,tm3_inv,by kernel_rfl⟩
  match j with
  | 0=>rw [r0] at hj; cases hj; exact ⟨init_inv smallR,rfl,fun e he h2=>by cases he; cases h2⟩
  | 1 =>
    rw [r1] at hj; cases hj
    exact ⟨tm1_inv,by kernel_rfl,fun e he h2=>⟨⟨by kernel_rfl,by decide +kernel,fun q=>(by cases q),fun l e=>(by cases e; decide +kernel)⟩,exp_inv tm1_inv (by decide +kernel)⟩⟩
  | 2=>rw [r2] at hj; cases hj; exact ⟨tm2_ok,by kernel_rfl,fun e he h2=>by cases he; cases h2⟩
  | j + 3 =>
    have:=repN_inr r3 (by decide) j
    rw [Nat.add_comm 3 j,hj] at this
    cases this
    exact absurd hk (by decide)
end Go.Proofs.YtkofafcgcnciaaaGreatDoor
set_option maxRecDepth 100000
namespace Go.Proofs.YtkofafcgcnciaaaGreatDoor
open Go.Ax
def nameA:ByteArray:=⟨#[97]⟩
def run0:RS:=RS.new 3 nameA ⟨0,5,0,0,0,0,0,0,0⟩
def run1:RS:=(run0.Task smallR tm1 5 0 9).2
def firedE:Ev:=⟨0,0,25,3,0,0,0,0,0⟩
def run2:RS:=(run1.Add firedE 9).2
def run3:RS:=(run2.Task smallR tm3 9 0 9).2
theorem run0_ev:run0.events = [ev1]:=by kernel_rfl
theorem run0_le:run0.Le:=⟨by decide +kernel,by decide +kernel,by decide +kernel,by decide +kernel⟩
theorem run1_eq:(run0.Task smallR tm1 5 0 9).1.2 = 0:=by kernel_rfl
theorem run1_le:run1.Le:=⟨by decide +kernel,by decide +kernel,by decide +kernel,by decide +kernel⟩
theorem run1_ev:run1.events.length = 3:=by kernel_rfl
theorem run1_tm:run1.timers = [⟨3,9⟩]:=by kernel_rfl
theorem run1_seen:run1.seen = 3:=by kernel_rfl
theorem add1_eq:run1.Add firedE 8 = ((0,[],54),run1):=by kernel_rfl
theorem add2_eq:(run1.Add firedE 9).1.1 = 4 ∧ (run1.Add firedE 9).1.2.2 = 0:=⟨by kernel_rfl,by kernel_rfl⟩
theorem run2_ev:run2.events = hist4:=by kernel_rfl
theorem run2_le:run2.Le:=⟨by decide +kernel,by decide +kernel,by decide +kernel,by decide +kernel⟩
theorem run3_eq:(run2.Task smallR tm3 9 0 9).1.2 = 0:=by kernel_rfl
theorem run3_ev:run3.events.length = 6:=by kernel_rfl
theorem run3_st:run3.status = 2:=by kernel_rfl
theorem t9 (H:Heap):Tr Tryz.prog 9 #[] H (fun v H'=>v = .bool true ∧ Sub H H'):=by
  apply v9; unfold F9
  refine (t21 3 nameA ⟨0,5,0,0,0,0,0,0,0⟩ H).mono fun v H1 ⟨sl0,hv,l0⟩=>?_
  refine ⟨_,_,_,_,_,_,_,_,_,_,_,_,_,_,_,_,_,_,_,_,_,_,_,_,_,_,_,_,_,_,hv,fun b hb H2 e2=>?_⟩
  refine l0.var hb (cur:=rCells slNil RS.zero) rfl e2 fun H3 x3=>?_
  have x3:RunX H H3 b sl0 run0:=x3
  refine (t39 H3).mono fun v H4 ⟨A,n,c,A1,n1,c1,hv,hp,s4⟩=>⟨A,n,c,A1,n1,c1,hv,?_⟩
  have x4:=x3.grow s4
  have h10:∀ {l:List Ev},(∀ x ∈ l,x.kind ≠ 10) → ∀ x ∈ l,x.kind = 10 → 0 ≤ x.a ∧ x.a < 4:=fun h x hx e=>absurd e (h x hx)
  have e1:(tm1.Task smallR 5 0).1.1 = rows1:=by rw [tm1_task]
  have e3:(tm3.Task smallR 9 0).1.1 = rows2:=by rw [tm3_task]
  refine (t18 x4 run0_le (by rw [run0_ev]; decide) smallR_ok hp (s:=tm1) 5 0 9 (fun _ _=>by rw [run0_ev]; exact rep1_ok) (h10 (by rw [e1]; decide +kernel)) (by rw [e1]; decide)).mono fun v H5 ⟨A2,n2,c2,hv,⟨sl5,x5⟩,_,_⟩=>⟨A2,n2,c2,_,hv,?_⟩
  have x5:RunX H H5 b sl5 run1:=x5
  have hl2:(sl5 2).n = 1:=by rw [x5.len2,run1_tm]; rfl
  obtain ⟨a,ha,hat⟩:=src_elem (cells:=TmM.cells) (sz:=2) (fun _=>rfl) (by decide) (l:=run1.timers) (x5.ok 2 (by decide)).src 0 ⟨3,9⟩ (by rw [run1_tm]; rfl)
  refine ⟨_,_,_,x5.cell (k:=17) rfl,_,_,_,fun _=>x5.cell (k:=17) rfl,a,fun _=>⟨ha,by omega,by omega⟩,9,fun _=>at_one 1 hat rfl,run1.seen,fun _=>x5.cell (k:=9) rfl,fun e=>?_,fun _=>?_⟩
  · rw [hl2,run1_seen] at e; exact absurd e (by decide)
  refine (t16 x5 (run1_le.small (by rw [run1_ev]; decide)) firedE 8).mono fun v H6 r6=>?_
  rw [add1_eq] at r6
  obtain ⟨A6,n6,c6,hv6,⟨sl6,x6⟩,_,_⟩:=r6.out
  refine ⟨_,_,_,_,_,hv6,(t16 x6 (run1_le.small (by rw [run1_ev]; decide)) firedE 9).mono fun v H7 ⟨A7,n7,c7,hv7,⟨sl7,x7⟩,_,_⟩=>⟨_,_,_,_,_,hv7,?_⟩⟩
  have x7:RunX H H7 b sl7 run2:=x7
  refine (t39 H7).mono fun v H8 ⟨A8,n8,c8,A9,n9,c9,hv,hp8,s8⟩=>⟨A8,n8,c8,A9,n9,c9,hv,?_⟩
  refine (t18 (x7.grow s8) run2_le (by rw [run2_ev]; decide) smallR_ok hp8 (s:=tm3) 9 0 9 (fun _ _=>by rw [run2_ev]; exact rep4_ok) (h10 (by rw [e3]; decide +kernel)) (by rw [e3]; decide)).mono fun v H9 ⟨Ab,nb,cb,hv,⟨sl9,x9⟩,_,_⟩=>⟨Ab,nb,cb,_,hv,?_⟩
  have x9:RunX H H9 b sl9 run3:=x9
  have hl9:(sl9 0).n = 6:=by rw [x9.len0,run3_ev]
  refine ⟨_,child_small H9,_,_,_,_,_,_,_,_,_,_,_,_,_,_,_,_,_,_,_,_,_,_,_,_,_,_,_,_,_,_,x9.at,_,t26 sl9 run3 H9,_,_,_,fun _=>x9.cell (k:=15) rfl,?_,x9.gh⟩
  rw [run1_eq,add2_eq.1,add2_eq.2,run3_eq,hl9,run3_st]
  exact congrArg Value.bool (by kernel_rfl)
end Go.Proofs.YtkofafcgcnciaaaGreatDoor
set_option maxRecDepth 100000
namespace Go.Proofs.YtkofafcgcnciaaaGreatDoor
open Go.Ax
def itoaLays_ren:Go.Shelf.Ren:=⟨fun | 171=>40 | 243=>86 | 246=>129 | 283=>155 | 284=>156 | 285=>157 | 286=>158 | 129=>182 | 317=>181 | 318=>183 | 319=>184 | 320=>185 | 337=>192 | 338=>193 | n=>n,fun | 3=>3 | 9=>9 | 2=>2 | 4=>4 | 171=>236 | 0=>0 | 53=>147 | 37=>180 | 5=>5 | 173=>239 | 212=>258 | 51=>259 | 20=>20 | 213=>260 | 46=>261 | 232=>268 | 233=>269 | n=>n,fun | 17=>0 | 18=>1 | 19=>2 | n=>n⟩
theorem itoaLays:Go.Proofs.LaysM.n171 Tryz.prog itoaLays_ren where
  mixed:=by kernel_rfl
  f129:=Tryz.func182.trans (congrArg some (by kernel_rfl))
  f171:=Tryz.func40.trans (congrArg some (by kernel_rfl))
  f243:=Tryz.func86.trans (congrArg some (by kernel_rfl))
  f246:=Tryz.func129.trans (congrArg some (by kernel_rfl))
  f283:=Tryz.func155.trans (congrArg some (by kernel_rfl))
  f284:=Tryz.func156.trans (congrArg some (by kernel_rfl))
  f285:=Tryz.func157.trans (congrArg some (by kernel_rfl))
  f286:=Tryz.func158.trans (congrArg some (by kernel_rfl))
  f317:=Tryz.func181.trans (congrArg some (by kernel_rfl))
  f318:=Tryz.func183.trans (congrArg some (by kernel_rfl))
  f319:=Tryz.func184.trans (congrArg some (by kernel_rfl))
  f320:=Tryz.func185.trans (congrArg some (by kernel_rfl))
  f337:=Tryz.func192.trans (congrArg some (by kernel_rfl))
  f338:=Tryz.func193.trans (congrArg some (by kernel_rfl))
  t0:=Tryz.underlying0
  a0:=Tryz.isAgg0
  z0:=Tryz.sizeOf0
  v0:=Tryz.zeroValue0
  t2:=Tryz.underlying2
  a2:=Tryz.isAgg2
  z2:=Tryz.sizeOf2
  v2:=Tryz.zeroValue2
  t3:=Tryz.underlying3
  a3:=Tryz.isAgg3
  z3:=Tryz.sizeOf3
  v3:=Tryz.zeroValue3
  t4:=Tryz.underlying4
  a4:=Tryz.isAgg4
  z4:=Tryz.sizeOf4
  v4:=Tryz.zeroValue4
  t5:=Tryz.underlying5
  a5:=Tryz.isAgg5
  z5:=Tryz.sizeOf5
  v5:=Tryz.zeroValue5
  t9:=Tryz.underlying9
  a9:=Tryz.isAgg9
  z9:=Tryz.sizeOf9
  v9:=Tryz.zeroValue9
  t20:=Tryz.underlying20
  a20:=Tryz.isAgg20
  z20:=Tryz.sizeOf20
  v20:=Tryz.zeroValue20
  t37:=Tryz.underlying180
  a37:=Tryz.isAgg180
  z37:=Tryz.sizeOf180
  v37:=Tryz.zeroValue180
  t46:=Tryz.underlying261
  a46:=Tryz.isAgg261
  z46:=Tryz.sizeOf261
  v46:=Tryz.zeroValue261
  t51:=Tryz.underlying259
  a51:=Tryz.isAgg259
  z51:=Tryz.sizeOf259
  v51:=Tryz.zeroValue259
  t53:=Tryz.underlying147
  a53:=Tryz.isAgg147
  z53:=Tryz.sizeOf147
  v53:=Tryz.zeroValue147
  t171:=Tryz.underlying236
  a171:=Tryz.isAgg236
  z171:=Tryz.sizeOf236
  v171:=Tryz.zeroValue236
  t173:=Tryz.underlying239
  a173:=Tryz.isAgg239
  z173:=Tryz.sizeOf239
  v173:=Tryz.zeroValue239
  t212:=Tryz.underlying258
  a212:=Tryz.isAgg258
  z212:=Tryz.sizeOf258
  v212:=Tryz.zeroValue258
  t213:=Tryz.underlying260
  a213:=Tryz.isAgg260
  z213:=Tryz.sizeOf260
  t232:=Tryz.underlying268
  a232:=Tryz.isAgg268
  z232:=Tryz.sizeOf268
  v232:=Tryz.zeroValue268
  t233:=Tryz.underlying269
  a233:=Tryz.isAgg269
  z233:=Tryz.sizeOf269
  v233:=Tryz.zeroValue269
  g17:=by kernel_rfl
  g18:=by kernel_rfl
  g19:=by kernel_rfl
  i0:=by kernel_rfl
  i2:=by kernel_rfl
  i3:=by kernel_rfl
  i4:=by kernel_rfl
  i5:=by kernel_rfl
  i9:=by kernel_rfl
  i20:=by kernel_rfl
  i37:=by kernel_rfl
  i46:=by kernel_rfl
  i51:=by kernel_rfl
  i53:=by kernel_rfl
  i171:=by kernel_rfl
  i173:=by kernel_rfl
  i212:=by kernel_rfl
  i232:=by kernel_rfl
  i233:=by kernel_rfl
  m17:=by kernel_rfl
  m18:=by kernel_rfl
  m19:=by kernel_rfl
structure Tab (H:Heap):Prop where
  out:∃ T f,H 0 = some (.cells (Lib.pow10Tab.map fun z=>Value.int .u64 z).toArray T f)
theorem Tab.is {H : Heap} (t : Tab H) {w : World} (hw : Holds H w) : Lib.TabIs Tryz.prog w "internal/strconv.uint64pow10" .u64 Lib.pow10Tab := by
  obtain ⟨T,f,h⟩:=t.out
  have hg : Tryz.prog.globalNamed "internal/strconv.uint64pow10" = some 0 := by kernel_rfl
  unfold Lib.TabIs World.var?
  rw [hg]
  show (match w.heap[0]? with | some (.cells cs _ _)=>some cs | _=>none) = _
  rw [hw 0 _ h]
theorem keeps_grow {H:Heap} {w:World} (h:Holds H w) (k:Nat) (os:Array Obj):Keeps H w H (Sort.grow (w.drewN k) os):=by
  have get:∀ b,b < w.heap.size → (Sort.grow (w.drewN k) os).heap[b]? = w.heap[b]?:=fun b hb=>by
    show (w.heap ++ os)[b]? = w.heap[b]?
    rw [Array.getElem?_append_left hb]
  refine ⟨fun b o e=>(get b (heap_lt (h b o e))).trans (h b o e),fun b hb e=>⟨get b hb,e⟩,?_,rfl,rfl,rfl⟩
  show w.heap.size ≤ (w.heap ++ os).size
  rw [Array.size_append]; omega
def txt (l:List UInt8):ByteArray:=⟨l.toArray⟩
theorem txt_size (l:List UInt8):(txt l).size = l.length:=rfl
theorem txt_app (l m:List UInt8):txt l ++ txt m = txt (l ++ m):=by
  apply of_list_eq
  simp [txt]
theorem txt_inj {l m:List UInt8}:txt l = txt m ↔ l = m:=⟨fun h=>by have:=congrArg (fun s:ByteArray=>s.data.toList) h; simpa [txt] using this,fun h=>h ▸ rfl⟩
def i64 (n:Int):Prop:=-9223372036854775808 ≤ n ∧ n ≤ 9223372036854775807
theorem itoa_tr {H:Heap} (t:Tab H) {n:Int} (h:i64 n):Tr Tryz.prog 40 #[.int .i64 n] H fun v H'=>v = .string (txt (Lib.itoa n)) ∧ Sub H H' :=
  ⟨fun w hw=>(Any.strconv_Itoa itoaLays n h.1 h.2 w (t.is hw)).mono fun e w' ⟨he,k,os,e2⟩=>⟨_,H,he,by rw [e2]; exact keeps_grow hw k os,rfl,Sub.refl _⟩⟩
theorem dig_wrap {u:Nat} (h:u < 10):IntKind.u8.wrap (IntKind.i64.wrap (48 + (u:Int))) = ((UInt8.ofNat (48 + u)).toNat:Int):=by
  have e1:IntKind.i64.wrap (48 + (u:Int)) = 48 + (u:Int):=wrapi (by omega) (by omega)
  rw [e1]
  have:u = 0 ∨ u = 1 ∨ u = 2 ∨ u = 3 ∨ u = 4 ∨ u = 5 ∨ u = 6 ∨ u = 7 ∨ u = 8 ∨ u = 9:=by omega
  rcases this with rfl | rfl | rfl | rfl | rfl | rfl | rfl | rfl | rfl | rfl <;> rfl
theorem text_nat:∀ (u:Nat),u ≤ 9223372036854775807 → ∀ H,Tr Tryz.prog 41 #[.int .i64 (u:Int)] H fun v H'=>v = .string (txt (Lib.decDigits u)) ∧ Sub H H':=by
  intro u
  induction u using Nat.strongRecOn with
  | ind u ih =>
    intro hu H
    apply v41; unfold F41
    refine ⟨fun e=>absurd (of_decide_eq_true e) (by omega),fun _=>⟨by decide,fun b hb H1 e1=>?_⟩⟩
    have hm:(u:Int).tmod 10 = ((u % 10:Nat):Int):=by rw [Int.tmod_eq_emod_of_nonneg (by omega)]; omega
    have hd:IntKind.i64.wrap ((u:Int).tdiv 10) = ((u / 10:Nat):Int):=by
      have:(u:Int).tdiv 10 = ((u / 10:Nat):Int):=by rw [Int.tdiv_eq_ediv_of_nonneg (by omega)]; omega
      rw [this,wrapi (by omega) (by omega)]
    rw [hm,dig_wrap (Nat.mod_lt _ (by decide))] at e1
    have hs1:Sub H H1:=by rw [e1]; exact Sub.upd_new hb
    refine ⟨txt [UInt8.ofNat (48 + u % 10)],⟨rfl,.inr ⟨_,rfl,⟨⟨_,_,_,by rw [e1]; exact Heap.upd_same,rfl,fun j v hv=>?_⟩⟩⟩⟩,fun q=>⟨?_,hs1⟩,fun q=>?_⟩
    · have hv:([Value.int .u8 ((UInt8.ofNat (48 + u % 10)).toNat:Int)]:List Value)[j]? = some v:=hv
      simpa using hv
    · have q:u < 10:=by have:=of_decide_eq_true q; omega
      rw [Lib.decDigits_one q,Nat.mod_eq_of_lt q]
    · have q:¬ u < 10:=by have:=of_decide_eq_false q; omega
      have hl:(Lib.decDigits (u / 10)).length ≤ 20:=by rw [Lib.decDigits_length]; exact Lib.nDigits_le20 _ (by omega)
      refine ⟨by decide,txt (Lib.decDigits (u / 10)),by rw [hd]; exact ih (u / 10) (by omega) (by omega) H1,by rw [txt_size,txt_size,List.length_singleton]; omega,?_,hs1⟩
      rw [txt_app]
      conv=>rhs; rw [Lib.decDigits,dif_neg q]
theorem t41 {n:Int} (h:i64 n) (H:Heap):Tr Tryz.prog 41 #[.int .i64 n] H fun v H'=>v = .string (txt (Lib.itoa n)) ∧ Sub H H':=by
  by_cases hn:n < 0
  · apply v41; unfold F41
    refine ⟨fun _=>⟨fun e=>⟨?_,Sub.refl _⟩,fun e=>?_⟩,fun e=>absurd hn (of_decide_eq_false e)⟩
    · have e:n = -9223372036854775808:=by simpa using e
      subst e
      exact congrArg Value.string (by decide +kernel)
    · have e:n ≠ -9223372036854775808:=by simpa using e
      have h1:=h.1
      have hw:IntKind.i64.wrap (0 - n) = ((n.natAbs:Nat):Int):=by rw [wrapi (by omega) (by omega)]; omega
      have hl:(Lib.decDigits n.natAbs).length ≤ 20:=by rw [Lib.decDigits_length]; exact Lib.nDigits_le20 _ (by omega)
      refine ⟨txt (Lib.decDigits n.natAbs),by rw [hw]; exact text_nat _ (by omega) H,?_,?_,Sub.refl _⟩
      · show 1 + _ ≤ _; rw [txt_size]; omega
      · have:(⟨#[45]⟩:ByteArray) = txt [45]:=rfl
        rw [this,txt_app]
        unfold Lib.itoa
        rw [if_pos hn]; rfl
  · obtain ⟨u,rfl⟩:∃ u:Nat,n = u:=⟨n.toNat,by omega⟩
    have h2:=h.2
    have e:Lib.itoa (u:Int) = Lib.decDigits u:=by unfold Lib.itoa; rw [if_neg hn]; rfl
    rw [e]
    exact text_nat u (by omega) H
def childT (a b:Int):List UInt8:=Lib.itoa a ++ [46] ++ Lib.itoa b
theorem itoa_len {n:Int} (h:i64 n):(Lib.itoa n).length ≤ 21:=Lib.itoa_length_le n h.1 h.2
theorem t10 {H:Heap} (t:Tab H) {a b:Int} (ha:i64 a) (hb:i64 b):Tr Tryz.prog 10 #[.int .i64 a,.int .i64 b] H fun v H'=>v = .string (txt (childT a b)) ∧ Sub H H':=by
  have l1:=itoa_len ha
  have l2:=itoa_len hb
  apply v10; unfold F10
  have e:(⟨#[46]⟩:ByteArray) = txt [46]:=rfl
  rw [e]
  refine ⟨_,itoa_tr t ha,by rw [txt_size,txt_size,List.length_singleton]; omega,_,itoa_tr t hb,?_,?_,Sub.refl _⟩
  · rw [txt_app,txt_size,txt_size,List.length_append,List.length_singleton]; omega
  · rw [txt_app,txt_app]; rfl
theorem t11 {a b:Int} (ha:i64 a) (hb:i64 b) (H:Heap):Tr Tryz.prog 11 #[.int .i64 a,.int .i64 b] H fun v H'=>v = .string (txt (childT a b)) ∧ Sub H H':=by
  have l1:=itoa_len ha
  have l2:=itoa_len hb
  apply v11; unfold F11
  have e:(⟨#[46]⟩:ByteArray) = txt [46]:=rfl
  rw [e]
  refine ⟨_,t41 ha H,by rw [txt_size,txt_size,List.length_singleton]; omega,_,t41 hb H,?_,?_,Sub.refl _⟩
  · rw [txt_app,txt_size,txt_size,List.length_append,List.length_singleton]; omega
  · rw [txt_app,txt_app]; rfl
theorem dec_bytes:∀ (u:Nat),∀ x ∈ Lib.decDigits u,48 ≤ x.toNat ∧ x.toNat ≤ 57:=by
  have one:∀ d:Nat,d < 10 → 48 ≤ (UInt8.ofNat (48 + d)).toNat ∧ (UInt8.ofNat (48 + d)).toNat ≤ 57:=fun d hd=>by
    have:(UInt8.ofNat (48 + d)).toNat = 48 + d:=by rw [UInt8.toNat_ofNat']; omega
    omega
  intro u
  induction u using Nat.strongRecOn with
  | ind u ih =>
    intro x hx
    rw [Lib.decDigits] at hx
    split at hx
    · rename_i h; rw [List.mem_singleton.1 hx]; exact one u h
    · rename_i h
      rcases List.mem_append.1 hx with hx | hx
      · exact ih (u / 10) (by omega) x hx
      · rw [List.mem_singleton.1 hx]; exact one (u % 10) (by omega)
def evalD (l:List UInt8):Nat:=l.foldl (fun n d=>n * 10 + (d.toNat - 48)) 0
theorem evalD_dec:∀ u:Nat,evalD (Lib.decDigits u) = u:=by
  have one:∀ d:Nat,d < 10 → (UInt8.ofNat (48 + d)).toNat - 48 = d:=fun d hd=>by
    have:(UInt8.ofNat (48 + d)).toNat = 48 + d:=by rw [UInt8.toNat_ofNat']; omega
    omega
  intro u
  induction u using Nat.strongRecOn with
  | ind u ih =>
    rw [Lib.decDigits]
    split
    · rename_i h; show 0 * 10 + _ = u; rw [one u h]; omega
    · rename_i h
      unfold evalD
      rw [List.foldl_append]
      show evalD (Lib.decDigits (u / 10)) * 10 + _ = u
      rw [ih (u / 10) (by omega),one _ (by omega)]; omega
theorem itoa_bytes (n:Int):∀ x ∈ Lib.itoa n,x ≠ 46:=by
  intro x hx e
  subst e
  unfold Lib.itoa at hx
  split at hx
  · rcases List.mem_cons.1 hx with h | h
    · cases h
    · have:=dec_bytes _ _ h; revert this; decide
  · have:=dec_bytes _ _ hx; revert this; decide
theorem itoa_inj {a b:Int} (h:Lib.itoa a = Lib.itoa b):a = b:=by
  have neg:∀ (u v:Nat),(45 :: Lib.decDigits u) ≠ Lib.decDigits v:=fun u v e=>by
    have:=dec_bytes v 45 (by rw [← e]; exact List.mem_cons_self ..)
    revert this; decide
  have dec:∀ {u v:Nat},Lib.decDigits u = Lib.decDigits v → u = v:=fun {u v} e=>by rw [← evalD_dec u,e,evalD_dec]
  unfold Lib.itoa at h
  split at h
  · split at h
    · have:=dec (List.tail_eq_of_cons_eq h); omega
    · exact absurd h (neg _ _)
  · split at h
    · exact absurd h.symm (neg _ _)
    · have:=dec h; omega
theorem split_dot:∀ {l m p q:List UInt8},(∀ x ∈ l,x ≠ 46) → (∀ x ∈ m,x ≠ 46) → l ++ 46 :: p = m ++ 46 :: q → l = m ∧ p = q
  | [],[],p,q,_,_,h=>⟨rfl,by injection h⟩
  | [],y :: m,p,q,_,hm,h=>by injection h with h _; exact absurd h.symm (hm y (List.mem_cons_self ..))
  | x :: l,[],p,q,hl,_,h=>by injection h with h _; exact absurd h (hl x (List.mem_cons_self ..))
  | x :: l,y :: m,p,q,hl,hm,h=>by
    injection h with h1 h2
    have r:=split_dot (fun z hz=>hl z (List.mem_cons_of_mem _ hz)) (fun z hz=>hm z (List.mem_cons_of_mem _ hz)) h2
    exact ⟨by rw [h1,r.1],r.2⟩
theorem child_inj {a b c d:Int}:childT a b = childT c d ↔ a = c ∧ b = d:=by
  constructor
  · intro h
    unfold childT at h
    rw [List.append_assoc,List.append_assoc] at h
    obtain ⟨h1,h2⟩:=split_dot (itoa_bytes a) (itoa_bytes c) h
    exact ⟨itoa_inj h1,itoa_inj h2⟩
  · rintro ⟨rfl,rfl⟩; rfl
theorem t3 {H:Heap} (t:Tab H) {a b c d:Int} (ha:i64 a) (hb:i64 b) (hc:i64 c) (hd:i64 d):Tr Tryz.prog 3 #[.agg #[.int .i64 a,.int .i64 b,.int .i64 c,.int .i64 d]] H fun v H'=>v = .bool true ∧ Sub H H':=by
  apply v3; unfold F3
  refine ⟨true,t9 H,_,t10 t ha hb,_,t10 t hc hd,_,fun _=>t11 ha hb H,congrArg Value.bool ?_,Sub.refl _⟩
  have e1:beqS (txt (childT a b)) (txt (childT a b)) = true:=beqS_iff.2 rfl
  have e2:beqS (txt (childT a b)) (txt (childT c d)) = (a == c && b == d):=by
    rw [Bool.eq_iff_iff,beqS_iff,txt_inj,child_inj]
    simp
  rw [e1,e2]
  simp
end Go.Proofs.YtkofafcgcnciaaaGreatDoor
set_option maxRecDepth 100000
namespace Go.Proofs.YtkofafcgcnciaaaGreatDoor
open Go.Ax Go.RowKit Go.ChangeShapes Go.WideShapes Go.ChangeAt
def IntAt (l:List Value) (k:Nat):Prop:=∃ x,(l.drop k).take 1 = [.int .i64 x] ∧ (Lit.int .i64 x).wf = true
end Go.Proofs.YtkofafcgcnciaaaGreatDoor
set_option maxRecDepth 100000
namespace Go.Proofs.YtkofafcgcnciaaaGreatDoor
open Go.Ax Go.RowKit Go.ChangeShapes Go.WideShapes Go.ChangeAt
theorem fitNm (H:Heap) (l:List Value) (n:Nat) (h:Fit Tryz.prog H (n + 2) 23 l):l.length = 4 ∧ IntAt l 0 ∧ IntAt l 1 ∧ IntAt l 2 ∧ IntAt l 3 ∧ True :=
  Eq.mp (show Fit Tryz.prog H (n + 2) 23 l = (l.length = 4 ∧ IntAt l 0 ∧ IntAt l 1 ∧ IntAt l 2 ∧ IntAt l 3 ∧ True) by kernel_rfl) h
theorem ofNm {l:List Value} (h:l.length = 4 ∧ IntAt l 0 ∧ IntAt l 1 ∧ IntAt l 2 ∧ IntAt l 3 ∧ True):∃ a b c d:Int,i64 a ∧ i64 b ∧ i64 c ∧ i64 d ∧ l = [.int .i64 a,.int .i64 b,.int .i64 c,.int .i64 d]:=by
  obtain ⟨hl,⟨x0,e0,w0⟩,⟨x1,e1,w1⟩,⟨x2,e2,w2⟩,⟨x3,e3,w3⟩,-⟩:=h
  match l,hl with
  | [c0,c1,c2,c3],_ =>
    simp at e0 e1 e2 e3
    subst e0 e1 e2 e3
    exact ⟨x0,x1,x2,x3,wf_i64 w0,wf_i64 w1,wf_i64 w2,wf_i64 w3,rfl⟩
theorem openNm {W : World} {base : Nat} {r : Reach} {v : Value} {fs : Array Field} (hs : Tryz.prog.underlying 23 = some (.struct fs)) (hv : Value.okWide Tryz.prog W r base 23 v)
    {H:Type} {enc:TypeId × Value → H} {b0:Nat} {spare:Nat → Bool} {held:Bool} {d:DataW H} {p:List MemPlace} (h:DataW.Trod enc Tryz.prog W b0 spare held 23 v d p):∃ a b c d:Int,i64 a ∧ i64 b ∧ i64 c ∧ i64 d ∧ v = .agg #[.int .i64 a,.int .i64 b,.int .i64 c,.int .i64 d]:=by
  obtain ⟨cs,rfl,hsz⟩:=okWide_struct hs hv
  obtain ⟨a,b,c,d,h1,h2,h3,h4,ho⟩:=ofNm (fitNm _ _ 0 (fit_of_Trod 2 h))
  refine ⟨a,b,c,d,h1,h2,h3,h4,?_⟩
  congr 1
  exact Array.toList_inj.mp ho
theorem laid_tail {P:Program} {x:String × DataW Unit} {l:List (String × DataW Unit)} {W:World} (h:laidMet P (x :: l) W):laidMet P l W:=by
  obtain ⟨ps,⟨g,t,cs,fuel,p,q,h1,h2,h3,h4,h5,h6⟩,nd,hm⟩:=h
  subst h6
  exact ⟨q,h5,(List.nodup_append.1 nd).2.1,fun b off hb=>hm b off (List.mem_append_right _ hb)⟩
theorem tab_laid {W:World} (h:laidMetH Tryz.prog Rows.runsNamesRow.laid W):Tab (hp W):=by
  have h0:laidMet Tryz.prog Rows.runsNamesRow.laid W:=h
  have h1 : laidMet Tryz.prog [("internal/strconv.uint64pow10", Lib.tabData .u64 Lib.pow10Tab)] W := laid_tail (laid_tail h0)
  have ht:=Lib.tabIs_of_head (g:=0) (by kernel_rfl) (by kernel_rfl) Tryz.underlying258 Tryz.underlying147 (by kernel_rfl) (by kernel_rfl) h1
  unfold Lib.TabIs World.var? at ht
  rw [show Tryz.prog.globalNamed "internal/strconv.uint64pow10" = some 0 by kernel_rfl] at ht
  have ht:(match W.heap[0]? with | some (Obj.cells cs _ _)=>some cs | _=>none) = some (Lib.pow10Tab.map fun z=>Value.int .u64 z).toArray:=ht
  split at ht
  · rename_i cs T f he
    injection ht with ht
    subst ht
    exact ⟨T,f,he⟩
  · cases ht
end Go.Proofs.YtkofafcgcnciaaaGreatDoor
namespace Go.Proofs.YtkofafcgcnciaaaGreatDoor
def tab64 (k:IntKind) (l:List Int):Array Value:=⟨l.map (Value.int k)⟩
def layT (vs:Array Value):Obj → Obj
  | .cells _ t frozen=>.cells vs t frozen
  | o=>o
def Tryz.pow10L:List Int:=[1,10,100,1000,10000,100000,1000000,10000000,100000000,1000000000,10000000000,100000000000,1000000000000,10000000000000,100000000000000,1000000000000000,10000000000000000,100000000000000000,1000000000000000000,10000000000000000000]
def Tryz.bruijn32L:List Int:=[0,1,28,2,29,14,24,3,30,22,20,15,25,17,4,8,31,27,13,23,21,19,16,7,26,12,18,6,11,5,10,9]
def Tryz.bruijn64L:List Int:=[0,1,56,2,57,49,28,3,61,58,42,50,38,29,17,4,62,47,59,36,45,43,51,22,53,39,33,30,24,18,12,5,63,55,48,27,60,41,37,16,46,35,44,21,52,32,23,11,54,26,40,15,34,20,31,10,25,14,19,9,13,8,7,6]
end Go.Proofs.YtkofafcgcnciaaaGreatDoor
namespace Go.Proofs.YtkofafcgcnciaaaGreatDoor
open Go.ChangeShapes Go.WideShapes Go.ChangeAt Go.RowKit Go.Ax
open Go.ChangeMaps (open_string shut_string)
set_option linter.unusedVariables false
theorem own3:ownKnob Tryz.prog.godebug = none:=by kernel_rfl
theorem laidOut3:laidOutB Tryz.prog = true:=by kernel_rfl
noncomputable def laidWorld3 (os:Os):World :=
  { World.holding Tryz.prog os ⟨#[],#[],[]⟩ with heap:=(((World.holding Tryz.prog os ⟨#[],#[],[]⟩).heap.modify 0 (layT (tab64 .u64 Tryz.pow10L))).modify 1 (layT (tab64 .u8 Tryz.bruijn32L))).modify 2 (layT (tab64 .u8 Tryz.bruijn64L)) }
theorem laid_met3 (os:Os):laidMet Tryz.prog Rows.runsNamesRow.laid ((laidWorld3 os).forCall (fun _ _=>0) ⟨#[],#[.agg #[.int .i64 0,.int .i64 0,.int .i64 0,.int .i64 0]],[]⟩).memory :=
  laidMet_of_run' 8 (by kernel_rfl) (by kernel_rfl)
theorem reads3 (os:Os) {H:Type} (enc:TypeId × Value → H):∃ places,DataW.whole enc Tryz.prog ((laidWorld3 os).forCall (fun _ _=>0) ⟨#[],#[.agg #[.int .i64 0,.int .i64 0,.int .i64 0,.int .i64 0]],[]⟩).memory Tryz.f3.params.toList Rows.runsNamesSpec.vars false (#[.agg #[.int .i64 0,.int .i64 0,.int .i64 0,.int .i64 0]]:Array Value).toList 8 = some ([.agg [.lit (.int .i64 0),.lit (.int .i64 0),.lit (.int .i64 0),.lit (.int .i64 0)]],[],places) :=
  ⟨[],by kernel_rfl⟩
set_option maxRecDepth 100000 in
theorem contract3 (H : Type) (enc : TypeId × Value → H) (W : World) (base : Nat) (args : Array Value) (ds gs : List (DataW H)) (before : List MemPlace)
    (hval0:∀ (j:Nat) t v,Tryz.f3.params[j]? = some t → args[j]? = some v → Value.okWide Tryz.prog W .any base t v)
    (hW:DataW.Whole enc Tryz.prog Tryz.f3.params.toList Rows.runsNamesSpec.vars false W args.toList ds gs before)
    (hsz:(DataW.weightsEach Tryz.prog (Tryz.f3.params.toList ++ Rows.runsNamesSpec.plain.varTypes Tryz.prog) (ds ++ gs)).all (· ≤ reachBytes) = true) (hL:laidMetH Tryz.prog Rows.runsNamesRow.laid W) :
    Calls Tryz.prog 3 args W fun e W'=>∃ v,e = .returned v ∧ Rows.runsNamesSpec.post enc Tryz.prog Tryz.f3 false true false false W args v W':=by
  have hval:∀ (j:Nat) t v,Tryz.f3.params[j]? = some t → args[j]? = some v → Value.okWide Tryz.prog W .any base t v:=hval0
  have hW':=hW
  obtain ⟨p,q,hA0,hV,rfl,hfz,hnd⟩:=hW
  have hA:DataW.TrodAll enc Tryz.prog W 0 (fun _=>true) true Tryz.f3.params.toList args.toList ds p:=hA0
  rw [Tryz.params3] at hA hval
  obtain ⟨v0,vs0,d0,ds0,p0,q0,hargs,rfl,rfl,h0,s0⟩:=trodAll_cons hA
  obtain ⟨rfl,rfl,rfl⟩:=trodAll_nil s0
  obtain rfl:args = #[v0]:=by cases args; simp_all
  obtain ⟨rfl,rfl⟩:=trodVars_none hV
  have k0:=h0
  have lt0:∀ x ∈ p0,x.block < W.heap.size:=by obtain ⟨m,hm⟩:=k0; exact DataW.trod_lt m _ _ _ hm
  obtain ⟨a0,b0,c0,e0,r0,i0,j0,l0,rfl⟩:=openNm Tryz.underlying23 (hval 0 23 v0 rfl rfl) h0
  clear hA0 hval0
  refine (below_of_tr (f:=3) (t3 (tab_laid hL) r0 i0 j0 l0)).mono fun e W' ⟨he,bel⟩=>?_
  subst he
  exact ⟨_,rfl,_,_,_,[],_,[],hW',trodAll_mk1 (shut_bool Tryz.underlying4 _),(trodAll_cons_mk (Below.trod laidOut3 (by kernel_rfl) (of_decide_eq_true (by kernel_rfl)) k0 bel lt0) trodAll_mk0),rfl,bel.frame _,fun h=>by cases h⟩
set_option maxRecDepth 100000 in
theorem lifted3 (os : Os) (started : os.Started) (H : Type) (enc : TypeId × Value → H) (F : Stop.Interp) :
    ReturnsInHanded {} Tryz.checked os 3 .any ((OpenSpec.ofChange Rows.runsNamesSpec).preRow enc Tryz.prog Tryz.f3 Rows.runsNamesRow.domain false Rows.runsNamesRow.laid) (((OpenSpec.ofChange Rows.runsNamesSpec).at F).post enc Tryz.prog Tryz.f3 false true false false):=by
  obtain ⟨places,hx⟩:=reads3 os enc
  refine returnsInHanded_of_row (C:=Tryz.checked) (s:=OpenSpec.ofChange Rows.runsNamesSpec) own3 started (by kernel_rfl) Tryz.func3
    (witness_row_at (enc:=enc) (C:=Tryz.checked) false (laidWorld3 os) #[.agg #[.int .i64 0,.int .i64 0,.int .i64 0,.int .i64 0]] rfl (by kernel_rfl) (by kernel_rfl) (by kernel_rfl)
      (OpenSpec.preRow_of_cond 8 hx (by kernel_rfl) (fun k hk=>by cases hk) (by kernel_rfl) (laid_met3 os))) ?_
  intro W base args ds gs before hval hW _ _ hsz hL _ _
  exact contract3 H enc W base args ds gs before hval hW hsz hL
theorem over3:Rows.RunsNamesSaid :=
  OpenClaim.holds_of_cond 3 Tryz.f3 rfl rfl rfl rfl rfl rfl rfl ⟨rfl,rfl,rfl,rfl,rfl⟩ rfl rfl rfl rfl rfl (by kernel_rfl) Tryz.func3 (by kernel_rfl)
    (of_decide_eq_true (by kernel_rfl)) (by unfold Func.isWrapper; first | (rw [if_pos (by decide +kernel)]; kernel_rfl) | (rw [if_neg (by decide +kernel)]; exact ⟨rfl,rfl⟩))
    (fun os started H enc _ F=>by rw [OpenClaim.pre_eq_preRow]; exact lifted3 os started H enc F)
theorem plain3 (f : FuncId) (fn : Func) (hf : Tryz.pinned.checked.prog.funcNamed "tapestry/tapestrylaw19.RunsNames" = some f) (hfn : Tryz.pinned.checked.prog.funcs[f]? = some fn) :
    false = Tryz.pinned.checked.prog.looks [] ∧ ∀ (j:Nat) t,fn.params[j]? = some t → Tryz.pinned.checked.prog.wantsStandIn t = false:=by
  obtain rfl : f = 3 := Option.some.inj ((show Tryz.prog.funcNamed "tapestry/tapestrylaw19.RunsNames" = some 3 by kernel_rfl).symm.trans hf) |>.symm
  obtain rfl:fn = Tryz.f3:=(Option.some.inj (Tryz.func3.symm.trans hfn)).symm
  refine ⟨by kernel_rfl,fun j t ht=>?_⟩
  rw [Tryz.params3] at ht
  have hm:=Array.mem_of_getElem? ht
  simp at hm
  subst hm
  · exact (show Tryz.prog.wantsStandIn 23 = false by kernel_rfl)
theorem provedRunsNames:Rows.RunsNamesCardSaid :=
  Claim7.holds_tied_plain_at .later [] _ _ _ _ over3 (fun _ h=>by cases h) (by kernel_rfl) (fun _ h=>by cases h) runsNames_row_tie rfl ⟨rfl,rfl⟩ (by kernel_rfl) rfl plain3 (by kernel_rfl)
end Go.Proofs.YtkofafcgcnciaaaGreatDoor
