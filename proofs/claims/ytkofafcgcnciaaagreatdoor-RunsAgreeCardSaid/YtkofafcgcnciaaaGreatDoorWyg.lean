/- The statement that provedRunsAgree proves, and the last lemmas that it needs. Conditions: none but the row's own. -/
import Derived.Test.YtkofafcgcnciaaaGreatDoorWyf
import Derived.Test.YtkofafcgcnciaaaGreatDoorRows
set_option maxRecDepth 100000
namespace Go.Proofs.YtkofafcgcnciaaaGreatDoor
open Go.Ax
structure RSyn (K:List Ev) (x y:Rn):Prop where
 e:y=x.vs y.s
 s:Syn K x.s y.s
def ROut (K:List Ev) (x y:Rn):Prop:=RSyn K x y∨(y.fault=false∧Off K x.s.made y.s)
def RO (K:List Ev) (x y:Int×Rn):Prop:=(y.1=x.1∧RSyn K x.2 y.2)∨(y.2.fault=false∧Off K x.2.s.made y.2.s)
variable {K:List Ev} {r:Rn} {s':VS}
theorem RSyn.of (h:Syn K r.s s'):RSyn K r (r.vs s'):=⟨rfl,h⟩
theorem RSyn.t {x y:Rn} (h:RSyn K x y):y.t=x.t:=by have:=congrArg Rn.t h.e; exact this
theorem RSyn.fault {x y:Rn} (h:RSyn K x y):y.fault=x.fault:=by have:=congrArg Rn.fault h.e; exact this
theorem RSyn.pc {x y:Rn} (h:RSyn K x y) (n:Int):RSyn K (x.pc n) (y.pc n):=⟨by obtain ⟨e,-⟩:=h; rw [e]; rfl,h.s⟩
theorem ROut.pc {x y:Rn} (h:ROut K x y) (n m:Int) (e:RSyn K x y→m=n):ROut K (x.pc n) (y.pc m):=by
 rcases h with h|h
 ·rw [e h]; exact .inl (h.pc n)
 ·exact .inr h
theorem RO.of {x y:Rn} (h:ROut K x y) (n:Int):RO K (n,x) (n,y):=h.imp (fun q=>⟨rfl,q⟩) id
theorem ROut.next {x y:Rn} (h:ROut K x y):ROut K (x.pc (x.t.pc+1)) (y.pc (y.t.pc+1)):=h.pc _ _ fun q=>by rw [q.t]
theorem vs_s (r:Rn) (s':VS):(r.vs s').s=s':=rfl
theorem vs_t (r:Rn) (s':VS):(r.vs s').t=r.t:=rfl
theorem take_vs (r:Rn) (s':VS):(r.vs s').take=(r.take.1,r.take.2.vs s'):=by
 unfold Rn.take
 show (match r.t.stack.getLast? with|some v=>_|none=>_)=_
 cases r.t.stack.getLast?<;>rfl
theorem take2_vs (r:Rn) (s':VS):(r.vs s').take.2=r.take.2.vs s':=by rw [take_vs]
theorem leave_vs (r:Rn) (s':VS) (l:List Int):(r.vs s').leave l=(r.leave l).vs s':=rfl
theorem asked_vs {r:Rn} {s':VS} (e:s'.futures=r.s.futures) (d:Nat):(r.vs s').asked d=((r.asked d).1,(r.asked d).2.vs s'):=by
 unfold Rn.asked
 show (match (r.t.stack.reverse)[d]? with|some v=>if (decide (v<0)||decide (v≥(s'.futures.length:Int)))=true then _ else _|none=>_)=_
 rw [e]
 cases (r.t.stack.reverse)[d]? with
 | none=>rfl
 | some v=>simp only; split<;>rfl
theorem scope_vs {r:Rn} {s':VS} (e:s'.scopes=r.s.scopes):(r.vs s').scope=(r.scope.1,r.scope.2.vs s'):=by
 have e2:r.take.2.s.scopes=r.s.scopes:=by rw [take_s]
 unfold Rn.scope
 rw [take_vs]
 show (r.take.1,if (decide (r.take.1<0)||decide (r.take.1≥(s'.scopes.length:Int)))=true then _ else _)=_
 rw [e,e2]
 split<;>rfl
theorem told_vs {r:Rn} {s':VS} (e:s'.futures=r.s.futures) (op:Int):(r.vs s').told op=((r.told op).1,(r.told op).2.vs s'):=by
 unfold Rn.told
 rw [asked_vs e]
 split
 ·show (match (if decide ((r.asked 1).1<0)=true then none else s'.futures[(r.asked 1).1.toNat]?) with|some f=>_|none=>_)=_
  rw [e]
  cases (if decide ((r.asked 1).1<0)=true then none else r.s.futures[(r.asked 1).1.toNat]?) with
  | none=>rfl
  | some f=>simp only; split<;>rfl
 ·rfl
theorem vs_same {r:Rn} (h:Syn K r.s s'):Syn K r.take.2.s s':=by rw [take_s]; exact h
theorem opens_sim (h:Syn K r.s s') (hf:r.fault=false) {e:Ev} (g:Good K (r.opens e).s.made):ROut K (r.opens e) ((r.vs s').opens e):=by
 have hc:(r.vs s').s.cancelled (r.vs s').t.scope=r.s.cancelled r.t.scope:=h.canc _
 have hold:∀{z z':VS} (f:Fut),Syn K z z'→RSyn K ((r.vs z).hold f) ((r.vs z').hold f):=fun {z z'} f q=>by
  refine ⟨?_,q.map (fun z=>z.fut f) (fun d l=>⟨d,rfl⟩) rfl rfl⟩
  show ((r.vs z').leave [(z'.futures.length:Int)]).vs (z'.fut f)=_
  rw [q.same.2.2.2.2.1]; rfl
 unfold Rn.opens at g ⊢
 rw [hc]
 split
 ·exact .inl (hold (z:=r.s) (z':=s') _ h)
 ·rename_i hcn
  rw [if_neg hcn] at g
  by_cases hok:(r.s.emit e).1.2=true
  ·rw [if_neg (by rw [hok]; decide)] at g ⊢
   rcases emit_same h (e:=e) g with ⟨a,b⟩|⟨a,b⟩
   ·have a':((r.vs s').s.emit e).1=(r.s.emit e).1:=a
    rw [if_neg (by rw [a',hok]; decide),a']
    exact .inl (hold _ b)
   ·have a':((r.vs s').s.emit e).1=(0,false):=a
    rw [if_pos (by rw [a']; rfl)]
    exact .inr ⟨hf,b⟩
  ·rw [if_pos (by simpa using hok)] at g ⊢
   rcases emit_same h (e:=e) g with ⟨a,b⟩|⟨a,b⟩
   ·have a':((r.vs s').s.emit e).1=(r.s.emit e).1:=a
    rw [if_pos (by rw [a']; simpa using hok)]
    exact .inl (RSyn.of (r:=r.vs (r.s.emit e).2) b)
   ·have a':((r.vs s').s.emit e).1=(0,false):=a
    rw [if_pos (by rw [a']; rfl)]
    exact .inr ⟨hf,b⟩
theorem vsim_out {x:Rn} {z z':VS} (h:VSim K z z') (hf:x.fault=false):ROut K (x.vs z) (x.vs z'):=h.imp (fun q=>RSyn.of (r:=x.vs z) q) (fun q=>⟨hf,q⟩)
theorem threads_sim (h:Syn K r.s s') (hf:r.fault=false) (ho:r.s.over=false) (op a:Int) (g:Good K (r.threads op a).s.made):ROut K (r.threads op a) ((r.vs s').threads op a):=by
 have q6:=h.same.2.2.2.2.2.1
 have hc:(r.vs s').s.cancelled (r.vs s').t.scope=r.s.cancelled r.t.scope:=h.canc _
 unfold Rn.threads at g ⊢
 rw [take_vs,scope_vs q6,hc]
 have ht:=vs_same h
 have hs:Syn K r.scope.2.s s':=by rw [scope_s]; exact h
 obtain ⟨d,l,rfl,hk⟩:=h.ex
 show ROut K _ (if op=27 then (if r.take.2.fault=true then r.take.2.vs (r.s.rp d l) else if decide ((r.s.threads.length:Int)≥16)=true then (r.take.2.vs (r.s.rp d l)).vs ((r.s.rp d l).fails (-3)) else ((r.take.2.vs (r.s.rp d l)).leave [(r.s.futures.length:Int)]).vs (((r.s.rp d l).fut ⟨0,0,r.t.scope,false,0,0⟩).thread (Thr.new a r.t.scope r.take.1 (r.s.futures.length:Int) 0)))
  else if op=29 then (if ((r.t.stack.length:Int)==32)=true then (r.vs (r.s.rp d l)).fail else if decide ((r.s.scopes.length:Int)≥32)=true then (r.vs (r.s.rp d l)).vs ((r.s.rp d l).fails (-3)) else ((r.vs (r.s.rp d l)).leave [(r.s.scopes.length:Int)]).vs { (r.s.rp d l) with scopes:=r.s.scopes++[⟨r.t.scope,false⟩] })
  else if op=30 then (if r.scope.2.fault=true then r.scope.2.vs (r.s.rp d l) else { r.scope.2.vs (r.s.rp d l) with t:={ r.scope.2.t with scope:=r.scope.1 } })
  else if op=31 then (if r.scope.2.fault=true then r.scope.2.vs (r.s.rp d l) else (r.scope.2.vs (r.s.rp d l)).vs ((r.s.rp d l).cancels r.scope.1))
  else (r.vs (r.s.rp d l)).leave [truthM (r.s.cancelled r.t.scope)])
 split
 ·rename_i e27
  rw [if_pos e27] at g
  split
  ·exact .inl (RSyn.of ht)
  ·rename_i hft
   rw [if_neg hft] at g
   split
   ·rename_i hl
    rw [if_pos hl] at g
    exact vsim_out (x:=r.take.2) (fails_sim h g) (by simpa using hft)
   ·refine .inl ⟨rfl,h.map (fun z=>(z.fut ⟨0,0,r.t.scope,false,0,0⟩).thread (Thr.new a r.t.scope r.take.1 (r.s.futures.length:Int) 0)) (fun d l=>⟨d,rfl⟩) rfl rfl⟩
 ·rename_i e27
  rw [if_neg e27] at g
  split
  ·rename_i e29
   rw [if_pos e29] at g
   split
   ·exact .inl ⟨rfl,h⟩
   ·rename_i h32
    rw [if_neg h32] at g
    split
    ·rename_i hl
     rw [if_pos hl] at g
     exact vsim_out (x:=r) (fails_sim h g) hf
    ·exact .inl ⟨rfl,h.map (fun z=>{ z with scopes:=r.s.scopes++[⟨r.t.scope,false⟩] }) (fun d l=>⟨d,rfl⟩) rfl rfl⟩
  ·rename_i e29
   rw [if_neg e29] at g
   split
   ·split
    ·exact .inl (RSyn.of hs)
    ·exact .inl ⟨rfl,hs⟩
   ·rename_i e30
    rw [if_neg e30] at g
    split
    ·rename_i e31
     rw [if_pos e31] at g
     split
     ·exact .inl (RSyn.of hs)
     ·rename_i hft
      rw [if_neg hft] at g
      exact vsim_out (x:=r.scope.2) (cancels_sim h ho _ g) (by simpa using hft)
    ·exact .inl ⟨rfl,h⟩
theorem command_sim (h:Syn K r.s s') (hf:r.fault=false) (op a ev v:Int) (h2:op=34→r.take.2.fault=false) (g:Good K (r.command op a ev v).s.made):ROut K (r.command op a ev v) ((r.vs s').command op a ev v):=by
 have hnow:(r.vs s').s.now=r.s.now:=h.same.2.2.1
 unfold Rn.command at g ⊢
 rw [hnow]
 split
 ·exact .inl ⟨rfl,h.map (fun z=>{ z with vars:=z.vars.set a.toNat v }) (fun d l=>⟨d,rfl⟩) rfl rfl⟩
 ·rename_i e; rw [if_neg e] at g
  split
  ·rename_i e; rw [if_pos e] at g; exact opens_sim h hf g
  ·rename_i e; rw [if_neg e] at g
   split
   ·rename_i e; rw [if_pos e] at g; exact opens_sim h hf g
   ·rename_i e; rw [if_neg e] at g
    split
    ·rename_i e; rw [if_pos e] at g; exact opens_sim h hf g
    ·rename_i e; rw [if_neg e] at g
     split
     ·rename_i e; rw [if_pos e] at g
      by_cases hok:(r.s.emit (evM 10 a v 0)).1.2=true
      ·rw [if_pos hok] at g ⊢
       rcases emit_same h (e:=evM 10 a v 0) g with ⟨q,b⟩|⟨q,b⟩
       ·have q':((r.vs s').s.emit (evM 10 a v 0)).1=(r.s.emit (evM 10 a v 0)).1:=q
        rw [if_pos (by rw [q']; exact hok)]
        exact .inl ⟨rfl,b.map (fun z=>{ z with attrs:=z.attrs.set a.toNat v }) (fun d l=>⟨d,rfl⟩) rfl rfl⟩
       ·have q':((r.vs s').s.emit (evM 10 a v 0)).1=(0,false):=q
        rw [if_neg (by rw [q']; decide)]
        exact .inr ⟨hf,b⟩
      ·rw [if_neg hok] at g ⊢
       rcases emit_same h (e:=evM 10 a v 0) g with ⟨q,b⟩|⟨q,b⟩
       ·have q':((r.vs s').s.emit (evM 10 a v 0)).1=(r.s.emit (evM 10 a v 0)).1:=q
        rw [if_neg (by rw [q']; exact hok)]
        exact .inl ⟨rfl,b⟩
       ·have q':((r.vs s').s.emit (evM 10 a v 0)).1=(0,false):=q
        rw [if_neg (by rw [q']; decide)]
        exact .inr ⟨hf,b⟩
     ·rename_i e; rw [if_neg e] at g
      split
      ·rename_i e; rw [if_pos e] at g
       rw [take2_vs]
       exact (emit_same h (e:=evM 9 ev a v) g).elim (fun q=>.inl ⟨rfl,q.2⟩) (fun q=>.inr ⟨h2 e,q.2⟩)
      ·exact .inl ⟨rfl,h⟩
theorem last_a {l:List Ev}:((l.map fix7).getLast?.map Ev.a).getD 0=(l.getLast?.map Ev.a).getD 0:=by
 rw [List.getLast?_map]
 cases l.getLast? with
 | none=>rfl
 | some x=>exact fix7_a x
theorem match_draw {s:VS} (x y:Int) (w:Ev):matchesM (s.stamp (evM 11 x 0 0)) w=matchesM (s.stamp (evM 11 y 0 0)) w:=rfl
def Rn.draws (r:Rn) (q:(Int×Bool)×VS):Rn:=if q.1.2=true then (r.vs q.2).leave [((q.2.made.getLast?).map Ev.a).getD 0] else r.vs q.2
theorem commands_draw (r:Rn) (a:Int) (h:¬((r.t.stack.length:Int)==32)=true):r.commands 19 a=r.draws (({ r.s with draws:=IntKind.u64.wrap (r.s.draws+1) }:VS).emit (evM 11 (IntKind.i64.wrap (mix64 r.s.draws)) 0 0)):=by
 unfold Rn.commands
 rw [if_pos rfl,if_neg h]
 rfl
theorem draw_sim {z z':VS} (h1:Syn K z z') (x y:Int) (hf:r.fault=false) (g:Good K (r.draws (z.emit (evM 11 x 0 0))).s.made):ROut K (r.draws (z.emit (evM 11 x 0 0))) ((r.vs s').draws (z'.emit (evM 11 y 0 0))):=by
 have em:=fun g=>emit_sim h1 (e:=evM 11 x 0 0) (e':=evM 11 y 0 0) rfl (fun w=>match_draw y x w) g
 unfold Rn.draws at g ⊢
 by_cases hok:(z.emit (evM 11 x 0 0)).1.2=true
 ·rw [if_pos hok] at g ⊢
  rcases em g with ⟨ex,b⟩|⟨ex,b⟩
  ·rw [if_pos (by rw [ex]; exact hok)]
   refine .inl ⟨?_,b⟩
   have hm:(z'.emit (evM 11 y 0 0)).2.made=(z.emit (evM 11 x 0 0)).2.made.map fix7:=by
    obtain ⟨d,l,e,-⟩:=b.ex
    rw [e]; rfl
   rw [hm,last_a]; rfl
  ·rw [if_neg (by rw [ex]; decide)]
   exact .inr ⟨hf,b⟩
 ·rw [if_neg hok] at g ⊢
  rcases em g with ⟨ex,b⟩|⟨ex,b⟩
  ·rw [if_neg (by rw [ex]; exact hok)]
   exact .inl ⟨rfl,b⟩
  ·rw [if_neg (by rw [ex]; decide)]
   exact .inr ⟨hf,b⟩
theorem commands_sim (h:Syn K r.s s') (hf:r.fault=false) (op a:Int) (g:Good K (r.commands op a).s.made):ROut K (r.commands op a) ((r.vs s').commands op a):=by
 by_cases e19:op=19
 ·subst e19
  by_cases h32:((r.t.stack.length:Int)==32)=true
  ·have e1:r.commands 19 a=r.fail:=by unfold Rn.commands; rw [if_pos rfl,if_pos h32]
   have e2:(r.vs s').commands 19 a=(r.vs s').fail:=by unfold Rn.commands; rw [if_pos rfl,if_pos (show (((r.vs s').t.stack.length:Int)==32)=true from h32)]
   rw [e1,e2]
   exact .inl ⟨rfl,h⟩
  ·have h1 : Syn K { r.s with draws := IntKind.u64.wrap (r.s.draws+1) } { (r.vs s').s with draws := IntKind.u64.wrap ((r.vs s').s.draws+1) } := by
    obtain ⟨d,l,e,hk⟩:=h.ex
    subst e
    exact ⟨h.x,IntKind.u64.wrap (d+1),l,rfl,hk⟩
   rw [commands_draw r a h32] at g ⊢
   rw [commands_draw (r.vs s') a h32]
   exact draw_sim h1 _ _ hf g
 have q5:=h.same.2.2.2.2.1
 unfold Rn.commands at g ⊢
 rw [if_neg e19] at g ⊢
 rw [if_neg e19]
 rw [told_vs q5,take_vs]
 split
 ·refine .inl ⟨rfl,?_⟩
  rcases told_cases r op with ⟨-,-,e3⟩|⟨-,e2⟩|⟨-,⟨f,-,-,-,e2⟩,-⟩
  ·rw [e3]; exact h
  ·rw [e2]; exact h
  ·rw [e2]; exact h
 ·rename_i ht
  rw [if_neg ht] at g
  show ROut K _ (if r.take.2.fault=true then r.take.2.vs s' else (r.take.2.vs s').command op a (r.told op).1 r.take.1)
  split
  ·exact .inl (RSyn.of (vs_same h))
  ·rename_i hft
   rw [if_neg hft] at g
   refine command_sim (vs_same h) (by simpa using hft) op a _ _ (fun e=>?_) g
   have hft:r.take.2.fault=false:=by simpa using hft
   rw [take_nofault hft,take_t]
   rcases told_cases r op with ⟨e1,-,-⟩|⟨e1,-⟩|⟨-,-,e3⟩
   ·exact absurd (by simpa using e1) ht
   ·exact absurd e e1
   ·show r.t.stack.dropLast.isEmpty=false
    rw [List.isEmpty_eq_false_iff]
    intro hn
    have:=congrArg List.length hn
    rw [List.length_dropLast] at this
    have this:r.t.stack.length-1=0:=this
    omega
theorem emitV_sim {s:VS} (h:Syn K s s') (e:Ev) (g:Good K (s.emit e).2.made):VSim K (s.emit e).2 (s'.emit e).2:=(emit_same h g).imp And.right And.right
def endS (r:Rn) (op:Int) (s:VS):VS :=
 if (op==35)=true then (s.emit (evM 18 r.take.1 0 0)).2 else
 if (r.t.update != 0)=true then (s.emit (evM 14 r.t.update r.take.1 (if (op==37)=true then 1 else 0))).2 else
 if decide (r.t.future≥0)=true then s.setDone r.t.future r.take.1 (if (op==37)=true then 1 else 0) else
 if (op==36)=true then (s.emit (evM 15 r.take.1 0 0)).2 else
 if s.cancelled 0=true then (s.emit (evM 17 r.take.1 0 0)).2 else (s.emit (evM 16 r.take.1 0 0)).2
theorem ends_eq (r:Rn) (op:Int):r.ends op=if r.take.2.fault=true then (0,r.take.2) else (2,r.take.2.vs (endS r op r.s)):=rfl
theorem ends_sim (h:Syn K r.s s') (op:Int) (g:Good K (r.ends op).2.s.made):RO K (r.ends op) ((r.vs s').ends op):=by
 have e:(r.vs s').ends op=if r.take.2.fault=true then (0,r.take.2.vs s') else (2,r.take.2.vs (endS r op s')):=by
  rw [ends_eq,take_vs]
  show (if r.take.2.fault=true then _ else (2,(r.take.2.vs s').vs (endS (r.vs s') op s')))=_
  have:endS (r.vs s') op s'=endS r op s':=by unfold endS; rw [take_vs]; rfl
  rw [this]; rfl
 rw [e,ends_eq]
 rw [ends_eq] at g
 split
 ·exact RO.of (.inl (RSyn.of (vs_same h))) 0
 ·rename_i hft
  rw [if_neg hft] at g
  refine RO.of (vsim_out (x:=r.take.2) ?_ (by simpa using hft)) 2
  have g:Good K (endS r op r.s).made:=g
  unfold endS at g ⊢
  rw [h.canc]
  by_cases c1:(op==35)=true
  ·rw [if_pos c1] at g ⊢; rw [if_pos c1]; exact emitV_sim h _ g
  rw [if_neg c1] at g ⊢; rw [if_neg c1]
  by_cases c2:(r.t.update != 0)=true
  ·rw [if_pos c2] at g ⊢; rw [if_pos c2]; exact emitV_sim h _ g
  rw [if_neg c2] at g ⊢; rw [if_neg c2]
  by_cases c3:decide (r.t.future≥0)=true
  ·rw [if_pos c3,if_pos c3]; exact .inl (h.done _ _ _)
  rw [if_neg c3] at g ⊢; rw [if_neg c3]
  by_cases c4:(op==36)=true
  ·rw [if_pos c4] at g ⊢; rw [if_pos c4]; exact emitV_sim h _ g
  rw [if_neg c4] at g ⊢; rw [if_neg c4]
  by_cases c5:r.s.cancelled 0=true
  ·rw [if_pos c5] at g ⊢; rw [if_pos c5]; exact emitV_sim h _ g
  rw [if_neg c5] at g ⊢; rw [if_neg c5]
  exact emitV_sim h _ g
theorem awaits_sim (h:Syn K r.s s') (op:Int):RO K (r.awaits op) ((r.vs s').awaits op):=by
 have q5:=h.same.2.2.2.2.1
 have ha:(r.asked 0).2.s=r.s:=by
  rcases asked_cases r 0 with e|⟨v,e,-,-⟩<;>rw [e]<;>rfl
 unfold Rn.awaits
 rw [asked_vs q5,take_vs]
 show RO K _ (if decide ((r.asked 0).1<0)=true then (0,(r.asked 0).2.vs s') else match s'.futures[(r.asked 0).1.toNat]? with|some f=>_|none=>(0,r.vs s'))
 rw [q5]
 split
 ·exact .inl ⟨rfl,rfl,by rw [ha]; exact h⟩
 ·cases r.s.futures[(r.asked 0).1.toNat]? with
  | none=>exact .inl ⟨rfl,rfl,h⟩
  | some f =>
   simp only
   split
   ·exact .inl ⟨rfl,rfl,h⟩
   ·split
    ·exact .inl ⟨rfl,rfl,vs_same h⟩
    ·exact .inl ⟨rfl,rfl,vs_same h⟩
theorem waitS_sim (h:Syn K r.s s') (a:Int):RO K (r.waitS a) ((r.vs s').waitS a):=by
 have q7:=h.same.2.2.2.2.2.2.1
 unfold Rn.waitS
 show RO K _ (match s'.signals[a.toNat]?.getD [] with|[]=>_|x::l=>_)
 rw [q7]
 cases hl:r.s.signals[a.toNat]?.getD [] with
 | nil=>exact .inl ⟨rfl,rfl,h⟩
 | cons x l =>
  have hm:Syn K { r.s with signals:=r.s.signals.set a.toNat l } { s' with signals:=s'.signals.set a.toNat l }:=h.map (fun z=>{ z with signals:=z.signals.set a.toNat l }) (fun d l=>⟨d,rfl⟩) rfl rfl
  show RO K (if (r.leave [x]).fault=true then _ else _) (if (r.leave [x]).fault=true then _ else _)
  split
  ·exact .inl ⟨rfl,rfl,h⟩
  ·exact .inl ⟨rfl,rfl,hm⟩
theorem does_sim (h:Syn K r.s s') (hf:r.fault=false) (ho:r.s.over=false) (op a:Int) (g:Good K (r.does op a).2.s.made):RO K (r.does op a) ((r.vs s').does op a):=by
 unfold Rn.does at g ⊢
 split
 ·exact awaits_sim h op
 ·rename_i c1; rw [if_neg c1] at g
  split
  ·exact waitS_sim h a
  ·rename_i c2; rw [if_neg c2] at g
   split
   ·rename_i c3; rw [if_pos c3] at g; exact ends_sim h op g
   ·rename_i c3; rw [if_neg c3] at g
    split
    ·exact .inl ⟨rfl,rfl,h⟩
    ·rename_i c4; rw [if_neg c4] at g
     split
     ·rename_i c5; rw [if_pos c5] at g; exact RO.of (threads_sim h hf ho op a g).next 0
     ·rename_i c5; rw [if_neg c5] at g; exact RO.of (commands_sim h hf op a g).next 0
variable {K:List Ev} {p:Prg}
theorem ite_vs {P:Prop} [Decidable P] (x y:Rn) (s':VS):(if P then x else y).vs s'=if P then x.vs s' else y.vs s':=by split<;>rfl
theorem pc_vs (r:Rn) (s':VS) (n:Int):(r.vs s').pc n=(r.pc n).vs s':=rfl
theorem pure1_vs {r:Rn} {s':VS} (e1:s'.vars=r.s.vars) (e2:s'.now=r.s.now) (e3:s'.signals=r.s.signals) (op a:Int):(r.vs s').pure1 op a=(r.pure1 op a).vs s':=by
 unfold Rn.pure1
 simp only [take_vs,leave_vs,pc_vs,ite_vs,vs_s,vs_t,e1,e2,e3]
theorem pure_vs {r:Rn} {s':VS} (e1:s'.vars=r.s.vars) (e2:s'.now=r.s.now) (e3:s'.signals=r.s.signals) (op a:Int):(r.vs s').pure_ op a=(r.pure_ op a).vs s':=by
 unfold Rn.pure_
 rw [vs_t,pc_vs]
 exact pure1_vs (r:=r.pc (r.t.pc+1)) e1 e2 e3 op a
theorem purelyG_vs {s s':VS} (e1:s'.vars=s.vars) (e2:s'.now=s.now) (e3:s'.signals=s.signals) (fn:Int):∀(n:Nat) (r:Rn),r.s=s→purelyG p fn n (r.vs s')=purelyG p fn n r
 | 0,_,_=>rfl
 | n+1,r,hr=>by
  subst hr
  unfold purelyG
  rw [take_vs,pure_vs e1 e2 e3,vs_t]
  show (if _ then (if r.take.2.fault=true then _ else _) else if (r.pure_ _ _).fault=true then _ else purelyG p fn n ((r.pure_ _ _).vs s'))=_
  rw [purelyG_vs e1 e2 e3 fn n _ (pure_s r _ _)]
theorem purely_vs {s s':VS} (e1:s'.vars=s.vars) (e2:s'.now=s.now) (e3:s'.signals=s.signals) (fn arg:Int) (n:Nat):s'.purely p fn arg n=s.purely p fn arg n :=
 purelyG_vs (s:=s) e1 e2 e3 fn n ⟨s,⟨fn,0,0,[],arg,0,0,0,0⟩,false⟩ rfl
variable {s s':VS}
theorem admit2_sim (h:Syn K s s') (fn:Int) (e:Ev) (g:Good K (s.admit2 fn e).made):VSim K (s.admit2 fn e) (s'.admit2 fn e):=by
 obtain ⟨q1,q2,q3,q4,q5,q6,-⟩:=h.same
 unfold VS.admit2 at g ⊢
 rw [q4]
 split
 ·rename_i c; rw [if_pos c] at g; exact fails_sim h g
 ·rename_i c
  rw [if_neg c] at g
  by_cases hok:(s.emit (evM 12 e.id 0 0)).1.2=true
  ·rw [if_pos hok] at g ⊢
   rcases emit_same h (e:=evM 12 e.id 0 0) g with ⟨x,b⟩|⟨x,b⟩
   ·rw [if_pos (by rw [x]; exact hok)]
    exact .inl (b.map (fun z=>z.thread (Thr.new fn 0 e.b (-1) e.id)) (fun d l=>⟨d,rfl⟩) rfl rfl)
   ·rw [if_neg (by rw [x]; decide)]
    exact .inr b
  ·rw [if_neg hok] at g ⊢
   rcases emit_same h (e:=evM 12 e.id 0 0) g with ⟨x,b⟩|⟨x,b⟩
   ·rw [if_neg (by rw [x]; exact hok)]; exact .inl b
   ·rw [if_neg (by rw [x]; decide)]; exact .inr b
theorem admits_sim (h:Syn K s s') (e:Ev) (g:Good K (s.admits p e).made):VSim K (s.admits p e) (s'.admits p e):=by
 obtain ⟨q1,q2,q3,q4,q5,q6,q7,q8,q9,q10,q11,q12⟩:=h.same
 unfold VS.admits at g ⊢
 by_cases c1:decide (p.find 3 e.a<0)=true
 ·rw [if_pos c1] at g ⊢; rw [if_pos c1]; exact emitV_sim h _ g
 rw [if_neg c1] at g ⊢; rw [if_neg c1]
 by_cases c2:decide (p.find 4 e.a≥0)=true
 ·rw [if_pos c2] at g ⊢; rw [if_pos c2]
  simp only at g ⊢
  rw [q12,purely_vs (s:=s) q1 q3 q7]
  have h1:Syn K { s with fuel:=((s.purely p (p.find 4 e.a) e.b s.fuel.toNat).2.2:Int) } { s' with fuel:=((s.purely p (p.find 4 e.a) e.b s.fuel.toNat).2.2:Int) }:=h.map (fun z=>{ z with fuel:=((s.purely p (p.find 4 e.a) e.b s.fuel.toNat).2.2:Int) }) (fun d l=>⟨d,rfl⟩) rfl rfl
  generalize s.purely p (p.find 4 e.a) e.b s.fuel.toNat=q at *
  by_cases c3:(q.2.1==3)=true
  ·rw [if_pos c3] at g ⊢; rw [if_pos c3]; exact fails_sim h1 g
  rw [if_neg c3] at g ⊢; rw [if_neg c3]
  by_cases c4:(q.2.1 != 0||(if (q.2.1==2)=true then (-2:Int) else q.1) != 0)=true
  ·rw [if_pos c4] at g ⊢; rw [if_pos c4]; exact emitV_sim h1 _ g
  rw [if_neg c4] at g ⊢; rw [if_neg c4]
  exact admit2_sim h1 _ _ g
 ·rw [if_neg c2] at g ⊢; rw [if_neg c2]
  exact admit2_sim h _ _ g
theorem admitAll_over:∀(l:List Ev) (s:VS),s.over=true→admitAll p l s=s
 | [],_,_=>rfl
 | e::l,s,ho=>by
  rw [admitAll,if_neg (by rw [ho]; decide)]
  exact admitAll_over l s ho
theorem admitAll_sim (ok:Okp p):∀(l:List Ev) (s s':VS),Inv p s→Room s→(∀u∈l,0≤u.id)→Syn K s s'→Good K (admitAll p l s).made→VSim K (admitAll p l s) (admitAll p l s')
 | [],s,s',_,_,_,h,_=>.inl h
 | u::l,s,s',iv,rm,hid,h,g=>by
  have ho':=h.same.2.2.2.2.2.2.2.1
  cases ho:s.over with
  | true=>rw [admitAll_over _ s ho,admitAll_over _ s' (by rw [ho',ho])]; exact .inl h
  | false =>
   have ho1:s'.over=false:=by rw [ho',ho]
   rw [admitAll,if_pos (by rw [ho]; rfl)] at g
   rw [admitAll,admitAll,if_pos (by rw [ho]; rfl),if_pos (by rw [ho1]; rfl)]
   have st:=admits_steps ok iv rm ho (hid u (List.mem_cons_self ..))
   have iv1:=st.inv iv rm
   have x1:=(st.pre h.x).1
   have pr:=(admitAll_steps ok l _ iv1.1 iv1.2 (fun v hv=>hid v (List.mem_cons_of_mem _ hv))).pre x1
   rcases admits_sim h u (g.pre pr.2) with b|b
   ·exact admitAll_sim ok l _ _ iv1.1 iv1.2 (fun v hv=>hid v (List.mem_cons_of_mem _ hv)) b g
   ·rw [admitAll_over l _ b.over]
    exact .inr (b.pre pr.2)
def InOff (K:List Ev) (x y:Int×VS):Prop:=(y.1=x.1∧Syn K x.2 y.2)∨Off K x.2.made y.2
theorem run_sim (h:Syn K s s') (ho:s.over=false) {i:Nat} {t:Thr} (ht:s.threads[i]?=some t) (g:Good K (s.run p i).2.s.made):RO K (s.run p i) (s'.run p i):=by
 obtain ⟨q1,q2,q3,q4,q5,q6,q7,-⟩:=h.same
 have ht':s'.threads[i]?=some t:=by rw [q4]; exact ht
 rw [run_eq_ ht] at g ⊢
 rw [run_eq_ ht']
 split
 ·show RO K _ (0,((⟨s,t.wake,false⟩:Rn).vs s').pure_ _ _)
  rw [pure_vs (r:=⟨s,t.wake,false⟩) q1 q3 q7]
  exact .inl ⟨rfl,rfl,by show Syn K ((⟨s,t.wake,false⟩:Rn).pure_ _ _).s s'; rw [pure_s]; exact h⟩
 ·rename_i c
  rw [if_neg c] at g
  exact does_sim (r:=⟨s,t.wake,false⟩) h rfl ho _ _ g
theorem instr_sim (ok : Okp p) (h : Syn K s s') {i : Nat} {t : Thr} (ht : s.threads[i]?=some t) (iv : Inv p s) (rm : Room s) (ho : s.over=false) (sk : (s.futures.length : Int)+s.fuel+1≤1000*s.count) (g : Good K (s.instruction p i).2.made) :
  InOff K (s.instruction p i) (s'.instruction p i):=by
 have af:=run_after ok ht iv rm ho sk
 have px:=af.steps.pre h.x
 have pr:(s.run p i).2.s.made <+: (s.instruction p i).2.made:=by
  unfold VS.instruction
  split
  ·rename_i hf
   exact ((FStep.fails (p:=p) (b:=true) _ (-2) (af.fault hf)).pre px.1).2
  ·exact List.prefix_rfl
 have rs:=run_sim h ho ht (g.pre pr)
 unfold VS.instruction at g pr ⊢
 rcases rs with ⟨e1,b⟩|⟨hf,b⟩
 ·rw [b.fault,b.t,e1]
  split
  ·rename_i hf
   rw [if_pos hf] at g
   exact (fails_sim b.s g).imp (fun q=>⟨rfl,q⟩) id
  ·exact .inl ⟨rfl,b.s.map (fun z=>{ z with threads:=z.threads.set i (s.run p i).2.t }) (fun d l=>⟨d,rfl⟩) rfl rfl⟩
 ·refine .inr ?_
  rw [if_neg (c:=(s'.run p i).2.fault=true) (by rw [hf]; decide)]
  exact (b.pre pr).congr rfl rfl rfl
theorem stepsG_over (i n:Nat) {s:VS} (ho:s.over=true):VS.stepsG p i n s=(1,s):=by rw [stepsG_eq,if_pos ho]
theorem stepsG_sim (ok:Okp p) (i:Nat):∀(n:Nat) (s s':VS),s.fuel=n→Inv p s→Room s→i<s.threads.length→Syn K s s'→Good K (VS.stepsG p i n s).2.made→InOff K (VS.stepsG p i n s) (VS.stepsG p i n s')
 | 0,s,s',hf,iv,rm,hi,h,g=>by
  have ho':=h.same.2.2.2.2.2.2.2.1
  rw [stepsG_eq] at g ⊢
  rw [stepsG_eq,ho']
  split
  ·exact .inl ⟨rfl,h⟩
  ·rename_i ho
   rw [if_neg ho] at g
   exact (fails_sim h g).imp (fun q=>⟨rfl,q⟩) id
 | n+1,s,s',hf,iv,rm,hi,h,g=>by
  have ho':=h.same.2.2.2.2.2.2.2.1
  by_cases ho:s.over=true
  ·rw [stepsG_over i _ ho,stepsG_over i _ (by rw [ho',ho])]; exact .inl ⟨rfl,h⟩
  have ho1:s.over=false:=by simpa using ho
  rw [stepsG_eq,if_neg ho] at g ⊢
  rw [stepsG_eq,if_neg (by rw [ho']; exact ho)]
  simp only at g ⊢
  obtain ⟨st,iv1,rm1,sk⟩:=fuel_step iv rm hf
  obtain ⟨t,ht⟩:=get_some hi
  have ht1:(s.fuelAt n).threads[i]?=some t:=ht
  have is:=instr_steps ok ht1 iv1 rm1 ho1 sk
  have tl:=instr_threads ok ht1 iv1 rm1 ho1 sk
  have tl:s.threads.length≤((s.fuelAt n).instruction p i).2.threads.length:=tl
  have fl:=instr_fuel ok ht1 iv1 rm1 ho1 sk
  have fl:((s.fuelAt n).instruction p i).2.fuel=n:=fl
  have h1:Syn K (s.fuelAt n) (s'.fuelAt n):=h.map (fun z=>z.fuelAt n) (fun d l=>⟨d,rfl⟩) rfl rfl
  have iv2:=((st.one (Cv.nice rfl rfl rfl rfl rfl)).trans is).inv iv rm
  have px:=is.pre h1.x
  change Good K (if (((s.fuelAt n).instruction p i).1 != 0)=true then (s.fuelAt n).instruction p i else VS.stepsG p i n ((s.fuelAt n).instruction p i).2).2.made at g
  show InOff K (if (((s.fuelAt n).instruction p i).1 != 0)=true then (s.fuelAt n).instruction p i else VS.stepsG p i n ((s.fuelAt n).instruction p i).2) (if (((s'.fuelAt n).instruction p i).1 != 0)=true then (s'.fuelAt n).instruction p i else VS.stepsG p i n ((s'.fuelAt n).instruction p i).2)
  have pr:((s.fuelAt n).instruction p i).2.made <+: (if (((s.fuelAt n).instruction p i).1 != 0)=true then (s.fuelAt n).instruction p i else VS.stepsG p i n ((s.fuelAt n).instruction p i).2).2.made:=by
   split
   ·exact List.prefix_rfl
   ·exact ((stepsG_steps ok i n _ fl iv2.1 iv2.2 (by omega)).1.pre px.1).2
  rcases instr_sim ok h1 ht1 iv1 rm1 ho1 sk (g.pre pr) with ⟨e1,b⟩|b
  ·rw [e1]
   split
   ·exact .inl ⟨e1,b⟩
   ·rename_i c
    rw [if_neg c] at g
    exact stepsG_sim ok i n _ _ fl iv2.1 iv2.2 (by omega) b g
  ·refine .inr ?_
   have b2:=b.pre pr
   by_cases c:(((s'.fuelAt n).instruction p i).1 != 0)=true
   ·rw [if_pos c]; exact b2
   ·rw [if_neg c,stepsG_over i n b.over]; exact b2
theorem steps_sim (ok:Okp p) {i:Nat} (iv:Inv p s) (rm:Room s) (hi:i<s.threads.length) (h:Syn K s s') (g:Good K (s.steps p i).2.made):InOff K (s.steps p i) (s'.steps p i):=by
 have e:s'.steps p i=VS.stepsG p i s.fuel.toNat s':=by unfold VS.steps; rw [h.same.2.2.2.2.2.2.2.2.2.2.2]
 rw [e]
 exact stepsG_sim ok i _ s s' (by have:=iv.fuel; omega) iv rm hi h g
theorem pass_over:∀(g:Nat) (s:VS) (i:Nat) (went:Bool),s.over=true→passG p g s i went=s
 | 0,_,_,_,_=>rfl
 | g+1,s,i,went,ho=>by
  cases ht:s.threads[i]? with
  | none =>
   rw [pass_none ht]
   split
   ·rfl
   ·exact pass_over g s 0 false ho
  | some t=>rw [pass_some ht,if_pos ho]
theorem pass_sim (ok:Okp p):∀(n:Nat) (s s':VS) (i:Nat) (went:Bool),Inv p s→Room s→Syn K s s'→Good K (passG p n s i went).made→VSim K (passG p n s i went) (passG p n s' i went)
 | 0,s,s',i,went,_,_,h,_=>.inl h
 | n+1,s,s',i,went,iv,rm,h,g=>by
  obtain ⟨q1,q2,q3,q4,q5,q6,q7,q8,-⟩:=h.same
  cases ht:s.threads[i]? with
  | none =>
   have ht':s'.threads[i]?=none:=by rw [q4]; exact ht
   rw [pass_none ht] at g ⊢
   rw [pass_none ht']
   split
   ·exact .inl h
   ·rename_i c
    rw [if_neg c] at g
    exact pass_sim ok n s s' 0 false iv rm h g
  | some t =>
   have ht':s'.threads[i]?=some t:=by rw [q4]; exact ht
   have hil:=get_lt ht
   rw [pass_some ht] at g ⊢
   rw [pass_some ht',q8]
   have hrd:s'.ready t=s.ready t:=by unfold VS.ready; rw [q5,q7]
   rw [hrd]
   split
   ·exact .inl h
   ·rename_i ho
    rw [if_neg ho] at g
    split
    ·rename_i c
     rw [if_pos c] at g
     exact pass_sim ok n s s' (i+1) went iv rm h g
    ·rename_i c
     rw [if_neg c] at g
     have ss:=steps_steps ok iv rm hil
     have iv1:=ss.1.inv iv rm
     have px:=ss.1.pre h.x
     have he:=(FStep.erase (p:=p) (b:=true) (s.steps p i).2 i rfl).inv iv1.1 iv1.2
     have pr:(s.steps p i).2.made <+: (if ((s.steps p i).1==2&&!(s.steps p i).2.over)=true then passG p n { (s.steps p i).2 with threads:=(s.steps p i).2.threads.eraseIdx i } i true else passG p n (s.steps p i).2 (i+1) true).made:=by
      split
      ·exact ((pass_steps ok n { (s.steps p i).2 with threads:=(s.steps p i).2.threads.eraseIdx i } i true he.1 he.2).pre px.1).2
      ·exact ((pass_steps ok n (s.steps p i).2 (i+1) true iv1.1 iv1.2).pre px.1).2
     rcases steps_sim ok iv rm hil h (g.pre pr) with ⟨e1,b⟩|b
     ·rw [e1,b.same.2.2.2.2.2.2.2.1]
      split
      ·rename_i c2
       rw [if_pos c2] at g
       exact pass_sim ok n _ _ i true he.1 he.2 (b.map (fun z=>{ z with threads:=z.threads.eraseIdx i }) (fun d l=>⟨d,rfl⟩) rfl rfl) g
      ·rename_i c2
       rw [if_neg c2] at g
       exact pass_sim ok n _ _ (i+1) true iv1.1 iv1.2 b g
     ·refine .inr ?_
      rw [if_neg (c:=((s'.steps p i).1==2&&!(s'.steps p i).2.over)=true) (by rw [b.over]; simp),pass_over n _ _ _ b.over]
      exact b.pre pr
theorem task_sim (ok : Okp p) {s : VS} (iv : Inv p s) (tk : Tasks s) (hx : s.expect=none) (now d : Int) {m0 : List Ev} {l : List Ev} (hk : K=⟨s.count+1, now, 2, s.count, 0, 0, 0, 0, 0⟩::l) (g : Good K (s.task p now).made) :
  VSim K (s.task p now) (({ s with expect:=some l,draws:=d,made:=m0 }:VS).task p now):=by
 have h0:=begin_inv iv tk now
 have hb:Syn K (s.begin_ now) (({ s with expect:=some l,draws:=d,made:=m0 }:VS).begin_ now):=⟨hx,d,l,rfl,by rw [hk]; rfl⟩
 have ho':(s.begin_ now).over=false:=tk.ho
 have s1:=opened_steps (p:=p) tk.ho now
 have h1:=s1.inv h0.1 h0.2
 have x1:=s1.pre (show (s.begin_ now).expect=none from hx)
 have s2:=admitAll_steps ok s.updates _ h1.1 h1.2 iv.updI
 have h2:=s2.inv h1.1 h1.2
 have x2:=s2.pre x1.1
 have s3:=pass_steps ok passGas _ 0 false h2.1 h2.2
 have x3:=s3.pre x2.1
 rw [task_eq] at g ⊢
 rw [task_eq]
 have e1:VSim K (s.opened now) (({ s with expect:=some l,draws:=d,made:=m0 }:VS).opened now):=by
  unfold VS.opened
  show VSim K _ (if s.cancel=true then _ else _)
  have g1:=(g.pre x3.2).pre x2.2
  unfold VS.opened at g1
  split
  ·rename_i c
   rw [if_pos c] at g1
   exact cancels_sim hb ho' 0 g1
  ·exact .inl hb
 rcases e1 with b|b
 ·rcases admitAll_sim ok s.updates _ _ h1.1 h1.2 iv.updI b (g.pre x3.2) with b2|b2
  ·exact pass_sim ok passGas _ _ 0 false h2.1 h2.2 b2 g
  ·refine .inr ?_
   show Off K _ (passG p passGas (admitAll p s.updates _) 0 false)
   rw [pass_over _ _ _ _ b2.over]
   exact b2.pre x3.2
 ·refine .inr ?_
  show Off K _ (passG p passGas (admitAll p s.updates _) 0 false)
  rw [admitAll_over _ _ b.over,pass_over _ _ _ _ b.over]
  exact (b.pre x2.2).pre x3.2
end Go.Proofs.YtkofafcgcnciaaaGreatDoor
set_option maxRecDepth 100000
namespace Go.Proofs.YtkofafcgcnciaaaGreatDoor
open Go.Ax Go.RowKit Go.Shelf
attribute [local go_sem] Oper.semAt_some
def cmds (l:List Ev):List Ev:=l.takeWhile fun x=>cmdM x.kind
theorem cmds_pre (l:List Ev):cmds l <+: l:=List.takeWhile_prefix _
theorem cmds_le (l:List Ev):(cmds l).length≤l.length:=(cmds_pre l).length_le
theorem cmds_at:∀(l:List Ev) (k:Nat) (x:Ev),k≤(cmds l).length→l[k]?=some x→(cmdM x.kind=true↔k<(cmds l).length)
 | [],k,x,_,hx=>by cases hx
 | y::l,k,x,hk,hx=>by
  unfold cmds at hk ⊢
  rw [List.takeWhile_cons] at hk ⊢
  by_cases hy:cmdM y.kind=true
  ·rw [if_pos hy] at hk ⊢
   cases k with
   | zero=>cases hx; simp [hy]
   | succ k =>
    have:=cmds_at l k x (by unfold cmds; simpa using hk) (by simpa using hx)
    rw [this]; unfold cmds; simp
  ·rw [if_neg hy] at hk ⊢
   have:k=0:=by simpa using hk
   subst this
   cases hx
   simp [hy]
def finTo (n k:Nat):List (Fin n):=(List.finRange n).take k
theorem finTo_succ {n k:Nat} (hk:k<n):finTo n (k+1)=finTo n k++[⟨k,hk⟩]:=by
 unfold finTo
 rw [List.take_add_one]
 simp [hk]
theorem finTo_len {n k:Nat} (hk:k≤n):(finTo n k).length=k:=by simp [finTo,hk]
theorem rest1_in (n : Nat) (hn : 1≤n) (lb : Nat) {HI : Heap} {B1 B2 : Nat} {A : Option Addr} {cap fr : Nat} {T1 T2 : TypeId} {l : List Ev}
  (h1:HI B1=some (.cells #[.slice A l.length cap] T1 (0,0))) (h2:HI B2=some (.cells #[.int .i64 (fr:Int)] T2 (0,0))) (hfr:fr≤l.length) (hcap:l.length≤cap) (hE:HasEvs HI A l.length l) (hb:l.length≤100000000000000000)
  (J Jx:List (Fin (l.drop fr).length)→World→Prop) (W:World) (hW:Holds HI W) (hJ:AbidesFrom W.heap.size J)
  (hY:∀pre (x:Fin (l.drop fr).length) W1,J pre W1→pre.length<(cmds (l.drop fr)).length→YieldAt Fence.wide (n-1) Tryz.prog lb #[(((l.drop fr)[x.1]?).getD Ev.zero).val] W1 fun e W' =>
   (e=.returned (.bool true)∧J (pre++[x]) W'∧(Holds HI W1→Holds HI W'))∨(e=.returned (.bool false)∧Jx (pre++[x]) W'))
  (h0:J [] W) :
  CallsIn Fence.wide n Tryz.prog 114 #[.func (.yield lb) #[] #[],.pointer (some ⟨B1,0,none⟩),.pointer (some ⟨B2,0,none⟩)] W fun e W'=>(∃v,e=.returned v) ∧
   ((∃xs,xs=finTo (l.drop fr).length (cmds (l.drop fr)).length∧J xs W')∨(∃pre,(∃j,j≤(cmds (l.drop fr)).length∧pre=finTo (l.drop fr).length j)∧Jx pre W')):=by
 refine callsIn_of_wp Tryz.func114 rfl trivial ?_ rfl
 simp only [Tryz.ntmps114,List.size_toArray,List.length_cons,List.length_nil,Nat.reduceAdd,Nat.reduceSub,Array.replicate_succ,Array.replicate_zero,List.push_toArray,List.append_toArray,List.nil_append,List.cons_append]
 have c1:W.cell? ⟨B1,0,none⟩=some (.slice A l.length cap):=(at_fld (k:=0) h1 rfl).cell hW 0 _ rfl
 have c2:W.cell? ⟨B2,0,none⟩=some (.int .i64 (fr:Int)):=(at_fld (k:=0) h2 rfl).cell hW 0 _ rfl
 gi_wp2
 ·rename_i hcf
  have hl0:(l.drop fr).length=0:=by rw [List.length_drop]; omega
  have hc0:(cmds (l.drop fr)).length=0:=by have:=cmds_le (l.drop fr); omega
  gi_loopw [10] (fun i wr=>i=.int .i64 0∧J [] wr∧Holds HI wr)
   (fun i _=>0)
  case atStart=>exact ⟨rfl,h0,hW⟩
  case round =>
   obtain ⟨rfl,hJs,hH⟩:=hrel
   have:l.length-fr=0:=by omega
   gi_wp2
   go_end0
   exact ⟨⟨_,rfl⟩,.inl ⟨_,rfl,by rw [hc0]; exact hJs⟩⟩
 ·rename_i hcf
  generalize hA2:Option.map (fun x=>x.add (fr*9)) A=A2
  gi_loopw [10] (fun i wr=>∃k:Nat,k≤(cmds (l.drop fr)).length∧i=.int .i64 k∧J (finTo (l.drop fr).length k) wr∧Holds HI wr)
   (fun i _=>l.length-(intOf i).toNat)
  case atStart=>exact ⟨0,Nat.zero_le _,rfl,h0,hW⟩
  case round =>
   obtain ⟨k,hk,rfl,hJs,hH⟩:=hrel
   have hdl:(l.drop fr).length=l.length-fr:=List.length_drop
   have hcl:=cmds_le (l.drop fr)
   by_cases hlt:k<l.length-fr
   ·obtain ⟨x,hx⟩:=get_some (l:=l.drop fr) (i:=k) (by omega)
    have hx0:l[fr+k]?=some x:=by rw [List.getElem?_drop] at hx; exact hx
    have hiff:=cmds_at (l.drop fr) k x hk hx
    obtain ⟨⟨ab,ao,asp⟩,ha,hat⟩:=hE.at_ (fr+k) x hx0
    obtain rfl:asp=none:=by
     obtain ⟨x0,hx0⟩:=get_some (l:=l) (i:=0) (by omega)
     obtain ⟨a0,ha0,hat0⟩:=hE.at_ 0 x0 hx0
     rw [ha] at ha0; cases ha0
     obtain ⟨_,_,_,_,q,_⟩:=hat0.out
     simpa [Addr.add] using q
    subst ha
    have hA3:A2=some ⟨ab,ao+fr*9,none⟩:=by rw [←hA2]; show some ((⟨ab,ao,none⟩:Addr).add (fr*9))=_; rw [addr_add]
    subst hA3
    clear hA2
    have hcell:∀j v,x.cells[j]?=some v→wr.cell? ⟨ab,ao+fr*9+k*9+j,none⟩=some v:=fun j v hv=>by
     have:=hat.cell hH j v hv
     rw [addr_add,addr_add] at this
     have e:ao+fr*9+k*9+j=ao+(fr+k)*9+j:=by omega
     rw [e]; exact this
    have hc0:wr.cell? ⟨ab,ao+fr*9+k*9,none⟩=some (.int .i64 x.id):=hcell 0 _ rfl
    have hc1:=hcell 1 _ rfl
    have hc2:=hcell 2 _ rfl
    have hc3:=hcell 3 _ rfl
    have hc4:=hcell 4 _ rfl
    have hc5:=hcell 5 _ rfl
    have hc6:=hcell 6 _ rfl
    have hc7:=hcell 7 _ rfl
    have hc8:=hcell 8 _ rfl
    clear hat hcell
    gi_wp2
    refine ⟨trivial,callsIn_wide.2 (((t89 x.kind HI).run _ (holds_alloc hH _)).mono ?_)⟩
    rintro e w1 ⟨v,H',rfl,hkp,rfl,hs⟩
    obtain ⟨g1,g2,g3⟩:=grown_keeps hH hkp hs
    clear hkp
    have hJ1:=hJ _ _ _ none hJs g1 (by simp)
    cases hin:cmdM x.kind with
    | false =>
     have hkk:k=(cmds (l.drop fr)).length:=by
      have:¬k<(cmds (l.drop fr)).length:=fun h=>by rw [hiff.2 h] at hin; cases hin
      omega
     gi_wp2
     refine ⟨fun f hf=>(by cases hf),?_⟩
     gi_wp2
     refine bodyPost_ret (results_none rfl _ _ _) rfl ?_
     exact ⟨⟨_,rfl⟩,.inl ⟨_,rfl,by rw [←hkk]; exact hJ1⟩⟩
    | true =>
     have hkl:=hiff.1 hin
     have hlx:((l.drop fr)[(⟨k,by omega⟩:Fin (l.drop fr).length).1]?).getD Ev.zero=x:=by show ((l.drop fr)[k]?).getD Ev.zero=x; rw [hx]; rfl
     obtain ⟨fn,tmps,assign,body,hy,hR⟩:=hY _ ⟨k,by omega⟩ w1 hJ1 (by rw [finTo_len (by omega)]; exact hkl)
     rw [hlx] at hy
     have hy:(Instr.yield lb #[.agg #[.int .i64 x.id,.int .i64 x.time,.int .i64 x.kind,.int .i64 x.a,.int .i64 x.b,.int .i64 x.c,.int .i64 x.d,.int .i64 x.e,.int .i64 x.f]]).run Tryz.prog w1=.ok (.round lb fn tmps assign body) w1:=hy
     have d0:=boxc g3 0 _ rfl
     have d1:=boxc g3 1 _ rfl
     have d2:=boxc g3 2 _ rfl
     have d3:=boxc g3 3 _ rfl
     have d4:=boxc g3 4 _ rfl
     have d5:=boxc g3 5 _ rfl
     have d6:=boxc g3 6 _ rfl
     have d7:=boxc g3 7 _ rfl
     have d8:=boxc g3 8 _ rfl
     clear hc0 hc1 hc2 hc3 hc4 hc5 hc6 hc7 hc8
     gi_wp2
     refine hR.mono ?_
     rintro e W3 (⟨rfl,hJ3,hk3⟩|⟨rfl,hJx3⟩)
     ·gi_wp2
      go_roundw
      case rel=>exact ⟨k+1,by omega,by simp,by rw [finTo_succ (by omega)]; exact hJ3,hk3 g2⟩
      case measure=>simp [intOf]; omega
     ·gi_wp2
      refine bodyPost_ret (results_none rfl _ _ _) rfl ?_
      exact ⟨⟨_,rfl⟩,.inr ⟨_,⟨k+1,by omega,by rw [finTo_succ (by omega)]⟩,hJx3⟩⟩
   ·have hkk:k=(cmds (l.drop fr)).length:=by omega
    subst hkk
    gi_wp2
    go_end0
    exact ⟨⟨_,rfl⟩,.inl ⟨_,rfl,hJs⟩⟩
def VS.exp (s:VS) (l:List Ev):VS:={ s with expect:=some l }
def VS.noExp (s:VS):VS:={ s with expect:=none }
def VS.dm (s:VS) (d:Int) (m:List Ev):VS:={ s with draws:=d,made:=m }
def VS.retask (s:VS) (p:Prg) (h:List Ev) (k:Nat) (now:Int):VS:=(s.exp (cmds (h.drop (k+1)))).task p now
def VS.more (s:VS):Bool:=match s.expect with|some (x::_)=>!outsideM x|_=>false
def rep1 (p:Prg) (h:List Ev) (k:Nat) (s:VS):Sum Nat (Nat×VS):=match h[k]? with
 | none=>.inr (k,s)
 | some e =>
  if e.kind≠2 then (if (s.apply e).1≠0 then .inl k else .inr (k+1,(s.apply e).2)) else
  if ((s.retask p h k e.time).drift||(s.retask p h k e.time).more)=true then .inl (k+(s.retask p h k e.time).made.length) else .inr (k+(s.retask p h k e.time).made.length,(s.retask p h k e.time).noExp)
def repN (p:Prg) (h:List Ev):Nat→Sum Nat (Nat×VS)
 | 0=>.inr (0,VS.init)
 | n+1=>match repN p h n with
  | .inl a=>.inl a
  | .inr (k,s)=>if k<h.length then rep1 p h k s else .inr (k,s)
theorem repN_inl {p:Prg} {h:List Ev} {n a:Nat} (e:repN p h n=.inl a):∀j,repN p h (n+j)=.inl a
 | 0=>e
 | j+1=>by show (match repN p h (n+j) with|.inl a=>_|.inr (k,s)=>_)=_; rw [repN_inl e j]
theorem repN_inr {p:Prg} {h:List Ev} {n k:Nat} {s:VS} (e:repN p h n=.inr (k,s)) (hk:h.length≤k):∀j,repN p h (n+j)=.inr (k,s)
 | 0=>e
 | j+1=>by
  show (match repN p h (n+j) with|.inl a=>_|.inr (k,s)=>_)=_
  rw [repN_inr e hk j]
  show (if k<h.length then _ else _)=_
  rw [if_neg (by omega)]
structure RepIn (p:Prg) (h:List Ev) (k:Nat) (s:VS):Prop where
 inv:Inv p s
 x:s.expect=none
 tk:∀e,h[k]?=some e→e.kind=2→Tasks (s.exp (cmds (h.drop (k+1))))∧Inv p (s.exp (cmds (h.drop (k+1))))
structure Goes (p:Prg) (h:List Ev) (n k:Nat) (s:VS):Prop where
 at_:repN p h n=.inr (k,s)
 ok:∀j,j<n→∀a t,repN p h j=.inr (a,t)→RepIn p h a t
theorem Goes.next {p:Prg} {h:List Ev} {n k:Nat} {s:VS} (g:Goes p h n k s) (ri:RepIn p h k s) (hk:k<h.length) {k':Nat} {s':VS} (e:rep1 p h k s=.inr (k',s')):Goes p h (n+1) k' s':=by
 refine ⟨?_,fun j hj a t hr=>?_⟩
 ·show (match repN p h n with|.inl a=>_|.inr (k,s)=>_)=_
  rw [g.at_]
  show (if k<h.length then _ else _)=_
  rw [if_pos hk]; exact e
 ·rcases Nat.lt_or_ge j n with q|q
  ·exact g.ok j q a t hr
  ·have:j=n:=by omega
   subst this
   rw [g.at_] at hr
   cases hr; exact ri
theorem dm_setDone (s:VS) (d:Int) (m:List Ev) (i v k:Int):(s.dm d m).setDone i v k=(s.setDone i v k).dm d m:=by
 unfold VS.setDone
 show (match s.futures[i.toNat]? with|some f=>_|none=>_)=_
 cases s.futures[i.toNat]? with
 | none=>rfl
 | some f=>simp only; split<;>rfl
theorem ite_dm {P:Prop} [Decidable P] (x y:VS) (d:Int) (m:List Ev):(if P then x else y).dm d m=if P then x.dm d m else y.dm d m:=by split<;>rfl
theorem dm_applied (s:VS) (d:Int) (m:List Ev) (e:Ev):(s.dm d m).applied e=(s.applied e).dm d m:=by
 unfold VS.applied
 have hf:(s.dm d m).future e.a=s.future e.a:=rfl
 simp only [ite_dm,dm_setDone,hf]
 rfl
theorem dm_apply (s:VS) (d:Int) (m:List Ev) (e:Ev):(s.dm d m).apply e=((s.apply e).1,(s.apply e).2.dm d m):=by
 unfold VS.apply
 show (if s.over=true then _ else if s.refuses e=true then _ else (0,(s.counted.dm d m).applied e))=_
 rw [dm_applied]
 split
 ·rfl
 ·split
  ·rfl
  ·rfl
theorem applied_rest (s:VS) (e:Ev):(s.applied e).made=s.made∧(s.applied e).drift=s.drift:=by
 have c:∀{P:Prop} [Decidable P] {x y:VS},(x.made=s.made∧x.drift=s.drift)→(y.made=s.made∧y.drift=s.drift)→((if P then x else y).made=s.made∧(if P then x else y).drift=s.drift):=fun h1 h2=>by split; exact h1; exact h2
 have d:∀i v k,(s.setDone i v k).made=s.made∧(s.setDone i v k).drift=s.drift:=fun i v k=>by rcases setDone_cases s i v k with q|⟨f,_,_,_,q⟩<;>rw [q]<;>exact ⟨rfl,rfl⟩
 unfold VS.applied
 exact c ⟨rfl,rfl⟩ (c ⟨rfl,rfl⟩ (c ⟨rfl,rfl⟩ (c ⟨rfl,rfl⟩ (c (d _ _ _) (c (d _ _ _) (c (d _ _ _) (c (d _ _ _) (c (d _ _ _) (c ⟨rfl,rfl⟩ ⟨rfl,rfl⟩)))))))))
theorem FStep.calm {p:Prg} {b:Bool} {s s':VS} (q:FStep p b s s') (hx:s.expect=none):s'.drift=s.drift:=by
 have live:∀e:Ev,(s.emit0 e).2.drift=s.drift:=fun e=>by
  have k:=emits s e
  generalize s.emit0 e=q at k ⊢
  cases k with
  | live=>rfl
  | none h=>rw [hx] at h; cases h
  | other w l h=>rw [hx] at h; cases h
  | same w l h=>rw [hx] at h; cases h
 cases q with
 | emit e ho hc=>unfold VS.emit; split<;>exact live _
 | fails c ho=>exact live _
 | done i v k=>rcases setDone_cases s i v k with e|⟨f,-,-,-,e⟩<;>rw [e]
 | mark i=>rcases mark_cases s i with e|⟨c,-,e⟩<;>rw [e]
 | _=>rfl
theorem FSteps.calm {p:Prg} {b:Bool} {s s':VS} (q:FSteps p b s s') (hx:s.expect=none):s'.drift=s.drift:=by
 induction q with
 | refl=>rfl
 | tail k q _ ih=>exact (q.calm (k.pre hx).1).trans ih
 | two k q1 q2 _ ih=>exact ((q2.calm (q1.pre (k.pre hx).1).1).trans (q1.calm (k.pre hx).1)).trans ih
theorem FStep.some_ {p:Prg} {b:Bool} {s s':VS} (q:FStep p b s s') (hx:s.expect.isSome=true):s'.expect.isSome=true:=by
 have live:∀e:Ev,(s.emit0 e).2.expect.isSome=true:=fun e=>by
  have k:=emits s e
  generalize s.emit0 e=q at k ⊢
  cases k with
  | live h=>rw [h] at hx; cases hx
  | none h=>exact hx
  | other w l h=>rfl
  | same w l h=>rfl
 cases q with
 | emit e ho hc=>unfold VS.emit; split<;>exact live _
 | fails c ho=>exact live _
 | done i v k=>rcases setDone_cases s i v k with e|⟨f,-,-,-,e⟩<;>rw [e]<;>exact hx
 | mark i=>rcases mark_cases s i with e|⟨c,-,e⟩<;>rw [e]<;>exact hx
 | _=>exact hx
theorem FSteps.some_ {p:Prg} {b:Bool} {s s':VS} (q:FSteps p b s s') (hx:s.expect.isSome=true):s'.expect.isSome=true:=by
 induction q with
 | refl=>exact hx
 | tail k q _ ih=>exact q.some_ ih
 | two k q1 q2 _ ih=>exact q2.some_ (q1.some_ ih)
theorem cmds_app:∀(A B:List Ev),(∀x∈A,cmdM x.kind=true)→cmds (A++B)=A++cmds B
 | [],B,_=>rfl
 | x::A,B,h=>by
  have:=cmds_app A B fun y hy=>h y (List.mem_cons_of_mem _ hy)
  unfold cmds at this ⊢
  rw [List.cons_append,List.takeWhile_cons,if_pos (h x (List.mem_cons_self ..)),this]; rfl
def Cut (h:List Ev) (n:Nat):Prop:=∀x,h[n]?=some x→cmdM x.kind=true→outsideM x=true
theorem out_kind {e:Ev} (h:outsideM e=true):e.kind=1∨e.kind=16∨19≤e.kind:=by
 unfold outsideM at h
 split at h
 ·rename_i q; right; left; simpa using q
 ·simp at h; omega
section
variable {p:Prg}
structure Lived (p:Prg) (L:LS):Prop where
 li:LInv p L
 bi:BI L.h L.now L.s
 calm:L.s.drift=false
 goes:∀h:List Ev,h.length≤256→L.h <+: h→Cut h L.h.length→∃n d,Goes p h n L.h.length (L.s.dm d (L.s.made.map fix7))
theorem dm_inv {s:VS} (iv:Inv p s) (d:Int):Inv p (s.dm d (s.made.map fix7)) :=
 ⟨iv.scp,iv.scn,iv.sc32,iv.t16,fun t ht=>(iv.thr t ht).mono (Nat.le_refl _) (Nat.le_refl _),iv.futs,iv.fuel,iv.many,iv.c0,iv.c3,by show ((s.made.map fix7).length:Int)≤_; rw [List.length_map]; exact iv.made,iv.sig,iv.sg8,iv.upd,iv.updI,iv.v16,iv.a4⟩
theorem exp_inv {s:VS} (iv:Inv p s) {l:List Ev} (hl:s.count+l.length≤256):Inv p (s.exp l) :=
 ⟨iv.scp,iv.scn,iv.sc32,iv.t16,fun t ht=>(iv.thr t ht).mono (Nat.le_refl _) (Nat.le_refl _),iv.futs,iv.fuel,iv.many,iv.c0,fun l' e=>(by cases e; exact hl),iv.made,iv.sig,iv.sg8,iv.upd,iv.updI,iv.v16,iv.a4⟩
theorem Lived.repIn {L:LS} (lv:Lived p L) {h:List Ev} (hb:h.length≤256) (hlt:L.h.length<h.length) (d:Int) (ho:∀e,h[L.h.length]?=some e→e.kind=2→L.s.over=false∧L.s.count≤255):RepIn p h L.h.length (L.s.dm d (L.s.made.map fix7)):=by
 have iv:=dm_inv lv.li.inv d
 have hc:=lv.li.c
 have hcl:=cmds_le (h.drop (L.h.length+1))
 rw [List.length_drop] at hcl
 refine ⟨iv,lv.li.x,fun e he hk=>?_⟩
 obtain ⟨o1,o2⟩:=ho e he hk
 refine ⟨⟨o1,o2,fun q=>(by cases q),fun l e=>?_⟩,exp_inv iv ?_⟩
 ·cases e
  show L.s.count+1+((cmds (h.drop (L.h.length+1))).length:Int)≤256
  omega
 ·show L.s.count+((cmds (h.drop (L.h.length+1))).length:Int)≤256
  omega
theorem task_list {h : List Ev} {n : Nat} {rows : List Ev} {r0 : Ev} (h0 : h[n]?=some r0) (hr : 0<rows.length) (hl : n+rows.length≤h.length) (hc : ∀j x, 0<j→j<rows.length→h[n+j]?=some x→cmdM x.kind=true) :
  r0::cmds (h.drop (n+1))=(h.drop n).take rows.length++cmds (h.drop (n+rows.length)):=by
 have e1:h.drop n=r0::h.drop (n+1):=by
  have:=List.getElem?_eq_some_iff.1 h0
  obtain ⟨hn,e⟩:=this
  rw [List.drop_eq_getElem_cons hn,e]
 have e2:h.drop (n+1)=(h.drop (n+1)).take (rows.length-1)++h.drop (n+rows.length):=by
  have:=(List.take_append_drop (rows.length-1) (h.drop (n+1))).symm
  rw [List.drop_drop] at this
  have e:n+1+(rows.length-1)=n+rows.length:=by omega
  rw [e] at this; exact this
 have e3:cmds (h.drop (n+1))=(h.drop (n+1)).take (rows.length-1)++cmds (h.drop (n+rows.length)):=by
  rw [e2,cmds_app]
  ·rw [←e2]
  ·intro x hx
   obtain ⟨j,hj⟩:=List.getElem?_of_mem hx
   have hj2:=get_lt hj
   rw [List.length_take] at hj2
   rw [List.getElem?_take_of_lt (by omega),List.getElem?_drop] at hj
   exact hc (j+1) x (by omega) (by omega) (by rw [←hj]; congr 1; omega)
 rw [e3,e1]
 obtain ⟨q,hq⟩:∃q,rows.length=q+1:=⟨rows.length-1,by omega⟩
 rw [hq,List.take_succ_cons]
 simp
structure TaskOf (p:Prg) (L:LS) (now draw:Int) (rows:List Ev):Prop where
 lv:Lived p L
 tk:L.s.taskE now=0
 b:BI L.h now L.s
 rows:rows=((L.s.ready_ draw).task p now).made
theorem TaskOf.first {L:LS} {now draw:Int} {rows:List Ev} (t:TaskOf p L now draw rows) (ok:Okp p):TM L.h.length now ((L.s.ready_ draw).task p now)∧rows[0]?=some ⟨L.s.count+1,now,2,L.s.count,0,0,0,0,0⟩∧L.h.length+rows.length≤256∧0<rows.length:=by
 obtain ⟨hm,tm⟩:=Task_tm ok t.lv.li.inv (draw:=draw) t.tk
 have iv:=Task_inv ok t.lv.li.inv now draw
 have e:(L.s.Task p now draw).2=(L.s.ready_ draw).task p now:=by rw [Task_eq,if_neg (by rw [t.tk]; simp)]
 rw [e] at tm iv
 have hc:=t.lv.li.c
 have h0:=tm.first
 rw [←t.rows] at h0
 have hl:=tm.len
 rw [←t.rows] at hl
 have:=iv.c0
 have hp:=get_lt h0
 refine ⟨?_,h0,by omega,hp⟩
 rw [hc] at tm; exact_mod_cast tm
end
def evR (l:List Ev) (i:Nat):Int×Int×Int×Int×Int×Int×Int×Int×Int×PUnit:=(((l[i]?).getD Ev.zero).id,((l[i]?).getD Ev.zero).time,((l[i]?).getD Ev.zero).kind,((l[i]?).getD Ev.zero).a,((l[i]?).getD Ev.zero).b,((l[i]?).getD Ev.zero).c,((l[i]?).getD Ev.zero).d,((l[i]?).getD Ev.zero).e,((l[i]?).getD Ev.zero).f,())
theorem finTo_map {n k:Nat} (hk:k≤n):(finTo n k).map (·.1)=List.range k:=by
 apply List.ext_getElem?
 intro j
 unfold finTo
 by_cases hj:j<k
 ·rw [List.getElem?_map,List.getElem?_take_of_lt hj]
  have hjn:j<n:=by omega
  simp [hj,hjn]
 ·rw [List.getElem?_eq_none (by simp; omega),List.getElem?_eq_none (by simp; omega)]
theorem range_pre {j k:Nat} (h:j≤k):List.range j <+: List.range k:=by
 refine List.prefix_iff_eq_take.2 ?_
 rw [List.length_range,List.take_range,Nat.min_eq_left h]
theorem itRest {HI : Heap} {B1 B2 : Nat} {A : Option Addr} {cap fr : Nat} {T1 T2 : TypeId} {l : List Ev}
  (h1:HI B1=some (.cells #[.slice A l.length cap] T1 (0,0))) (h2:HI B2=some (.cells #[.int .i64 (fr:Int)] T2 (0,0))) (hfr:fr≤l.length) (hcap:l.length≤cap) (hE:HasEvs HI A l.length l) (hb:l.length≤100000000000000000) :
  It Tryz.prog 114 [.pointer (some ⟨B1,0,none⟩),.pointer (some ⟨B2,0,none⟩)] HI (l.drop fr).length
   (fun i=>[Value.agg #[Value.int .i64 (evR (l.drop fr) i).1,Value.int .i64 (evR (l.drop fr) i).2.1,Value.int .i64 (evR (l.drop fr) i).2.2.1,Value.int .i64 (evR (l.drop fr) i).2.2.2.1,Value.int .i64 (evR (l.drop fr) i).2.2.2.2.1,
    Value.int .i64 (evR (l.drop fr) i).2.2.2.2.2.1,Value.int .i64 (evR (l.drop fr) i).2.2.2.2.2.2.1,Value.int .i64 (evR (l.drop fr) i).2.2.2.2.2.2.2.1,Value.int .i64 (evR (l.drop fr) i).2.2.2.2.2.2.2.2.1]]) (List.range (cmds (l.drop fr)).length):=by
 refine ⟨fun n w hn hw=>fun lb J Jx W hB hJ _ hY h0=>?_⟩
 have hW:Holds HI W:=fun b o e=>(hB.block b (heap_lt (hw b o e))).trans (hw b o e)
 rw [List.length_range] at hY
 refine (rest1_in n hn lb h1 h2 hfr hcap hE hb J Jx W hW hJ hY h0).mono ?_
 rintro e W' ⟨he,⟨xs,rfl,hj⟩|⟨pre,⟨j,hj2,rfl⟩,hj⟩⟩
 ·exact ⟨he,.inl ⟨_,finTo_map (cmds_le _),hj⟩⟩
 ·exact ⟨he,.inr ⟨_,by show List.map (·.1) (finTo _ j) <+: _; rw [finTo_map (Nat.le_trans hj2 (cmds_le _))]; exact range_pre hj2,hj⟩⟩
theorem own_cut {H H1:Heap} {A:Option Addr} {n c sz:Nat} {cs:List Value} (h:OwnS H H1 A n c sz cs):OwnS H (cutN H H1) A n c sz cs:=by
 refine ⟨cutN_keep (Sub.refl _) h.sub,h.len,h.cap,?_⟩
 rcases h.at_ with q|⟨bb,cur,T,q0,q1,q2,q3,q4⟩
 ·exact .inl q
 ·exact .inr ⟨bb,cur,T,q0,q1,by unfold cutN; rw [q2]; rfl,q3,q4⟩
theorem range_cmds (l:List Ev):(List.range (cmds l).length).map (fun i=>(l[i]?).getD Ev.zero)=cmds l:=by
 apply List.ext_getElem?
 intro j
 by_cases hj:j<(cmds l).length
 ·obtain ⟨q,hq⟩:=cmds_pre l
  have:l[j]?=(cmds l)[j]?:=by
   have e:(cmds l++q)[j]?=(cmds l)[j]?:=List.getElem?_append_left hj
   rw [hq] at e; exact e
  rw [List.getElem?_map,List.getElem?_range hj,Option.map_some,this]
  obtain ⟨x,hx⟩:=get_some hj
  rw [hx]; rfl
 ·rw [List.getElem?_eq_none (by simp; omega),List.getElem?_eq_none (by omega)]
theorem t113 {H : Heap} {B1 B2 : Nat} {A : Option Addr} {cap fr : Nat} {T1 T2 : TypeId} {l : List Ev}
  (h1:H B1=some (.cells #[.slice A l.length cap] T1 (0,0))) (h2:H B2=some (.cells #[.int .i64 (fr:Int)] T2 (0,0))) (hfr:fr≤l.length) (hcap:l.length≤cap) (hE:HasEvs H A l.length l) (hb:l.length*72≤140737488355328) :
  Tr Tryz.prog 113 #[.slice none 0 0,.func (.func 114) #[] #[.pointer (some ⟨B1,0,none⟩),.pointer (some ⟨B2,0,none⟩)]] H
   fun v H'=>∃A' n' c',v=.slice A' n' c'∧OwnS H H' A' n' c' 9 ((cmds (l.drop fr)).flatMap Ev.cells):=by
 have hdl:(l.drop fr).length=l.length-fr:=List.length_drop
 have hcl:=cmds_le (l.drop fr)
 apply v113; unfold F113
 refine ⟨114,[.pointer (some ⟨B1,0,none⟩),.pointer (some ⟨B2,0,none⟩)],⟨rfl,by kernel_rfl⟩,H,(l.drop fr).length,evR (l.drop fr),List.range (cmds (l.drop fr)).length,Sub.refl _,
  itRest h1 h2 hfr hcap hE (by omega),fun pre A n c Hc=>OwnS H Hc A n c 9 ((pre.map fun i=>((l.drop fr)[i]?).getD Ev.zero).flatMap Ev.cells),OwnS.nil _ _,fun pre i hi hpre A n c Hc o hsub hncs x x1 x2 x3 x4 x5 x6 x7 x8 he=>⟨⟨hncs,hsub⟩,?_⟩,fun A n c Hc o hncs=>?_⟩
 ·rw [List.length_range] at hpre
  have ho:=o.len
  rw [flat_size (cells:=Ev.cells) (sz:=9) (fun _=>rfl),List.length_map] at ho
  have hn:n=pre.length:=by omega
  refine own_app o (m:=1) rfl rfl (Nat.le_trans (Nat.mul_le_mul_right 72 (show n+1≤l.length by omega)) hb) (by omega) fun A' c' H' o2=>⟨own_cut ?_,o2.sub⟩
  unfold evR at he
  cases he
  rw [List.map_append,List.flatMap_append]
  simpa [Ev.cells] using o2
 ·simp only [range_cmds] at o
  exact ⟨_,_,_,rfl,o⟩
theorem t66 {H : Heap} {B1 B2 : Nat} {A : Option Addr} {cap fr : Nat} {T1 T2 : TypeId} {l : List Ev}
  (h1:H B1=some (.cells #[.slice A l.length cap] T1 (0,0))) (h2:H B2=some (.cells #[.int .i64 (fr:Int)] T2 (0,0))) (hfr:fr≤l.length) (hcap:l.length≤cap) (hE:HasEvs H A l.length l) (hb:l.length*72≤140737488355328) :
  Tr Tryz.prog 66 #[.func (.func 114) #[] #[.pointer (some ⟨B1,0,none⟩),.pointer (some ⟨B2,0,none⟩)]] H
   fun v H'=>∃A' n' c',v=.slice A' n' c'∧OwnS H H' A' n' c' 9 ((cmds (l.drop fr)).flatMap Ev.cells):=by
 apply v66; unfold F66
 exact (t113 h1 h2 hfr hcap hE hb).mono fun v H' ⟨A',n',c',e,o⟩=>⟨A',n',c',e,A',n',c',rfl,o⟩
theorem t67 {H : Heap} {A : Option Addr} {n c fr : Nat} :
  Tr Tryz.prog 67 #[.slice A n c,.int .i64 (fr:Int)] H fun v H'=>∃b b1,v=.func (.func 114) #[] #[.pointer (some ⟨b,0,none⟩),.pointer (some ⟨b1,0,none⟩)] ∧
   H' b=some (.cells #[.slice A n c] 27 (0,0))∧H' b1=some (.cells #[.int .i64 (fr:Int)] 3 (0,0))∧Sub H H':=by
 apply v67; unfold F67
 intro b hb H1 e1 b1 hb1 H2 e2
 have hne:b1≠b:=fun e=>by subst e; rw [e1,Heap.upd_same] at hb1; cases hb1
 refine ⟨b,b1,rfl,?_,by rw [e2]; exact Heap.upd_same,?_⟩
 ·rw [e2,Heap.upd_other hne.symm,e1]; exact Heap.upd_same
 ·subst e2; subst e1; exact (Sub.upd_new hb).trans (Sub.upd_new hb1)
section
variable {p:Prg} {G H:Heap} {m:Nat} {pf po:SlH} {sl:Nat→SlH} {F:Heap} {ex:Value} {st:List SlH} {s:VS}
theorem VMX.slAt (h:VMX G H m pf po sl F ex st s) {c:Nat} (hc:c<14) {b:Nat} (hb:(sl c).blk=some b):(H b).isSome=true:=by
 rcases (h.ok c hc).at_ with a|⟨b',off,cur,T,a1,a2,a3,a4⟩
 ·unfold SlH.blk at hb; rw [a.1] at hb; cases hb
 ·unfold SlH.blk at hb; rw [a1] at hb; cases hb; rw [a2]; rfl
theorem VMX.newEx (h:VMX G H m pf po sl F ex st s) {ex':Value} {e':Option (List Ev)} (hE:∀H',(∀b,b≠m→H' b=H b)→ExpOk F G H' m sl ex' e') {Q:Heap→Prop} (q:∀H',VMX G H' m pf po sl F ex' st { s with expect:=e' }→Q H'):Wr H ((⟨m,0,none⟩:Addr).add 34) ex' Q:=by
 refine wr_cells h.hm (by rw [mCells_len]; decide) (q _ ?_)
 have e:(mCells pf po sl ex s).set 34 ex'=mCells pf po sl ex' { s with expect:=e' }:=rfl
 rw [e]
 have ne:∀c,c<14→∀b,(sl c).blk=some b→b≠m:=fun c hc b hb=>(h.own c hc b hb).2
 refine ⟨h.gf,⟨fun i o ho=>?_⟩,h.fm,Heap.upd_same,h.own,h.inj,fun c hc=>(h.ok c hc).mono fun b hb=>Heap.upd_other (ne c hc b hb),h.stl,h.stk,h.vars,h.attrs,h.sigs,hE _ fun b hb=>Heap.upd_other hb⟩
 rw [Heap.upd_other (fun e=>by subst e; rw [h.fm] at ho; cases ho)]; exact h.fh.sub _ _ ho
theorem VMX.noEx (h:VMX G H m pf po sl F ex st s) {Q:Heap→Prop} (q:∀H',VMX G H' m pf po sl F .nilFunc st s.noExp→Q H'):Wr H ((⟨m,0,none⟩:Addr).add 34) .nilFunc Q :=
 h.newEx (e':=none) (fun _ _=>⟨fun _=>rfl,fun _ e=>by cases e⟩) q
theorem VMX.expects (h : VMX G H m pf po sl F ex st s) {l : List Ev} {A : Option Addr} {n c : Nat} {H0 H1 : Heap} (s0 : Sub H H0) (o : OwnS H0 H1 A n c 9 (l.flatMap Ev.cells)) {xb : Nat} {T : TypeId} (hxb : H1 xb=none) {H2 : Heap} (e2 : H2=H1.upd xb (.cells #[.slice A n c] T (0, 0)))
  {Q:Heap→Prop} (q:∀F' H3,VMX G H3 m pf po sl F' (.func (.func 112) #[] #[.pointer (some ⟨xb,0,none⟩)]) st (s.exp l)→Sub (dif F G) (dif F' G)→Q H3) :
  Wr H2 ((⟨m,0,none⟩:Addr).add 34) (.func (.func 112) #[] #[.pointer (some ⟨xb,0,none⟩)]) Q:=by
 have s1:Sub H H1:=s0.trans o.sub
 have hHx:H xb=none:=none_below s1 hxb
 have hnl:n=l.length:=by have:=o.len; rw [flat_size (cells:=Ev.cells) (sz:=9) (fun _=>rfl)] at this; omega
 have hm:H1 m=some _:=s1.sub _ _ h.hm
 have hxm:xb≠m:=fun e=>by rw [e,hm] at hxb; cases hxb
 have h2x:H2 xb=some (.cells #[.slice A n c] T (0,0)):=by rw [e2]; exact Heap.upd_same
 have h2o:∀b,b≠xb→H2 b=H1 b:=fun b hb=>by rw [e2]; exact Heap.upd_other hb
 have slx:∀c,c<14→(sl c).blk≠some xb:=fun c hc hb=>by have:=h.slAt hc hb; rw [hHx] at this; cases this
 have key:∀F',VMX G H2 m pf po sl F' ex st s→F' xb=none→Src (dif F' G) A (l.flatMap Ev.cells)→Sub (dif F G) (dif F' G)→Wr H2 ((⟨m,0,none⟩:Addr).add 34) (.func (.func 112) #[] #[.pointer (some ⟨xb,0,none⟩)]) Q:=fun F' v f0 sr sd=>by
  refine v.newEx (e':=some l) (fun H' k=>⟨fun e=>(by cases e),fun l' e=>?_⟩) fun H' v'=>q F' H' v' sd
  cases e
  exact ⟨xb,A,n,c,T,rfl,by rw [k xb hxm]; exact h2x,f0,hxm,slx,⟨hnl,o.cap⟩,sr⟩
 have s2:Sub H H2:=⟨fun b ob hb=>by rw [h2o b (fun e=>by rw [e,hHx] at hb; cases hb)]; exact s1.sub _ _ hb⟩
 rcases o.at_ with ⟨a1,a2,a3⟩|⟨bb,cur,T',a1,a2,a3,a4,a5⟩
 ·refine key F (h.grow s2) (none_below h.fh hHx) (.inl ?_) ⟨fun _ _ k=>k⟩
  have:l.length=0:=by omega
  rw [List.length_eq_zero_iff.1 this]; rfl
 ·have hHb:H bb=none:=none_below s0 a2
  have hFb:F bb=none:=none_below h.fh hHb
  have hGb:G bb=none:=none_below h.gf hFb
  have hbx:bb≠xb:=fun e=>by rw [e,hxb] at a3; cases a3
  have hd:Sub (dif F G) (dif (F.upd bb (.cells cur T' (0,0))) G):=⟨fun i x k=>by
   have hne:i≠bb:=fun e=>by subst e; unfold dif at k; split at k; cases k; rw [hFb] at k; cases k
   unfold dif at k ⊢
   rw [Heap.upd_other hne]; exact k⟩
  refine key (F.upd bb (.cells cur T' (0,0))) (h.frame (h.gf.trans (Sub.upd_new hFb)) ⟨fun i x k=>?_⟩ (fun b hn hs=>?_) hd) ?_ (.inr ⟨⟨bb,0,none⟩,a1,?_⟩) hd
  ·by_cases hne:i=bb
   ·subst hne; rw [Heap.upd_same] at k; rw [h2o _ hbx,a3]; exact k
   ·rw [Heap.upd_other hne] at k; exact s2.sub _ _ (h.fh.sub _ _ k)
  ·have hne:b≠bb:=fun e=>by rw [e,hHb] at hs; cases hs
   refine ⟨by rw [Heap.upd_other hne]; exact hn,?_⟩
   obtain ⟨x,hx⟩:=Option.isSome_iff_exists.1 hs
   rw [hx,s2.sub _ _ hx]
  ·rw [Heap.upd_other hbx.symm]; exact none_below h.fh hHx
  ·refine ⟨⟨cur,T',(0,0),?_,rfl,fun j v hv=>by simpa using a5 j v hv⟩⟩
   unfold dif
   rw [hGb]
   show (if (false:Bool)=true then none else _)=_
   rw [if_neg (by decide)]
   exact Heap.upd_same
end
section
variable {p:Prg} {L:LS} {now draw:Int} {rows:List Ev}
theorem TaskOf.sim (t : TaskOf p L now draw rows) (ok : Okp p) {h : List Ev} {e0 : Ev} (hl : L.h.length+rows.length≤h.length) (h0 : h[L.h.length]?=some e0) (he : e0=⟨L.s.count+1, now, 2, L.s.count, 0, 0, 0, 0, 0⟩) (hc : ∀j x, 0<j→j<rows.length→h[L.h.length+j]?=some x→cmdM x.kind=true)
  (d:Int) (g:Good ((h.drop L.h.length).take rows.length++cmds (h.drop (L.h.length+rows.length))) rows) :
  VSim ((h.drop L.h.length).take rows.length++cmds (h.drop (L.h.length+rows.length))) ((L.s.ready_ draw).task p now) ((L.s.dm d (L.s.made.map fix7)).retask p h L.h.length now):=by
 obtain ⟨tm,-,-,hp⟩:=t.first ok
 have hk:=task_list h0 hp hl hc
 rw [←hk] at g ⊢
 rw [t.rows] at g
 refine task_sim ok (ready_inv t.lv.li.inv draw) (ready_tasks t.tk draw) rfl now d (m0:=L.s.made.map fix7) (l:=cmds (h.drop (L.h.length+1))) ?_ g
 rw [he]; rfl
theorem take_at {h:List Ev} {n m j:Nat} {B:List Ev} (hj:j<m) (hl:n+m≤h.length):((h.drop n).take m++B)[j]?=h[n+j]?:=by
 rw [List.getElem?_append_left (by rw [List.length_take,List.length_drop]; omega),List.getElem?_take_of_lt hj,List.getElem?_drop]
theorem fix7_row {now:Int} {c:Int}:fix7 ⟨c+1,now,2,c,0,0,0,0,0⟩=⟨c+1,now,2,c,0,0,0,0,0⟩:=by unfold fix7; rw [if_neg (by show ¬(2:Int)=18; decide)]
theorem pre_at {h t:List Ev} {L:List Ev} (hp:L++t <+: h) {j:Nat} (hj:j<t.length):h[L.length+j]?=t[j]?:=by
 obtain ⟨q,rfl⟩:=hp
 rw [List.append_assoc,List.getElem?_append_right (by omega),List.getElem?_append_left (by omega)]
 congr 1; omega
theorem TaskOf.ends (t:TaskOf p L now draw rows) (ok:Okp p):((L.s.ready_ draw).task p now).expect=none∧((L.s.ready_ draw).task p now).drift=false:=by
 have iv:=ready_inv t.lv.li.inv draw
 have tks:=ready_tasks t.tk draw
 have st:=task_steps ok iv tks now
 exact ⟨(st.pre rfl).1,(st.calm rfl).trans t.lv.calm⟩
theorem TaskOf.next (t : TaskOf p L now draw rows) (ok : Okp p) {h : List Ev} (hp : L.h++rows.map fix7 <+: h) (hcut : Cut h (L.h.length+rows.length)) (d : Int) :
  ∃d',rep1 p h L.h.length (L.s.dm d (L.s.made.map fix7))=.inr (L.h.length+rows.length,((L.s.ready_ draw).task p now).dm d' (((L.s.ready_ draw).task p now).made.map fix7)):=by
 obtain ⟨tm,r0,-,hpos⟩:=t.first ok
 have hmap:∀j,j<rows.length→h[L.h.length+j]?=(rows[j]?).map fix7:=fun j hj=>by rw [pre_at hp (by rw [List.length_map]; exact hj),List.getElem?_map]
 have hl:L.h.length+rows.length≤h.length:=by have:=hp.length_le; rw [List.length_append,List.length_map] at this; exact this
 have h0:h[L.h.length]?=some ⟨L.s.count+1,now,2,L.s.count,0,0,0,0,0⟩:=by
  have:=hmap 0 hpos
  rw [Nat.add_zero] at this
  rw [this,r0,Option.map_some,fix7_row]
 have hK:∀k e,rows[k]?=some e→((h.drop L.h.length).take rows.length++cmds (h.drop (L.h.length+rows.length)))[k]?=some (fix7 e):=fun k e he=>by
  rw [take_at (get_lt he) hl,hmap k (get_lt he),he]; rfl
 have sim:=t.sim ok hl h0 rfl (fun j x hj hj2 hx=>by
  rw [hmap j hj2] at hx
  obtain ⟨y,hy⟩:=get_some (l:=rows) (i:=j) hj2
  rw [hy] at hx; cases hx
  rw [fix7_kind]
  rw [t.rows] at hy
  exact (tm.row j y hy).2.2 (by omega)) d (fun k e w he hw _=>by rw [hK k e he] at hw; cases hw; rfl)
 rw [←t.rows] at *
 unfold rep1
 rw [h0]
 simp only
 rw [if_neg (by show ¬(2:Int)≠2; decide)]
 rcases sim with b|b
 ·obtain ⟨d',l',e,hk⟩:=b.ex
  obtain ⟨x1,dr⟩:=t.ends ok
  have hl':l'=cmds (h.drop (L.h.length+rows.length)):=by
   have e1:(h.drop L.h.length).take rows.length=rows.map fix7:=by
    apply List.ext_getElem?
    intro j
    by_cases hj:j<rows.length
    ·rw [List.getElem?_take_of_lt hj,List.getElem?_drop,hmap j hj,List.getElem?_map]
    ·rw [List.getElem?_eq_none (by rw [List.length_take]; omega),List.getElem?_eq_none (by rw [List.length_map]; omega)]
   rw [e1,←t.rows] at hk
   exact List.append_cancel_left hk
  rw [e]
  have hmore:(((L.s.ready_ draw).task p now).rp d' l').more=false:=by
   rw [hl']
   cases hd:cmds (h.drop (L.h.length+rows.length)) with
   | nil=>rfl
   | cons x z =>
    show (!outsideM x)=false
    have hx:(cmds (h.drop (L.h.length+rows.length)))[0]?=some x:=by rw [hd]; rfl
    have hx2:=hx
    obtain ⟨q,hq⟩:=cmds_pre (h.drop (L.h.length+rows.length))
    have hx3:(h.drop (L.h.length+rows.length))[0]?=some x:=by rw [←hq,List.getElem?_append_left (get_lt hx)]; exact hx
    have hcm:=(cmds_at _ 0 x (Nat.zero_le _) hx3).2 (get_lt hx)
    rw [List.getElem?_drop,Nat.add_zero] at hx3
    rw [hcut x hx3 hcm]; rfl
  have hd:(((L.s.ready_ draw).task p now).rp d' l').drift=false:=dr
  rw [hd,hmore,if_neg (by decide)]
  refine ⟨d',?_⟩
  have hlen:(((L.s.ready_ draw).task p now).rp d' l').made.length=rows.length:=by show (((L.s.ready_ draw).task p now).made.map fix7).length=_; rw [List.length_map,←t.rows]
  rw [hlen]
  have:(((L.s.ready_ draw).task p now).rp d' l').noExp=((L.s.ready_ draw).task p now).dm d' (((L.s.ready_ draw).task p now).made.map fix7):=by
   unfold VS.rp VS.dm VS.noExp
   rw [←x1]
  rw [this,←t.rows]
 ·obtain ⟨k,e,q1,q2,q3,q4,q5⟩:=b.ex
  rw [←t.rows] at q1
  exact absurd (hK k e q1) q5
end
section
variable {p:Prg}
theorem Lived.init:Lived p LS.init:=by
 refine ⟨LInv.init p,BI.init,rfl,fun h hb hp hc=>⟨0,0,rfl,fun j hj=>by omega⟩⟩
theorem idle {L:LS} (lv:Lived p L) (n:Int) (hn:L.now≤n∧n≤1099511627776):Lived p ⟨L.s,L.h,n⟩:=⟨⟨lv.li.inv,lv.li.x,lv.li.c⟩,lv.bi.later hn.1 hn.2,lv.calm,lv.goes⟩
theorem clock_ok {L:LS} (b:BI L.h L.now L.s) (a:ActM):L.now≤L.clock a∧L.clock a≤1099511627776:=by
 have:=b.n0
 unfold LS.clock
 split
 ·rename_i q; simp at q; omega
 ·omega
theorem LS.task_of {L:LS} (lv:Lived p L) (a:ActM) (tk:L.s.taskE (L.clock a)=0):TaskOf p L (L.clock a) a.value ((L.s.ready_ a.value).task p (L.clock a)).made :=
 ⟨lv,tk,lv.bi.later (clock_ok lv.bi a).1 (clock_ok lv.bi a).2,rfl⟩
theorem step_task {L:LS} (lv:Lived p L) (a:ActM) (h1:a.kind≠1) (h2:a.kind=2) (tk:L.s.taskE (L.clock a)=0):L.step p a=⟨(L.s.ready_ a.value).task p (L.clock a),L.h++((L.s.ready_ a.value).task p (L.clock a)).made.map fix7,L.clock a⟩:=by
 unfold LS.step
 rw [if_neg h1,if_pos h2,if_neg (by rw [Task_ok]; simp [tk])]
 rw [Task_eq,if_neg (by rw [tk]; simp)]
 show (⟨_,(L.h++((L.s.ready_ a.value).task p (L.clock a)).made).map fix7,_⟩:LS)=_
 rw [List.map_append,lv.bi.fixd]
theorem Lived.step (ok:Okp p) {L:LS} (lv:Lived p L) (a:ActM):Lived p (L.step p a):=by
 have li':=lv.li.step ok a
 have bi':=LS.bi ok lv.li lv.bi a
 by_cases h1:a.kind=1
 ·by_cases hs:stand (L.h++[L.next a])<(L.h++[L.next a]).length
  ·have e:L.step p a=L:=by unfold LS.step; rw [if_pos h1,if_pos hs]
   rw [e]; exact lv
  ·rcases apply_cases L.s (L.next a) with ⟨e1,e2⟩|⟨e1,ho,hr,e2⟩
   ·have e:L.step p a=L:=by unfold LS.step; rw [if_pos h1,if_neg hs,if_neg e1,e2]
    rw [e]; exact lv
   ·have e:L.step p a=⟨(L.s.apply (L.next a)).2,L.h++[L.next a],L.now⟩:=by unfold LS.step; rw [if_pos h1,if_neg hs,if_pos e1]
    rw [e] at li' bi' ⊢
    have tk:=taken hr
    obtain ⟨m1,m2⟩:=applied_rest L.s.counted (L.next a)
    have hmade:(L.s.apply (L.next a)).2.made=L.s.made:=by rw [e2]; exact m1
    refine ⟨li',bi',by show (L.s.apply (L.next a)).2.drift=false; rw [e2]; exact m2.trans lv.calm,fun h hb hp hc=>?_⟩
    have hp1:L.h <+: h:=(List.prefix_append _ _).trans hp
    have hat:h[L.h.length]?=some (L.next a):=by have:=pre_at hp (j:=0) (by simp); rw [Nat.add_zero] at this; rw [this]; rfl
    have hk:=out_kind tk.out
    obtain ⟨n,d,g⟩:=lv.goes h hb hp1 (fun x hx _=>by rw [hat] at hx; cases hx; exact tk.out)
    have hlt:=get_lt hat
    have ri:=lv.repIn hb hlt d (fun e he hk2=>by rw [hat] at he; cases he; omega)
    refine ⟨n+1,d,?_⟩
    have r1:rep1 p h L.h.length (L.s.dm d (L.s.made.map fix7))=.inr (L.h.length+1,(L.s.apply (L.next a)).2.dm d (L.s.made.map fix7)):=by
     unfold rep1
     rw [hat]
     simp only
     rw [if_pos (by omega),dm_apply,if_neg (by rw [e1]; simp)]
    have g2:=g.next ri hlt r1
    show Goes p h (n+1) (L.h++[L.next a]).length ((L.s.apply (L.next a)).2.dm d ((L.s.apply (L.next a)).2.made.map fix7))
    rw [hmade,List.length_append,List.length_singleton]
    exact g2
 ·by_cases h2:a.kind=2
  ·by_cases tk:L.s.taskE (L.clock a)=0
   ·have e:=step_task lv a h1 h2 tk
    rw [e] at li' bi' ⊢
    have t:=LS.task_of lv a tk
    refine ⟨li',bi',(t.ends ok).2,fun h hb hp hc=>?_⟩
    have hc:Cut h (L.h.length+((L.s.ready_ a.value).task p (L.clock a)).made.length):=by
     have:Cut h (L.h++((L.s.ready_ a.value).task p (L.clock a)).made.map fix7).length:=hc
     rw [List.length_append,List.length_map] at this; exact this
    have hp:L.h++((L.s.ready_ a.value).task p (L.clock a)).made.map fix7 <+: h:=hp
    obtain ⟨-,r0,-,hpos⟩:=t.first ok
    have hat:h[L.h.length]?=some ⟨L.s.count+1,L.clock a,2,L.s.count,0,0,0,0,0⟩:=by
     have:=pre_at hp (j:=0) (by rw [List.length_map]; exact hpos)
     rw [Nat.add_zero] at this
     rw [this,List.getElem?_map,r0,Option.map_some,fix7_row]
    obtain ⟨n,d,g⟩:=lv.goes h hb ((List.prefix_append _ _).trans hp) (fun x hx hcm=>by rw [hat] at hx; cases hx; cases hcm)
    have hlt:=get_lt hat
    obtain ⟨o1,-,o3,-⟩:=taskE_ok tk
    have ri:=lv.repIn hb hlt d (fun e he hk2=>⟨o1,by omega⟩)
    obtain ⟨d',r1⟩:=t.next ok hp hc d
    refine ⟨n+1,d',?_⟩
    have g2:=g.next ri hlt r1
    show Goes p h (n+1) (L.h++((L.s.ready_ a.value).task p (L.clock a)).made.map fix7).length _
    rw [List.length_append,List.length_map]
    exact g2
   ·have e : L.step p a=⟨L.s, L.h, L.clock a⟩ := by
     have tk':(L.s.Task p (L.clock a) a.value).1.2≠0:=by rw [Task_ok]; exact tk
     unfold LS.step
     rw [if_neg h1,if_pos h2,if_pos tk',Task_no tk']
    rw [e]; exact idle lv _ (clock_ok lv.bi a)
  ·have e:L.step p a=L:=by unfold LS.step; rw [if_neg h1,if_neg h2]
   rw [e]; exact lv
end
theorem FStep.longer {p:Prg} {b:Bool} {s s':VS} (q:FStep p b s s'):s.made.length≤s'.made.length:=by
 have live:∀e:Ev,s.made.length≤(s.emit0 e).2.made.length:=fun e=>by
  have k:=emits s e
  generalize s.emit0 e=q at k ⊢
  cases k with
  | live h=>show _≤(s.made++[e]).length; rw [List.length_append]; omega
  | none h=>exact Nat.le_refl _
  | other w l h=>exact Nat.le_refl _
  | same w l h=>show _≤(s.made++[w]).length; rw [List.length_append]; omega
 cases q with
 | emit e ho hc=>unfold VS.emit; split<;>exact live _
 | fails c ho=>exact live _
 | done i v k=>rcases setDone_cases s i v k with e|⟨f,-,-,-,e⟩<;>rw [e]<;>exact Nat.le_refl _
 | mark i=>rcases mark_cases s i with e|⟨c,-,e⟩<;>rw [e]<;>exact Nat.le_refl _
 | _=>exact Nat.le_refl _
theorem FSteps.longer {p:Prg} {b:Bool} {s s':VS} (q:FSteps p b s s'):s.made.length≤s'.made.length:=by
 induction q with
 | refl=>exact Nat.le_refl _
 | tail _ q _ ih=>exact Nat.le_trans ih q.longer
 | two _ q1 q2 _ ih=>exact Nat.le_trans (Nat.le_trans ih q1.longer) q2.longer
theorem retask_ok {p:Prg} (ok:Okp p) {s:VS} {l:List Ev} (iv:Inv p (s.exp l)) (tk:Tasks (s.exp l)) (now:Int):Inv p ((s.exp l).task p now)∧((s.exp l).task p now).expect.isSome=true∧1≤((s.exp l).task p now).made.length:=by
 have h0:=begin_inv iv tk now
 have st:=task_steps ok iv tk now
 exact ⟨(st.inv h0.1 h0.2).1,st.some_ rfl,st.longer⟩
section
variable {p:Prg} {G H:Heap} {m:Nat} {pf po:SlH} {sl:Nat→SlH} {F:Heap} {ex:Value} {st:List SlH} {s:VS}
theorem VMX.c35 (h:VMX G H m pf po sl F ex st s):At H ((⟨m,0,none⟩:Addr).add 35) [.bool s.drift]:=h.cell rfl
structure RRep (p:Prg) (h:List Ev) (H0:Heap) (m:Nat) (pf po:SlH) (x:Int) (H1:Heap):Prop where
 out:∃j k s,x=(k:Nat)∧k≤600∧repN p h j=.inr (k,s)∧VMP p H0 H1 m pf po .nilFunc s
structure RepR (p:Prg) (h:List Ev) (H0:Heap) (v:Value) (H':Heap):Prop where
 out:(∃j a,repN p h j=.inl a∧v=.tuple #[.pointer none,.int .i64 53,.int .i64 (a:Nat)]∧Sub H0 H') ∨
  (∃j k s m pf po,repN p h j=.inr (k,s)∧h.length≤k∧v=.tuple #[.pointer (some ⟨m,0,none⟩),.int .i64 0,.int .i64 0]∧VMP p H0 H' m pf po .nilFunc s)
theorem repN_succ {h:List Ev} {j k:Nat} {s:VS} (e:repN p h j=.inr (k,s)) (hk:k<h.length):repN p h (j+1)=rep1 p h k s:=by
 show (match repN p h j with|.inl a=>_|.inr (k,s)=>_)=_
 rw [e]
 show (if k<h.length then _ else _)=_
 rw [if_pos hk]
theorem t23 {H : Heap} {fA oA : Option Addr} {fn fc on oc : Nat} {p : Prg} (ok : Okp p) (hp : HasP H fA fn oA on p) {A : Option Addr} {n c : Nat} {h : List Ev} (he : HasEvs H A n h) (hcap : n≤c) (hb : h.length≤256) (hs : stand h=h.length)
  (hok:∀j k s,repN p h j=.inr (k,s)→k<h.length→RepIn p h k s) :
  Tr Tryz.prog 23 #[.agg #[.slice fA fn fc,.slice oA on oc],.slice A n c] H fun v H'=>RepR p h H v H':=by
 have hn:=he.len
 apply v23; unfold F23
 refine (t63 hp).mono fun v H1 hr=>?_
 rcases hr with ⟨hne,-⟩|⟨-,m,pf,po,hv,s1,w⟩
 ·exact absurd (ok_check ok) (fun e=>hne (by rw [e]))
 have gc:=t36 (c:=c) (by omega) (he.sub s1)
 have hcv:¬stand h<h.length:=by omega
 have cv:checkV h=.tuple #[.int .i64 0,.int .i64 0]:=by unfold checkV; rw [if_neg hcv]
 rw [cv] at gc
 refine ⟨some ⟨m,0,none⟩,0,hv,fun e=>absurd e (by simp),fun _=>⟨_,_,gc,fun e=>absurd e (by simp),fun _=>⟨RRep p h H m pf po,fun x _=>((n:Int)-x).toNat,⟨0,0,VS.init,rfl,by decide,rfl,w⟩,fun x H2 r=>?_⟩⟩⟩
 obtain ⟨j,k,s,rfl,hk6,hj,w2⟩:=r.out
 refine ⟨fun hlt=>?_,fun hge=>?_⟩
 ·have hlt:(k:Int)<(n:Int):=of_decide_eq_true hlt
  have hkl:k<h.length:=by omega
  have ri:=hok j k s hj hkl
  obtain ⟨e,hek⟩:=get_some hkl
  have g2:=w2.gh
  obtain ⟨a,ha,hat⟩:=he.at_ k e hek
  have bd:A=some a∧(0:Int)≤(k:Int)∧(k:Int)<(n:Int):=⟨ha,by omega,hlt⟩
  have hw1:IntKind.i64.wrap ((k:Int)+1)=((k+1:Nat):Int):=by rw [wrapi (by omega) (by omega)]; rfl
  rw [hw1]
  obtain ⟨sl2,F2,st2,v2,p2⟩:=w2.out
  refine ⟨a,bd,e.kind,at_one 2 (hat.sub g2) rfl,fun e2=>?_,fun e2=>?_⟩
  ·have e2:e.kind≠2:=by simpa using e2
   refine ⟨a,bd,_,_,_,_,_,_,_,_,_,hat.sub g2,(t64 ok v2 p2 ri.inv e).mono fun v3 H3 ⟨hv3,w3⟩=>⟨_,hv3,fun e3=>?_,fun e3=>?_⟩⟩
   ·have e3:(s.apply e).1≠0:=by simpa using e3
    refine ⟨.inl ⟨j+1,k,?_,rfl,w3.gh⟩⟩
    rw [repN_succ hj hkl]
    unfold rep1
    rw [hek]
    simp only
    rw [if_pos e2,if_pos e3]
   ·have e3:(s.apply e).1=0:=by simpa using e3
    refine ⟨⟨j+1,k+1,_,rfl,by omega,?_,w3⟩,by show ((n:Int)-((k+1:Nat):Int)).toNat<((n:Int)-(k:Int)).toNat; omega⟩
    rw [repN_succ hj hkl]
    unfold rep1
    rw [hek]
    simp only
    rw [if_pos e2,if_neg (by rw [e3]; simp)]
  ·have e2:e.kind=2:=by simpa using e2
   obtain ⟨tk,ivx⟩:=ri.tk e hek e2
   obtain ⟨iv5,so5,len5⟩:=retask_ok ok ivx tk e.time
   refine (t67 (fr:=k+1)).mono fun v3 H3 ⟨b,b1,hv3,hb3,hb4,s3⟩=>⟨_,_,_,hv3,?_⟩
   have s03:Sub H H3:=g2.trans s3
   rw [hn] at hb3
   refine (t66 (l:=h) hb3 hb4 (by omega) (by omega) (by rw [←hn]; exact he.sub s03) (by omega)).mono fun v4 H4 ⟨A4,n4,c4,hv4,o4⟩=>⟨A4,n4,c4,hv4,?_⟩
   apply v65; unfold F65
   intro xb hxb H5 e5
   refine ⟨_,_,_,rfl,_,rfl,?_⟩
   refine v2.expects s3 o4 hxb e5 fun F6 H6 v6 d6=>?_
   have w6:VMP p H H6 m pf po (.func (.func 112) #[] #[.pointer (some ⟨xb,0,none⟩)]) (s.exp (cmds (h.drop (k+1)))):=⟨sl2,F6,st2,v6,p2.sub d6⟩
   refine ⟨a,bd,e.time,at_one 1 (hat.sub w6.gh) rfl,(t68 ok v6 (p2.sub d6) ivx tk e.time).mono fun v7 H7 ⟨hv7,w7⟩=>⟨hv7,?_⟩⟩
   obtain ⟨sl7,F7,st7,v7',p7⟩:=w7.out
   obtain ⟨l7,hl7⟩:=Option.isSome_iff_exists.1 so5
   obtain ⟨all,hf,td⟩:=t112 v7' hl7
   have hml:=iv5.made
   have hc5:=iv5.c0
   have r1:repN p h (j+1)=if ((s.retask p h k e.time).drift||(s.retask p h k e.time).more)=true then .inl (k+(s.retask p h k e.time).made.length) else .inr (k+(s.retask p h k e.time).made.length,(s.retask p h k e.time).noExp):=by
    rw [repN_succ hj hkl]
    unfold rep1
    rw [hek]
    simp only
    rw [if_neg (by omega)]
   have eS:(s.exp (cmds (h.drop (k+1)))).task p e.time=s.retask p h k e.time:=rfl
   rw [eS] at v7' hl7 hml hc5 len5 td
   generalize s.retask p h k e.time=S at v7' hl7 hml hc5 len5 td r1
   refine ⟨_,_,hf,td.mono fun v8 H8 r8=>?_⟩
   have nx:∃(y:Ev) (b:Bool) (l8:List Ev),v8=.tuple #[y.val,.bool b]∧VMX H H8 m pf po sl7 F7 (.func (.func 112) #[] #[.pointer (some ⟨xb,0,none⟩)]) st7 { S with expect:=some l8 }∧S.more=(b&&!outsideM y):=by
    rcases r8 with ⟨e8,e9,e10⟩|⟨y,l8,e8,e9,v9⟩
    ·refine ⟨Ev.zero,false,l7,e9,?_,?_⟩
     ·rw [e10,←hl7]; exact v7'
     ·unfold VS.more; rw [hl7,e8]; rfl
    ·refine ⟨y,true,l8,e9,v9,?_⟩
     unfold VS.more; rw [hl7,e8]; rfl
   obtain ⟨y,b,l8,hv8,v8',hmore⟩:=nx
   refine ⟨_,_,_,_,_,_,_,_,_,b,hv8,_,rfl,v8'.noEx fun H9 v9=>?_⟩
   have hml9:=v9.madeLen
   have hml9:(sl7 5).n=S.made.length:=hml9
   have w9:VMP p H H9 m pf po .nilFunc S.noExp:=⟨sl7,F7,st7,v9,p7⟩
   have hw2:IntKind.i64.wrap ((k:Int)+((sl7 5).n:Int))=((k+S.made.length:Nat):Int):=by rw [hml9,wrapi (by omega) (by omega)]; rfl
   refine ⟨_,rfl,_,_,_,v9.c32,_,rfl,S.drift,v9.c35,outsideM y,fun _=>t69 y H9,fun e=>?_,fun e=>?_⟩
   ·rw [hw2]
    refine ⟨.inl ⟨j+1,k+S.made.length,?_,rfl,w9.gh⟩⟩
    rw [r1,hmore,if_pos e]
   ·rw [hw2]
    refine ⟨⟨j+1,k+S.made.length,_,rfl,by omega,?_,w9⟩,by show ((n:Int)-((k+S.made.length:Nat):Int)).toNat<((n:Int)-(k:Int)).toNat; omega⟩
    rw [r1,hmore,if_neg (by rw [e]; decide)]
 ·have hge:=of_decide_eq_false hge
  exact ⟨.inr ⟨j,k,s,m,pf,po,hj,by omega,rfl,w2⟩⟩
end
def fixN (next:Int) (e:Ev):Ev:=if e.kind=18 then { e with b:=next } else e
def RS.step2 (z:RS×List OutM) (e:Ev):RS×List OutM:=(z.1.book e,z.2++z.1.tells e)
def RS.all (R:RS) (l:List Ev):RS×List OutM:=l.foldl RS.step2 (R,[])
theorem RS.all_snoc (R:RS) (l:List Ev) (e:Ev):R.all (l++[e])=((R.all l).1.book e,(R.all l).2++(R.all l).1.tells e):=by unfold RS.all; rw [List.foldl_append]; rfl
structure RS.Le (R:RS):Prop where
 a:R.acts.length≤R.events.length
 t:R.timers.length≤R.events.length
 k:R.kids.length≤R.events.length
 u:R.updates.length≤R.events.length
theorem RS.Le.small {R:RS} (h:R.Le) (e:R.events.length≤1000000):R.Small:=⟨e,h.a,h.t,h.k,h.u⟩
theorem RS.book_events (R:RS) (e:Ev):(R.book e).events=R.events++[e]:=by
 obtain ⟨s,hs⟩:=RS.see_eq (R.add e) e
 have h1:((R.add e).see e).events=R.events++[e]:=by rw [hs]; rfl
 unfold RS.book
 generalize (R.add e).see e=S at h1
 have h2:(S.sw e).events=R.events++[e]:=by rw [←h1]; exact RS.sw_all (Q:=fun x=>x.events=S.events) S e rfl rfl rfl rfl rfl rfl rfl rfl (fun _ _ _=>rfl) rfl rfl rfl
 rw [←h2]; unfold RS.close; split<;>rfl
theorem RS.Le.book {R:RS} (h:R.Le) (e:Ev):(R.book e).Le:=by
 have he:=RS.book_events R e
 obtain ⟨s,hs⟩:=RS.see_eq (R.add e) e
 obtain ⟨a,t,k,u⟩:=h
 have l1:(R.events++[e]).length=R.events.length+1:=by simp
 have h1:((R.add e).see e).acts.length≤R.events.length∧((R.add e).see e).timers.length≤R.events.length∧((R.add e).see e).kids.length≤R.events.length∧((R.add e).see e).updates.length≤R.events.length:=by rw [hs]; exact ⟨a,t,k,u⟩
 have h2:(((R.add e).see e).sw e).acts.length≤R.events.length+1∧(((R.add e).see e).sw e).timers.length≤R.events.length+1∧(((R.add e).see e).sw e).kids.length≤R.events.length+1∧(((R.add e).see e).sw e).updates.length≤R.events.length+1:=by
  generalize (R.add e).see e=S at h1 ⊢
  obtain ⟨a,t,k,u⟩:=h1
  refine RS.sw_all (Q:=fun x=>x.acts.length≤R.events.length+1∧x.timers.length≤R.events.length+1∧x.kids.length≤R.events.length+1∧x.updates.length≤R.events.length+1) S e ?_ ?_ ?_ ?_ ?_ ?_ ?_ ?_ ?_ ?_ ?_ ?_
  all_goals first
   | exact ⟨by omega,by omega,by omega,by omega⟩
   | (simp only [List.length_append,List.length_singleton]; exact ⟨by omega,by omega,by omega,by omega⟩)
   | exact ⟨Nat.le_trans (List.length_filter_le _ _) (Nat.le_succ_of_le a),Nat.le_succ_of_le t,Nat.le_succ_of_le k,Nat.le_succ_of_le u⟩
   | exact ⟨Nat.le_succ_of_le a,Nat.le_trans (List.length_filter_le _ _) (Nat.le_succ_of_le t),Nat.le_succ_of_le k,Nat.le_succ_of_le u⟩
   | (simp only [List.length_map]; exact ⟨by omega,by omega,by omega,by omega⟩)
   | (intro _ _ _; simp only [List.length_map]; exact ⟨by omega,by omega,by omega,by omega⟩)
 have h3:(R.book e).acts.length≤R.events.length+1∧(R.book e).timers.length≤R.events.length+1∧(R.book e).kids.length≤R.events.length+1∧(R.book e).updates.length≤R.events.length+1:=by
  unfold RS.book RS.close
  generalize ((R.add e).see e).sw e=S at h2
  split
  ·exact ⟨Nat.zero_le _,Nat.zero_le _,h2.2.2.1,h2.2.2.2⟩
  ·exact h2
 refine ⟨?_,?_,?_,?_⟩<;>rw [he,l1]
 ·exact h3.1
 ·exact h3.2.1
 ·exact h3.2.2.1
 ·exact h3.2.2.2
theorem RS.all_le {R:RS} (h:R.Le) (l:List Ev):(R.all l).1.Le∧(R.all l).1.events=R.events++l:=by
 have:∀(l:List Ev) (z:RS×List OutM),z.1.Le→(l.foldl RS.step2 z).1.Le∧(l.foldl RS.step2 z).1.events=z.1.events++l:=fun l=>by
  induction l with
  | nil=>intro z hz; exact ⟨hz,by simp⟩
  | cons e l ih =>
   intro z hz
   obtain ⟨h1,h2⟩:=ih (RS.step2 z e) (hz.book e)
   refine ⟨h1,?_⟩
   rw [List.foldl_cons,h2]
   show (z.1.book e).events++l=_
   rw [RS.book_events,List.append_assoc]; rfl
 exact this l _ h
section
variable {G0 G H H':Heap} {b:Nat} {sl:Nat→SlH} {R:RS} {q:SlH} {sz:Nat} {cs:List Value}
def addB (G H:Heap) (q:SlH):Heap:=fun i=>if q.blk=some i then H i else G i
theorem addB_sub (hd:Hand G H q sz cs):Sub G (addB G H q)∧Sub (addB G H q) H:=⟨⟨fun i o h=>by
 unfold addB; split
 ·rename_i e; rw [hd.free i e] at h; cases h
 ·exact h⟩,⟨fun i o h=>by
 unfold addB at h; split at h
 ·exact h
 ·exact hd.g.sub i o h⟩⟩
theorem addB_hand (hd:Hand G H q sz cs):Hand G (addB G H q) q sz cs:=⟨(addB_sub hd).1,hd.sl.mono fun i hi=>by unfold addB; rw [if_pos hi],hd.free⟩
theorem RunX.beside (h:RunX G H b sl R) (hd:Hand H H' q sz cs):RunX (addB G H' q) H' b sl R∧Hand G (addB G H' q) q sz cs:=by
 have hg:Hand G H' q sz cs:=⟨h.gh.trans hd.g,hd.sl,fun i hi=>none_below h.gh (hd.free i hi)⟩
 refine ⟨(h.grow hd.g).know (addB_sub hg).2 fun i hi=>?_,addB_hand hg⟩
 unfold addB at hi
 split at hi
 ·rename_i e
  have hn:=h.new_free (c:=0) (hd.free i e)
  refine .inr ⟨hn.2.1,fun c hc hb=>?_⟩
  have:=(h.ok c hc).blk_some hb
  rw [hd.free i e] at this; cases this
 ·exact .inl hi
theorem RunX.pushH (h : RunX G H b sl R) (hd : Hand G0 G q sz cs) {e : TypeId} {bytes : Nat} {new : List Value} {k : Nat} (hk : new.length=k*sz) (h1 : allOne new=true) (hb : (q.n+k)*bytes≤140737488355328) (hl : q.n+k≤9223372036854775807)
  {K:Option Addr→Nat→Nat→Heap→Prop} (r:∀A' c' G' H',RunX G' H' b sl R→Hand G0 G' ⟨A',q.n+k,c'⟩ sz (cs++new)→K A' (q.n+k) c' H'):appC e sz bytes H q.A q.n q.c new k K:=by
 have ok:=hd.sl
 have okH:=ok.sub h.gh
 have hlen:=ok.len
 refine ⟨⟨cs,okH.src,ok.len,hk,h1,hb,hl,fun hcap=>?_,fun hcap i cap rest hbn hle hr=>?_⟩⟩
 ·rcases ok.at_ with ⟨a1,a2,a3⟩|⟨i,off,cur,T,a1,a2,a3,a4⟩
  ·left
   have k0:k=0:=by omega
   subst k0
   have hn:new=[]:=List.length_eq_zero_iff.1 (by omega)
   subst hn
   refine ⟨rfl,r _ _ _ _ h ⟨hd.g,⟨by rw [List.append_nil]; simpa using ok.len,hcap,.inl ⟨a1,by simp only; omega,a3⟩⟩,fun i hi=>?_⟩⟩
   unfold SlH.blk at hi; simp only at hi; rw [a1] at hi; cases hi
  ·right
   have hsz:(off+q.n*sz)+new.length≤cur.size:=by
    have:(q.n+k)*sz≤q.c*sz:=Nat.mul_le_mul_right _ hcap
    rw [Nat.add_mul] at this
    omega
   have hblk:q.blk=some i:=by unfold SlH.blk; rw [a1]; rfl
   refine ⟨⟨i,off,none⟩,cur,T,a1,rfl,h.gh.sub _ _ a2,hsz,r _ _ _ _ (h.turn a2 _) ⟨base_upd hd.g (hd.free i hblk) _,⟨?_,hcap,.inr ⟨i,off,_,T,a1,Heap.upd_same,?_,fun j v hv=>?_⟩⟩,fun b' hb'=>?_⟩⟩
   ·rw [List.length_append,hlen,hk,Nat.add_mul]
   ·rw [splice_size hsz]; exact a3
   ·by_cases hj:j<q.n*sz
    ·rw [List.getElem?_append_left (by omega)] at hv
     rw [splice_get hsz,if_pos (by omega)]; exact a4 j v hv
    ·have hlt:=get_lt hv
     rw [List.length_append] at hlt
     rw [List.getElem?_append_right (by omega),hlen] at hv
     rw [splice_get hsz,if_neg (by omega),if_pos (by omega)]
     rw [←hv]; congr 1; omega
   ·unfold SlH.blk at hb'; simp only at hb'; rw [a1] at hb'; cases hb'
    exact hd.free i hblk
 ·have hGn:=none_below h.gh hbn
  refine r _ _ _ _ (h.ext hbn _) ⟨hd.g.trans (Sub.upd_new hGn),⟨by rw [List.length_append,ok.len,hk,Nat.add_mul],hle,.inr ⟨i,0,_,e,rfl,Heap.upd_same,?_,fun j v hv=>?_⟩⟩,fun b' hb'=>?_⟩
  ·simp only [List.size_toArray,List.length_append,ok.len,hk,hr]
   rw [←Nat.add_mul,←Nat.add_mul]
   have:q.n+k+(cap-(q.n+k))=cap:=by omega
   rw [this]; simp
  ·have hj:=get_lt hv
   simp only [List.getElem?_toArray,Nat.zero_add]
   rw [List.getElem?_append_left hj]; exact hv
  ·unfold SlH.blk at hb'; simp only at hb'; cases hb'
   exact none_below hd.g hGn
theorem cutN_cells {H5 H:Heap} {i:Nat} {c:Array Value} {T:TypeId} {f:Nat×Nat} (h:H i=some (.cells c T f)):cutN H5 H i=some (.cells c T f):=by unfold cutN; rw [h]; rfl
theorem SlOk.cells {H:Heap} {h:SlH} {sz:Nat} {cs:List Value} (k:SlOk H h sz cs) {i:Nat} (hi:h.blk=some i):∃c T,H i=some (.cells c T (0,0)):=by
 rcases k.at_ with a|⟨b',off,cur,T,a1,a2,_⟩
 ·unfold SlH.blk at hi; rw [a.1] at hi; cases hi
 ·unfold SlH.blk at hi; rw [a1] at hi; cases hi; exact ⟨cur,T,a2⟩
theorem RunX.cut (h:RunX G H b sl R) (hd:Hand G0 G q sz cs) {H5:Heap} (hs:Sub G0 H5):∃G',RunX G' (cutN H5 H) b sl R∧Hand G0 G' q sz cs:=by
 have w:=h.weaken (addB_sub hd).2
 refine ⟨addB G0 G q,w.frame ⟨fun i o ho=>?_⟩ fun i hn hsome hi=>⟨hn,?_⟩,addB_hand hd⟩
 ·unfold addB at ho
  split at ho
  ·rename_i e
   obtain ⟨c,T,hc⟩:=SlOk.cells hd.sl e
   rw [hc] at ho; cases ho
   exact cutN_cells (h.gh.sub _ _ hc)
  ·exact (cutN_keep hs (hd.g.trans h.gh)).sub i o ho
 ·rcases hi with rfl|⟨c,hc,hb⟩
  ·rw [h.hb]; exact cutN_cells h.hb
  ·obtain ⟨cc,T,hcc⟩:=SlOk.cells (h.ok c hc) hb
   rw [hcc]; exact cutN_cells hcc
end
theorem outs_one:∀l:List OutM,allOne (l.flatMap OutM.cells)=true
 | []=>rfl
 | x::l=>by rw [List.flatMap_cons]; exact outs_one l
theorem RS.tells_len (R:RS) (e:Ev):(R.tells e).length≤1:=by
 unfold RS.tells
 have c:∀{P:Prop} [Decidable P] {x y:List OutM},x.length≤1→y.length≤1→(if P then x else y).length≤1:=fun h1 h2=>by split; exact h1; exact h2
 exact c (Nat.le_refl _) (c (Nat.le_refl _) (c (Nat.le_refl _) (c (Nat.le_refl _) (Nat.zero_le _))))
theorem RS.all_tells (R:RS) (l:List Ev):(R.all l).2.length≤l.length:=by
 have:∀(l:List Ev) (z:RS×List OutM),(l.foldl RS.step2 z).2.length≤z.2.length+l.length:=fun l=>by
  induction l with
  | nil=>intro z; exact Nat.le_refl _
  | cons e l ih =>
   intro z
   have h1:=ih (RS.step2 z e)
   have h2:=z.1.tells_len e
   have h3:(RS.step2 z e).2.length=z.2.length+(z.1.tells e).length:=List.length_append
   rw [List.foldl_cons,List.length_cons]; omega
 have:=this l (R,[])
 unfold RS.all
 simpa using this
section
variable {p:Prg} {G H:Heap} {m:Nat} {pf po:SlH} {sl:Nat→SlH} {F:Heap} {ex:Value} {st:List SlH} {s:VS}
structure TaskH (p:Prg) (G:Heap) (s:VS) (now draw:Int) (v:Value) (H':Heap):Prop where
 out:∃A n c G',v=.tuple #[.slice A n c,.int .i64 (s.Task p now draw).1.2]∧Hand G G' ⟨A,n,c⟩ 9 ((s.Task p now draw).1.1.flatMap Ev.cells)∧Sub G' H'
theorem h56 (okp : Okp p) (h : VMX G H m pf po sl F ex st s) (pr : HasP (dif F G) pf.A pf.n po.A po.n p) (iv : Inv p s) (hx : s.expect=none) (now draw : Int) :
  Tr Tryz.prog 56 #[.pointer (some ⟨m,0,none⟩),.int .i64 now,.int .i64 draw] H fun v H'=>TaskH p G s now draw v H':=by
 have gh:=h.gf.trans h.fh
 have bad:∀(k:Int),s.taskE now=k→k≠0→TaskH p G s now draw (.tuple #[.slice none 0 0,.int .i64 k]) H:=fun k hk h0=>by
  have e:s.Task p now draw=(([],k),s):=by rw [Task_eq,hk,if_pos h0]
  refine ⟨none,0,0,G,?_,?_,gh⟩
  ·rw [e]
  ·rw [e]; exact Hand.nil (Sub.refl _) 9
 apply v56; unfold F56
 refine ⟨fun e=>⟨_,fun _=>rfl,s.over,fun _=>h.c27,fun eo=>?_,fun eo=>?_⟩,fun e=>⟨_,rfl,s.over,h.c27,fun eo=>?_,fun eo=>⟨_,rfl,s.count,h.c30,fun e0=>?_,fun e0=>⟨_,rfl,s.count,h.c30,fun e4=>?_,fun e4=>⟨_,rfl,?_⟩⟩⟩⟩⟩
 ·have e:(decide (now<0)||decide (now>1099511627776))=true:=by simpa using e
  have eo:s.over=true:=by simpa using eo
  exact bad 46 (by unfold VS.taskE; rw [if_pos e,if_pos eo]) (by decide)
 ·have e:(decide (now<0)||decide (now>1099511627776))=true:=by simpa using e
  have eo:s.over=false:=by simpa using eo
  exact bad 42 (by unfold VS.taskE; rw [if_pos e,if_neg (by rw [eo]; simp)]) (by decide)
 all_goals have e:(decide (now<0)||decide (now>1099511627776))=false:=by simpa using e
 ·exact bad 46 (by unfold VS.taskE; rw [if_neg (by rw [e]; simp),if_pos eo]) (by decide)
 ·exact bad 54 (by unfold VS.taskE; rw [if_neg (by rw [e]; simp),if_neg (by rw [eo]; simp),if_pos e0]) (by decide)
 ·exact bad 49 (by unfold VS.taskE; rw [if_neg (by rw [e]; simp),if_neg (by rw [eo]; simp),if_neg (by rw [e0]; simp),if_pos e4]) (by decide)
 ·have ht:s.taskE now=0:=by unfold VS.taskE; rw [if_neg (by rw [e]; simp),if_neg (by rw [eo]; simp),if_neg (by rw [e0]; simp),if_neg (by rw [e4]; simp)]
  have eT:s.Task p now draw=((((s.ready_ draw).task p now).made,0),(s.ready_ draw).task p now):=by rw [Task_eq,if_neg (by rw [ht]; simp)]
  have hex:=h.exNil hx
  subst hex
  refine h.wr (k:=33) (by decide) { s with draws:=IntKind.u64.wrap draw } rfl rfl rfl rfl rfl rfl rfl rfl h.vars h.attrs fun H1 v1=>⟨_,rfl,?_⟩
  refine v1.wr (k:=34) (by decide) (s.ready_ draw) rfl rfl rfl rfl rfl rfl rfl hx.symm h.vars h.attrs fun H2 v2=>?_
  have tk:=ready_tasks ht draw
  have iv2:=ready_inv iv draw
  have h0:=begin_inv iv2 tk now
  have iv3:=((task_steps okp iv2 tk now).inv h0.1 h0.2).1
  have hmd:=iv3.made
  have hc3:=iv3.c0
  refine (t68 okp v2 pr iv2 tk now).mono fun v H3 ⟨hv,w⟩=>?_
  obtain ⟨sl3,F3,st3,v3,pr3⟩:=w.out
  have hml:=v3.madeLen
  have hmc:contC sl3 st3 ((s.ready_ draw).task p now) 5=((s.ready_ draw).task p now).made.flatMap Ev.cells:=rfl
  have ok5:=v3.ok 5 (by decide)
  rw [hmc] at ok5
  have hsz:(((s.ready_ draw).task p now).made.flatMap Ev.cells).length=(sl3 5).n*9:=ok5.len
  refine ⟨hv,_,rfl,_,_,_,v3.c32,⟨⟨_,ok5.src,hsz,?_⟩⟩⟩
  refine v3.side (q:=⟨none,0,0⟩) (Side.nil v3.gf 9) (k:=(sl3 5).n) hsz (evs_one _) (by show (0+(sl3 5).n)*72≤_; omega) (by show 0+(sl3 5).n≤_; omega) fun A' c' G4 F4 H4 v4 sd=>?_
  refine ⟨A',0+(sl3 5).n,c',G4,?_,?_,v4.gf.trans v4.fh⟩
  ·rw [eT]
  ·rw [eT]; exact ⟨sd.g,sd.sl,fun i hi=>none_below v3.gf (sd.free i hi)⟩
structure Rep (p:Prg) (h:List Ev) (s:VS):Prop where
 st:stand h=h.length
 at_:∃j k,repN p h j=.inr (k,s)∧h.length≤k
 ok:∀j k t,repN p h j=.inr (k,t)→k<h.length→RepIn p h k t
 inv:Inv p s
 x:s.expect=none
theorem Rep.run {p:Prg} {h:List Ev} {s:VS} (r:Rep p h s) {H0:Heap} {v:Value} {H':Heap} (q:RepR p h H0 v H'):∃m pf po,v=.tuple #[.pointer (some ⟨m,0,none⟩),.int .i64 0,.int .i64 0]∧VMP p H0 H' m pf po .nilFunc s:=by
 obtain ⟨j0,k0,e0,hk0⟩:=r.at_
 rcases q.out with ⟨j,a,hj,-,-⟩|⟨j,k,s',m,pf,po,hj,hk,hv,w⟩
 ·exfalso
  have e1:=repN_inl hj j0
  have e2:=repN_inr e0 hk0 j
  rw [Nat.add_comm,e1] at e2
  cases e2
 ·have e1:=repN_inr hj hk j0
  have e2:=repN_inr e0 hk0 j
  rw [Nat.add_comm,e1] at e2
  cases e2
  exact ⟨m,pf,po,hv,w⟩
end
def lastT (l:List Ev):Int:=((l.getLast?).map Ev.time).getD 0
def RS.Task (R:RS) (p:Prg) (s:VS) (now draw next:Int):(List OutM×Int)×RS :=
 if (decide (now<0)||decide (now>1099511627776)||decide ((R.events.length:Int)>0)&&decide (now<lastT R.events))=true then (([],42),R) else
 if (!(R.status==1))=true then (([],46),R) else
 if decide ((R.events.length:Int)>254)=true then ((R.tells (fullM ((R.events.length:Int)+1) now),49),R.book (fullM ((R.events.length:Int)+1) now)) else
 if (s.Task p now draw).1.2≠0 then (([],(s.Task p now draw).1.2),R) else
 (((R.all ((s.Task p now draw).1.1.map (fixN next))).2,0),(R.all ((s.Task p now draw).1.1.map (fixN next))).1)
structure TkR (G:Heap) (b:Nat) (z:(List OutM×Int)×RS) (v:Value) (H':Heap):Prop where
 out:∃A n c,v=.tuple #[.slice A n c,.int .i64 z.1.2]∧RunE G H' b z.2∧n=z.1.1.length∧Src H' A (z.1.1.flatMap OutM.cells)
structure RTk (G5:Heap) (b:Nat) (R:RS) (rows:List Ev) (next:Int) (pre:List Nat) (A:Option Addr) (n c:Nat) (H1:Heap):Prop where
 out:∃G2 sl,RunX G2 H1 b sl (R.all (pre.map fun i=>fixN next ((rows[i]?).getD Ev.zero))).1∧Hand G5 G2 ⟨A,n,c⟩ 7 ((R.all (pre.map fun i=>fixN next ((rows[i]?).getD Ev.zero))).2.flatMap OutM.cells)
theorem range_map {l:List Ev} {f:Ev→Ev}:(ofY l []).map (fun i=>f ((l[i]?).getD Ev.zero))=l.map f:=by
 have h0:ofY l []=List.range l.length:=by
  unfold ofY ofU
  have h1:(List.finRange l.length).take l.length=List.finRange l.length:=by rw [List.take_of_length_le]; simp
  rw [h1,List.filter_eq_self.2 (fun i _=>by unfold hasM; simp)]
  apply List.ext_getElem
  ·simp
  ·intro i h1 h2; simp
 rw [h0]
 apply List.ext_getElem?
 intro j
 rw [List.getElem?_map,List.getElem?_map]
 by_cases hj:j<l.length
 ·obtain ⟨x,hx⟩:=get_some (l:=l) (i:=j) hj
  rw [List.getElem?_range hj,hx,Option.map_some,Option.map_some,hx]; rfl
 ·rw [List.getElem?_eq_none (by simp; omega),List.getElem?_eq_none (by omega)]; rfl
theorem fixN_kind (next:Int) (x:Ev):(fixN next x).kind=x.kind∧(fixN next x).a=x.a:=by unfold fixN; split<;>exact ⟨rfl,rfl⟩
theorem lastT_snoc {l:List Ev} {x:Ev} (h:l[l.length-1]?=some x):lastT l=x.time:=by
 unfold lastT
 rw [List.getLast?_eq_getElem?,h]; rfl
theorem tk_round {G5 H5 H1 : Heap} {b : Nat} {R : RS} {rows : List Ev} {next : Int} (le : R.Le) (hl : R.events.length≤1000) (hrl : rows.length≤256) (hs : Sub G5 H5) {pre : List Nat} {i : Nat} (hp : pre.length<rows.length) {x : Ev} (hx : rows[i]?=some x) (h10 : x.kind=10→0≤x.a∧x.a<4) {A : Option Addr} {n c : Nat} (r : RTk G5 b R rows next pre A n c H1) :
  Tr Tryz.prog 43 #[.pointer (some ⟨b,0,none⟩),(fixN next x).val] H1 fun v H6=>∃A' n' c',v=.slice A' n' c'∧appS 160 7 56 H6 A n c A' n' fun A'' n'' c'' H7=>RTk G5 b R rows next (pre++[i]) A'' n'' c'' (cutN H5 H7)∧Sub G5 H7:=by
 obtain ⟨G2,sl2,x2,hd⟩:=r.out
 have hmap:(pre++[i]).map (fun i=>fixN next ((rows[i]?).getD Ev.zero))=pre.map (fun i=>fixN next ((rows[i]?).getD Ev.zero))++[fixN next x]:=by rw [List.map_append,List.map_singleton,hx]; rfl
 have hal:=RS.all_le le (pre.map fun i=>fixN next ((rows[i]?).getD Ev.zero))
 have htl:=R.all_tells (pre.map fun i=>fixN next ((rows[i]?).getD Ev.zero))
 have hsn:=R.all_snoc (pre.map fun i=>fixN next ((rows[i]?).getD Ev.zero)) (fixN next x)
 have hpl:(pre.map fun i=>fixN next ((rows[i]?).getD Ev.zero)).length=pre.length:=List.length_map _
 rw [←hmap] at hsn
 have hn:=hd.flen (cells:=OutM.cells) (fun _=>rfl) (by decide)
 have hn:n=(R.all (pre.map fun i=>fixN next ((rows[i]?).getD Ev.zero))).2.length:=hn
 have gd:RTk G5 b R rows next (pre++[i])=fun A n c H1=>RTk G5 b R rows next (pre++[i]) A n c H1:=rfl
 have fin:∀{G3 H7:Heap} {sl3:Nat→SlH} {A':Option Addr} {n' c':Nat},RunX G3 H7 b sl3 ((R.all (pre.map fun i=>fixN next ((rows[i]?).getD Ev.zero))).1.book (fixN next x))→Hand G5 G3 ⟨A',n',c'⟩ 7 (((R.all (pre.map fun i=>fixN next ((rows[i]?).getD Ev.zero))).2++(R.all (pre.map fun i=>fixN next ((rows[i]?).getD Ev.zero))).1.tells (fixN next x)).flatMap OutM.cells)→RTk G5 b R rows next (pre++[i]) A' n' c' (cutN H5 H7)∧Sub G5 H7:=fun {G3 H7 sl3 A' n' c'} x3 hd3=>by
  obtain ⟨G4,x4,hd4⟩:=x3.cut hd3 hs
  exact ⟨⟨G4,sl3,by rw [hsn]; exact x4,by rw [hsn]; exact hd4⟩,hd3.g.trans x3.gh⟩
 have hk10:(fixN next x).kind=10→0≤(fixN next x).a∧(fixN next x).a<4:=by rw [(fixN_kind next x).1,(fixN_kind next x).2]; exact h10
 generalize fixN next x=y at hk10 fin ⊢
 generalize (R.all (pre.map fun i=>fixN next ((rows[i]?).getD Ev.zero))).2=outs at hd htl hn fin
 generalize (R.all (pre.map fun i=>fixN next ((rows[i]?).getD Ev.zero))).1=R1 at x2 hal fin
 have hlen:R1.events.length≤1000000:=by rw [hal.2,List.length_append,hpl]; omega
 refine (t43 x2 (hal.1.small hlen) y hk10).mono fun v H6 ⟨A',n',c',hv,⟨sl3,x3⟩,hn',hsrc⟩=>⟨A',n',c',hv,⟨_,hsrc,?_,?_⟩⟩
 ·rw [flat_size (cells:=OutM.cells) (sz:=7) (fun _=>rfl),hn']
 ·have ht1:=R1.tells_len y
  refine x3.pushH hd (k:=n') ?_ (outs_one _) (by show (n+n')*56≤_; omega) (by show n+n'≤_; omega) fun A'' c'' G3 H7 x7 hd7=>?_
  ·rw [flat_size (cells:=OutM.cells) (sz:=7) (fun _=>rfl),hn']
  ·refine fin x7 ?_
   rw [List.flatMap_append]; exact hd7
theorem t18 {G H : Heap} {b : Nat} {sl : Nat→SlH} {R : RS} (h : RunX G H b sl R) (le : R.Le) (hl : R.events.length≤1000) {fA oA : Option Addr} {fn fc on oc : Nat} {p : Prg} (ok : Okp p) (hp : HasP H fA fn oA on p) {s : VS} (now draw next : Int)
  (rep:R.status=1→R.events.length≤254→Rep p R.events s) (h10:∀x∈(s.Task p now draw).1.1,x.kind=10→0≤x.a∧x.a<4) (hrl:(s.Task p now draw).1.1.length≤256) :
  Tr Tryz.prog 18 #[.pointer (some ⟨b,0,none⟩),.agg #[.slice fA fn fc,.slice oA on oc],.int .i64 now,.int .i64 draw,.int .i64 next] H fun v H'=>TkR G b (R.Task p s now draw next) v H':=by
 have l0:=h.len0
 have he:HasEvs H (sl 0).A (sl 0).n R.events:=hand_evs (h.ok 0 (by decide))
 have bad:∀{k:Int} {H':Heap},R.Task p s now draw next=(([],k),R)→Sub H H'→TkR G b (R.Task p s now draw next) (.tuple #[.slice none 0 0,.int .i64 k]) H':=fun e s'=>by rw [e]; exact ⟨none,0,0,rfl,(h.grow s').e,rfl,.inl rfl⟩
 apply v18; unfold F18
 -- the time
 have hlast:∃a3:Addr,(decide (((sl 0).n:Int)>0)=true→(sl 0).A=some a3∧0≤IntKind.i64.wrap (((sl 0).n:Int)-1)∧IntKind.i64.wrap (((sl 0).n:Int)-1)<((sl 0).n:Int))∧(decide (((sl 0).n:Int)>0)=true→At H ((a3.add ((IntKind.i64.wrap (((sl 0).n:Int)-1)).toNat*9)).add 1) [.int .i64 (lastT R.events)]):=by
  rcases Nat.eq_zero_or_pos R.events.length with q|q
  ·exact ⟨⟨0,0,none⟩,fun e=>absurd (of_decide_eq_true e) (by omega),fun e=>absurd (of_decide_eq_true e) (by omega)⟩
  ·obtain ⟨x,hx⟩:=get_some (l:=R.events) (i:=R.events.length-1) (by omega)
   obtain ⟨a,ha,hat⟩:=he.at_ _ _ hx
   have hw:IntKind.i64.wrap (((sl 0).n:Int)-1)=(R.events.length:Int)-1:=by rw [wrapi (by omega) (by omega),l0]
   rw [hw,lastT_snoc hx,show ((R.events.length:Int)-1).toNat=R.events.length-1 by omega]
   exact ⟨a,fun _=>⟨ha,by omega,by omega⟩,fun _=>at_one 1 hat rfl⟩
 obtain ⟨a3,ha3,hx3⟩:=hlast
 have c15:=h.cell (k:=15) rfl
 have hb2:∀{q r:Bool},(q&&r)=true→r=true:=fun {q r} e=>by cases q<;>simp_all
 refine ⟨⟨b,0,none⟩,fun _=>rfl,_,_,_,fun _=>c15,⟨b,0,none⟩,fun _=>rfl,_,_,_,fun _=>c15,⟨b,0,none⟩,fun _=>rfl,_,_,_,fun _=>c15,a3,fun e=>ha3 (hb2 e),lastT R.events,fun e=>hx3 (hb2 e),fun q=>?_,fun q=>?_⟩
 ·refine bad ?_ (Sub.refl _)
  unfold RS.Task
  rw [if_pos (by rw [←l0]; simpa using q)]
 have q1:¬(decide (now<0)||decide (now>1099511627776)||decide ((R.events.length:Int)>0)&&decide (now<lastT R.events))=true:=by
  rw [←l0]
  have q:(decide (now<0)||decide (now>1099511627776)||decide (((sl 0).n:Int)>0)&&decide (now<lastT R.events))=false:=by simpa using q
  rw [q]; decide
 have e1 : R.Task p s now draw next=if (!(R.status==1))=true then (([], 46), R) else if decide ((R.events.length : Int)>254)=true then ((R.tells (fullM ((R.events.length : Int)+1) now), 49), R.book (fullM ((R.events.length : Int)+1) now)) else
   if (s.Task p now draw).1.2≠0 then (([],(s.Task p now draw).1.2),R) else (((R.all ((s.Task p now draw).1.1.map (fixN next))).2,0),(R.all ((s.Task p now draw).1.1.map (fixN next))).1):=by
  conv=>lhs; unfold RS.Task
  rw [if_neg q1]
 refine ⟨_,rfl,_,_,_,_,_,_,_,_,_,_,_,_,_,_,_,_,_,_,_,_,_,_,_,_,_,_,_,_,_,_,h.at,_,t26 sl R H,fun q=>?_,fun q=>⟨_,rfl,_,_,_,c15,fun q2=>?_,fun q2=>⟨_,rfl,_,_,_,c15,?_⟩⟩⟩
 ·exact bad (by rw [e1,if_pos q]) (Sub.refl _)
 ·rw [if_neg (by rw [q]; decide)] at e1
  have q2':decide ((R.events.length:Int)>254)=true:=by rw [←l0]; exact q2
  rw [if_pos q2'] at e1
  have hw:IntKind.i64.wrap (((sl 0).n:Int)+1)=(R.events.length:Int)+1:=by rw [wrapi (by omega) (by omega),l0]
  refine ⟨_,rfl,_,_,_,c15,?_⟩
  rw [hw]
  refine ((t54 ((R.events.length:Int)+1) now H).mono fun v H2 ⟨hv,eH⟩=>⟨_,_,_,_,_,_,_,_,_,hv,?_⟩)
  rw [eH]
  exact (t43 h (le.small (by omega)) (fullM ((R.events.length:Int)+1) now) (fun e=>by cases e)).mono fun v H3 ⟨A,n,c,hv,h3,hn,hs⟩=>⟨A,n,c,hv,by rw [e1]; exact ⟨A,n,c,rfl,h3,hn,hs⟩⟩
 ·have hst:R.status=1:=by simpa using q
  rw [if_neg (by rw [q]; decide)] at e1
  have q2':decide ((R.events.length:Int)>254)=false:=by rw [←l0]; exact q2
  have h254:R.events.length≤254:=by have:=of_decide_eq_false q2'; omega
  rw [if_neg (by rw [q2']; decide)] at e1
  have rp:=rep hst h254
  have hcap:(sl 0).n≤(sl 0).c:=(h.ok 0 (by decide)).cap
  refine (t23 (fc:=fc) (oc:=oc) ok hp he hcap (by omega) rp.st rp.ok).mono fun v H3 rr=>?_
  obtain ⟨m,pf,po,hv,w⟩:=rp.run rr
  refine ⟨_,_,_,hv,fun e=>absurd e (by simp),fun _=>?_⟩
  obtain ⟨slm,Fm,stm,vm,pm⟩:=w.out
  refine (h56 ok vm pm rp.inv rp.x now draw).mono fun v H4 ⟨A,n,c,G4,hv4,hd4,s4⟩=>⟨A,n,c,_,hv4,fun e=>?_,fun e=>?_⟩
  ·have e:(s.Task p now draw).1.2≠0:=by simpa using e
   rw [if_pos e] at e1
   exact bad e1 (hd4.g.trans s4)
  have e0:(s.Task p now draw).1.2=0:=by simpa using e
  rw [if_neg (by rw [e0]; simp)] at e1
  rw [e1]
  generalize (s.Task p now draw).1.1=rows at hd4 h10 hrl ⊢
  have hn:n=rows.length:=hd4.len
  obtain ⟨x4,hg4⟩:=h.beside (hd4.sub s4)
  generalize addB G H4 ⟨A,n,c⟩=G1 at x4 hg4
  apply v42; unfold F42
  intro B1 hB1 Ha ea B2 hB2 H5 e5
  have x5:=x4.ext hB1 (.cells #[.slice A n c] 27 (0,0))
  rw [←ea] at x5
  have x6:=x5.ext hB2 (.cells #[.slice none 0 0] 101 (0,0))
  rw [←e5] at x6
  have hn1:G1 B1=none:=none_below x4.gh hB1
  have hn2:(G1.upd B1 (.cells #[.slice A n c] 27 (0,0))) B2=none:=none_below x5.gh hB2
  have gg:Sub G1 ((G1.upd B1 (.cells #[.slice A n c] 27 (0,0))).upd B2 (.cells #[.slice none 0 0] 101 (0,0))):=(Sub.upd_new hn1).trans (Sub.upd_new hn2)
  have g1:((G1.upd B1 (.cells #[.slice A n c] 27 (0,0))).upd B2 (.cells #[.slice none 0 0] 101 (0,0))) B1=some (.cells #[.slice A rows.length c] 27 (0,0)):=by rw [←hn]; exact (Sub.upd_new hn2).sub _ _ Heap.upd_same
  have g2:((G1.upd B1 (.cells #[.slice A n c] 27 (0,0))).upd B2 (.cells #[.slice none 0 0] 101 (0,0))) B2=some (.cells #[.slice none 0 0] 101 (0,0)):=Heap.upd_same
  generalize ((G1.upd B1 (.cells #[.slice A n c] 27 (0,0))).upd B2 (.cells #[.slice none 0 0] 101 (0,0)))=G5 at x6 gg g1 g2
  have hE:HasEvs G5 A rows.length rows:=by
   have:=(hand_evs (hg4.sub gg).sl)
   have this:HasEvs G5 A n rows:=this
   rw [hn] at this; exact this
  have hK:HasI G5 none 0 []:=⟨rfl,fun i x hx=>by simp at hx⟩
  have hlY:(ofY rows []).length=rows.length:=by
   have:=congrArg List.length (range_map (l:=rows) (f:=id))
   simpa using this
  refine ⟨_,rfl,_,_,⟨rfl,by kernel_rfl⟩,G5,rows.length,evE rows,ofY rows [],x6.gh,it54 g1 g2 hE hK (by omega) (by decide),RTk G5 b R rows next,⟨G5,sl,x6,Hand.nil (Sub.refl _) 7⟩,fun pre i hi hpl A1 n1 c1 H1 r hsub hnc x27 x28 x29 x30 x31 x32 x33 x34 x35 x36 eE=>⟨⟨hnc,hsub⟩,?_⟩,fun A1 n1 c1 H2 r _=>?_⟩
  ·obtain ⟨x,hx⟩:=get_some (l:=rows) (i:=i) hi
   rw [hlY] at hpl
   have core:=tk_round (H5:=H5) le hl hrl x6.gh hpl hx (h10 x (List.mem_of_getElem? hx)) r
   have eE:(((i:Int),((rows[i]?).getD Ev.zero).id,((rows[i]?).getD Ev.zero).time,((rows[i]?).getD Ev.zero).kind,((rows[i]?).getD Ev.zero).a,((rows[i]?).getD Ev.zero).b,((rows[i]?).getD Ev.zero).c,((rows[i]?).getD Ev.zero).d,((rows[i]?).getD Ev.zero).e,((rows[i]?).getD Ev.zero).f,()):Int×Int×Int×Int×Int×Int×Int×Int×Int×Int×PUnit)=(x27,x28,x29,x30,x31,x32,x33,x34,x35,x36,()):=eE
   rw [hx] at eE
   simp only [Option.getD_some,Prod.mk.injEq] at eE
   obtain ⟨rfl,rfl,rfl,rfl,rfl,rfl,rfl,rfl,rfl,rfl,-⟩:=eE
   refine ⟨fun q=>?_,fun q=>?_⟩
   ·have hf:fixN next x={ x with b:=next }:=by unfold fixN; rw [if_pos (by simpa using q)]
    rw [hf] at core
    exact ⟨core,core⟩
   ·have hf:fixN next x=x:=by unfold fixN; rw [if_neg (by simpa using q)]
    rw [hf] at core
    exact ⟨core,core⟩
  ·obtain ⟨G2,sl2,x2,hd⟩:=r.out
   rw [range_map] at x2 hd
   have hn2:=hd.flen (cells:=OutM.cells) (fun _=>rfl) (by decide)
   exact ⟨A1,n1,c1,rfl,(x2.weaken (hg4.g.trans (gg.trans hd.g))).e,hn2,(hd.sl.sub x2.gh).src⟩
set_option linter.unusedVariables false
open IntKind
noncomputable def c40:Cx:={ P:=Tryz.prog,res:=[],pub:=[],loops:=[],quiet:=[86],asm:=true }
def F40 (i:Int) (H:Heap) (K:Value→Heap→Prop):Prop :=
 ∃(s:ByteArray),TrQ Tryz.prog 86 #[i] H (.string s) ∧K (.string s) H

theorem v40 {i:Int} {H:Heap} {K:Value→Heap→Prop} (h:F40 i H K):Tr Tryz.prog 40 #[.int .i64 i] H K :=
 tr_of_eq (C:=c40) Tryz.func40 (by kernel_rfl) h
noncomputable def c86:Cx:={ P:=Tryz.prog,res:=[],pub:=[],loops:=[],quiet:=[129],asm:=true }
def F86 (i:Int) (H:Heap) (K:Value→Heap→Prop):Prop :=
 ∃(s:ByteArray),TrQ Tryz.prog 129 #[i,(10:Int)] H (.string s) ∧K (.string s) H

theorem v86 {i:Int} {H:Heap} {K:Value→Heap→Prop} (h:F86 i H K):Tr Tryz.prog 86 #[.int .i64 i] H K :=
 tr_of_eq (C:=c86) Tryz.func86 (by kernel_rfl) h
noncomputable def c129:Cx:={ P:=Tryz.prog,res:=[],pub:=[5],loops:=[],quiet:=[155,156],asm:=true }
def F129 (i base:Int) (H:Heap) (K:Value→Heap→Prop):Prop:=((base==10)=true→((decide ((0:Int)≤i)&&decide (i<100))=true →
 ∃(s:ByteArray),TrQ Tryz.prog 155 #[i] H (.string s) ∧K (.string s) H) ∧((decide ((0:Int)≤i)&&decide (i<100))=false→∀b,H b=none→∀H1,H1=H.upd b (.cells #[.int .u8 0,.int .u8 0,.int .u8 0,.int .u8 0,.int .u8 0,.int .u8 0,.int .u8 0,.int .u8 0,.int .u8 0,.int .u8 0,.int .u8 0,.int .u8 0,.int .u8 0,.int .u8 0,.int .u8 0,.int .u8 0,.int .u8 0,.int .u8 0,.int .u8 0,.int .u8 0,.int .u8 0,.int .u8 0,.int .u8 0,.int .u8 0] 236)→(decide (i<0)=true→∃(x:Int),TrQ Tryz.prog 156 #[.int .u64 (u64.wrap ((0:Int)-u64.wrap i))] H1 (.int .i64 x) ∧False) ∧(decide (i<0)=false →
 ∃(x1:Int),TrQ Tryz.prog 156 #[.int .u64 (u64.wrap i)] H1 (.int .i64 x1) ∧False))) ∧((base==10)=false→Tr Tryz.prog 158 #[.slice none 0 0,.int .u64 (u64.wrap i),base,.bool (decide (i<0)),.bool false] H fun v3 H'3 =>∃(A:Option Addr) (n c:Nat) (s1:ByteArray),v3=.tuple #[.slice A n c,.string s1] ∧K (.string s1) H'3)

theorem v129 {i base:Int} {H:Heap} {K:Value→Heap→Prop} (h:F129 i base H K):Tr Tryz.prog 129 #[.int .i64 i,.int .i64 base] H K :=
 tr_of_eq (C:=c129) Tryz.func129 (by kernel_rfl) h
noncomputable def c155:Cx:={ P:=Tryz.prog,res:=[],pub:=[],loops:=[],quiet:=[],asm:=true }
def F155 (i:Int) (H:Heap) (K:Value→Heap→Prop):Prop:=(decide (i<10)=true→((0:Int)≤i64.wrap (i+1) ∧
 i64.wrap (i+1)≤(↑({ data:=#[(48:UInt8),(49:UInt8),(50:UInt8),(51:UInt8),(52:UInt8),(53:UInt8),(54:UInt8),(55:UInt8),(56:UInt8),(57:UInt8),(97:UInt8),(98:UInt8),(99:UInt8),(100:UInt8),(101:UInt8),(102:UInt8),(103:UInt8),(104:UInt8),(105:UInt8),(106:UInt8),(107:UInt8),(108:UInt8),(109:UInt8),(110:UInt8),(111:UInt8),(112:UInt8),(113:UInt8),(114:UInt8),(115:UInt8),(116:UInt8),(117:UInt8),(118:UInt8),(119:UInt8),(120:UInt8),(121:UInt8),(122:UInt8)] }:ByteArray).size:Int) ∧(0:Int)≤i ∧i≤i64.wrap (i+1)) ∧
 K (.string (({ data:=#[(48:UInt8),(49:UInt8),(50:UInt8),(51:UInt8),(52:UInt8),(53:UInt8),(54:UInt8),(55:UInt8),(56:UInt8),(57:UInt8),(97:UInt8),(98:UInt8),(99:UInt8),(100:UInt8),(101:UInt8),(102:UInt8),(103:UInt8),(104:UInt8),(105:UInt8),(106:UInt8),(107:UInt8),(108:UInt8),(109:UInt8),(110:UInt8),(111:UInt8),(112:UInt8),(113:UInt8),(114:UInt8),(115:UInt8),(116:UInt8),(117:UInt8),(118:UInt8),(119:UInt8),(120:UInt8),(121:UInt8),(122:UInt8)] }:ByteArray).extract i.toNat (i64.wrap (i+1)).toNat)) H) ∧(decide (i<10)=false→((0:Int)≤i64.wrap (i64.wrap (i*(2:Int))+2) ∧
 i64.wrap (i64.wrap (i*(2:Int))+2)≤(↑({ data:=(([(48:UInt8),(48:UInt8),(48:UInt8),(49:UInt8),(48:UInt8),(50:UInt8),(48:UInt8),(51:UInt8),(48:UInt8),(52:UInt8),(48:UInt8),(53:UInt8),(48:UInt8),(54:UInt8),(48:UInt8),(55:UInt8),(48:UInt8),(56:UInt8),(48:UInt8),(57:UInt8),(49:UInt8),(48:UInt8),(49:UInt8),(49:UInt8),(49:UInt8),(50:UInt8),(49:UInt8),(51:UInt8),(49:UInt8),(52:UInt8),(49:UInt8),(53:UInt8),(49:UInt8),(54:UInt8),(49:UInt8),(55:UInt8),(49:UInt8),(56:UInt8),(49:UInt8),(57:UInt8),(50:UInt8),(48:UInt8),(50:UInt8),(49:UInt8),(50:UInt8),(50:UInt8),(50:UInt8),(51:UInt8),(50:UInt8),(52:UInt8)].append [(50:UInt8),(53:UInt8),(50:UInt8),(54:UInt8),(50:UInt8),(55:UInt8),(50:UInt8),(56:UInt8),(50:UInt8),(57:UInt8),(51:UInt8),(48:UInt8),(51:UInt8),(49:UInt8),(51:UInt8),(50:UInt8),(51:UInt8),(51:UInt8),(51:UInt8),(52:UInt8),(51:UInt8),(53:UInt8),(51:UInt8),(54:UInt8),(51:UInt8),(55:UInt8),(51:UInt8),(56:UInt8),(51:UInt8),(57:UInt8),(52:UInt8),(48:UInt8),(52:UInt8),(49:UInt8),(52:UInt8),(50:UInt8),(52:UInt8),(51:UInt8),(52:UInt8),(52:UInt8),(52:UInt8),(53:UInt8),(52:UInt8),(54:UInt8),(52:UInt8),(55:UInt8),(52:UInt8),(56:UInt8),(52:UInt8),(57:UInt8)]).append ([(53:UInt8),(48:UInt8),(53:UInt8),(49:UInt8),(53:UInt8),(50:UInt8),(53:UInt8),(51:UInt8),(53:UInt8),(52:UInt8),(53:UInt8),(53:UInt8),(53:UInt8),(54:UInt8),(53:UInt8),(55:UInt8),(53:UInt8),(56:UInt8),(53:UInt8),(57:UInt8),(54:UInt8),(48:UInt8),(54:UInt8),(49:UInt8),(54:UInt8),(50:UInt8),(54:UInt8),(51:UInt8),(54:UInt8),(52:UInt8),(54:UInt8),(53:UInt8),(54:UInt8),(54:UInt8),(54:UInt8),(55:UInt8),(54:UInt8),(56:UInt8),(54:UInt8),(57:UInt8),(55:UInt8),(48:UInt8),(55:UInt8),(49:UInt8),(55:UInt8),(50:UInt8),(55:UInt8),(51:UInt8),(55:UInt8),(52:UInt8)].append [(55:UInt8),(53:UInt8),(55:UInt8),(54:UInt8),(55:UInt8),(55:UInt8),(55:UInt8),(56:UInt8),(55:UInt8),(57:UInt8),(56:UInt8),(48:UInt8),(56:UInt8),(49:UInt8),(56:UInt8),(50:UInt8),(56:UInt8),(51:UInt8),(56:UInt8),(52:UInt8),(56:UInt8),(53:UInt8),(56:UInt8),(54:UInt8),(56:UInt8),(55:UInt8),(56:UInt8),(56:UInt8),(56:UInt8),(57:UInt8),(57:UInt8),(48:UInt8),(57:UInt8),(49:UInt8),(57:UInt8),(50:UInt8),(57:UInt8),(51:UInt8),(57:UInt8),(52:UInt8),(57:UInt8),(53:UInt8),(57:UInt8),(54:UInt8),(57:UInt8),(55:UInt8),(57:UInt8),(56:UInt8),(57:UInt8),(57:UInt8)])).toArray }:ByteArray).size:Int) ∧
 (0:Int)≤i64.wrap (i*(2:Int)) ∧i64.wrap (i*(2:Int))≤i64.wrap (i64.wrap (i*(2:Int))+2)) ∧
 K (.string (({ data:=(([(48:UInt8),(48:UInt8),(48:UInt8),(49:UInt8),(48:UInt8),(50:UInt8),(48:UInt8),(51:UInt8),(48:UInt8),(52:UInt8),(48:UInt8),(53:UInt8),(48:UInt8),(54:UInt8),(48:UInt8),(55:UInt8),(48:UInt8),(56:UInt8),(48:UInt8),(57:UInt8),(49:UInt8),(48:UInt8),(49:UInt8),(49:UInt8),(49:UInt8),(50:UInt8),(49:UInt8),(51:UInt8),(49:UInt8),(52:UInt8),(49:UInt8),(53:UInt8),(49:UInt8),(54:UInt8),(49:UInt8),(55:UInt8),(49:UInt8),(56:UInt8),(49:UInt8),(57:UInt8),(50:UInt8),(48:UInt8),(50:UInt8),(49:UInt8),(50:UInt8),(50:UInt8),(50:UInt8),(51:UInt8),(50:UInt8),(52:UInt8)].append [(50:UInt8),(53:UInt8),(50:UInt8),(54:UInt8),(50:UInt8),(55:UInt8),(50:UInt8),(56:UInt8),(50:UInt8),(57:UInt8),(51:UInt8),(48:UInt8),(51:UInt8),(49:UInt8),(51:UInt8),(50:UInt8),(51:UInt8),(51:UInt8),(51:UInt8),(52:UInt8),(51:UInt8),(53:UInt8),(51:UInt8),(54:UInt8),(51:UInt8),(55:UInt8),(51:UInt8),(56:UInt8),(51:UInt8),(57:UInt8),(52:UInt8),(48:UInt8),(52:UInt8),(49:UInt8),(52:UInt8),(50:UInt8),(52:UInt8),(51:UInt8),(52:UInt8),(52:UInt8),(52:UInt8),(53:UInt8),(52:UInt8),(54:UInt8),(52:UInt8),(55:UInt8),(52:UInt8),(56:UInt8),(52:UInt8),(57:UInt8)]).append ([(53:UInt8),(48:UInt8),(53:UInt8),(49:UInt8),(53:UInt8),(50:UInt8),(53:UInt8),(51:UInt8),(53:UInt8),(52:UInt8),(53:UInt8),(53:UInt8),(53:UInt8),(54:UInt8),(53:UInt8),(55:UInt8),(53:UInt8),(56:UInt8),(53:UInt8),(57:UInt8),(54:UInt8),(48:UInt8),(54:UInt8),(49:UInt8),(54:UInt8),(50:UInt8),(54:UInt8),(51:UInt8),(54:UInt8),(52:UInt8),(54:UInt8),(53:UInt8),(54:UInt8),(54:UInt8),(54:UInt8),(55:UInt8),(54:UInt8),(56:UInt8),(54:UInt8),(57:UInt8),(55:UInt8),(48:UInt8),(55:UInt8),(49:UInt8),(55:UInt8),(50:UInt8),(55:UInt8),(51:UInt8),(55:UInt8),(52:UInt8)].append [(55:UInt8),(53:UInt8),(55:UInt8),(54:UInt8),(55:UInt8),(55:UInt8),(55:UInt8),(56:UInt8),(55:UInt8),(57:UInt8),(56:UInt8),(48:UInt8),(56:UInt8),(49:UInt8),(56:UInt8),(50:UInt8),(56:UInt8),(51:UInt8),(56:UInt8),(52:UInt8),(56:UInt8),(53:UInt8),(56:UInt8),(54:UInt8),(56:UInt8),(55:UInt8),(56:UInt8),(56:UInt8),(56:UInt8),(57:UInt8),(57:UInt8),(48:UInt8),(57:UInt8),(49:UInt8),(57:UInt8),(50:UInt8),(57:UInt8),(51:UInt8),(57:UInt8),(52:UInt8),(57:UInt8),(53:UInt8),(57:UInt8),(54:UInt8),(57:UInt8),(55:UInt8),(57:UInt8),(56:UInt8),(57:UInt8),(57:UInt8)])).toArray }:ByteArray).extract (i64.wrap (i*(2:Int))).toNat (i64.wrap (i64.wrap (i*(2:Int))+2)).toNat)) H)

theorem v155 {i:Int} {H:Heap} {K:Value→Heap→Prop} (h:F155 i H K):Tr Tryz.prog 155 #[.int .i64 i] H K :=
 tr_of_eq (C:=c155) Tryz.func155 (by kernel_rfl) h
def s12:ByteArray:=⟨#[49,50]⟩
def s7:ByteArray:=⟨#[55]⟩
theorem small12 (H:Heap):Tr Tryz.prog 155 #[.int .i64 12] H fun v H'=>v=.string s12∧Sub H H':=by
 apply v155; unfold F155
 exact ⟨fun e=>absurd e (by decide),fun _=>⟨by decide +kernel,congrArg Value.string (by kernel_rfl),Sub.refl _⟩⟩
theorem small7 (H:Heap):Tr Tryz.prog 155 #[.int .i64 7] H fun v H'=>v=.string s7∧Sub H H':=by
 apply v155; unfold F155
 exact ⟨fun _=>⟨by decide +kernel,congrArg Value.string (by kernel_rfl),Sub.refl _⟩,fun e=>absurd e (by decide)⟩
theorem itoa_small {i:Int} (h0:0≤i) (h1:i<100) {s:ByteArray} (h:∀H,Tr Tryz.prog 155 #[.int .i64 i] H fun v H'=>v=.string s∧Sub H H') (H:Heap):Tr Tryz.prog 40 #[.int .i64 i] H fun v H'=>v=.string s∧Sub H H':=by
 apply v40; unfold F40
 refine ⟨s,?_,rfl,Sub.refl _⟩
 apply v86; unfold F86
 refine ⟨s,?_,rfl,Sub.refl _⟩
 apply v129; unfold F129
 exact ⟨fun _=>⟨fun _=>⟨s,h H,rfl,Sub.refl _⟩,fun e=>absurd e (by rw [decide_eq_true h0,decide_eq_true h1]; decide)⟩,fun e=>absurd e (by decide)⟩
theorem child_small (H:Heap):Tr Tryz.prog 10 #[.int .i64 12,.int .i64 7] H fun v H'=>v=.string ⟨#[49,50,46,55]⟩∧Sub H H':=by
 apply v10; unfold F10
 exact ⟨s12,itoa_small (by decide) (by decide) small12 H,by decide,s7,itoa_small (by decide) (by decide) small7 H,by decide,congrArg Value.string (by kernel_rfl),Sub.refl _⟩
def smallR:Prg:=⟨[⟨0,0,[(0,4),(21,0),(23,0),(1,0),(36,0)]⟩],[]⟩
theorem t39 (H:Heap):Tr Tryz.prog 39 #[] H (fun v H'=>∃A n c A1 n1 c1,v=.agg #[.slice A n c,.slice A1 n1 c1]∧HasP H' A n A1 n1 smallR∧Sub H H'):=by
 apply v39; unfold F39
 intro b hb H1 e1 b1 hb1 H2 e2
 subst e1 e2
 refine ⟨_,_,_,_,_,_,rfl,⟨?_,⟨rfl,by decide,fun i o h=>by simp [smallR] at h⟩⟩,(Sub.upd_new hb).trans (Sub.upd_new hb1)⟩
 refine hasFns_of (l:=[(⟨0,0,[(0,4),(21,0),(23,0),(1,0),(36,0)]⟩,some ⟨b,0,none⟩,5,5)]) (.inr ⟨_,rfl,(at_new (k:=0) fun j v hv=>?_)⟩) rfl (by decide) fun z hz=>?_
 ·simpa [fnC] using hv
 ·simp at hz; subst hz
  have:HasOps (H.upd b (.cells #[.int .i64 0,.int .i64 4,.int .i64 21,.int .i64 0,.int .i64 23,.int .i64 0,.int .i64 1,.int .i64 0,.int .i64 36,.int .i64 0] 179)) (some ⟨b,0,none⟩) 5 [(0,4),(21,0),(23,0),(1,0),(36,0)] :=
   hasOps_of (.inr ⟨_,rfl,(at_new (k:=0) fun j v hv=>by simpa [opC] using hv)⟩) rfl (by decide)
  exact this.sub (Sub.upd_new hb1)
theorem smallR_ok:Okp smallR:=(check_ok (p:=smallR) (by kernel_rfl)).2
def ev1:Ev:=⟨1,5,1,0,0,0,0,0,0⟩
def tm1:VS:=(VS.init.apply ev1).2
def rows1:List Ev:=[⟨2,5,2,1,0,0,0,0,0⟩,⟨3,5,4,9,0,0,0,0,0⟩]
def ev4:Ev:=⟨4,9,25,3,0,0,0,0,0⟩
def hist4:List Ev:=[ev1]++rows1++[ev4]
def tm2:VS:=((tm1.retask smallR hist4 1 5)).noExp
def tm3:VS:=(tm2.apply ev4).2
def rows2:List Ev:=[⟨5,9,2,4,0,0,0,0,0⟩,⟨6,9,15,0,0,0,0,0,0⟩]
theorem tm1_task:(tm1.Task smallR 5 0).1=(rows1,0):=by kernel_rfl
theorem tm3_task:(tm3.Task smallR 9 0).1=(rows2,0):=by kernel_rfl
theorem tm1_inv:Inv smallR tm1:=apply_inv smallR_ok (init_inv smallR) rfl (e:=ev1)
theorem tm2_ok:Inv smallR tm2:=by
 have tk:Tasks (tm1.exp (cmds (hist4.drop 2))):=⟨by kernel_rfl,by decide +kernel,fun q=>(by cases q),fun l e=>(by cases e; decide +kernel)⟩
 have iv:Inv smallR (tm1.exp (cmds (hist4.drop 2))):=exp_inv tm1_inv (by decide +kernel)
 have r:=(retask_ok smallR_ok iv tk 5).1
 exact ⟨r.scp,r.scn,r.sc32,r.t16,fun t ht=>(r.thr t ht).mono (Nat.le_refl _) (Nat.le_refl _),r.futs,r.fuel,r.many,r.c0,fun l hl=>(by cases hl),r.made,r.sig,r.sg8,r.upd,r.updI,r.v16,r.a4⟩
theorem tm3_inv:Inv smallR tm3:=apply_inv smallR_ok tm2_ok rfl (e:=ev4)
theorem rep1_ok:Rep smallR [ev1] tm1:=by
 have r0:repN smallR [ev1] 0=.inr (0,VS.init):=rfl
 have r1:repN smallR [ev1] 1=.inr (1,tm1):=by kernel_rfl
 refine ⟨by kernel_rfl,⟨1,1,r1,by decide⟩,fun j k t hj hk=>?_,tm1_inv,by kernel_rfl⟩
 cases j with
 | zero =>
  rw [r0] at hj; cases hj
  exact ⟨init_inv smallR,rfl,fun e he h2=>by cases he; cases h2⟩
 | succ j =>
  have:=repN_inr r1 (by decide) j
  rw [Nat.add_comm 1 j,hj] at this
  cases this
  exact absurd hk (by decide)
theorem rep4_ok:Rep smallR hist4 tm3:=by
 have r0:repN smallR hist4 0=.inr (0,VS.init):=rfl
 have r1:repN smallR hist4 1=.inr (1,tm1):=by kernel_rfl
 have r2:repN smallR hist4 2=.inr (3,tm2):=by kernel_rfl
 have r3:repN smallR hist4 3=.inr (4,tm3):=by kernel_rfl
 refine ⟨by kernel_rfl,⟨3,4,r3,by decide⟩,fun j k t hj hk=>?_,tm3_inv,by kernel_rfl⟩
 match j with
 | 0=>rw [r0] at hj; cases hj; exact ⟨init_inv smallR,rfl,fun e he h2=>by cases he; cases h2⟩
 | 1 =>
  rw [r1] at hj; cases hj
  exact ⟨tm1_inv,by kernel_rfl,fun e he h2=>⟨⟨by kernel_rfl,by decide +kernel,fun q=>(by cases q),fun l e=>(by cases e; decide +kernel)⟩,exp_inv tm1_inv (by decide +kernel)⟩⟩
 | 2=>rw [r2] at hj; cases hj; exact ⟨tm2_ok,by kernel_rfl,fun e he h2=>by cases he; cases h2⟩
 | j+3 =>
  have:=repN_inr r3 (by decide) j
  rw [Nat.add_comm 3 j,hj] at this
  cases this
  exact absurd hk (by decide)
def nameA:ByteArray:=⟨#[97]⟩
def run0:RS:=RS.new 3 nameA ⟨0,5,0,0,0,0,0,0,0⟩
def run1:RS:=(run0.Task smallR tm1 5 0 9).2
def firedE:Ev:=⟨0,0,25,3,0,0,0,0,0⟩
def run2:RS:=(run1.Add firedE 9).2
def run3:RS:=(run2.Task smallR tm3 9 0 9).2
theorem run0_ev:run0.events=[ev1]:=by kernel_rfl
theorem run0_le:run0.Le:=⟨by decide +kernel,by decide +kernel,by decide +kernel,by decide +kernel⟩
theorem run1_eq:(run0.Task smallR tm1 5 0 9).1.2=0:=by kernel_rfl
theorem run1_le:run1.Le:=⟨by decide +kernel,by decide +kernel,by decide +kernel,by decide +kernel⟩
theorem run1_ev:run1.events.length=3:=by kernel_rfl
theorem run1_tm:run1.timers=[⟨3,9⟩]:=by kernel_rfl
theorem run1_seen:run1.seen=3:=by kernel_rfl
theorem add1_eq:run1.Add firedE 8=((0,[],54),run1):=by kernel_rfl
theorem add2_eq:(run1.Add firedE 9).1.1=4∧(run1.Add firedE 9).1.2.2=0:=⟨by kernel_rfl,by kernel_rfl⟩
theorem run2_ev:run2.events=hist4:=by kernel_rfl
theorem run2_le:run2.Le:=⟨by decide +kernel,by decide +kernel,by decide +kernel,by decide +kernel⟩
theorem run3_eq:(run2.Task smallR tm3 9 0 9).1.2=0:=by kernel_rfl
theorem run3_ev:run3.events.length=6:=by kernel_rfl
theorem run3_st:run3.status=2:=by kernel_rfl
theorem t9 (H:Heap):Tr Tryz.prog 9 #[] H (fun v H'=>v=.bool true∧Sub H H'):=by
 apply v9; unfold F9
 refine (t21 3 nameA ⟨0,5,0,0,0,0,0,0,0⟩ H).mono fun v H1 ⟨sl0,hv,l0⟩=>?_
 refine ⟨_,_,_,_,_,_,_,_,_,_,_,_,_,_,_,_,_,_,_,_,_,_,_,_,_,_,_,_,_,_,hv,fun b hb H2 e2=>?_⟩
 refine l0.var hb (cur:=rCells slNil RS.zero) rfl e2 fun H3 x3=>?_
 have x3:RunX H H3 b sl0 run0:=x3
 refine (t39 H3).mono fun v H4 ⟨A,n,c,A1,n1,c1,hv,hp,s4⟩=>⟨A,n,c,A1,n1,c1,hv,?_⟩
 have x4:=x3.grow s4
 have h10:∀{l:List Ev},(∀x∈l,x.kind≠10)→∀x∈l,x.kind=10→0≤x.a∧x.a<4:=fun h x hx e=>absurd e (h x hx)
 have e1:(tm1.Task smallR 5 0).1.1=rows1:=by rw [tm1_task]
 have e3:(tm3.Task smallR 9 0).1.1=rows2:=by rw [tm3_task]
 refine (t18 x4 run0_le (by rw [run0_ev]; decide) smallR_ok hp (s:=tm1) 5 0 9 (fun _ _=>by rw [run0_ev]; exact rep1_ok) (h10 (by rw [e1]; decide +kernel)) (by rw [e1]; decide)).mono fun v H5 ⟨A2,n2,c2,hv,⟨sl5,x5⟩,_,_⟩=>⟨A2,n2,c2,_,hv,?_⟩
 have x5:RunX H H5 b sl5 run1:=x5
 have hl2:(sl5 2).n=1:=by rw [x5.len2,run1_tm]; rfl
 obtain ⟨a,ha,hat⟩:=src_elem (cells:=TmM.cells) (sz:=2) (fun _=>rfl) (by decide) (l:=run1.timers) (x5.ok 2 (by decide)).src 0 ⟨3,9⟩ (by rw [run1_tm]; rfl)
 refine ⟨_,_,_,x5.cell (k:=17) rfl,_,_,_,fun _=>x5.cell (k:=17) rfl,a,fun _=>⟨ha,by omega,by omega⟩,9,fun _=>at_one 1 hat rfl,run1.seen,fun _=>x5.cell (k:=9) rfl,fun e=>?_,fun _=>?_⟩
 ·rw [hl2,run1_seen] at e; exact absurd e (by decide)
 refine (t16 x5 (run1_le.small (by rw [run1_ev]; decide)) firedE 8).mono fun v H6 r6=>?_
 rw [add1_eq] at r6
 obtain ⟨A6,n6,c6,hv6,⟨sl6,x6⟩,_,_⟩:=r6.out
 refine ⟨_,_,_,_,_,hv6,(t16 x6 (run1_le.small (by rw [run1_ev]; decide)) firedE 9).mono fun v H7 ⟨A7,n7,c7,hv7,⟨sl7,x7⟩,_,_⟩=>⟨_,_,_,_,_,hv7,?_⟩⟩
 have x7:RunX H H7 b sl7 run2:=x7
 refine (t39 H7).mono fun v H8 ⟨A8,n8,c8,A9,n9,c9,hv,hp8,s8⟩=>⟨A8,n8,c8,A9,n9,c9,hv,?_⟩
 refine (t18 (x7.grow s8) run2_le (by rw [run2_ev]; decide) smallR_ok hp8 (s:=tm3) 9 0 9 (fun _ _=>by rw [run2_ev]; exact rep4_ok) (h10 (by rw [e3]; decide +kernel)) (by rw [e3]; decide)).mono fun v H9 ⟨Ab,nb,cb,hv,⟨sl9,x9⟩,_,_⟩=>⟨Ab,nb,cb,_,hv,?_⟩
 have x9:RunX H H9 b sl9 run3:=x9
 have hl9:(sl9 0).n=6:=by rw [x9.len0,run3_ev]
 refine ⟨_,child_small H9,_,_,_,_,_,_,_,_,_,_,_,_,_,_,_,_,_,_,_,_,_,_,_,_,_,_,_,_,_,_,x9.at,_,t26 sl9 run3 H9,_,_,_,fun _=>x9.cell (k:=15) rfl,?_,x9.gh⟩
 rw [run1_eq,add2_eq.1,add2_eq.2,run3_eq,hl9,run3_st]
 exact congrArg Value.bool (by kernel_rfl)
theorem valid_attr {x:Ev} (hv:validM x=true) (hk:x.kind=10):0≤x.a∧x.a<4:=by
 unfold validM headOk at hv
 rw [hk] at hv
 simp [numOk,fieldsM,tabF,spanM] at hv
 omega
theorem valid_id {x:Ev} (hv:validM x=true):x.id≤256:=by
 unfold validM headOk at hv
 simp only [Bool.and_eq_true,Bool.not_eq_true',Bool.or_eq_false_iff,decide_eq_false_iff_not] at hv
 omega
theorem gram_attr {l:List Ev} (g:Gram l):∀x∈l,x.kind=10→0≤x.a∧x.a<4:=fun x hx hk=>by
 obtain ⟨j,hj⟩:=List.getElem?_of_mem hx
 exact valid_attr (may_head (g j x hj)).1 hk
theorem gram_len {l:List Ev} (g:Gram l):l.length≤256:=by
 rcases Nat.eq_zero_or_pos l.length with h|h
 ·omega
 ·obtain ⟨z,hz⟩:=get_some (l:=l) (i:=l.length-1) (by omega)
  have m:=may_head (g _ z hz)
  have:=valid_id m.1
  have e:=m.2.1
  rw [List.length_take] at e
  omega
def RS.folds (R:RS) (l:List Ev):RS:=l.foldl RS.book R
theorem RS.folds_le:∀(l:List Ev) {R:RS},R.Le→(R.folds l).Le∧(R.folds l).events=R.events++l
 | [],R,h=>⟨h,by simp [RS.folds]⟩
 | e::l,R,h=>by
  have:=RS.folds_le l (h.book e)
  rw [RS.book_events] at this
  refine ⟨this.1,?_⟩
  show (RS.folds (R.book e) l).events=_
  rw [this.2]; simp
theorem RS.new_le (number:Int) (id:ByteArray) (x:Ev):(RS.new number id x).Le:=RS.Le.book ⟨Nat.le_refl _,Nat.le_refl _,Nat.le_refl _,Nat.le_refl _⟩ _
theorem folds_doc (number:Int) (id:ByteArray) {e0:Ev} {t:List Ev} (g:Gram (e0::t)):(RS.new number id e0).folds t=docR number id (e0::t):=by
 have:=docR_fold number id e0 t t.length (Nat.le_refl _) g
 rw [List.take_length] at this
 exact this.symm
def VS.fresh (s:VS):VS:={ s with made:=[] }
theorem CV.fold {h:List Ev} {s:VS} (c:CV h s) {H:List Ev} (ha:attG H=attG (h++s.made)) (hc:∀x∈H,∃y∈h++s.made,y.kind=x.kind∧y.id=x.id) (hn:∀id ks,anyP (h++s.made) id ks=true→anyP H id ks=true):CV H s.fresh:=by
 have e:H++s.fresh.made=H:=List.append_nil H
 refine ⟨by rw [e,ha]; exact c.att,fun o x hx hk=>?_,fun o f hf h0 hd=>?_,c.thf⟩
 ·rw [e] at hx
  obtain ⟨y,hy,q1,q2⟩:=hc x hx
  obtain ⟨f,hf,r1,r2⟩:=c.cov o y hy (by rw [q1]; exact hk)
  exact ⟨f,hf,r1.trans q2,r2.trans q1⟩
 ·rw [e]
  have:=c.don o f hf h0 hd
  exact ⟨fun k=>hn _ _ (this.1 k),fun k=>hn _ _ (this.2 k)⟩
theorem fix7_b {x:Ev} (h:x.kind=10):(fix7 x).b=x.b:=by rw [fix7_ne (by omega)]
theorem attG_fix (h l:List Ev):attG (h++l.map fix7)=attG (h++l):=by
 unfold attG
 rw [List.foldl_append,List.foldl_append,List.foldl_map]
 generalize h.foldl _ _=A
 induction l generalizing A with
 | nil=>rfl
 | cons x l ih =>
  rw [List.foldl_cons,List.foldl_cons,ih]
  congr 1
  rw [fix7_kind,fix7_a]
  split
  ·rename_i k; rw [fix7_b k]
  ·rfl
theorem any_fix (h l:List Ev) (id:Int) (ks:List Int):anyP (h++l.map fix7) id ks=anyP (h++l) id ks:=by
 unfold anyP
 rw [List.any_append,List.any_append,List.any_map]
 congr 1
 congr 1
 funext x
 show (ks.contains (fix7 x).kind&&(fix7 x).a==id)=_
 rw [fix7_kind,fix7_a]
theorem CV.task {h:List Ev} {s:VS} (c:CV h s):CV (h++s.made.map fix7) s.fresh :=
 c.fold (attG_fix h s.made) (fun x hx=>by
  rcases List.mem_append.1 hx with hx|hx
  ·exact ⟨x,List.mem_append_left _ hx,rfl,rfl⟩
  ·obtain ⟨y,hy,rfl⟩:=List.mem_map.1 hx
   exact ⟨y,List.mem_append_right _ hy,(fix7_kind y).symm,(fix7_id y).symm⟩) fun id ks a=>by rw [any_fix]; exact a
theorem future_hit {s:VS} {id:Int} (h0:0≤s.future id) {f:Fut} (hf:s.futures[(s.future id).toNat]?=some f):f.event=id∧f.event≠0:=by
 unfold VS.future at h0 hf
 cases q:scan s.futures.length (s.futHit id) with
 | none=>rw [q] at h0; exact absurd h0 (by decide)
 | some v =>
  rw [q] at h0 hf
  obtain ⟨j,hj,e⟩:=scan_ex q
  unfold VS.futHit at e
  split at e
  ·rename_i g hg
   split at e
   ·rename_i hx
    cases e
    have hf:s.futures[((j:Int)).toNat]?=some f:=hf
    rw [Int.toNat_natCast,hg] at hf
    cases hf
    simp at hx
    exact ⟨hx.2,hx.1⟩
   ·cases e
  ·cases e
theorem setDone_made (s:VS) (m:List Ev) (i v k:Int):(({ s with made:=m }:VS).setDone i v k).fresh=(s.setDone i v k).fresh:=by
 unfold VS.setDone
 show (match s.futures[i.toNat]? with|some f=>_|none=>_:VS).fresh=_
 cases s.futures[i.toNat]? with
 | none=>rfl
 | some f =>
  simp only
  split<;>rfl
theorem isP_one {H:List Ev} {id a b:Int} (ha:isP H id a=true) (hb:isP H id b=true):a=b:=by
 obtain ⟨-,-,x,hx,rfl⟩:=isP_some ha
 obtain ⟨-,-,y,hy,rfl⟩:=isP_some hb
 rw [hx] at hy; cases hy; rfl
theorem CV.apply {h:List Ev} {now:Int} {s:VS} (b:BI h now s) (c:CV h s.fresh) {e:Ev} (hr:s.refuses e=false) (ho:s.over=false) (hg:Gram (h++[e])):CV (h++[e]) (s.counted.applied e).fresh:=by
 have tk:=taken hr
 have go:=b.go ho
 have hout:=tk.out
 have hk:e.kind=1∨e.kind=16∨19≤e.kind:=out_kind hout
 have m:mayP h e=true:=by
  have:=hg h.length e (by simp)
  rw [List.take_left] at this; exact this
 have nm:h≠[]→namesP h e=true:=may_names m
 have h1n:h=[]→e.kind=1:=(may_head m).2.2.2
 have c1:CV h ({ s.counted with made:=[e] }:VS):=c.row (x:=e) (s':={ s.counted with made:=[e] }) rfl rfl rfl rfl (fun o=>o) (by omega) (fun _=>by omega)
 have fin:∀{s':VS},CV h s'→s'.made=[e]→CV (h++[e]) s'.fresh:=fun {s'} c' hm=>c'.fold (by rw [hm]) (fun x hx=>⟨x,by rw [hm]; exact hx,rfl,rfl⟩) fun id ks a=>by rw [hm] at a; exact a
 have same:∀{s':VS},s'.attrs=s.attrs→s'.futures=s.futures→s'.threads=s.threads→(s'.over=false→s.over=false)→CV (h++[e]) s'.fresh:=fun {s'} e1 e2 e3 e4=>by
  have:=fin c1 rfl
  refine ⟨?_,fun o x hx hk=>?_,fun o f hf h0 hd=>?_,?_⟩
  ·show s'.attrs=_; rw [e1]; exact this.att
  ·show ∃f∈s'.futures,_; rw [e2]; exact this.cov (e4 o) x hx hk
  ·have hf:f∈s'.futures:=hf
   rw [e2] at hf
   exact this.don (e4 o) f hf h0 hd
  ·show ∀t∈s'.threads,_→∃f,s'.futures[_]?=_∧_
   rw [e2,e3]; exact this.thf
 have done:∀(v k:Int),19≤e.kind→(∃kd:Int,isP h e.a kd=true∧(kd=3→[6,22,23,24].contains e.kind=true)∧(kd=4→[7,25].contains e.kind=true))→CV (h++[e]) (s.counted.setDone (s.future e.a) v k).fresh:=fun v k _ ⟨kd,hkd,h3,h4⟩=>by
  have c2:CV h (({ s.counted with made:=[e] }:VS).setDone (s.future e.a) v k):=by
   by_cases h0:0≤s.future e.a
   ·refine c1.done _ _ _ fun _ f hf=>?_
    have hf:s.futures[(s.future e.a).toNat]?=some f:=hf
    obtain ⟨q1,q2⟩:=future_hit h0 hf
    have hfk:=(go.fe _ f hf q2).1
    rw [q1] at hfk
    have hkk:=isP_one hfk hkd
    have any:∀ks:List Int,ks.contains e.kind=true→anyP (h++[e]) f.event ks=true:=fun ks hks=>by
     unfold anyP
     rw [List.any_append,List.any_cons,hks,q1]
     simp
    exact ⟨fun z=>any _ (h3 (by omega)),fun z=>any _ (h4 (by omega))⟩
   ·have : ({ s.counted with made := [e] } : VS).setDone (s.future e.a) v k={ s.counted with made := [e] } := by
     rcases setDone_cases ({ s.counted with made:=[e] }:VS) (s.future e.a) v k with q|⟨f,-,q,-⟩
     ·exact q
     ·exact absurd q h0
    rw [this]; exact c1
  have hm:(({ s.counted with made:=[e] }:VS).setDone (s.future e.a) v k).made=[e]:=by
   rcases setDone_cases ({ s.counted with made:=[e] }:VS) (s.future e.a) v k with q|⟨f,-,-,-,q⟩<;>rw [q]
  have:=fin c2 hm
  rw [setDone_made] at this
  exact this
 have hne:e.kind≠1→h≠[]:=fun q z=>q (h1n z)
 unfold VS.applied
 by_cases k1:e.kind=1
 ·rw [if_pos k1]
  have:=fin c1 rfl
  refine ⟨this.att,this.cov,this.don,fun t ht h0=>?_⟩
  have ht:t∈[Thr.new 0 0 e.b (-1) 0]:=ht
  rw [List.mem_singleton] at ht
  subst ht
  exact absurd h0 (by show ¬(0:Int)≤-1; decide)
 rw [if_neg k1]
 have nm:=nm (hne k1)
 unfold namesP at nm
 by_cases k19:e.kind=19
 ·rw [if_pos k19]; exact same rfl rfl rfl (fun o=>o)
 rw [if_neg k19]
 by_cases k20:e.kind=20
 ·rw [if_pos k20]; exact same rfl rfl rfl (fun o=>o)
 rw [if_neg k20]
 by_cases k21:e.kind=21
 ·rw [if_pos k21]; exact same rfl rfl rfl (fun o=>o)
 rw [if_neg k21]
 have i3:e.kind=22∨e.kind=23∨e.kind=24→isP h e.a 3=true:=fun q=>by
  rw [if_pos (by omega)] at nm
  simp at nm; exact nm.1
 have w3:e.kind=22∨e.kind=23∨e.kind=24→∃kd:Int,isP h e.a kd=true∧(kd=3→[6,22,23,24].contains e.kind=true)∧(kd=4→[7,25].contains e.kind=true):=fun q =>
  ⟨3,i3 q,fun _=>by rcases q with q|q|q<;>rw [q]<;>rfl,fun z=>by cases z⟩
 have i5:e.kind=27∨e.kind=28→isP h e.a 5=true:=fun q=>by
  rw [if_neg (by omega),if_neg (by omega),if_neg (by omega)] at nm
  by_cases q27:e.kind=26∨e.kind=27
  ·rw [if_pos q27] at nm
   simp at nm; exact nm.1
  ·rw [if_neg q27,if_pos (by omega)] at nm
   simp at nm; exact nm.1.1
 have w5:e.kind=27∨e.kind=28→∃kd:Int,isP h e.a kd=true∧(kd=3→[6,22,23,24].contains e.kind=true)∧(kd=4→[7,25].contains e.kind=true):=fun q =>
  ⟨5,i5 q,fun z=>(by cases z),fun z=>by cases z⟩
 by_cases k22:e.kind=22
 ·rw [if_pos k22]; exact done _ _ (by omega) (w3 (.inl k22))
 rw [if_neg k22]
 by_cases k23:e.kind=23∨e.kind=27
 ·rw [if_pos k23]
  refine done _ _ (by omega) ?_
  rcases k23 with q|q
  ·exact w3 (.inr (.inl q))
  ·exact w5 (.inl q)
 rw [if_neg k23]
 by_cases k24:e.kind=24
 ·rw [if_pos k24]; exact done _ _ (by omega) (w3 (.inr (.inr k24)))
 rw [if_neg k24]
 by_cases k25:e.kind=25
 ·rw [if_pos k25]
  refine done _ _ (by omega) ⟨4,?_,fun z=>(by cases z),fun _=>by rw [k25]; rfl⟩
  rw [if_neg (by omega),if_neg (by omega),if_pos k25] at nm
  simp at nm; exact nm.1.1
 rw [if_neg k25]
 by_cases k28:e.kind=28
 ·rw [if_pos k28]; exact done _ _ (by omega) (w5 (.inr k28))
 rw [if_neg k28]
 split
 ·exact same rfl rfl rfl (fun o=>by cases o)
 ·exact same rfl rfl rfl (fun o=>o)
def CL (L:LS):Prop:=CV L.h L.s.fresh
theorem CL.init:CL LS.init:=⟨rfl,fun _ x hx=>(by cases hx),fun _ f hf=>(by cases hf),fun t ht=>by cases ht⟩
theorem CL.step {p:Prg} (ok:Okp p) {L:LS} (lv:Lived p L) (c:CL L) (a:ActM):CL (L.step p a):=by
 unfold LS.step
 split
 ·split
  ·exact c
  ·rename_i hs
   rcases apply_cases L.s (L.next a) with ⟨e1,e2⟩|⟨e1,ho,hr,e2⟩
   ·rw [if_neg e1,e2]; exact c
   ·rw [if_pos e1,e2]
    exact CV.apply lv.bi c hr ho (gram_of hs)
 ·split
  ·split
   ·rename_i h
    rw [Task_ok] at h
    rw [Task_eq,if_pos h]; exact c
   ·rename_i h
    rw [Task_ok] at h
    have h:=Decidable.not_not.1 h
    rw [Task_eq,if_neg (by rw [h]; decide)]
    have tk:=ready_tasks h a.value
    have c0:CV L.h ((L.s.ready_ a.value).begin_ (L.clock a)):=c.row (s':=(L.s.ready_ a.value).begin_ (L.clock a)) (x:=⟨L.s.count+1,L.clock a,2,L.s.count,0,0,0,0,0⟩) rfl rfl rfl rfl (fun o=>o) (by show (2:Int)≠10; decide) (fun _=>⟨by show (2:Int)≠3; decide,by show (2:Int)≠4; decide⟩)
    have c1:=(task_steps ok (ready_inv lv.li.inv a.value) tk (L.clock a)).cv _ c0
    have c2:=c1.task
    show CV ((L.h++((L.s.ready_ a.value).task p (L.clock a)).made).map fix7) ((L.s.ready_ a.value).task p (L.clock a)).fresh
    rw [List.map_append,lv.bi.fixd]
    exact c2
  ·exact c
theorem outR_out {e:Ev} (h:outR e=true):outsideM e=true:=by
 unfold outR at h
 unfold outsideM
 by_cases k:e.kind=16
 ·simp [k] at h ⊢; exact h
 ·simp [k] at h ⊢; exact .inr h
theorem statusM_ne (k:Int):statusM k≠1:=by
 unfold statusM
 repeat' split
 all_goals decide
theorem docR_status (number:Int) (id:ByteArray) (h:List Ev):((docR number id h).status==1)=!closeM (lastP h).kind:=by
 show ((if closeM (lastP h).kind=true then statusM (lastP h).kind else 1)==1)=_
 cases q:closeM (lastP h).kind with
 | false=>rfl
 | true=>rw [if_pos rfl]; simpa using statusM_ne (lastP h).kind
theorem may_full {h:List Ev} {now:Int} (hp:h≠[]) (hl:h.length≤255) (hn:0≤now∧now≤1099511627776) (ht:(lastP h).time≤now) (hc:closeM (lastP h).kind=false):mayP h (fullM ((h.length:Int)+1) now)=true:=by
 have hpl:(h.length:Int)≠0:=fun e=>hp (List.length_eq_zero_iff.1 (by omega))
 have hv:validM (fullM ((h.length:Int)+1) now)=true:=valid_fail ⟨by omega,by omega⟩ hn
 unfold mayP
 rw [if_neg,if_neg hp,if_neg,if_neg]
 ·rfl
 ·show ¬(cmdM 16&&!((16:Int)==16&&(-4:Int)==-4)&&_)=true
  simp
 ·show ¬(decide (now<(lastP h).time)||closeM (lastP h).kind||(16:Int)==2&&_)=true
  rw [hc]; simp; omega
 ·rw [hv]
  show ¬(!true||((h.length:Int)+1) != ((h.length:Int)+1)||(16:Int)==1&&_||(16:Int) != 1&&((h.length:Int)==0))=true
  simp; omega
structure Wh (p:Prg) (number:Int) (id:ByteArray) (L:LS) (R:RS):Prop where
 lv:Lived p L
 ne:L.h≠[]
 r:R=docR number id L.h
 cap:closeM (lastP L.h).kind=false→L.h.length≤255
 cl:CL L
section
variable {p:Prg} {number:Int} {id:ByteArray} {L:LS} {R:RS}
theorem Wh.ev (w:Wh p number id L R):R.events=L.h:=by rw [w.r]; rfl
theorem Wh.open_ (w:Wh p number id L R):(R.status==1)=!closeM (lastP L.h).kind:=by rw [w.r]; exact docR_status number id L.h
theorem Wh.idle (w:Wh p number id L R) (n:Int) (hn:L.now≤n∧n≤1099511627776):Wh p number id ⟨L.s,L.h,n⟩ R:=⟨Go.Proofs.YtkofafcgcnciaaaGreatDoor.idle w.lv n hn,w.ne,w.r,w.cap,w.cl⟩
theorem Wh.put (w:Wh p number id L R) (ok:Okp p) {e:Ev} (g:Gram (L.h++[e])) (ho:outsideM e=true) (ht:e.time=L.now) (hcap:closeM e.kind=false→L.h.length+1≤255):∃L',Wh p number id L' (R.book e)∧L'.h=L.h++[e]∧L'.now=L.now:=by
 have m:=g L.h.length e (by simp)
 rw [List.take_left] at m
 obtain ⟨hv,hid,hk⟩:=may_head m
 have hcl:=(may_last m w.ne).2
 have hn:L.next ⟨1,e,0,0,0⟩=e:=by
  show { e with id:=(L.h.length:Int)+1,time:=L.now }=e
  rw [←hid,←ht]
 have hs:¬stand (L.h++[L.next ⟨1,e,0,0,0⟩])<(L.h++[L.next ⟨1,e,0,0,0⟩]).length:=by rw [hn,gram_stand g]; omega
 have hov:L.s.over=false:=by rw [w.lv.bi.shut w.ne,hcl]
 have hk1:e.kind≠1:=fun q=>w.ne (hk.1 q)
 have hc:=w.lv.li.c
 have hpos:0<L.h.length:=List.length_pos_iff.2 w.ne
 have hre:L.s.refuses e=false:=by
  unfold VS.refuses
  rw [hv,ho,hid,hc]
  have h1:(e.kind==1)=false:=by simpa using hk1
  have h2:((L.h.length:Int)==0)=false:=by have:=w.ne; simpa using this
  rw [h1,h2]; simp
 have ha:(L.s.apply e).1=0:=by unfold VS.apply; rw [if_neg (by rw [hov]; decide),if_neg (by rw [hre]; decide)]
 have st:L.step p ⟨1,e,0,0,0⟩=⟨(L.s.apply e).2,L.h++[e],L.now⟩:=by
  unfold LS.step
  rw [if_pos rfl,if_neg hs,hn,if_pos ha]
 have lv:=w.lv.step ok ⟨1,e,0,0,0⟩
 have cl:=w.cl.step ok w.lv ⟨1,e,0,0,0⟩
 rw [st] at lv cl
 refine ⟨_,⟨lv,by simp,by rw [w.r]; exact (docR_snoc number id g w.ne).symm,fun q=>?_,cl⟩,rfl,rfl⟩
 have q:closeM (lastP (L.h++[e])).kind=false:=q
 have hl:lastP (L.h++[e])=e:=by unfold lastP; simp
 rw [hl] at q
 show (L.h++[e]).length≤255
 rw [List.length_append,List.length_singleton]
 exact hcap q
theorem Wh.add (w:Wh p number id L R) (ok:Okp p) (e:Ev):∃L',Wh p number id L' (R.Add e L.now).2∧L'.now=L.now∧(R.Add e L.now).2.events.length≤256∧R.events.length≤(R.Add e L.now).2.events.length:=by
 have he:=w.ev
 have same:∃L',Wh p number id L' R∧L'.now=L.now∧R.events.length≤256∧R.events.length≤R.events.length:=⟨L,w,rfl,by rw [he]; exact gram_len w.lv.bi.gram,Nat.le_refl _⟩
 have book:∀{x:Ev},Gram (L.h++[x])→outsideM x=true→x.time=L.now→(closeM x.kind=false→L.h.length+1≤255)→∃L',Wh p number id L' (R.book x)∧L'.now=L.now∧(R.book x).events.length≤256∧R.events.length≤(R.book x).events.length:=fun g ho ht hc=>by
  obtain ⟨L',w',h1,h2⟩:=w.put ok g ho ht hc
  refine ⟨L',w',h2,?_,?_⟩
  ·rw [RS.book_events,he]; exact gram_len g
  ·rw [RS.book_events,List.length_append]; omega
 unfold RS.Add
 split
 ·exact same
 ·rename_i hop
  split
  ·exact same
  ·rename_i hc
   simp only [Bool.or_eq_true,not_or,Bool.not_eq_true',decide_eq_true_eq] at hc
   obtain ⟨ho,hs⟩:=hc
   rw [he] at hs
   have g:=gram_of hs
   have ho:outR (R.next e L.now)=true:=by simpa using ho
   split
   ·rename_i hf
    have m:=g L.h.length (R.next e L.now) (by simp)
    rw [List.take_left] at m
    have ml:=may_last m w.ne
    have hid:=(may_head m).2.1
    have hid2:=valid_id (may_head m).1
    rw [hid]
    exact book (gram_snoc w.lv.bi.gram (may_full w.ne (by omega) w.lv.bi.n0 ml.1 ml.2)) rfl rfl (fun q=>by cases q)
   ·rename_i hf
    have m:=g L.h.length (R.next e L.now) (by simp)
    rw [List.take_left] at m
    have hid:=(may_head m).2.1
    have hid2:=valid_id (may_head m).1
    refine book g (outR_out ho) rfl fun q=>?_
    have q:closeM e.kind=false:=q
    have:¬(R.next e L.now).id=256:=by simpa [q] using hf
    omega
end
theorem step2_fst:∀(l:List Ev) (z:RS×List OutM),(l.foldl RS.step2 z).1=z.1.folds l
 | [],_=>rfl
 | e::l,z=>by rw [List.foldl_cons,step2_fst l]; rfl
theorem all_fst (R:RS) (l:List Ev):(R.all l).1=R.folds l:=step2_fst l (R,[])
theorem docR_app (number:Int) (id:ByteArray):∀(l h:List Ev),h≠[]→Gram (h++l)→docR number id (h++l)=(docR number id h).folds l
 | [],h,_,_=>by rw [List.append_nil]; rfl
 | e::l,h,hn,g=>by
  have e1:h++e::l=(h++[e])++l:=by simp
  rw [e1] at g ⊢
  have g1:Gram (h++[e]):=fun j x hx=>by
   have hj:=get_lt hx
   have:=g j x (by rw [List.getElem?_append_left hj]; exact hx)
   rwa [List.take_append_of_le_length (by omega)] at this
  rw [docR_app number id l (h++[e]) (by simp) g,docR_snoc number id g1 hn]
  rfl
theorem task_same (p:Prg) (s:VS) (d:Int) (m:List Ev) (now draw:Int):((s.dm d m).ready_ draw).task p now=(s.ready_ draw).task p now:=rfl
theorem Task_room {p:Prg} (ok:Okp p) {s:VS} (iv:Inv p s) {now:Int} (tk:s.taskE now=0) (draw:Int):Room ((s.ready_ draw).task p now):=by
 have tk:=ready_tasks tk draw
 have h0:=begin_inv (ready_inv iv draw) tk now
 exact ((task_steps ok (ready_inv iv draw) tk now).inv h0.1 h0.2).2
section
variable {p:Prg} {number:Int} {id:ByteArray} {L:LS} {R:RS}
theorem Wh.rep (w:Wh p number id L R):∃d,Rep p L.h (L.s.dm d (L.s.made.map fix7)):=by
 have g:=w.lv.bi.gram
 obtain ⟨n,d,q⟩:=w.lv.goes L.h (gram_len g) (List.prefix_refl _) (fun x hx _=>by rw [List.getElem?_eq_none (Nat.le_refl _)] at hx; cases hx)
 refine ⟨d,gram_stand g,⟨n,_,q.at_,Nat.le_refl _⟩,fun j k t hj hk=>?_,dm_inv w.lv.li.inv d,w.lv.li.x⟩
 rcases Nat.lt_or_ge j n with h|h
 ·exact q.ok j h k t hj
 ·exfalso
  have:=repN_inr q.at_ (Nat.le_refl _) (j-n)
  rw [show n+(j-n)=j by omega,hj] at this
  cases this
  omega
theorem Wh.task (w : Wh p number id L R) (ok : Okp p) (d draw : Int) : ∃L', Wh p number id L' (R.Task p (L.s.dm d (L.s.made.map fix7)) L.now draw 9).2∧L'.now=L.now∧(R.Task p (L.s.dm d (L.s.made.map fix7)) L.now draw 9).2.events.length≤256∧R.events.length≤(R.Task p (L.s.dm d (L.s.made.map fix7)) L.now draw 9).2.events.length ∧
  ((R.Task p (L.s.dm d (L.s.made.map fix7)) L.now draw 9).1.2=0∨(R.Task p (L.s.dm d (L.s.made.map fix7)) L.now draw 9).1.2=46∨(R.Task p (L.s.dm d (L.s.made.map fix7)) L.now draw 9).1.2=49):=by
 have he:=w.ev
 have g:=w.lv.bi.gram
 have hlen:=gram_len g
 have n0:=w.lv.bi.n0
 have htime:=w.lv.bi.time w.ne
 have hpos:0<L.h.length:=List.length_pos_iff.2 w.ne
 have hlast:lastT R.events=(lastP L.h).time:=by
  rw [he]
  unfold lastT lastP
  cases q:L.h.getLast? with
  | none=>rw [List.getLast?_eq_none_iff] at q; exact absurd q w.ne
  | some z=>rfl
 have e1:(decide (L.now<0)||decide (L.now>1099511627776)||decide ((R.events.length:Int)>0)&&decide (L.now<lastT R.events))=false:=by
  rw [hlast]; simp; omega
 unfold RS.Task
 rw [if_neg (by rw [e1]; decide)]
 split
 ·exact ⟨L,w,rfl,by rw [he]; exact hlen,Nat.le_refl _,.inr (.inl rfl)⟩
 ·rename_i hop
  have hcl:closeM (lastP L.h).kind=false:=by rw [w.open_] at hop; simpa using hop
  split
  ·rename_i h254
   have h254:=of_decide_eq_true h254
   have hid:R.events.length=L.h.length:=by rw [he]
   have gf:=gram_snoc g (may_full w.ne (w.cap hcl) n0 htime hcl)
   obtain ⟨L',w',h1,h2⟩:=w.put ok gf rfl rfl (fun q=>by cases q)
   rw [hid]
   refine ⟨L',w',h2,?_,?_,.inr (.inr rfl)⟩
   ·rw [RS.book_events,he]; exact gram_len gf
   ·rw [RS.book_events,List.length_append]; omega
  ·rename_i h254
   have h254:¬(R.events.length:Int)>254:=by simpa using h254
   rw [he] at h254
   have hov:L.s.over=false:=by rw [w.lv.bi.shut w.ne,hcl]
   have hc:=w.lv.li.c
   have htk:L.s.taskE L.now=0:=by
    unfold VS.taskE
    rw [if_neg (by simp; omega),if_neg (by rw [hov]; decide),if_neg (by rw [hc]; simp; exact w.ne),if_neg (by rw [hc]; simp; omega)]
   have htk2:(L.s.dm d (L.s.made.map fix7)).taskE L.now=0:=htk
   have hok:((L.s.dm d (L.s.made.map fix7)).Task p L.now draw).1.2=0:=by rw [Task_ok]; exact htk2
   rw [if_neg (by rw [hok]; decide)]
   have hrows:((L.s.dm d (L.s.made.map fix7)).Task p L.now draw).1.1=((L.s.ready_ draw).task p L.now).made:=by
    rw [Task_eq,if_neg (by rw [htk2]; decide),task_same]
   rw [hrows]
   have hclk:L.clock ⟨2,Ev.zero,L.now,draw,0⟩=L.now:=by
    unfold LS.clock; split<;>rfl
   have st:=step_task w.lv ⟨2,Ev.zero,L.now,draw,0⟩ (by show (2:Int)≠1; decide) rfl (by rw [hclk]; exact htk)
   rw [hclk] at st
   have lv:=w.lv.step ok ⟨2,Ev.zero,L.now,draw,0⟩
   have cl:=w.cl.step ok w.lv ⟨2,Ev.zero,L.now,draw,0⟩
   rw [st] at lv cl
   have hfx:(fixN 9:Ev→Ev)=fix7:=rfl
   rw [hfx]
   show ∃L',Wh p number id L' (R.all (((L.s.ready_ draw).task p L.now).made.map fix7)).1∧L'.now=L.now∧(R.all (((L.s.ready_ draw).task p L.now).made.map fix7)).1.events.length≤256∧R.events.length≤(R.all (((L.s.ready_ draw).task p L.now).made.map fix7)).1.events.length∧_
   have gn:Gram (L.h++((L.s.ready_ draw).task p L.now).made.map fix7):=lv.bi.gram
   have hR:(R.all (((L.s.ready_ draw).task p L.now).made.map fix7)).1=docR number id (L.h++((L.s.ready_ draw).task p L.now).made.map fix7):=by rw [all_fst,w.r,docR_app number id _ _ w.ne gn]
   rw [hR]
   have rm:=Task_room ok w.lv.li.inv htk draw
   refine ⟨_,⟨lv,by simp [w.ne],rfl,fun q=>?_,cl⟩,rfl,gram_len gn,?_,.inl rfl⟩
   ·have o:=lv.bi.shut (by simp [w.ne])
    have:=rm lv.li.x (o.trans q)
    have c2:=lv.li.c
    show (L.h++((L.s.ready_ draw).task p L.now).made.map fix7).length≤255
    have c2:((L.s.ready_ draw).task p L.now).count=(L.h++((L.s.ready_ draw).task p L.now).made.map fix7).length:=c2
    omega
   rw [he]
   show L.h.length≤(L.h++_).length
   rw [List.length_append]; omega
end
theorem nameG_some (id:Int) (ks:List Int):∀(h:List Ev) (o:Option Ev),(h.foldl (fun o x=>if (ks.contains x.kind&&x.a==id)=true then some x else o) o).isSome=(o.isSome||anyP h id ks)
 | [],o=>by simp [anyP]
 | x::h,o=>by
  rw [List.foldl_cons,nameG_some id ks h]
  show _=(o.isSome||((ks.contains x.kind&&x.a==id)||anyP h id ks))
  cases q:(ks.contains x.kind&&x.a==id) with
  | true=>rw [if_pos rfl]; simp
  | false=>rw [if_neg (by decide)]; simp
theorem nameL_some (h:List Ev) (id:Int) (ks:List Int):(nameL h id ks).isSome=anyP h id ks:=by unfold nameL; rw [nameG_some]; simp
def passT (now d:Int):Int:=if (decide (d<0)||decide (d>1000000)||decide (now+d>1099511627776))=true then now else now+d
theorem passT_ok {now d:Int} (h:now≤1099511627776):now≤passT now d∧passT now d≤1099511627776:=by
 unfold passT
 split
 ·omega
 ·rename_i q; simp at q; omega
def firstE (x:Ev):Ev:={ x with id:=1,kind:=1 }
theorem Wh.start {p:Prg} (ok:Okp p) (number:Int) (id:ByteArray) {x:Ev} (hv:validM (firstE x)=true):∃L,Wh p number id L (RS.new number id x)∧L.now=x.time:=by
 have h0:0≤x.time∧x.time≤1099511627776:=by
  unfold validM headOk at hv
  simp only [Bool.and_eq_true,Bool.not_eq_true',Bool.or_eq_false_iff,decide_eq_false_iff_not] at hv
  have h1:=hv.1.1.2; have h2:=hv.1.2
  have e:(firstE x).time=x.time:=rfl
  rw [e] at h1 h2
  omega
 have lv0:=Go.Proofs.YtkofafcgcnciaaaGreatDoor.idle (p:=p) Lived.init x.time h0
 have lv:=lv0.step ok ⟨1,firstE x,0,0,0⟩
 have cl:=CL.step ok lv0 CL.init ⟨1,firstE x,0,0,0⟩
 have m:mayP [] (firstE x)=true:=by
  unfold mayP
  rw [hv,if_neg (by show ¬(!true||(1:Int) != ((0:Nat):Int)+1||(1:Int)==1&&(((0:Nat):Int) != 0)||(1:Int) != 1&&(((0:Nat):Int)==0))=true; decide),if_pos rfl]
 have hs:stand [firstE x]=1:=by
  unfold stand standG
  rw [if_pos m]; rfl
 have hre:VS.init.refuses (firstE x)=false:=by
  unfold VS.refuses
  rw [hv]
  show (!true||(1:Int) != 0+1||!outsideM (firstE x)||((1:Int)==1) != ((0:Int)==0))=false
  have:outsideM (firstE x)=true:=rfl
  rw [this]; decide
 have ha:(VS.init.apply (firstE x)).1=0:=by unfold VS.apply; rw [if_neg (by decide),if_neg (by rw [hre]; decide)]
 have st:(⟨VS.init,[],x.time⟩:LS).step p ⟨1,firstE x,0,0,0⟩=⟨(VS.init.apply (firstE x)).2,[firstE x],x.time⟩:=by
  unfold LS.step
  have e:(⟨VS.init,[],x.time⟩:LS).next ⟨1,firstE x,0,0,0⟩=firstE x:=rfl
  rw [if_pos rfl,e]
  show (if stand [firstE x]<1 then _ else _)=_
  rw [if_neg (by omega),if_pos ha]; rfl
 rw [show LS.init.s=VS.init from rfl,show LS.init.h=[] from rfl,st] at lv cl
 have r:docR number id [firstE x]=RS.new number id x:=docR_one number id (e:=firstE x) rfl rfl
 exact ⟨_,⟨lv,by simp,r.symm,fun _=>(by show 1≤255; decide),cl⟩,rfl⟩
set_option linter.unusedVariables false
open IntKind
noncomputable def c22:Cx:={ P:=Tryz.prog,res:=[],pub:=[],loops:=[],quiet:=[],asm:=true }
def F22 (now by0:Int) (H:Heap) (K:Value→Heap→Prop):Prop:=((decide (by0<0)||decide (by0>1000000)||decide (i64.wrap (now+by0)>1099511627776))=true→K (.int .i64 now) H) ∧
 ((decide (by0<0)||decide (by0>1000000)||decide (i64.wrap (now+by0)>1099511627776))=false→K (.int .i64 (i64.wrap (now+by0))) H)

theorem v22 {now by0:Int} {H:Heap} {K:Value→Heap→Prop} (h:F22 now by0 H K):Tr Tryz.prog 22 #[.int .i64 now,.int .i64 by0] H K :=
 tr_of_eq (C:=c22) Tryz.func22 (by kernel_rfl) h
structure ActK where
 kind:Int
 e:Ev
 (value gone:Int)
structure HasKs (H:Heap) (A:Option Addr) (n:Nat) (l:List ActK):Prop where
 len:n=l.length
 at_:∀i x,l[i]?=some x→∃a,A=some a∧At H ((a.add (i*23)).add 0) [.int .i64 x.kind]∧At H ((a.add (i*23)).add 1) x.e.cells∧At H ((a.add (i*23)).add 20) [.int .i64 x.value]∧At H ((a.add (i*23)).add 22) [.int .i64 x.gone]
def nameN:ByteArray:=⟨#[110]⟩
theorem t22 {now:Int} (h:0≤now∧now≤1099511627776) (d:Int) (H:Heap):Tr Tryz.prog 22 #[.int .i64 now,.int .i64 d] H fun v H'=>v=.int .i64 (passT now d)∧Sub H H':=by
 apply v22; unfold F22
 have e:(decide (d<0)||decide (d>1000000)||decide (IntKind.i64.wrap (now+d)>1099511627776))=(decide (d<0)||decide (d>1000000)||decide (now+d>1099511627776)):=by
  by_cases q:decide (d<0)||decide (d>1000000)
  ·rw [q]; simp
  ·simp at q
   rw [wrapi (by omega) (by omega)]
 rw [e]
 unfold passT
 refine ⟨fun q=>?_,fun q=>?_⟩
 ·rw [if_pos q]; exact ⟨rfl,Sub.refl _⟩
 ·rw [if_neg (by rw [q]; decide)]
  simp at q
  rw [wrapi (by omega) (by omega)]
  exact ⟨rfl,Sub.refl _⟩
section
variable {p:Prg} {number:Int} {id:ByteArray} {L:LS} {R:RS}
theorem Wh.le (w:Wh p number id L R):R.Le:=by
 have g:=w.lv.bi.gram
 have h:=w.r
 have n:=w.ne
 generalize L.h=l at g h n
 cases l with
 | nil=>exact absurd rfl n
 | cons e t=>rw [h,←folds_doc number id g]; exact (RS.folds_le t (RS.new_le number id e)).1
theorem Wh.len (w:Wh p number id L R):R.events.length≤256:=by rw [w.ev]; exact gram_len w.lv.bi.gram
theorem Wh.rows (w:Wh p number id L R) (ok:Okp p) (d draw:Int):(∀x∈((L.s.dm d (L.s.made.map fix7)).Task p L.now draw).1.1,x.kind=10→0≤x.a∧x.a<4)∧((L.s.dm d (L.s.made.map fix7)).Task p L.now draw).1.1.length≤256:=by
 by_cases htk:L.s.taskE L.now=0
 ·have htk2:(L.s.dm d (L.s.made.map fix7)).taskE L.now=0:=htk
  have hrows:((L.s.dm d (L.s.made.map fix7)).Task p L.now draw).1.1=((L.s.ready_ draw).task p L.now).made:=by
   rw [Task_eq,if_neg (by rw [htk2]; decide),task_same]
  rw [hrows]
  have hclk:L.clock ⟨2,Ev.zero,L.now,draw,0⟩=L.now:=by
   unfold LS.clock; split<;>rfl
  have st:=step_task w.lv ⟨2,Ev.zero,L.now,draw,0⟩ (by show (2:Int)≠1; decide) rfl (by rw [hclk]; exact htk)
  rw [hclk] at st
  have lv:=w.lv.step ok ⟨2,Ev.zero,L.now,draw,0⟩
  rw [st] at lv
  have gn:Gram (L.h++((L.s.ready_ draw).task p L.now).made.map fix7):=lv.bi.gram
  refine ⟨fun x hx hk=>?_,?_⟩
  ·have hf:fix7 x=fixN 9 x:=rfl
   have:=gram_attr gn (fix7 x) (List.mem_append_right _ (List.mem_map_of_mem hx)) (by rw [hf,(fixN_kind 9 x).1]; exact hk)
   rw [hf,(fixN_kind 9 x).2] at this
   exact this
  ·have:=gram_len gn
   rw [List.length_append,List.length_map] at this
   omega
 ·have htk2:¬(L.s.dm d (L.s.made.map fix7)).taskE L.now=0:=htk
  rw [Task_eq,if_pos htk2]
  exact ⟨fun x hx=>(by cases hx),Nat.zero_le _⟩
end
structure WR (p:Prg) (G:Heap) (b n:Nat) (now i:Int) (H:Heap):Prop where
 out:∃(k:Nat) (L:LS) (R:RS) (sl:Nat→SlH),i=(k:Int)∧k≤n∧RunX G H b sl R∧Wh p 4 nameN L R∧L.now=now
end Go.Proofs.YtkofafcgcnciaaaGreatDoor
namespace Go.Ax
open Go.RowKit Go.ChangeShapes Go.WideShapes Go.ChangeAt
def FitS (P:Program) (H:Heap):Nat→TypeId→List Value→Prop
 | 0,_,_=>True
 | n+1,t,cs=>match P.underlying t with
  | some .bool=>∃b,cs=[.bool b]
  | some (.int k)=>∃x,cs=[.int k x]∧(Lit.int k x).wf=true
  | some .string=>∃s,cs=[.string s]∧s.size≤140737488351232
  | some (.slice e) => ∃A len cap, cs=[.slice A len cap]∧len≤cap∧cap≤maxLen∧len*P.bytesOf e≤140737488351232∧(A=none→len=0∧cap=0) ∧
    ∀a,A=some a→∀i,i<len→∃cs',cs'.length=P.cellsOf e∧(0<P.cellsOf e→At H (a.add (i*P.cellsOf e)) cs')∧FitS P H n e cs'
  | some (.struct fs)=>cs.length=P.cellsOf t∧FitFs (FitS P H n) P cs fs.toList
  | _=>True
theorem weights_all {H:Type} {P:Program} {e:TypeId}:∀{l:List (DataW H)} {d:DataW H},d∈l→∀n∈d.weights P e,n∈DataW.weightsAll P e l
 | x::l,d,h,n,hn=>by
  simp only [DataW.weightsAll,List.mem_append]
  rcases List.mem_cons.1 h with rfl|h
  ·exact .inl hn
  ·exact .inr (weights_all h n hn)
theorem fits_of_trod {H : Type} {enc : TypeId×Value→H} {P : Program} {w : World} {base : Nat} {spare : Nat→Bool} {held : Bool} : ∀(n fuel : Nat) (t : TypeId) (cs : List Value) (x : DataW H×List MemPlace),
  DataW.trod enc P w base spare held fuel t cs=some x→(∀m∈x.1.weights P t,m≤140737488351232)→FitS P (hp w) n t cs:=by
 intro n
 induction n with
 | zero=>intro _ _ _ _ _ _; trivial
 | succ n ih =>
  intro fuel t cs x h hw
  unfold FitS
  cases hu:P.underlying t with
  | none=>trivial
  | some ti =>
   cases ti with
   | bool=>obtain ⟨b,e,_⟩:=DataW.trod_bool hu h; exact ⟨b,e⟩
   | int k=>obtain ⟨b,e,_,wf⟩:=DataW.trod_int hu h; exact ⟨b,e,wf⟩
   | string =>
    obtain ⟨b,e,hx,wf⟩:=DataW.trod_string hu h
    refine ⟨b,e,?_⟩
    have:=hw b.data.toList.length (by rw [hx]; simp [DataW.weights])
    have e2:b.data.toList.length=b.size:=by simp
    omega
   | slice e =>
    rcases Deep.open_slice hu h with ⟨rfl,_⟩|⟨a,len,cap,m,k,D,Pl,rfl,hb,hl,hm,hmm,hx0,hx⟩
    ·exact ⟨none,0,0,rfl,Nat.le_refl _,Nat.zero_le _,by omega,fun _=>⟨rfl,rfl⟩,fun a ha=>nomatch ha⟩
    ·subst hx0
     refine ⟨some a,len,cap,rfl,hl,hm,?_,(fun ha=>nomatch ha),fun a' ha i hi=>?_⟩
     ·have:=hw ((((List.range len).map D).length+((List.range (m-len)).map fun j=>D (len+j)).length)*P.bytesOf e) (by simp [DataW.weights,hu])
      refine Nat.le_trans (Nat.mul_le_mul_right _ ?_) this
      simp
     ·cases ha
      obtain ⟨cs',h1,h2⟩:=hx i (by rw [hmm]; split<;>omega)
      refine ⟨cs',(World.cells?_some h1).2.1,fun hp=>at_of_cells hp h1,ih _ _ _ _ h2 fun q hq=>hw q ?_⟩
      simp only [DataW.weights,hu,List.mem_cons,List.mem_append]
      exact .inr (.inl (weights_all (l:=(List.range len).map D) (List.mem_map.2 ⟨i,by simpa using hi,rfl⟩) q hq))
   | struct fs =>
    obtain ⟨xs,k,_,hxe,hl,hlen,hf⟩:=DataW.trod_struct hu h
    subst hxe
    refine ⟨hl,?_⟩
    have aux:∀(l:List Field),(∀f∈l,∃i:Nat,fs[i]?=some f)→FitFs (FitS P (hp w) n) P cs l:=by
     intro l
     induction l with
     | nil=>intro _; trivial
     | cons f l il =>
      intro hm
      refine ⟨?_,il fun g hg=>hm g (List.mem_cons_of_mem _ hg)⟩
      obtain ⟨i,hi⟩:=hm f (List.mem_cons_self ..)
      have hi':i<xs.length:=by
       have:i<fs.size:=by
        rcases Nat.lt_or_ge i fs.size with h|h
        ·exact h
        ·rw [Array.getElem?_eq_none h] at hi; cases hi
       omega
      have hq:=hf i f hi
      rw [List.getElem?_eq_getElem hi'] at hq
      refine ih _ _ _ _ hq fun q hq2=>hw q ?_
      simp only [DataW.weights,hu]
      exact DataW.weights_mem_each (j:=i) (t:=f.type) (d:=xs[i].1) (by simp [hi]) (by simp [List.getElem?_eq_getElem hi']) q hq2
    exact aux _ fun f hf=>by
     obtain ⟨i,hi,rfl⟩:=List.getElem_of_mem hf
     exact ⟨i,by simp at hi ⊢⟩
   | _=>trivial
theorem fits_of_Trod {H : Type} {enc : TypeId×Value→H} {P : Program} {w : World} {base : Nat} {spare : Nat→Bool} {held : Bool} {t : TypeId} {v : Value} {d : DataW H} {p : List MemPlace} (n : Nat)
  {ts:List TypeId} {ds:List (DataW H)} (hsz:(DataW.weightsEach P ts ds).all (·≤reachBytes)=true) {j:Nat} (ht:ts[j]?=some t) (hd:ds[j]?=some d)
  (h:DataW.Trod enc P w base spare held t v d p):FitS P (hp w) n t v.cells.toList:=by
 obtain ⟨fuel,hf⟩:=h
 refine fits_of_trod n fuel t _ _ hf fun m hm=>?_
 have:=List.all_eq_true.1 hsz _ (DataW.weights_mem_each ht hd m hm)
 have hr:reachBytes=140737488351232:=by decide
 rw [hr] at this
 simpa using this
end Go.Ax
set_option maxRecDepth 100000
namespace Go.Proofs.YtkofafcgcnciaaaGreatDoor
open Go.Ax Go.RowKit Go.ChangeShapes Go.WideShapes Go.ChangeAt
theorem fitI {H:Heap} {n:Nat} {l:List Value} (h:FitS Tryz.prog H (n+1) 3 l):∃x,l=[.int .i64 x]∧intOk x:=by
 obtain ⟨x,e,wf⟩:=Eq.mp (show FitS Tryz.prog H (n+1) 3 l=(∃x,l=[.int .i64 x]∧(Lit.int .i64 x).wf=true) by kernel_rfl) h
 exact ⟨x,e,wf_i64 wf⟩
theorem fitL {H:Heap} {n:Nat} {l:List Value} (h:FitS Tryz.prog H (n+1) 2 l):∃x,l=[.int .i64 x]∧intOk x:=by
 obtain ⟨x,e,wf⟩:=Eq.mp (show FitS Tryz.prog H (n+1) 2 l=(∃x,l=[.int .i64 x]∧(Lit.int .i64 x).wf=true) by kernel_rfl) h
 exact ⟨x,e,wf_i64 wf⟩
theorem fitOp {H:Heap} {n:Nat} {l:List Value} (h:FitS Tryz.prog H (n+2) 179 l):∃c x,l=[.int .i64 c,.int .i64 x]∧intOk c∧intOk x:=by
 obtain ⟨hl,h0,h1,-⟩:=Eq.mp (show FitS Tryz.prog H (n+2) 179 l=(l.length=2∧FitS Tryz.prog H (n+1) 3 ((l.drop 0).take 1)∧FitS Tryz.prog H (n+1) 2 ((l.drop 1).take 1)∧True) by kernel_rfl) h
 match l,hl with
 | [a,b],_ =>
  obtain ⟨c,e0,w0⟩:=fitI h0
  obtain ⟨x,e1,w1⟩:=fitL h1
  simp at e0 e1; subst e0 e1
  exact ⟨c,x,rfl,w0,w1⟩
theorem fitO {H:Heap} {n:Nat} {l:List Value} (h:FitS Tryz.prog H (n+2) 128 l):∃o:O,l=o.cells∧(∀x∈o.nums,intOk x)∧intOk o.never:=by
 obtain ⟨hl,h0,h1,h2,h3,h4,h5,h6,h7,h8,h9,h10,-⟩:=Eq.mp (show FitS Tryz.prog H (n+2) 128 l=(l.length=11∧FitS Tryz.prog H (n+1) 3 ((l.drop 0).take 1)∧FitS Tryz.prog H (n+1) 2 ((l.drop 1).take 1) ∧
  FitS Tryz.prog H (n+1) 2 ((l.drop 2).take 1)∧FitS Tryz.prog H (n+1) 2 ((l.drop 3).take 1)∧FitS Tryz.prog H (n+1) 2 ((l.drop 4).take 1)∧FitS Tryz.prog H (n+1) 2 ((l.drop 5).take 1)∧FitS Tryz.prog H (n+1) 2 ((l.drop 6).take 1) ∧
  FitS Tryz.prog H (n+1) 2 ((l.drop 7).take 1)∧FitS Tryz.prog H (n+1) 2 ((l.drop 8).take 1)∧FitS Tryz.prog H (n+1) 3 ((l.drop 9).take 1)∧FitS Tryz.prog H (n+1) 2 ((l.drop 10).take 1)∧True) by kernel_rfl) h
 match l,hl with
 | [c0,c1,c2,c3,c4,c5,c6,c7,c8,c9,c10],_ =>
  obtain ⟨x0,e0,w0⟩:=fitI h0; obtain ⟨x1,e1,w1⟩:=fitL h1; obtain ⟨x2,e2,w2⟩:=fitL h2; obtain ⟨x3,e3,w3⟩:=fitL h3
  obtain ⟨x4,e4,w4⟩:=fitL h4; obtain ⟨x5,e5,w5⟩:=fitL h5; obtain ⟨x6,e6,w6⟩:=fitL h6; obtain ⟨x7,e7,w7⟩:=fitL h7
  obtain ⟨x8,e8,w8⟩:=fitL h8; obtain ⟨x9,e9,w9⟩:=fitI h9; obtain ⟨x10,e10,w10⟩:=fitL h10
  simp at e0 e1 e2 e3 e4 e5 e6 e7 e8 e9 e10
  subst e0 e1 e2 e3 e4 e5 e6 e7 e8 e9 e10
  refine ⟨⟨x0,x1,x2,x3,x4,x5,x6,x7,x8,x9,x10⟩,rfl,fun x hx=>?_,w10⟩
  simp only [O.nums,List.mem_cons,List.not_mem_nil,or_false] at hx
  rcases hx with h|h|h|h|h|h|h|h|h|h<;>subst h<;>assumption
theorem fitSl {H : Heap} {n : Nat} {t e : TypeId} (ht : Tryz.prog.underlying t=some (.slice e)) {l : List Value} (h : FitS Tryz.prog H (n+1) t l) : ∃A len cap, l=[.slice A len cap]∧len≤9223372036854775807∧len*Tryz.prog.bytesOf e≤140737488351232 ∧
  ∀i,i<len→∃a cs',A=some a∧cs'.length=Tryz.prog.cellsOf e∧(0<Tryz.prog.cellsOf e→At H (a.add (i*Tryz.prog.cellsOf e)) cs')∧FitS Tryz.prog H n e cs':=by
 unfold FitS at h
 rw [ht] at h
 obtain ⟨A,len,cap,e1,h1,h2,h3,h4,h5⟩:=h
 refine ⟨A,len,cap,e1,by unfold maxLen at h2; omega,h3,fun i hi=>?_⟩
 cases hA:A with
 | none=>have:=(h4 hA).1; omega
 | some a =>
  obtain ⟨cs',q1,q2,q3⟩:=h5 a hA i hi
  exact ⟨a,cs',rfl,q1,q2,q3⟩
theorem fitOps {H:Heap} {n:Nat} {l:List Value} (h:FitS Tryz.prog H (n+3) 130 l):∃A m c ops,l=[.slice A m c]∧HasOps H A m ops∧ops.length*16≤140737488355328∧∀o∈ops,intOk o.1∧intOk o.2:=by
 obtain ⟨A,m,c,e,hb,hz,hx⟩:=fitSl (e:=179) Tryz.underlying130 h
 have c67:Tryz.prog.cellsOf 179=2:=by kernel_rfl
 have b67:Tryz.prog.bytesOf 179=16:=by kernel_rfl
 rw [c67] at hx; rw [b67] at hz
 obtain ⟨ops,hl,hp⟩:=list_of (p:=fun i (o:Int×Int)=>(∃a,A=some a∧At H (a.add (i*2)) [.int .i64 o.1,.int .i64 o.2])∧intOk o.1∧intOk o.2) m fun i hi=>by
  obtain ⟨a,cs',ha,-,hat,hf⟩:=hx i hi
  obtain ⟨c,x,rfl,w1,w2⟩:=fitOp hf
  exact ⟨(c,x),⟨a,ha,hat (by decide)⟩,w1,w2⟩
 refine ⟨A,m,c,ops,e,⟨hl.symm,hb,fun i c x hi=>(hp i (c,x) hi).1⟩,by omega,fun o ho=>?_⟩
 obtain ⟨i,hi⟩:=List.getElem?_of_mem ho
 exact (hp i o hi).2
theorem fitFn {H:Heap} {n:Nat} {l:List Value} (h:FitS Tryz.prog H (n+4) 132 l):∃(f:Fnc) (A:Option Addr) (m c:Nat),l=[.int .i64 f.kind,.int .i64 f.name,.slice A m c]∧HasOps H A m f.ops∧f.ops.length*16≤140737488355328∧(∀o∈f.ops,intOk o.1∧intOk o.2)∧intOk f.kind∧intOk f.name:=by
 obtain ⟨hl,h0,h1,h2,-⟩:=Eq.mp (show FitS Tryz.prog H (n+4) 132 l=(l.length=3∧FitS Tryz.prog H (n+3) 3 ((l.drop 0).take 1)∧FitS Tryz.prog H (n+3) 3 ((l.drop 1).take 1)∧FitS Tryz.prog H (n+3) 130 ((l.drop 2).take 1)∧True) by kernel_rfl) h
 match l,hl with
 | [a,b,d],_ =>
  obtain ⟨k,e0,w0⟩:=fitI h0
  obtain ⟨x,e1,w1⟩:=fitI h1
  obtain ⟨A,m,c,ops,e2,ho,hz,hw⟩:=fitOps h2
  simp at e0 e1 e2; subst e0 e1 e2
  exact ⟨⟨k,x,ops⟩,A,m,c,rfl,ho,hz,hw,w0,w1⟩
theorem fitP {H:Heap} {n:Nat} {l:List Value} (h:FitS Tryz.prog H (n+6) 45 l):∃fA fn fc oA on oc p,l=[.slice fA fn fc,.slice oA on oc]∧HasP H fA fn oA on p∧p.Wf∧p.Sz:=by
 obtain ⟨hl,h0,h1,-⟩:=Eq.mp (show FitS Tryz.prog H (n+6) 45 l=(l.length=2∧FitS Tryz.prog H (n+5) 42 ((l.drop 0).take 1)∧FitS Tryz.prog H (n+5) 43 ((l.drop 1).take 1)∧True) by kernel_rfl) h
 match l,hl with
 | [a,b],_ =>
  obtain ⟨fA,fn,fc,e0,hb0,hz0,hx0⟩:=fitSl (e:=132) Tryz.underlying42 h0
  obtain ⟨oA,on,oc,e1,hb1,hz1,hx1⟩:=fitSl (e:=128) Tryz.underlying43 h1
  simp at e0 e1; subst e0 e1
  have c70:Tryz.prog.cellsOf 132=3:=by kernel_rfl
  have b70:Tryz.prog.bytesOf 132=40:=by kernel_rfl
  have c23:Tryz.prog.cellsOf 128=11:=by kernel_rfl
  have b23:Tryz.prog.bytesOf 128=88:=by kernel_rfl
  rw [c70] at hx0; rw [b70] at hz0; rw [c23] at hx1; rw [b23] at hz1
  obtain ⟨fs,hl0,hp0⟩:=list_of (p:=fun i (f:Fnc)=>(∃a A m c,fA=some a∧At H (a.add (i*3)) [.int .i64 f.kind,.int .i64 f.name,.slice A m c]∧HasOps H A m f.ops)∧f.ops.length*16≤140737488355328∧(∀o∈f.ops,intOk o.1∧intOk o.2)∧intOk f.kind∧intOk f.name) fn fun i hi=>by
   obtain ⟨a,cs',ha,-,hat,hf⟩:=hx0 i hi
   obtain ⟨f,A,m,c,rfl,ho,q⟩:=fitFn hf
   exact ⟨f,⟨a,A,m,c,ha,hat (by decide),ho⟩,q⟩
  obtain ⟨os,hl1,hp1⟩:=list_of (p:=fun i (o:O)=>(∃a,oA=some a∧At H (a.add (i*11)) o.cells)∧(∀x∈o.nums,intOk x)∧intOk o.never) on fun i hi=>by
   obtain ⟨a,cs',ha,-,hat,hf⟩:=hx1 i hi
   obtain ⟨o,rfl,q⟩:=fitO hf
   exact ⟨o,⟨a,ha,hat (by decide)⟩,q⟩
  have mf:∀f∈fs,f.ops.length*16≤140737488355328∧(∀o∈f.ops,intOk o.1∧intOk o.2)∧intOk f.kind∧intOk f.name:=fun f hf=>by
   obtain ⟨i,hi⟩:=List.getElem?_of_mem hf
   exact (hp0 i f hi).2
  have mo:∀o∈os,(∀x∈o.nums,intOk x)∧intOk o.never:=fun o ho=>by
   obtain ⟨i,hi⟩:=List.getElem?_of_mem ho
   exact (hp1 i o hi).2
  exact ⟨fA,fn,fc,oA,on,oc,⟨fs,os⟩,rfl,⟨⟨hl0.symm,hb0,fun i f hi=>(hp0 i f hi).1⟩,⟨hl1.symm,hb1,fun i o hi=>(hp1 i o hi).1⟩⟩,
   ⟨fun f hf=>(mf f hf).2.1,fun f hf=>(mf f hf).2.2,mo⟩,⟨by simp only; omega,by simp only; omega,fun f hf=>(mf f hf).1⟩⟩
theorem openP {W : World} {base : Nat} {r : Reach} {v : Value} {fs : Array Field} (hs : Tryz.prog.underlying 45=some (.struct fs)) (hv : Value.okWide Tryz.prog W r base 45 v)
  {H:Type} {enc:TypeId×Value→H} {b0:Nat} {spare:Nat→Bool} {held:Bool} {d:DataW H} {p:List MemPlace} {ts:List TypeId} {ds:List (DataW H)} (hsz:(DataW.weightsEach Tryz.prog ts ds).all (·≤reachBytes)=true) {j:Nat} (ht:ts[j]?=some 45) (hd:ds[j]?=some d)
  (h:DataW.Trod enc Tryz.prog W b0 spare held 45 v d p):∃fA fn fc oA on oc q,v=.agg #[.slice fA fn fc,.slice oA on oc]∧HasP (hp W) fA fn oA on q∧q.Wf∧q.Sz:=by
 obtain ⟨cs,rfl,hsz'⟩:=okWide_struct hs hv
 obtain ⟨fA,fn,fc,oA,on,oc,q,e,k⟩:=fitP (n:=0) (fits_of_Trod 6 hsz ht hd h)
 refine ⟨fA,fn,fc,oA,on,oc,q,?_,k⟩
 congr 1
 exact Array.toList_inj.mp e
end Go.Proofs.YtkofafcgcnciaaaGreatDoor
set_option maxRecDepth 100000
namespace Go.Proofs.YtkofafcgcnciaaaGreatDoor
open Go.Ax Go.RowKit Go.ChangeShapes Go.WideShapes Go.ChangeAt
def IntAt (l:List Value) (k:Nat):Prop:=∃x,(l.drop k).take 1=[.int .i64 x]∧(Lit.int .i64 x).wf=true
theorem fitEv (H : Heap) (l : List Value) (n : Nat) (h : Fit Tryz.prog H (n+2) 47 l) :
  l.length=9∧IntAt l 0∧IntAt l 1∧IntAt l 2∧IntAt l 3∧IntAt l 4∧IntAt l 5∧IntAt l 6∧IntAt l 7∧IntAt l 8∧True :=
 Eq.mp (show Fit Tryz.prog H (n+2) 47 l=(l.length=9∧IntAt l 0∧IntAt l 1∧IntAt l 2∧IntAt l 3∧IntAt l 4∧IntAt l 5∧IntAt l 6∧IntAt l 7∧IntAt l 8∧True) by kernel_rfl) h
theorem ofEv {l:List Value} (h:l.length=9∧IntAt l 0∧IntAt l 1∧IntAt l 2∧IntAt l 3∧IntAt l 4∧IntAt l 5∧IntAt l 6∧IntAt l 7∧IntAt l 8∧True):∃x:Ev,x.Wf∧l=x.cells:=by
 obtain ⟨hl,⟨x0,e0,w0⟩,⟨x1,e1,w1⟩,⟨x2,e2,w2⟩,⟨x3,e3,w3⟩,⟨x4,e4,w4⟩,⟨x5,e5,w5⟩,⟨x6,e6,w6⟩,⟨x7,e7,w7⟩,⟨x8,e8,w8⟩,-⟩:=h
 match l,hl with
 | [c0,c1,c2,c3,c4,c5,c6,c7,c8],_ =>
  simp at e0 e1 e2 e3 e4 e5 e6 e7 e8
  subst e0 e1 e2 e3 e4 e5 e6 e7 e8
  refine ⟨⟨x0,x1,x2,x3,x4,x5,x6,x7,x8⟩,⟨wf_i64 w0,wf_i64 w1,wf_i64 w2,fun v hv=>?_⟩,rfl⟩
  simp [Ev.nums] at hv
  rcases hv with rfl|rfl|rfl|rfl|rfl|rfl
  ·exact wf_i64 w3
  ·exact wf_i64 w4
  ·exact wf_i64 w5
  ·exact wf_i64 w6
  ·exact wf_i64 w7
  ·exact wf_i64 w8
theorem openEv {P : Program} {W : World} {base : Nat} {r : Reach} {v : Value} {fs : Array Field} (hs : P.underlying 47=some (.struct fs)) (hv : Value.okWide P W r base 47 v) (hP : P=Tryz.prog)
  {H:Type} {enc:TypeId×Value→H} {b0:Nat} {spare:Nat→Bool} {held:Bool} {d:DataW H} {p:List MemPlace} (h:DataW.Trod enc P W b0 spare held 47 v d p):∃x:Ev,x.Wf∧v=x.val:=by
 obtain ⟨cs,rfl,hsz⟩:=okWide_struct hs hv
 subst hP
 obtain ⟨x,w,ho⟩:=ofEv (fitEv _ _ 0 (fit_of_Trod 2 h))
 refine ⟨x,w,?_⟩
 have:cs.toList=x.cells:=ho
 show Value.agg cs=Value.agg _
 congr 1
 exact Array.toList_inj.mp this
end Go.Proofs.YtkofafcgcnciaaaGreatDoor
set_option maxRecDepth 100000
namespace Go.Proofs.YtkofafcgcnciaaaGreatDoor
open Go.Ax Go.RowKit Go.ChangeShapes Go.WideShapes Go.ChangeAt
theorem fitE {H:Heap} {n:Nat} {l:List Value} (h:FitS Tryz.prog H (n+2) 47 l):∃x:Ev,l=x.cells:=by
 obtain ⟨hl,h0,h1,h2,h3,h4,h5,h6,h7,h8,-⟩:=Eq.mp (show FitS Tryz.prog H (n+2) 47 l=(l.length=9∧FitS Tryz.prog H (n+1) 3 ((l.drop 0).take 1)∧FitS Tryz.prog H (n+1) 2 ((l.drop 1).take 1) ∧
  FitS Tryz.prog H (n+1) 3 ((l.drop 2).take 1)∧FitS Tryz.prog H (n+1) 2 ((l.drop 3).take 1)∧FitS Tryz.prog H (n+1) 2 ((l.drop 4).take 1)∧FitS Tryz.prog H (n+1) 2 ((l.drop 5).take 1)∧FitS Tryz.prog H (n+1) 2 ((l.drop 6).take 1) ∧
  FitS Tryz.prog H (n+1) 2 ((l.drop 7).take 1)∧FitS Tryz.prog H (n+1) 2 ((l.drop 8).take 1)∧True) by kernel_rfl) h
 match l,hl with
 | [c0,c1,c2,c3,c4,c5,c6,c7,c8],_ =>
  obtain ⟨x0,e0,-⟩:=fitI h0; obtain ⟨x1,e1,-⟩:=fitL h1; obtain ⟨x2,e2,-⟩:=fitI h2; obtain ⟨x3,e3,-⟩:=fitL h3
  obtain ⟨x4,e4,-⟩:=fitL h4; obtain ⟨x5,e5,-⟩:=fitL h5; obtain ⟨x6,e6,-⟩:=fitL h6; obtain ⟨x7,e7,-⟩:=fitL h7; obtain ⟨x8,e8,-⟩:=fitL h8
  simp at e0 e1 e2 e3 e4 e5 e6 e7 e8
  subst e0 e1 e2 e3 e4 e5 e6 e7 e8
  exact ⟨⟨x0,x1,x2,x3,x4,x5,x6,x7,x8⟩,rfl⟩
theorem one_at {l:List Value} {k:Nat} {v:Value} (h:(l.drop k).take 1=[v]):l[k]?=some v:=by
 have:=congrArg (fun z:List Value=>z[0]?) h
 simpa using this
theorem fitK {H:Heap} {n:Nat} {l:List Value} (h:FitS Tryz.prog H (n+3) 64 l):∃x:ActK,l[0]?=some (.int .i64 x.kind)∧(l.drop 1).take 9=x.e.cells∧l[20]?=some (.int .i64 x.value)∧l[22]?=some (.int .i64 x.gone):=by
 obtain ⟨hl,h0,h1,-,h3,-,h5,-⟩:=Eq.mp (show FitS Tryz.prog H (n+3) 64 l=(l.length=23∧FitS Tryz.prog H (n+2) 3 ((l.drop 0).take 1)∧FitS Tryz.prog H (n+2) 47 ((l.drop 1).take 9) ∧
  FitS Tryz.prog H (n+2) 53 ((l.drop 10).take 10)∧FitS Tryz.prog H (n+2) 2 ((l.drop 20).take 1)∧FitS Tryz.prog H (n+2) 3 ((l.drop 21).take 1)∧FitS Tryz.prog H (n+2) 2 ((l.drop 22).take 1)∧True) by kernel_rfl) h
 obtain ⟨x0,e0,-⟩:=fitI h0; obtain ⟨x1,e1⟩:=fitE h1; obtain ⟨x3,e3,-⟩:=fitL h3; obtain ⟨x5,e5,-⟩:=fitL h5
 exact ⟨⟨x0,x1,x3,x5⟩,one_at e0,e1,one_at e3,one_at e5⟩
theorem fitKs {H:Heap} {n:Nat} {l:List Value} (h:FitS Tryz.prog H (n+4) 57 l):∃A m c acts,l=[.slice A m c]∧HasKs H A m acts∧m≤9223372036854775807:=by
 obtain ⟨A,m,c,e,hb,hz,hx⟩:=fitSl (e:=64) Tryz.underlying57 h
 have cA:Tryz.prog.cellsOf 64=23:=by kernel_rfl
 rw [cA] at hx
 obtain ⟨acts,hl,hp⟩:=list_of (p:=fun i (x:ActK)=>∃a,A=some a∧At H ((a.add (i*23)).add 0) [.int .i64 x.kind]∧At H ((a.add (i*23)).add 1) x.e.cells∧At H ((a.add (i*23)).add 20) [.int .i64 x.value]∧At H ((a.add (i*23)).add 22) [.int .i64 x.gone]) m fun i hi=>by
  obtain ⟨a,cs',ha,-,hat,hf⟩:=hx i hi
  obtain ⟨x,e0,e1,e20,e22⟩:=fitK hf
  have hat:=hat (by decide)
  exact ⟨x,a,ha,at_one 0 hat e0,by rw [←e1]; exact at_take 9 (at_drop 1 hat),at_one 20 hat e20,at_one 22 hat e22⟩
 exact ⟨A,m,c,acts,e,⟨hl.symm,hp⟩,hb⟩
theorem openKs {W : World} {H : Type} {enc : TypeId×Value→H} {b0 : Nat} {spare : Nat→Bool} {held : Bool} {d : DataW H} {p : List MemPlace} {ts : List TypeId} {ds : List (DataW H)} (hsz : (DataW.weightsEach Tryz.prog ts ds).all (·≤reachBytes)=true) {j : Nat} (ht : ts[j]?=some 57) (hd : ds[j]?=some d)
  {A:Option Addr} {n c:Nat} (h:DataW.Trod enc Tryz.prog W b0 spare held 57 (.slice A n c) d p):∃l,HasKs (hp W) A n l∧n≤9223372036854775807:=by
 obtain ⟨A',m,c',acts,e,k,hb⟩:=fitKs (n:=0) (fits_of_Trod 4 hsz ht hd h)
 simp [Value.cells] at e
 obtain ⟨rfl,rfl,rfl⟩:=e
 exact ⟨acts,k,hb⟩
theorem attG_D:attG=attrsD:=rfl
section
variable {p:Prg} {number:Int} {id:ByteArray} {L:LS} {R:RS}
theorem Wh.attrs (w:Wh p number id L R):L.s.attrs=R.attrs:=by
 have:=w.cl.att
 rw [w.r]
 show L.s.attrs=attrsD L.h
 rw [←attG_D]
 have e:L.h++L.s.fresh.made=L.h:=List.append_nil _
 rw [e] at this
 exact this
theorem Wh.shut (w:Wh p number id L R):L.s.over=!(R.status==1):=by
 rw [w.open_,w.lv.bi.shut w.ne]; simp
theorem Wh.awaits (w : Wh p number id L R) (ho : L.s.over=false) {e : Ev} (he : e∈L.h) {ks : List Int} (hk : e.kind=3∧ks=[6, 22, 23, 24]∨e.kind=4∧ks=[7, 25]) (hn : nameL L.h e.id ks=none) :
  ∃(j:Nat) (f:Fut),L.s.futures[j]?=some f∧f.kind=e.kind∧f.event=e.id∧f.done=false:=by
 have c:=w.cl
 have eh:L.h++L.s.fresh.made=L.h:=List.append_nil _
 obtain ⟨f,hf,h1,h2⟩:=c.cov ho e (by rw [eh]; exact he) (by rcases hk with k|k; exact .inl k.1; exact .inr k.1)
 obtain ⟨j,hj⟩:=List.getElem?_of_mem hf
 refine ⟨j,f,hj,h2,h1,?_⟩
 cases hd:f.done with
 | false=>rfl
 | true =>
  exfalso
  have hid:f.event≠0:=by
   obtain ⟨i,hi⟩:=List.getElem?_of_mem he
   have:=(may_head (w.lv.bi.gram i e hi)).2.1
   rw [h1]; omega
  have q:=c.don ho f hf hid hd
  rw [eh] at q
  have hn:=nameL_some L.h e.id ks
  rcases hk with ⟨k,rfl⟩|⟨k,rfl⟩
  ·have:=q.1 (by rw [h2,k])
   rw [h1,←hn] at this
   simp_all
  ·have:=q.2 (by rw [h2,k])
   rw [h1,←hn] at this
   simp_all
theorem Wh.act (w:Wh p number id L R) (ho:L.s.over=false) {a:AcM} (ha:a∈R.acts):∃(j:Nat) (f:Fut),L.s.futures[j]?=some f∧f.kind=3∧f.event=a.event∧f.done=false:=by
 rw [w.r] at ha
 have hc:closeM (lastP L.h).kind=false:=by rw [←w.lv.bi.shut w.ne]; exact ho
 have ha:a∈(if closeM (lastP L.h).kind=true then [] else actsD L.h L.h):=ha
 rw [if_neg (by rw [hc]; decide)] at ha
 unfold actsD at ha
 obtain ⟨e,he,q⟩:=List.mem_filterMap.1 ha
 split at q
 ·rename_i k
  cases q
  obtain ⟨j,f,h1,h2,h3,h4⟩:=w.awaits ho he (.inl ⟨k.1,rfl⟩) k.2
  exact ⟨j,f,h1,h2.trans k.1,h3,h4⟩
 ·cases q
theorem Wh.timer (w:Wh p number id L R) (ho:L.s.over=false) {a:TmM} (ha:a∈R.timers):∃(j:Nat) (f:Fut),L.s.futures[j]?=some f∧f.kind=4∧f.event=a.event∧f.done=false:=by
 rw [w.r] at ha
 have hc:closeM (lastP L.h).kind=false:=by rw [←w.lv.bi.shut w.ne]; exact ho
 have ha:a∈(if closeM (lastP L.h).kind=true then [] else timersD L.h L.h):=ha
 rw [if_neg (by rw [hc]; decide)] at ha
 unfold timersD at ha
 obtain ⟨e,he,q⟩:=List.mem_filterMap.1 ha
 split at q
 ·rename_i k
  cases q
  obtain ⟨j,f,h1,h2,h3,h4⟩:=w.awaits ho he (.inr ⟨k.1,rfl⟩) k.2
  exact ⟨j,f,h1,h2.trans k.1,h3,h4⟩
 ·cases q
end
set_option linter.unusedVariables false
open IntKind
noncomputable def c6:Cx:={ P:=Tryz.prog,res:=[],pub:=[12],loops:=[⟨11,[(13,.int .i64),(14,.int .i64)],[50,51,52,53,54,55,56,57,58,59,60,61,62,63,64,65,66,67,68,69,70,71,72,73,74,75,76,77,78,79,80,81,82,83,84,85,86,87,88,89],[]⟩,⟨27,[(22,.int .i64)],[6,23,24,123,124,125,126,127,128,129,130,131,132,133,134,135,136,137,138,139,140,141,142,143,144,145,146,147,148,149,150,151,152,153,154,155,156,157,158,159,160,161,162,163,164,165,166,167,168,169,170,171,172,173,174,175],[]⟩,⟨31,[(23,.bool),(24,.int .i64)],[133,134,135,136,137,138,139,140,141,142,143,144,145,146,147,148,149,150,151,152,153,154,155,156,157,158,159,160,161,162,163,164,165,166,167,168,169,170,171,172,173],[]⟩,⟨37,[(25,.int .i64)],[6,26,27,176,177,178,179,180,181,182,183,184,185,186,187,188,189,190,191,192,193,194,195,196,197,198,199,200,201,202,203,204,205,206,207,208,209,210,211,212,213,214,215,216,217,218,219,220,221,222,223,224,225,226,227,228],[]⟩,⟨41,[(26,.bool),(27,.int .i64)],[186,187,188,189,190,191,192,193,194,195,196,197,198,199,200,201,202,203,204,205,206,207,208,209,210,211,212,213,214,215,216,217,218,219,220,221,222,223,224,225,226],[]⟩],quiet:=[9,19,20,22,25,26],draws:=[⟨17,[0],[],false,true⟩],asm:=true }
def F6 (pFuncsA:Option Addr) (pFuncsn pFuncsc:Nat) (pOptsA:Option Addr) (pOptsn pOptsc:Nat) (xId xTime xKind xA xB xC xD xE xF:Int) (lA:Option Addr) (ln lc:Nat) (H:Heap) (K:Value→Heap→Prop):Prop :=
 ∃(b:Bool),TrQ Tryz.prog 9 #[] H (.bool b) ∧∃(x x1 x2:Int),TrQ Tryz.prog 19 #[.agg #[.slice pFuncsA pFuncsn pFuncsc,.slice pOptsA pOptsn pOptsc]] H (.tuple #[x,x1,x2]) ∧∃(b1:Bool),TrQ Tryz.prog 20 #[.agg #[(1:Int),xTime,(1:Int),xA,xB,xC,xD,xE,xF]] H (.bool b1) ∧((x != 0||!b1)=true→K (.bool b) H) ∧((x != 0||!b1)=false→Tr Tryz.prog 21 #[(4:Int),.string ({ data:=#[(110:UInt8)] }:ByteArray),.agg #[(1:Int),xTime,(1:Int),xA,xB,xC,xD,xE,xF]] H fun v3 H'3 =>
 ∃(x3 x4 x5:Int) (s:ByteArray) (x6 x7 x8 x9 x10 x11 x12 x13 x14 x15 x16:Int) (A:Option Addr) (n c:Nat) (A1:Option Addr) (n1 c1:Nat) (A2:Option Addr) (n2 c2:Nat) (A3:Option Addr) (n3 c3:Nat) (A4:Option Addr) (n4 c4:Nat),v3=.agg #[x3,x4,x5,.string s,x6,x7,x8,x9,x10,x11,x12,x13,x14,x15,x16,.slice A n c,.slice A1 n1 c1,.slice A2 n2 c2,.slice A3 n3 c3,.slice A4 n4 c4] ∧
 ∀b2,H'3 b2=none→∀H1,H1=H'3.upd b2 (.cells #[(0:Int),(0:Int),(0:Int),.string ({ data:=#[] }:ByteArray),(0:Int),(0:Int),(0:Int),(0:Int),(0:Int),(0:Int),(0:Int),(0:Int),(0:Int),(0:Int),(0:Int),.slice none 0 0,.slice none 0 0,.slice none 0 0,.slice none 0 0,.slice none 0 0] 34)→StL H1 (b2:Addr) [x3,x4,x5,.string s,x6,x7,x8,x9,x10,x11,x12,x13,x14,x15,x16,.slice A n c,.slice A1 n1 c1,.slice A2 n2 c2,.slice A3 n3 c3,.slice A4 n4 c4] fun H11 =>∃(Rel:Int→Int→Heap→Prop) (mu:Int→Int→Heap→Nat),Rel xTime (0:Int) H11 ∧
 ∀(x17 x18:Int) (H1:Heap),Rel x17 x18 H1→(decide (x18<(↑ln:Int))=true→∃(a:Addr),InB lA a x18 ln ∧∃(x19:Int),At H1 ((a.add (x18.toNat*23)).add 22) [x19] ∧∃(x20:Int),TrQ Tryz.prog 22 #[x17,x19] H1 (.int .i64 x20) ∧∃(a1:Addr),InB lA a1 x18 ln ∧∃(x21:Int),At H1 ((a1.add (x18.toNat*23)).add 0) [x21] ∧((x21==1)=true→∃(a2:Addr),InB lA a2 x18 ln ∧∃(x22 x23 x24 x25 x26 x27 x28 x29 x30:Int),At H1 ((a2.add (x18.toNat*23)).add 1) [x22,x23,x24,x25,x26,x27,x28,x29,x30] ∧Tr Tryz.prog 16 #[.pointer (some (b2:Addr)),.agg #[x22,x23,x24,x25,x26,x27,x28,x29,x30],x20] H1 fun v5 H'5 =>
 ∃(x31:Int) (A5:Option Addr) (n5 c6:Nat) (x32:Int),v5=.tuple #[x31,.slice A5 n5 c6,x32] ∧∃(a3:Addr),InB lA a3 x18 ln ∧∃(x33:Int),At H'5 ((a3.add (x18.toNat*23)).add 0) [x33] ∧((x33==2)=true→∃(a4:Addr),InB lA a4 x18 ln ∧∃(x34:Int),At H'5 ((a4.add (x18.toNat*23)).add 20) [x34] ∧Tr Tryz.prog 18 #[.pointer (some (b2:Addr)),.agg #[.slice pFuncsA pFuncsn pFuncsc,.slice pOptsA pOptsn pOptsc],x20,x34,(9:Int)] H'5 fun v6 H'6 =>∃(A6:Option Addr) (n6 c7:Nat) (x35:Int),v6=.tuple #[.slice A6 n6 c7,x35] ∧Rel x20 (i64.wrap (x18+1)) H'6 ∧
 mu x20 (i64.wrap (x18+1)) H'6<mu x17 x18 H1) ∧((x33==2)=false→Rel x20 (i64.wrap (x18+1)) H'5 ∧mu x20 (i64.wrap (x18+1)) H'5<mu x17 x18 H1)) ∧((x21==1)=false→∃(a5:Addr),InB lA a5 x18 ln ∧∃(x36:Int),At H1 ((a5.add (x18.toNat*23)).add 0) [x36] ∧((x36==2)=true→∃(a6:Addr),InB lA a6 x18 ln ∧∃(x37:Int),At H1 ((a6.add (x18.toNat*23)).add 20) [x37] ∧Tr Tryz.prog 18 #[.pointer (some (b2:Addr)),.agg #[.slice pFuncsA pFuncsn pFuncsc,.slice pOptsA pOptsn pOptsc],x20,x37,(9:Int)] H1 fun v7 H'7 =>∃(A7:Option Addr) (n7 c8:Nat) (x38:Int),
 v7=.tuple #[.slice A7 n7 c8,x38] ∧Rel x20 (i64.wrap (x18+1)) H'7 ∧mu x20 (i64.wrap (x18+1)) H'7<mu x17 x18 H1) ∧((x36==2)=false→Rel x20 (i64.wrap (x18+1)) H1 ∧mu x20 (i64.wrap (x18+1)) H1<mu x17 x18 H1))) ∧(decide (x18<(↑ln:Int))=false→∃(A8:Option Addr) (n8 c9:Nat),At H1 ((b2:Addr).add 15) [.slice A8 n8 c9] ∧Tr Tryz.prog 23 #[.agg #[.slice pFuncsA pFuncsn pFuncsc,.slice pOptsA pOptsn pOptsc],.slice A8 n8 c9] H1 fun v8 H'8 =>∃(v9:Option Addr) (x39 x40:Int),v8=.tuple #[.pointer v9,x39,x40] ∧((x39 != 0||v9.isNone)=true→K (.bool false) H'8) ∧
 ((x39 != 0||v9.isNone)=false→Tr Tryz.prog 24 #[.pointer v9] H'8 fun v10 H'9 =>∃(x41 x42 x43 x44 x45 x46 x47 x48 x49 x50 x51 x52 x53 x54 x55 x56 x57 x58 x59 x60 x61:Int) (A9:Option Addr) (n9 c10:Nat) (A10:Option Addr) (n10 c11:Nat) (A11:Option Addr) (n11 c12:Nat) (A12:Option Addr) (n12 c13:Nat) (b3:Bool),v10=.agg #[x41,x42,x43,x44,x45,x46,x47,x48,x49,x50,x51,x52,x53,x54,x55,x56,x57,x58,x59,x60,x61,.slice A9 n9 c10,.slice A10 n10 c11,.slice A11 n11 c12,.slice A12 n12 c13,.bool b3] ∧∃(x62:Int) (b4:Bool),TrQ Tryz.prog 25 #[.pointer v9] H'9 (.tuple #[x62,.bool b4]) ∧
 ∃(x63 x64 x65:Int) (s1:ByteArray) (x66 x67 x68 x69 x70 x71 x72 x73 x74 x75 x76:Int) (A13:Option Addr) (n13 c14:Nat) (A14:Option Addr) (n14 c15:Nat) (A15:Option Addr) (n15 c16:Nat) (A16:Option Addr) (n16 c17:Nat) (A17:Option Addr) (n17 c18:Nat),At H'9 (b2:Addr) [x63,x64,x65,.string s1,x66,x67,x68,x69,x70,x71,x72,x73,x74,x75,x76,.slice A13 n13 c14,.slice A14 n14 c15,.slice A15 n15 c16,.slice A16 n16 c17,.slice A17 n17 c18] ∧∃(b5:Bool),
 TrQ Tryz.prog 26 #[.agg #[x63,x64,x65,.string s1,x66,x67,x68,x69,x70,x71,x72,x73,x74,x75,x76,.slice A13 n13 c14,.slice A14 n14 c15,.slice A15 n15 c16,.slice A16 n16 c17,.slice A17 n17 c18]] H'9 (.bool b5) ∧∃(x77 x78 x79 x80:Int),((!b4==b5)=true→At H'9 ((b2:Addr).add 11) [x77,x78,x79,x80]) ∧((b4==b5||!(x57==x77&&(x58==x78&&(x59==x79&&(x60==x80&&true)))))=true→K (.bool false) H'9) ∧((b4==b5||!(x57==x77&&(x58==x78&&(x59==x79&&(x60==x80&&true)))))=false→∃(Rel1:Int→Heap→Prop) (mu1:Int→Heap→Nat),Rel1 (0:Int) H'9 ∧
 ∀(x81:Int) (H2:Heap),Rel1 x81 H2→∃(A18:Option Addr) (n18 c19:Nat),At H2 ((b2:Addr).add 17) [.slice A18 n18 c19] ∧((decide (x81<(↑n18:Int))&&b5)=true→∃(Rel2:Bool→Int→Heap→Prop) (mu2:Bool→Int→Heap→Nat),Rel2 false (0:Int) H2 ∧∀(b6:Bool) (x82:Int) (H3:Heap),Rel2 b6 x82 H3→(decide (x82<(↑n10:Int))=true→∃(a7:Addr),((!b6)=true→A10=some a7 ∧(0:Int)≤x82 ∧x82<(↑n10:Int)) ∧∃(x83:Int),((!b6)=true→At H3 ((a7.add (x82.toNat*6)).add 0) [x83]) ∧∃(a8:Addr),((!b6&&x83==4)=true→A10=some a8 ∧(0:Int)≤x82 ∧x82<(↑n10:Int)) ∧∃(x84:Int),
 ((!b6&&x83==4)=true→At H3 ((a8.add (x82.toNat*6)).add 1) [x84]) ∧∃(A19:Option Addr) (n19 c20:Nat),((!b6&&x83==4)=true→At H3 ((b2:Addr).add 17) [.slice A19 n19 c20]) ∧∃(a9:Addr),((!b6&&x83==4)=true→A19=some a9 ∧(0:Int)≤x81 ∧x81<(↑n19:Int)) ∧∃(x85:Int),((!b6&&x83==4)=true→At H3 ((a9.add (x81.toNat*2)).add 0) [x85]) ∧∃(a10:Addr),((!b6&&(x83==4&&x84==x85))=true→A10=some a10 ∧(0:Int)≤x82 ∧x82<(↑n10:Int)) ∧∃(b7:Bool),((!b6&&(x83==4&&x84==x85))=true→At H3 ((a10.add (x82.toNat*6)).add 3) [.bool b7]) ∧
 Rel2 (b6||x83==4&&x84==x85&&!b7) (i64.wrap (x82+1)) H3 ∧mu2 (b6||x83==4&&x84==x85&&!b7) (i64.wrap (x82+1)) H3<mu2 b6 x82 H3) ∧(decide (x82<(↑n10:Int))=false→((!b6)=true→K (.bool false) H3) ∧((!b6)=false→Rel1 (i64.wrap (x81+1)) H3 ∧mu1 (i64.wrap (x81+1)) H3<mu1 x81 H2))) ∧((decide (x81<(↑n18:Int))&&b5)=false→∃(Rel3:Int→Heap→Prop) (mu3:Int→Heap→Nat),Rel3 (0:Int) H2 ∧∀(x86:Int) (H4:Heap),Rel3 x86 H4→∃(A20:Option Addr) (n20 c21:Nat),At H4 ((b2:Addr).add 16) [.slice A20 n20 c21] ∧((decide (x86<(↑n20:Int))&&b5)=true →
 ∃(Rel4:Bool→Int→Heap→Prop) (mu4:Bool→Int→Heap→Nat),Rel4 false (0:Int) H4 ∧∀(b8:Bool) (x87:Int) (H5:Heap),Rel4 b8 x87 H5→(decide (x87<(↑n10:Int))=true→∃(a11:Addr),((!b8)=true→A10=some a11 ∧(0:Int)≤x87 ∧x87<(↑n10:Int)) ∧∃(x88:Int),((!b8)=true→At H5 ((a11.add (x87.toNat*6)).add 0) [x88]) ∧∃(a12:Addr),((!b8&&x88==3)=true→A10=some a12 ∧(0:Int)≤x87 ∧x87<(↑n10:Int)) ∧∃(x89:Int),((!b8&&x88==3)=true→At H5 ((a12.add (x87.toNat*6)).add 1) [x89]) ∧∃(A21:Option Addr) (n21 c22:Nat),
 ((!b8&&x88==3)=true→At H5 ((b2:Addr).add 16) [.slice A21 n21 c22]) ∧∃(a13:Addr),((!b8&&x88==3)=true→A21=some a13 ∧(0:Int)≤x86 ∧x86<(↑n21:Int)) ∧∃(x90:Int),((!b8&&x88==3)=true→At H5 ((a13.add (x86.toNat*10)).add 0) [x90]) ∧∃(a14:Addr),((!b8&&(x88==3&&x89==x90))=true→A10=some a14 ∧(0:Int)≤x87 ∧x87<(↑n10:Int)) ∧∃(b9:Bool),((!b8&&(x88==3&&x89==x90))=true→At H5 ((a14.add (x87.toNat*6)).add 3) [.bool b9]) ∧Rel4 (b8||x88==3&&x89==x90&&!b9) (i64.wrap (x87+1)) H5 ∧
 mu4 (b8||x88==3&&x89==x90&&!b9) (i64.wrap (x87+1)) H5<mu4 b8 x87 H5) ∧(decide (x87<(↑n10:Int))=false→((!b8)=true→K (.bool false) H5) ∧((!b8)=false→Rel3 (i64.wrap (x86+1)) H5 ∧mu3 (i64.wrap (x86+1)) H5<mu3 x86 H4))) ∧((decide (x86<(↑n20:Int))&&b5)=false→K (.bool b) H4))))))

theorem v6 {pFuncsA:Option Addr} {pFuncsn pFuncsc:Nat} {pOptsA:Option Addr} {pOptsn pOptsc:Nat} {xId xTime xKind xA xB xC xD xE xF:Int} {lA:Option Addr} {ln lc:Nat} {H:Heap} {K:Value→Heap→Prop} (h:F6 pFuncsA pFuncsn pFuncsc pOptsA pOptsn pOptsc xId xTime xKind xA xB xC xD xE xF lA ln lc H K):Tr Tryz.prog 6 #[.agg #[.slice pFuncsA pFuncsn pFuncsc,.slice pOptsA pOptsn pOptsc],.agg #[.int .i64 xId,.int .i64 xTime,.int .i64 xKind,.int .i64 xA,.int .i64 xB,.int .i64 xC,.int .i64 xD,.int .i64 xE,.int .i64 xF],.slice lA ln lc] H K :=
 tr_of_eq (C:=c6) Tryz.func6 (by kernel_rfl) h
theorem bne4 {b c:Bool} (h:b=!c) {x y z w:Int}:(b==c||!(x==x&&(y==y&&(z==z&&(w==w&&true)))))=false:=by subst h; cases c<;>simp
theorem t6 {H : Heap} {fA oA : Option Addr} {fn fc on oc : Nat} {p : Prg} (hp : HasP H fA fn oA on p) (x : Ev) (w : x.W64) {A : Option Addr} {n c : Nat} {l : List ActK} (ha : HasKs H A n l) (hln : n≤9223372036854775807) :
  Tr Tryz.prog 6 #[.agg #[.slice fA fn fc,.slice oA on oc],x.val,.slice A n c] H fun v H'=>v=.bool true∧Sub H H':=by
 apply v6; unfold F6
 have w1:(firstE x).W64:=w
 refine ⟨true,t9 H,_,_,_,t19 hp,_,t20 (firstE x) w1 H,fun _=>⟨rfl,Sub.refl _⟩,fun q=>?_⟩
 simp only [Bool.or_eq_false_iff,bne_eq_false_iff_eq,Bool.not_eq_false'] at q
 obtain ⟨ok,hv⟩:=(⟨(check_ok q.1).2,q.2⟩:Okp p∧validM (firstE x)=true)
 obtain ⟨L0,w0,hnow0⟩:=Wh.start ok 4 nameN hv
 refine (t21 4 nameN (firstE x) H).mono fun v H1 ⟨sl1,hv1,l1⟩=>?_
 refine ⟨_,_,_,_,_,_,_,_,_,_,_,_,_,_,_,_,_,_,_,_,_,_,_,_,_,_,_,_,_,_,hv1,fun b hb1 H2 e2=>l1.var hb1 (cur:=rCells slNil RS.zero) rfl e2 fun H3 x3=>?_⟩
 refine ⟨WR p H b n,fun _ i _=>((n:Int)-i).toNat,⟨0,L0,_,sl1,rfl,Nat.zero_le _,x3,w0,hnow0⟩,fun now i H4 ⟨k,L,R,sl,hi,hkn,x4,wh,hnow⟩=>?_⟩
 subst hi
 have hw1:k<n→IntKind.i64.wrap ((k:Int)+1)=((k+1:Nat):Int):=fun h=>by rw [wrapi (by omega) (by omega)]; rfl
 have c15:=x4.cell (k:=15) rfl
 have hlen:=wh.len
 refine ⟨fun hlt=>?_,fun hge=>?_⟩
 ·have hlt:=of_decide_eq_true hlt
  have hkl:k<n:=by omega
  rw [hw1 hkl]
  obtain ⟨y,hy⟩:=get_some (l:=l) (i:=k) (by rw [←ha.len]; exact hkl)
  obtain ⟨a,haa,k0,k1,k20,k22⟩:=ha.at_ k y hy
  have g4:=x4.gh
  have bd:A=some a∧(0:Int)≤(k:Int)∧(k:Int)<(n:Int):=⟨haa,by omega,by omega⟩
  have n0:=wh.lv.bi.n0
  rw [hnow] at n0
  have pm:=passT_ok (d:=y.gone) n0.2
  have whi:=wh.idle (passT now y.gone) (by rw [hnow]; exact pm)
  have mu:((n:Int)-((k+1:Nat):Int)).toNat<((n:Int)-(k:Int)).toNat:=by omega
  have close:∀{H5:Heap} {R5:RS} {sl5:Nat→SlH} {L5:LS},RunX H H5 b sl5 R5→Wh p 4 nameN L5 R5→L5.now=passT now y.gone→WR p H b n (passT now y.gone) ((k+1:Nat):Int) H5∧((n:Int)-((k+1:Nat):Int)).toNat<((n:Int)-(k:Int)).toNat :=
   fun {H5 R5 sl5 L5} x5 w5 hn5=>⟨⟨k+1,L5,R5,sl5,rfl,hkl,x5,w5,hn5⟩,mu⟩
  refine ⟨a,bd,y.gone,k22.sub g4,_,t22 n0 y.gone H4,a,bd,y.kind,k0.sub g4,fun e1=>?_,fun _=>⟨a,bd,y.kind,k0.sub g4,fun _=>?_,fun _=>close x4 whi rfl⟩⟩
  ·obtain ⟨L5,w5,hn5,h1,h2⟩:=whi.add ok y.e
   refine ⟨a,bd,_,_,_,_,_,_,_,_,_,k1.sub g4,(t16 x4 (wh.le.small (by omega)) y.e (passT now y.gone)).mono fun v5 H5 ⟨A6,n6,c6,hv5,⟨sl5,x5⟩,_,_⟩=>?_⟩
   refine ⟨_,_,_,_,_,hv5,a,bd,y.kind,k0.sub x5.gh,fun e2=>?_,fun _=>close x5 w5 hn5⟩
   have e1:y.kind=1:=by simpa using e1
   rw [e1] at e2; cases e2
  ·obtain ⟨d,rp⟩:=whi.rep
   obtain ⟨L5,w5,hn5,h1,h2,h3⟩:=whi.task ok d y.value
   obtain ⟨r1,r2⟩:=whi.rows ok d y.value
   refine ⟨a,bd,_,k20.sub g4,(t18 x4 wh.le (by omega) ok (hp.sub g4) (passT now y.gone) y.value 9 (fun _ _=>by rw [wh.ev]; exact rp) r1 r2).mono fun v5 H5 ⟨A6,n6,c6,hv5,⟨sl5,x5⟩,_,_⟩=>?_⟩
   exact ⟨_,_,_,_,hv5,close x5 w5 hn5⟩
 ·have g4:=x4.gh
  have gr:=wh.lv.bi.gram
  have hev:=wh.ev
  have e0:HasEvs H4 (sl 0).A (sl 0).n L.h:=by rw [←hev]; exact hand_evs (x4.ok 0 (by decide))
  have hcap0:(sl 0).n≤(sl 0).c:=(x4.ok 0 (by decide)).cap
  rw [hev] at hlen
  obtain ⟨d,rp⟩:=wh.rep
  have sa:(L.s.dm d (L.s.made.map fix7)).attrs=R.attrs:=wh.attrs
  have so:(L.s.dm d (L.s.made.map fix7)).over=!(R.status==1):=wh.shut
  have sf:(L.s.dm d (L.s.made.map fix7)).futures=L.s.futures:=rfl
  have aw:=wh.shut
  generalize L.s.dm d (L.s.made.map fix7)=s at rp sa so sf
  refine ⟨_,_,_,c15,(t23 ok (hp.sub g4) e0 hcap0 hlen (gram_stand gr) rp.ok).mono fun v5 H5 q5=>?_⟩
  obtain ⟨m,pf,po,hv5,vm5⟩:=rp.run q5
  refine ⟨_,_,_,hv5,fun e=>absurd e (by simp),fun _=>?_⟩
  obtain ⟨sl5,F5,st5,v5x,p5⟩:=vm5.out
  refine (t24 v5x p5 rp.inv).mono fun v6 H6 lr=>?_
  obtain ⟨tA,tn,tc,uA,un,uc,cA,cn,cc,gA,gn,gc,G6,hv6,s6,la,w6⟩:=lr.out
  obtain ⟨sl6,F6,st6,v6x,p6⟩:=w6.out
  have x6:=x4.grow (s6.trans w6.gh)
  have hun:=la.fut.1
  have hfu:=src_sub la.fut.2 w6.gh
  have hatt:At H6 ((⟨b,0,none⟩:Addr).add 11) (cellsV 4 R.attrs):=at_take 4 (at_drop 11 x6.at)
  rw [←sa] at hatt
  refine ⟨_,_,_,_,_,_,_,_,_,_,_,_,_,_,_,_,_,_,_,_,_,_,_,_,_,_,_,_,_,_,_,_,_,_,hv6,_,_,t25 v6x,_,_,_,_,_,_,_,_,_,_,_,_,_,_,_,_,_,_,_,_,_,_,_,_,_,_,_,_,_,_,x6.at,_,t26 sl R H6,_,_,_,_,fun _=>hatt,fun e=>?_,fun _=>?_⟩
  ·rw [bne4 so] at e; cases e
  have lt_:=x6.len2
  have la_:=x6.len1
  have tmS:=(x6.ok 2 (by decide)).src
  have acS:=(x6.ok 1 (by decide)).src
  have let_:=wh.le.t
  have lea:=wh.le.a
  rw [hev] at let_ lea
  have ufl:s.futures.length≤256000:=by
   have:=rp.inv.many; have:=rp.inv.fuel; have:=rp.inv.c0; omega
  refine ⟨fun i H7=>H7=H6∧∃j:Nat,i=(j:Int)∧j≤R.timers.length,fun i _=>((R.timers.length:Int)-i).toNat,⟨rfl,0,rfl,Nat.zero_le _⟩,fun i H7 ⟨h7,j,hi,hj⟩=>?_⟩
  subst h7 hi
  refine ⟨_,_,_,x6.cell (k:=17) rfl,fun e=>?_,fun _=>?_⟩
  ·rw [Bool.and_eq_true,decide_eq_true_eq] at e
   obtain ⟨hlt,hop⟩:=e
   obtain ⟨t,ht⟩:=get_some (l:=R.timers) (i:=j) (by omega)
   obtain ⟨a9,ha9,at9⟩:=src_elem (cells:=TmM.cells) (sz:=2) (fun _=>rfl) (by decide) tmS j t ht
   obtain ⟨j0,f0,hf0,fk,fe,fd⟩:=wh.timer (by rw [aw,hop]; rfl) (List.mem_of_getElem? ht)
   have hj0:=get_lt hf0
   rw [←sf] at hj0 hf0
   rw [show IntKind.i64.wrap ((j:Int)+1)=((j+1:Nat):Int) by rw [wrapi (by omega) (by omega)]; rfl]
   have mu1:((R.timers.length:Int)-((j+1:Nat):Int)).toNat<((R.timers.length:Int)-(j:Int)).toNat:=by omega
   refine ⟨fun bb i H8=>H8=H7∧∃k:Nat,i=(k:Int)∧k≤un∧(bb=false→k≤j0),fun _ i _=>((un:Int)-i).toNat,⟨rfl,0,rfl,Nat.zero_le _,fun _=>Nat.zero_le _⟩,fun bb i H8 ⟨h8,k,hi,hk,hbb⟩=>?_⟩
   subst h8 hi
   refine ⟨fun hlt=>?_,fun hge=>⟨fun e=>?_,fun _=>⟨⟨rfl,j+1,rfl,by omega⟩,mu1⟩⟩⟩
   ·have hlt:=of_decide_eq_true hlt
    obtain ⟨f,hf⟩:=get_some (l:=s.futures) (i:=k) (by omega)
    obtain ⟨a8,ha8,at8⟩:=src_elem (cells:=futC) (sz:=6) (fun _=>rfl) (by decide) hfu k f hf
    have bd:uA=some a8∧(0:Int)≤(k:Int)∧(k:Int)<(un:Int):=⟨ha8,by omega,hlt⟩
    have bd9:(sl 2).A=some a9∧(0:Int)≤(j:Int)∧(j:Int)<((sl 2).n:Int):=⟨ha9,by omega,by omega⟩
    rw [show IntKind.i64.wrap ((k:Int)+1)=((k+1:Nat):Int) by rw [wrapi (by omega) (by omega)]; rfl]
    have mu2:((un:Int)-((k+1:Nat):Int)).toNat<((un:Int)-(k:Int)).toNat:=by omega
    refine ⟨a8,fun _=>bd,f.kind,fun _=>at_one 0 at8 rfl,a8,fun _=>bd,f.event,fun _=>at_one 1 at8 rfl,_,_,_,fun _=>x6.cell (k:=17) rfl,a9,fun _=>bd9,t.event,fun _=>at_one 0 at9 rfl,a8,fun _=>bd,f.done,fun _=>at_one 3 at8 rfl,⟨rfl,k+1,rfl,by omega,fun e=>?_⟩,mu2⟩
    rw [Bool.or_eq_false_iff] at e
    have h1:=hbb e.1
    by_cases hkj:k=j0
    ·subst hkj
     rw [hf0] at hf; cases hf
     have:=e.2
     rw [fk,fe,fd] at this
     simp at this
    ·omega
   ·have hbf:bb=false:=by simpa using e
    have:=hbb hbf
    have:=of_decide_eq_false hge
    omega
  refine ⟨fun i H8=>H8=H7∧∃j:Nat,i=(j:Int)∧j≤R.acts.length,fun i _=>((R.acts.length:Int)-i).toNat,⟨rfl,0,rfl,Nat.zero_le _⟩,fun i H8 ⟨h8,j,hi,hj⟩=>?_⟩
  subst h8 hi
  refine ⟨_,_,_,x6.cell (k:=16) rfl,fun e=>?_,fun _=>⟨rfl,x6.gh⟩⟩
  rw [Bool.and_eq_true,decide_eq_true_eq] at e
  obtain ⟨hlt,hop⟩:=e
  obtain ⟨t,ht⟩:=get_some (l:=R.acts) (i:=j) (by omega)
  obtain ⟨a9,ha9,at9⟩:=src_elem (cells:=AcM.cells) (sz:=10) (fun _=>rfl) (by decide) acS j t ht
  obtain ⟨j0,f0,hf0,fk,fe,fd⟩:=wh.act (by rw [aw,hop]; rfl) (List.mem_of_getElem? ht)
  have hj0:=get_lt hf0
  rw [←sf] at hj0 hf0
  rw [show IntKind.i64.wrap ((j:Int)+1)=((j+1:Nat):Int) by rw [wrapi (by omega) (by omega)]; rfl]
  have mu1:((R.acts.length:Int)-((j+1:Nat):Int)).toNat<((R.acts.length:Int)-(j:Int)).toNat:=by omega
  refine ⟨fun bb i H9=>H9=H8∧∃k:Nat,i=(k:Int)∧k≤un∧(bb=false→k≤j0),fun _ i _=>((un:Int)-i).toNat,⟨rfl,0,rfl,Nat.zero_le _,fun _=>Nat.zero_le _⟩,fun bb i H9 ⟨h9,k,hi,hk,hbb⟩=>?_⟩
  subst h9 hi
  refine ⟨fun hlt=>?_,fun hge=>⟨fun e=>?_,fun _=>⟨⟨rfl,j+1,rfl,by omega⟩,mu1⟩⟩⟩
  ·have hlt:=of_decide_eq_true hlt
   obtain ⟨f,hf⟩:=get_some (l:=s.futures) (i:=k) (by omega)
   obtain ⟨a8,ha8,at8⟩:=src_elem (cells:=futC) (sz:=6) (fun _=>rfl) (by decide) hfu k f hf
   have bd:uA=some a8∧(0:Int)≤(k:Int)∧(k:Int)<(un:Int):=⟨ha8,by omega,hlt⟩
   have bd9:(sl 1).A=some a9∧(0:Int)≤(j:Int)∧(j:Int)<((sl 1).n:Int):=⟨ha9,by omega,by omega⟩
   rw [show IntKind.i64.wrap ((k:Int)+1)=((k+1:Nat):Int) by rw [wrapi (by omega) (by omega)]; rfl]
   have mu2:((un:Int)-((k+1:Nat):Int)).toNat<((un:Int)-(k:Int)).toNat:=by omega
   refine ⟨a8,fun _=>bd,f.kind,fun _=>at_one 0 at8 rfl,a8,fun _=>bd,f.event,fun _=>at_one 1 at8 rfl,_,_,_,fun _=>x6.cell (k:=16) rfl,a9,fun _=>bd9,t.event,fun _=>at_one 0 at9 rfl,a8,fun _=>bd,f.done,fun _=>at_one 3 at8 rfl,⟨rfl,k+1,rfl,by omega,fun e=>?_⟩,mu2⟩
   rw [Bool.or_eq_false_iff] at e
   have h1:=hbb e.1
   by_cases hkj:k=j0
   ·subst hkj
    rw [hf0] at hf; cases hf
    have:=e.2
    rw [fk,fe,fd] at this
    simp at this
   ·omega
  ·have hbf:bb=false:=by simpa using e
   have:=hbb hbf
   have:=of_decide_eq_false hge
   omega
end Go.Proofs.YtkofafcgcnciaaaGreatDoor
namespace Go.Proofs.YtkofafcgcnciaaaGreatDoor
def tab64 (k:IntKind) (l:List Int):Array Value:=⟨l.map (Value.int k)⟩
def layT (vs:Array Value):Obj→Obj
 | .cells _ t frozen=>.cells vs t frozen
 | o=>o
def Tryz.pow10L:List Int:=[1,10,100,1000,10000,100000,1000000,10000000,100000000,1000000000,10000000000,100000000000,1000000000000,10000000000000,100000000000000,1000000000000000,10000000000000000,100000000000000000,1000000000000000000,10000000000000000000]
def Tryz.bruijn32L:List Int:=[0,1,28,2,29,14,24,3,30,22,20,15,25,17,4,8,31,27,13,23,21,19,16,7,26,12,18,6,11,5,10,9]
def Tryz.bruijn64L:List Int:=[0,1,56,2,57,49,28,3,61,58,42,50,38,29,17,4,62,47,59,36,45,43,51,22,53,39,33,30,24,18,12,5,63,55,48,27,60,41,37,16,46,35,44,21,52,32,23,11,54,26,40,15,34,20,31,10,25,14,19,9,13,8,7,6]
end Go.Proofs.YtkofafcgcnciaaaGreatDoor
namespace Go.Proofs.YtkofafcgcnciaaaGreatDoor
open Go.ChangeShapes Go.WideShapes Go.ChangeAt Go.RowKit Go.Ax
open Go.ChangeMaps (open_string shut_string)
set_option linter.unusedVariables false
theorem own6:ownKnob Tryz.prog.godebug=none:=by kernel_rfl
theorem laidOut6:laidOutB Tryz.prog=true:=by kernel_rfl
noncomputable def laidWorld6 (os:Os):World :=
 {World.holding Tryz.prog os ⟨#[],#[],[]⟩ with heap:=(((World.holding Tryz.prog os ⟨#[],#[],[]⟩).heap.modify 0 (layT (tab64 .u64 Tryz.pow10L))).modify 1 (layT (tab64 .u8 Tryz.bruijn32L))).modify 2 (layT (tab64 .u8 Tryz.bruijn64L)) }
theorem laid_met6 (os:Os):laidMet Tryz.prog Rows.runsAgreeRow.laid ((laidWorld6 os).forCall (fun _ _=>0) ⟨#[],#[.agg #[.slice none 0 0,.slice none 0 0],.agg #[.int .i64 0,.int .i64 0,.int .i64 0,.int .i64 0,.int .i64 0,.int .i64 0,.int .i64 0,.int .i64 0,.int .i64 0],.slice none 0 0],[]⟩).memory :=
 laidMet_of_run' 8 (by kernel_rfl) (by kernel_rfl)
theorem reads6 (os:Os) {H:Type} (enc:TypeId×Value→H):∃places,DataW.whole enc Tryz.prog ((laidWorld6 os).forCall (fun _ _=>0) ⟨#[],#[.agg #[.slice none 0 0,.slice none 0 0],.agg #[.int .i64 0,.int .i64 0,.int .i64 0,.int .i64 0,.int .i64 0,.int .i64 0,.int .i64 0,.int .i64 0,.int .i64 0],.slice none 0 0],[]⟩).memory Tryz.f6.params.toList Rows.runsAgreeSpec.vars false (#[.agg #[.slice none 0 0,.slice none 0 0],.agg #[.int .i64 0,.int .i64 0,.int .i64 0,.int .i64 0,.int .i64 0,.int .i64 0,.int .i64 0,.int .i64 0,.int .i64 0],.slice none 0 0]:Array Value).toList 8=some ([.agg [.nil,.nil],.agg [.lit (.int .i64 0),.lit (.int .i64 0),.lit (.int .i64 0),.lit (.int .i64 0),.lit (.int .i64 0),.lit (.int .i64 0),.lit (.int .i64 0),.lit (.int .i64 0),.lit (.int .i64 0)],.nil],[],places) :=
 ⟨[],by kernel_rfl⟩
set_option maxRecDepth 100000 in
theorem contract6 (H : Type) (enc : TypeId×Value→H) (W : World) (base : Nat) (args : Array Value) (ds gs : List (DataW H)) (before : List MemPlace)
  (hval0:∀(j:Nat) t v,Tryz.f6.params[j]?=some t→args[j]?=some v→Value.okWide Tryz.prog W .any base t v)
  (hW:DataW.Whole enc Tryz.prog Tryz.f6.params.toList Rows.runsAgreeSpec.vars false W args.toList ds gs before)
  (hsz:(DataW.weightsEach Tryz.prog (Tryz.f6.params.toList++Rows.runsAgreeSpec.plain.varTypes Tryz.prog) (ds++gs)).all (·≤reachBytes)=true) (hL:laidMetH Tryz.prog Rows.runsAgreeRow.laid W) :
  Calls Tryz.prog 6 args W fun e W'=>∃v,e=.returned v∧Rows.runsAgreeSpec.post enc Tryz.prog Tryz.f6 false true false false W args v W':=by
 have hval:∀(j:Nat) t v,Tryz.f6.params[j]?=some t→args[j]?=some v→Value.okWide Tryz.prog W .any base t v:=hval0
 have hW':=hW
 obtain ⟨p,q,hA0,hV,rfl,hfz,hnd⟩:=hW
 have hA:DataW.TrodAll enc Tryz.prog W 0 (fun _=>true) true Tryz.f6.params.toList args.toList ds p:=hA0
 rw [Tryz.params6] at hA hval
 obtain ⟨v0,vs0,d0,ds0,p0,q0,hargs,rfl,rfl,h0,s0⟩:=trodAll_cons hA
 obtain ⟨v1,vs1,d1,ds1,p1,q1,rfl,rfl,rfl,h1,s1⟩:=trodAll_cons s0
 obtain ⟨v2,vs2,d2,ds2,p2,q2,rfl,rfl,rfl,h2,s2⟩:=trodAll_cons s1
 obtain ⟨rfl,rfl,rfl⟩:=trodAll_nil s2
 obtain rfl:args=#[v0,v1,v2]:=by cases args; simp_all
 obtain ⟨rfl,rfl⟩:=trodVars_none hV
 have k0:=h0
 have lt0:∀x∈p0,x.block<W.heap.size:=by obtain ⟨m,hm⟩:=k0; exact DataW.trod_lt m _ _ _ hm
 have k1:=h1
 have lt1:∀x∈p1,x.block<W.heap.size:=by obtain ⟨m,hm⟩:=k1; exact DataW.trod_lt m _ _ _ hm
 have k2:=h2
 have lt2:∀x∈p2,x.block<W.heap.size:=by obtain ⟨m,hm⟩:=k2; exact DataW.trod_lt m _ _ _ hm
 obtain ⟨fA0,fn0,fc0,oA0,on0,oc0,z0,rfl,r0,w0,q0⟩:=openP Tryz.underlying45 (hval 0 45 v0 rfl rfl) hsz (j:=0) rfl rfl h0
 obtain ⟨a1,w1,rfl⟩:=openEv Tryz.underlying47 (hval 1 47 v1 rfl rfl) rfl h1
 obtain ⟨A2,n2,c2,rfl⟩:=okWide_slice Tryz.underlying57 (hval 2 57 v2 rfl rfl)
 obtain ⟨z2,r2,u2⟩:=openKs hsz (j:=2) rfl rfl h2
 clear hA0 hval0
 refine (below_of_tr (f:=6) (t6 r0 a1 (fun k v hv=>w1.nums v (List.mem_of_getElem? hv)) r2 u2)).mono fun e W' ⟨he,bel⟩=>?_
 subst he
 exact ⟨_,rfl,_,_,_,[],_,[],hW',trodAll_mk1 (shut_bool Tryz.underlying4 _),(trodAll_cons_mk (Below.trod laidOut6 (by kernel_rfl) (of_decide_eq_true (by kernel_rfl)) k0 bel lt0) (trodAll_cons_mk (Below.trod laidOut6 (by kernel_rfl) (of_decide_eq_true (by kernel_rfl)) k1 bel lt1) (trodAll_cons_mk (Below.trod laidOut6 (by kernel_rfl) (of_decide_eq_true (by kernel_rfl)) k2 bel lt2) trodAll_mk0))),rfl,bel.frame _,fun h=>by cases h⟩
set_option maxRecDepth 100000 in
theorem lifted6 (os : Os) (started : os.Started) (H : Type) (enc : TypeId×Value→H) (F : Stop.Interp) :
  ReturnsInHanded {} Tryz.checked os 6 .any ((OpenSpec.ofChange Rows.runsAgreeSpec).preRow enc Tryz.prog Tryz.f6 Rows.runsAgreeRow.domain false Rows.runsAgreeRow.laid) (((OpenSpec.ofChange Rows.runsAgreeSpec).at F).post enc Tryz.prog Tryz.f6 false true false false):=by
 obtain ⟨places,hx⟩:=reads6 os enc
 refine returnsInHanded_of_row (C:=Tryz.checked) (s:=OpenSpec.ofChange Rows.runsAgreeSpec) own6 started (by kernel_rfl) Tryz.func6
  (witness_row_at (enc:=enc) (C:=Tryz.checked) false (laidWorld6 os) #[.agg #[.slice none 0 0,.slice none 0 0],.agg #[.int .i64 0,.int .i64 0,.int .i64 0,.int .i64 0,.int .i64 0,.int .i64 0,.int .i64 0,.int .i64 0,.int .i64 0],.slice none 0 0] rfl (by kernel_rfl) (by kernel_rfl) (by kernel_rfl)
   (OpenSpec.preRow_of_cond 8 hx (by kernel_rfl) (fun k hk=>by cases hk) (by kernel_rfl) (laid_met6 os))) ?_
 intro W base args ds gs before hval hW _ _ hsz hL _ _
 exact contract6 H enc W base args ds gs before hval hW hsz hL
theorem over6:Rows.RunsAgreeSaid :=
 OpenClaim.holds_of_cond 6 Tryz.f6 rfl rfl rfl rfl rfl rfl rfl ⟨rfl,rfl,rfl,rfl,rfl⟩ rfl rfl rfl rfl rfl (by kernel_rfl) Tryz.func6 (by kernel_rfl)
  (of_decide_eq_true (by kernel_rfl)) (by unfold Func.isWrapper; first|(rw [if_pos (by decide +kernel)]; kernel_rfl)|(rw [if_neg (by decide +kernel)]; exact ⟨rfl,rfl⟩))
  (fun os started H enc _ F=>by rw [OpenClaim.pre_eq_preRow]; exact lifted6 os started H enc F)
theorem plain6 (f : FuncId) (fn : Func) (hf : Tryz.pinned.checked.prog.funcNamed "tapestry/tapestrylaw19.RunsAgree" = some f) (hfn : Tryz.pinned.checked.prog.funcs[f]? = some fn) :
    false=Tryz.pinned.checked.prog.looks []∧∀(j:Nat) t,fn.params[j]?=some t→Tryz.pinned.checked.prog.wantsStandIn t=false:=by
  obtain rfl : f = 6 := Option.some.inj ((show Tryz.prog.funcNamed "tapestry/tapestrylaw19.RunsAgree" = some 6 by kernel_rfl).symm.trans hf) |>.symm
  obtain rfl:fn=Tryz.f6:=(Option.some.inj (Tryz.func6.symm.trans hfn)).symm
  refine ⟨by kernel_rfl,fun j t ht=>?_⟩
  rw [Tryz.params6] at ht
  have hm:=Array.mem_of_getElem? ht
  simp at hm
  rcases hm with rfl|rfl|rfl
  · exact (show Tryz.prog.wantsStandIn 45=false by kernel_rfl)
  · exact (show Tryz.prog.wantsStandIn 47=false by kernel_rfl)
  · exact (show Tryz.prog.wantsStandIn 57=false by kernel_rfl)
theorem provedRunsAgree:Rows.RunsAgreeCardSaid :=
 Claim7.holds_tied_plain_at .later [] _ _ _ _ over6 (fun _ h=>by cases h) (by kernel_rfl) (fun _ h=>by cases h) runsAgree_row_tie rfl ⟨rfl,rfl⟩ (by kernel_rfl) rfl plain6 (by kernel_rfl)
end Go.Proofs.YtkofafcgcnciaaaGreatDoor
