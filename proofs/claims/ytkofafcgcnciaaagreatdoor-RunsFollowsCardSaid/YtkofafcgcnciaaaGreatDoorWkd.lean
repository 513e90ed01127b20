/- Lemmas that the claim needs, in order. Conditions: those of each lemma. -/
import Derived.Test.YtkofafcgcnciaaaGreatDoorWkc
set_option maxRecDepth 100000
namespace Go.Proofs.YtkofafcgcnciaaaGreatDoor
open Go.Ax
theorem emit0_made (s:VS) (e:Ev) (h:(s.emit0 e).1.2 = true):∃ w,(s.emit0 e).2.made = s.made ++ [w]:=by
  unfold VS.emit0 at h ⊢
  split at h
  · exact ⟨_,rfl⟩
  · cases h
  · split at h
    · rename_i hm; simp only [hm,if_true]; exact ⟨_,rfl⟩
    · cases h
theorem emit_made (s:VS) (e:Ev) (h:(s.emit e).1.2 = true):∃ w,(s.emit e).2.made = s.made ++ [w]:=by
  unfold VS.emit at h ⊢
  split at h
  · cases h
  · rename_i hm; rw [if_neg hm]; exact emit0_made _ _ h
theorem CmdOk.take {r:Rn} (ok:CmdOk r):CmdOk r.take.2:=by
  have hs:=take_s r
  have:=take_len r
  exact ⟨Nat.le_trans this ok.stack,by rw [hs]; exact ok.par,by rw [hs,take_scope]; exact ok.scope,by rw [hs]; exact ok.c0,by rw [hs]; exact ok.c1,by rw [hs]; exact ok.made,by rw [hs]; exact ok.futs⟩
section
variable {G H:Heap} {m:Nat} {pf po:SlH} {sl:Nat → SlH} {F:Heap} {ex:Value} {st:List SlH} {s:VS}
theorem VMX.c33 (h:VMX G H m pf po sl F ex st s):At H ((⟨m,0,none⟩:Addr).add 33) [.int .u64 s.draws]:=h.cell rfl
theorem VMX.row (h:VMX G H m pf po sl F ex st s) {i:Nat} {w:Ev} (hw:s.made[i]? = some w):∃ a,(sl 5).A = some a ∧ At H (a.add (i * 9)) w.cells :=
  src_elem (cells:=Ev.cells) (sz:=9) (fun _=>rfl) (by decide) (h.ok 5 (by decide)).src i w hw
end
section
variable {p:Prg} {G0 H0 G H:Heap} {m rb tb:Nat} {q:SlH} {pf po:SlH} {sl:Nat → SlH} {F:Heap} {ex:Value} {st:List SlH} {r:Rn}
theorem RX.draws (h : RX p G0 H0 G H m rb tb q pf po sl F ex st r) (ok : CmdOk r) {K : Value → Heap → Prop}
    (k:∀ H',RZ p G0 m rb tb pf po ex (r.commands 19 0) H' → K (.tuple #[]) H') (hn:¬ (r.t.stack.length:Int) = 32) :
    Wr H ((⟨m,0,none⟩:Addr).add 33) (.int .u64 (IntKind.u64.wrap (r.s.draws + 1))) fun H11=>Tr Tryz.prog 141 #[.pointer (some ⟨m,0,none⟩),(evM 11 (IntKind.i64.wrap (mix64 r.s.draws)) 0 0).val] H11 fun v3 H1=>∃ (x3:Int) (b:Bool),v3 = .tuple #[.int .i64 x3,.bool b] ∧
      (b = true → ∃ (A:Option Addr) (n c:Nat),At H1 ((⟨m,0,none⟩:Addr).add 32) [.slice A n c] ∧ ∃ a9:Addr,(A = some a9 ∧ (0:Int) ≤ IntKind.i64.wrap ((n:Int) - 1) ∧ IntKind.i64.wrap ((n:Int) - 1) < (n:Int)) ∧ ∃ x4:Int,At H1 ((a9.add ((IntKind.i64.wrap ((n:Int) - 1)).toNat * 9)).add 3) [.int .i64 x4] ∧
        ∀ b1:Nat,H1 b1 = none → ∀ H12,H12 = H1.upd b1 (.cells #[.int .i64 x4] 2 (0,0)) → Tr Tryz.prog 174 #[.pointer (some ⟨rb,0,none⟩),.slice (some ⟨b1,0,none⟩) 1 1] H12 fun v4 H2=>v4 = .tuple #[] ∧ K (.tuple #[]) H2) ∧ (b = false → K (.tuple #[]) H1):=by
  have hcmd : r.commands 19 0 = (let s1 : VS := { r.s with draws := IntKind.u64.wrap (r.s.draws + 1) }
     let q:=s1.emit (evM 11 (IntKind.i64.wrap (mix64 r.s.draws)) 0 0)
     if q.1.2 = true then (r.vs q.2).leave [((q.2.made.getLast?).map Ev.a).getD 0] else r.vs q.2):=by
    unfold Rn.commands; rw [if_pos rfl,if_neg (by simpa using hn)]
  simp only at hcmd
  refine h.vm.wr (k:=33) (by decide) { r.s with draws:=IntKind.u64.wrap (r.s.draws + 1) } rfl rfl rfl rfl rfl rfl rfl rfl h.vm.vars h.vm.attrs fun H1 v1=>?_
  refine (t141 v1 (evM 11 (IntKind.i64.wrap (mix64 r.s.draws)) 0 0) ok.c0 ok.c1 ok.made).mono fun x H2 ⟨hx,sl2,v2⟩=>⟨_,_,hx,fun eb=>?_,fun eb=>k H2 ?_⟩
  · obtain ⟨w,hw⟩:=emit_made _ _ eb
    have hlen:=v2.madeLen
    have hl2:(sl2 5).n = r.s.made.length + 1:=by rw [hlen,hw]; simp
    have hm:=ok.made
    have hwr:IntKind.i64.wrap (((sl2 5).n:Int) - 1) = ((sl2 5).n:Int) - 1:=wrapi (by omega) (by omega)
    have ht:(((sl2 5).n:Int) - 1).toNat = r.s.made.length:=by omega
    have hget:(({ r.s with draws:=IntKind.u64.wrap (r.s.draws + 1) }:VS).emit (evM 11 (IntKind.i64.wrap (mix64 r.s.draws)) 0 0)).2.made[r.s.made.length]? = some w:=by rw [hw]; simp
    obtain ⟨a,ha,hat⟩:=v2.row hget
    refine ⟨_,_,_,v2.c32,a,⟨ha,by rw [hwr]; omega,by rw [hwr]; omega⟩,w.a,by rw [hwr,ht]; exact at_one 3 hat rfl,fun b1 hb1 H12 e12=>?_⟩
    refine (h.setVs v2).leaves [w.a] (by show r.t.stack.length + 1 ≤ _; have:=ok.stack; omega) hb1 e12 fun G' F' q' H' h'=>k H' ?_
    rw [hcmd,if_pos eb,hw]
    simp only [List.getLast?_append,List.getLast?_singleton,Option.some_or,Option.map_some,Option.getD_some]
    exact h'.z
  · rw [hcmd,if_neg (by rw [eb]; simp)]; exact (h.setVs v2).z
end
end Go.Proofs.YtkofafcgcnciaaaGreatDoor
set_option maxRecDepth 100000
namespace Go.Proofs.YtkofafcgcnciaaaGreatDoor
open Go.Ax
section
variable {p:Prg} {G0 H0 G H:Heap} {m rb tb:Nat} {q:SlH} {pf po:SlH} {sl:Nat → SlH} {F:Heap} {ex:Value} {st:List SlH} {r:Rn}
theorem told_other {op:Int} (h:op ≠ 34) (r:Rn):r.told op = (0,r):=by unfold Rn.told; rw [if_neg h]
theorem commands_other {op a:Int} (h19:op ≠ 19) (h:op ≠ 34) (r:Rn):r.commands op a = if r.take.2.fault = true then r.take.2 else r.take.2.command op a 0 r.take.1:=by
  unfold Rn.commands; rw [if_neg h19,told_other h]; rfl
theorem t190 (h : RX p G0 H0 G H m rb tb q pf po sl F ex st r) (ok : CmdOk r) (hev : ∀ (i : Nat) (f : Fut), r.s.futures[i]? = some f → 0 ≤ f.event) (op a : Int) (h16 : op = 16 → 0 ≤ a ∧ a < 16) (h33 : op = 33 → 0 ≤ a ∧ a < 4) :
    Tr Tryz.prog 190 #[.pointer (some ⟨rb,0,none⟩),.agg #[.int .i64 op,.int .i64 a]] H fun v H'=>v = .tuple #[] ∧ RZ p G0 m rb tb pf po ex (r.commands op a) H':=by
  have hst:=ok.stack
  apply v190; unfold F190
  refine ⟨_,rfl,_,h.r0_,fun e=>⟨_,rfl,_,h.r1,_,rfl,_,_,_,h.t3,fun en=>⟨_,rfl,?_⟩,fun en=>?_⟩,fun e=>⟨fun e34=>?_,fun e34=>?_⟩⟩
  · have e:op = 19:=by simpa using e
    subst e
    rw [h.len] at en
    refine h.setF (b:=true) fun G' F' H' h'=>⟨rfl,?_⟩
    have:r.commands 19 a = r.fail:=by unfold Rn.commands; rw [if_pos rfl,if_pos en]
    rw [this]; exact h'.z
  · have e:op = 19:=by simpa using e
    subst e
    rw [h.len] at en
    have key:=h.draws ok (K:=fun v H'=>v = .tuple #[] ∧ RZ p G0 m rb tb pf po ex (r.commands 19 a) H') (fun H' z=>⟨rfl,z⟩) (by simpa using en)
    obtain ⟨c2,T1,k1,k2,k3,k4⟩:=key
    refine ⟨_,rfl,_,h.vm.c33,_,t196 _ _,_,rfl,_,h.vm.c33,_,rfl,c2,T1,k1,k2,k3,fun H11 e11=>(k4 H11 e11).mono fun x H2 ⟨x3,b,hx,kt,kf⟩=>⟨x3,b,hx,fun eb=>?_,kf⟩⟩
    obtain ⟨A,n,c,g1,a9,g2,x4,g3,g4⟩:=kt eb
    exact ⟨_,rfl,_,rfl,⟨A,n,c,g1,A,n,c,g1,a9,g2,x4,g3,g4⟩,A,n,c,g1,A,n,c,g1,a9,g2,x4,g3,g4⟩
  · have e34:op = 34:=by simpa using e34
    subst e34
    have ta:=t194 h (by omega) 1 (by omega)
    rcases asked_cases r 1 with hx | ⟨k,hx,hk0,hk1⟩
    · have hcmd : r.commands 34 a = (r.asked 1).2.fail := by
        unfold Rn.commands Rn.told
        rw [if_neg (by decide),if_pos rfl,hx]
        rfl
      rw [hx] at ta hcmd
      refine ta.mono fun v H1 ⟨hv,G1,F1,q1,h1⟩=>⟨-1,hv,?_⟩
      refine ⟨⟨0,0,none⟩,fun e=>absurd e (by simp),none,0,0,fun e=>absurd e (by simp),⟨0,0,none⟩,fun e=>absurd e (by simp),0,fun e=>absurd e (by simp),⟨0,0,none⟩,fun e=>absurd e (by simp),none,0,0,fun e=>absurd e (by simp),⟨0,0,none⟩,fun e=>absurd e (by simp),0,fun e=>absurd e (by simp),
        fun _=>⟨_,rfl,?_⟩,fun e=>absurd e (by simp)⟩
      exact h1.setF (b:=true) fun G' F' H' h'=>⟨rfl,by rw [hcmd]; exact h'.z⟩
    · obtain ⟨f,hf⟩:=get_some (l:=r.s.futures) (i:=k.toNat) (by omega)
      have he0:=hev _ _ hf
      have hlow:decide (k < 0) = false:=decide_eq_false (by omega)
      have htold:r.told 34 = if (f.kind != 5 || f.event == 0) = true then (-1,r.fail) else (f.event,r):=by
        unfold Rn.told
        rw [if_pos rfl,hx]
        simp only
        rw [if_neg (by rw [hlow]; simp),hf]
      rw [hx] at ta
      refine ta.mono fun v H1 ⟨hv,G1,F1,q1,h1⟩=>⟨k,hv,?_⟩
      have h1:RX p G0 H0 G1 H1 m rb tb q1 pf po sl F1 ex st r:=h1
      obtain ⟨a1,ha1,hat1⟩:=h1.vm.fut hf
      have bd:(0:Int) ≤ k ∧ k < ((sl 1).n:Int):=⟨hk0,by rw [h1.vm.futLen]; exact hk1⟩
      refine ⟨_,fun _=>rfl,_,_,_,fun _=>h1.vm.c24,a1,fun _=>⟨ha1,bd⟩,f.kind,fun _=>at_one 0 hat1 rfl,_,fun _=>rfl,_,_,_,fun _=>h1.vm.c24,a1,fun _=>⟨ha1,bd⟩,f.event,fun _=>at_one 1 hat1 rfl,fun e=>⟨_,rfl,?_⟩,fun e=>?_⟩
      · rw [hlow,Bool.false_or] at e
        have hcmd:r.commands 34 a = r.fail:=by
          have ht2:r.told 34 = (-1,r.fail):=by rw [htold,if_pos e]
          unfold Rn.commands
          rw [if_neg (by decide),ht2]
          rfl
        exact h1.setF (b:=true) fun G' F' H' h'=>⟨rfl,by rw [hcmd]; exact h'.z⟩
      · rw [hlow,Bool.false_or] at e
        have hcmd:r.commands 34 a = if r.take.2.fault = true then r.take.2 else r.take.2.command 34 a f.event r.take.1:=by
          have ht2:r.told 34 = (f.event,r):=by rw [htold,if_neg (by rw [e]; simp)]
          have hl:decide (f.event < 0) = false:=decide_eq_false (by omega)
          unfold Rn.commands
          rw [if_neg (by decide),ht2]
          show (if decide (f.event < 0) = true then r else if r.take.2.fault = true then r.take.2 else r.take.2.command 34 a f.event r.take.1) = _
          rw [hl]; rfl
        refine h1.takes (by omega) fun G2 F2 q2 H2 h2=>⟨_,rfl,_,rfl,_,h2.r2,fun e1=>⟨rfl,?_⟩,fun e1=>?_⟩
        · rw [hcmd,if_pos e1]; exact h2.z
        · refine h2.tailP ok.take 34 a r.take.1 f.event h16 h33 (fun _=>?_) (K:=fun H'=>Value.tuple #[] = .tuple #[] ∧ RZ p G0 m rb tb pf po ex (r.commands 34 a) H') fun H' z=>⟨rfl,by rw [hcmd,if_neg (by rw [e1]; simp)]; exact z⟩
          have hb2:=take_len r
          refine h2.takes (by omega) fun G3 F3 q3 H3 h3=>⟨_,rfl,?_⟩
          have hs3:r.take.2.take.2.s = r.s:=(take_s _).trans (take_s _)
          obtain ⟨a3,ha3,hat3⟩:=h3.vm.fut (i:=k.toNat) (f:=f) (by rw [hs3]; exact hf)
          refine ⟨_,rfl,_,_,_,h3.vm.c24,a3,⟨ha3,hk0,by rw [h3.vm.futLen,hs3]; exact hk1⟩,f.event,at_one 1 hat3 rfl,?_⟩
          refine h3.emits (evM 9 f.event a r.take.1) (by rw [hs3]; exact ok.c0) (by rw [hs3]; exact ok.c1) (by rw [hs3]; exact ok.made) fun H' z=>⟨rfl,?_⟩
          rw [hcmd,if_neg (by rw [e1]; simp)]
          have:r.take.2.command 34 a f.event r.take.1 = r.take.2.take.2.vs (r.take.2.take.2.s.emit (evM 9 f.event a r.take.1)).2:=by
            rw [take_s]; rfl
          rw [this]; exact z
  · have n19:op ≠ 19:=fun e2=>by subst e2; simp at e
    have n34:op ≠ 34:=fun e2=>by subst e2; simp at e34
    have hcmd:=commands_other (a:=a) n19 n34 r
    refine h.takes (by omega) fun G2 F2 q2 H2 h2=>⟨_,rfl,_,rfl,_,h2.r2,fun e1=>⟨rfl,?_⟩,fun e1=>?_⟩
    · rw [hcmd,if_pos e1]; exact h2.z
    · exact h2.tailP ok.take op a r.take.1 0 h16 h33 (fun e2=>absurd e2 n34) (K:=fun H'=>Value.tuple #[] = .tuple #[] ∧ RZ p G0 m rb tb pf po ex (r.commands op a) H') fun H' z=>⟨rfl,by rw [hcmd,if_neg (by rw [e1]; simp)]; exact z⟩
end
end Go.Proofs.YtkofafcgcnciaaaGreatDoor
set_option maxRecDepth 100000
set_option linter.unusedVariables false
namespace Go.Proofs.YtkofafcgcnciaaaGreatDoor
open Go.Ax
noncomputable def c56:Cx:={ P:=Tryz.prog,res:=[],pub:=[],loops:=[],quiet:=[],asm:=true }
def F56 (m:Option Addr) (now:Int) (draw:Int) (H:Heap) (K:Value → Heap → Prop):Prop:=((m.isNone || decide (now < 0) || decide (now > 1099511627776)) = true →
 ∃ (a:Addr),
 ((!m.isNone) = true → m = some a) ∧
 ∃ (b:Bool),
 ((!m.isNone) = true → At H ((a.add (nat_lit 2)).add (nat_lit 25)) [.bool b]) ∧
 ((!m.isNone && b) = true → K (.tuple #[.slice none (0:Nat) (0:Nat),.int .i64 46]) H) ∧
 ((!m.isNone && b) = false → K (.tuple #[.slice none (0:Nat) (0:Nat),.int .i64 42]) H)) ∧
 ((m.isNone || decide (now < 0) || decide (now > 1099511627776)) = false →
 ∃ (a1:Addr),
 m = some a1 ∧
 ∃ (b1:Bool),
 At H ((a1.add (nat_lit 2)).add (nat_lit 25)) [.bool b1] ∧
 (b1 = true → K (.tuple #[.slice none (0:Nat) (0:Nat),.int .i64 46]) H) ∧
 (b1 = false →
 ∃ (a2:Addr),
 m = some a2 ∧
 ∃ (x:Int),
 At H (a2.add (nat_lit 30)) [.int .i64 x] ∧
 ((x == 0) = true → K (.tuple #[.slice none (0:Nat) (0:Nat),.int .i64 54]) H) ∧
 ((x == 0) = false →
 ∃ (a3:Addr),
 m = some a3 ∧
 ∃ (x1:Int),
 At H (a3.add (nat_lit 30)) [.int .i64 x1] ∧
 (decide (x1 > 254) = true → K (.tuple #[.slice none (0:Nat) (0:Nat),.int .i64 49]) H) ∧
 (decide (x1 > 254) = false →
 ∃ (a4:Addr),
 m = some a4 ∧
 StL H (a4.add (nat_lit 33)) [.int .u64 (IntKind.u64.wrap draw)] fun H1 =>
 ∃ (a5:Addr),
 m = some a5 ∧
 StL H1 (a5.add (nat_lit 34)) [.nilFunc] fun H11=>Tr Tryz.prog (68:Nat) #[.pointer m,.int .i64 now] H11 fun v H'=>v = .tuple #[] ∧
 ∃ (a6:Addr),
 m = some a6 ∧
 ∃ (A:Option Addr) (n c2:Nat),
 At H' (a6.add (nat_lit 32)) [.slice A n c2] ∧
 appS (47:Nat) (nat_lit 9) (nat_lit 72) H' none (0:Nat) (0:Nat) A n fun (A':Option Addr) (n' c':Nat) (H'1:Heap)=>K (.tuple #[.slice A' n' c',.int .i64 0]) H'1))))

theorem v56 {m:Option Addr} {now:Int} {draw:Int} {H:Heap} {K:Value → Heap → Prop} (h:F56 m now draw H K):Tr Tryz.prog 56 #[.pointer m,.int .i64 now,.int .i64 draw] H K :=
  tr_of_eq (C:=c56) Tryz.func56 (show vcFn c56 Tryz.f56 [.pointer m,.int .i64 now,.int .i64 draw] H K = F56 m now draw H K by kernel_rfl) h
noncomputable def c63:Cx:={ P:=Tryz.prog,res:=[],pub:=[20,23],loops:=[],quiet:=[107],asm:=true }
def F63 (pFuncsA:Option Addr) (pFuncsn pFuncsc:Nat) (pOptsA:Option Addr) (pOptsn pOptsc:Nat) (H:Heap) (K:Value → Heap → Prop):Prop :=
 ∃ (x x1 x2:Int),
 (Tr Tryz.prog (107:Nat) #[.agg #[.slice pFuncsA pFuncsn pFuncsc,.slice pOptsA pOptsn pOptsc]] H fun v H'=>v = .tuple #[.int .i64 x,.int .i64 x1,.int .i64 x2] ∧
 Ax.Sub H H') ∧
 ((x != 0) = true → K (.tuple #[.pointer none,.int .i64 x]) H) ∧
 ((x != 0) = false → Tr Tryz.prog (108:Nat) #[.agg #[.slice pFuncsA pFuncsn pFuncsc,.slice pOptsA pOptsn pOptsc]] H fun v1 H'1 =>
 ∃ (A:Option Addr) (n c:Nat) (A1:Option Addr) (n1 c1:Nat),
 v1 = .agg #[.slice A n c,.slice A1 n1 c1] ∧
 ∀ (b:Nat),H'1 b = none → ∀ (H1:Heap),H1 = H'1.upd b (Obj.cells #[.slice A n c,.slice A1 n1 c1,.int .i64 0,.int .i64 0,.int .i64 0,.int .i64 0,.int .i64 0,.int .i64 0,.int .i64 0,.int .i64 0,.int .i64 0,.int .i64 0,.int .i64 0,.int .i64 0,.int .i64 0,.int .i64 0,.int .i64 0,.int .i64 0,.int .i64 0,.int .i64 0,.int .i64 0,.int .i64 0,.int .i64 0,.slice none (0:Nat) (0:Nat),.slice none (0:Nat) (0:Nat),.slice none (0:Nat) (0:Nat),.slice none (0:Nat) (0:Nat),.bool false,.slice none (0:Nat) (0:Nat),.bool false,.int .i64 0,.int .i64 0,.slice none (0:Nat) (0:Nat),.int .u64 0,.nilFunc,.bool false] (149:Nat)) → ∀ (b1:Nat),H1 b1 = none → ∀ (H11:Heap),H11 = H1.upd b1 (Obj.cells #[.int .i64 (-1),.bool false] (199:Nat)) →
 ∃ (a:Addr),
 some (⟨b,0,none⟩:Addr) = some a ∧
 StL H11 ((a.add (nat_lit 2)).add (nat_lit 23)) [.slice (some (⟨b1,0,none⟩:Addr)) (1:Nat) (1:Nat)] fun H12=>Sm Tryz.prog (Instr.makeSlice (73:Nat) (.int .i64 8) (.int .i64 8)) H12 fun v2 H'2 =>
 ∃ (A2:Option Addr) (n2 c3:Nat),
 v2 = .slice A2 n2 c3 ∧
 ∃ (a1:Addr),
 some (⟨b,0,none⟩:Addr) = some a1 ∧
 StL H'2 ((a1.add (nat_lit 2)).add (nat_lit 24)) [.slice A2 n2 c3] fun H13=>K (.tuple #[.pointer (some (⟨b,0,none⟩:Addr)),.int .i64 0]) H13)

theorem v63 {pFuncsA:Option Addr} {pFuncsn pFuncsc:Nat} {pOptsA:Option Addr} {pOptsn pOptsc:Nat} {H:Heap} {K:Value → Heap → Prop} (h:F63 pFuncsA pFuncsn pFuncsc pOptsA pOptsn pOptsc H K):Tr Tryz.prog 63 #[.agg #[.slice pFuncsA pFuncsn pFuncsc,.slice pOptsA pOptsn pOptsc]] H K :=
  tr_of_eq (C:=c63) Tryz.func63 (show vcFn c63 Tryz.f63 [.agg #[.slice pFuncsA pFuncsn pFuncsc,.slice pOptsA pOptsn pOptsc]] H K = F63 pFuncsA pFuncsn pFuncsc pOptsA pOptsn pOptsc H K by kernel_rfl) h
noncomputable def c108:Cx:={ P:=Tryz.prog,res:=[],pub:=[],loops:=[⟨3,[(13,.int .i64)],[5,14,15,16,17,18,19,20,21,22,23,24,25,26,27],[(2,0,.sl)]⟩],quiet:=[],asm:=true }
def F108 (pFuncsA:Option Addr) (pFuncsn pFuncsc:Nat) (pOptsA:Option Addr) (pOptsn pOptsc:Nat) (H:Heap) (K:Value → Heap → Prop):Prop:=appS (128:Nat) (nat_lit 11) (nat_lit 88) H none (0:Nat) (0:Nat) pOptsA pOptsn fun (A':Option Addr) (n' c':Nat) (H':Heap) =>
 ∃ (Rel:Int → Option Addr → Nat → Nat → Heap → Prop) (mu:Int → Option Addr → Nat → Nat → Heap → Nat),
 Rel (0:Int) none (0:Nat) (0:Nat) H' ∧
 ∀ (x:Int) (A:Option Addr) (n c:Nat) (H1:Heap),Rel x A n c H1 → (decide (x < (↑pFuncsn:Int)) = true →
 ∃ (a:Addr),
 (pFuncsA = some a ∧
 (0:Int) ≤ x ∧
 x < (↑pFuncsn:Int)) ∧
 ∃ (x1 x2:Int) (A1:Option Addr) (n1 c1:Nat),
 At H1 (a.add (x.toNat * nat_lit 3)) [.int .i64 x1,.int .i64 x2,.slice A1 n1 c1] ∧
 appS (179:Nat) (nat_lit 2) (nat_lit 16) H1 none (0:Nat) (0:Nat) A1 n1 fun (A'1:Option Addr) (n'1 c'1:Nat) (H'1:Heap)=>appC (132:Nat) (nat_lit 3) (nat_lit 40) H'1 A n c [.int .i64 x1,.int .i64 x2,.slice A'1 n'1 c'1] (1:Nat) fun (A'2:Option Addr) (n'2 c'2:Nat) (H'2:Heap)=>Rel (IntKind.i64.wrap (x + 1)) A'2 n'2 c'2 H'2 ∧
 mu (IntKind.i64.wrap (x + 1)) A'2 n'2 c'2 H'2 < mu x A n c H1) ∧
 (decide (x < (↑pFuncsn:Int)) = false → K (.agg #[.slice A n c,.slice A' n' c']) H1)

theorem v108 {pFuncsA:Option Addr} {pFuncsn pFuncsc:Nat} {pOptsA:Option Addr} {pOptsn pOptsc:Nat} {H:Heap} {K:Value → Heap → Prop} (h:F108 pFuncsA pFuncsn pFuncsc pOptsA pOptsn pOptsc H K):Tr Tryz.prog 108 #[.agg #[.slice pFuncsA pFuncsn pFuncsc,.slice pOptsA pOptsn pOptsc]] H K :=
  tr_of_eq (C:=c108) Tryz.func108 (show vcFn c108 Tryz.f108 [.agg #[.slice pFuncsA pFuncsn pFuncsc,.slice pOptsA pOptsn pOptsc]] H K = F108 pFuncsA pFuncsn pFuncsc pOptsA pOptsn pOptsc H K by kernel_rfl) h
end Go.Proofs.YtkofafcgcnciaaaGreatDoor
set_option maxRecDepth 100000
namespace Go.Proofs.YtkofafcgcnciaaaGreatDoor
open Go.Ax
theorem find_found {p:Prg} {kind name:Int} (h:¬ p.find kind name < 0):∃ (i:Nat) (f:Fnc),p.find kind name = i ∧ p.funcs[i]? = some f ∧ f.kind = kind ∧ f.name = name:=by
  rw [find_eq] at h ⊢
  cases hs:scan p.funcs.length (p.hit kind name) with
  | none=>rw [hs] at h; simp at h
  | some r =>
    obtain ⟨j,hj,e⟩:=scan_ex hs
    unfold Prg.hit at e
    split at e
    · rename_i g hg
      split at e
      · rename_i hb
        cases e
        simp at hb
        exact ⟨j,g,rfl,hg,hb.1,hb.2⟩
      · cases e
    · cases e
section
variable {p:Prg} {G H:Heap} {m:Nat} {pf po:SlH} {sl:Nat → SlH} {F:Heap} {ex:Value} {st:List SlH} {s:VS}
theorem VMX.c01 (h:VMX G H m pf po sl F ex st s):At H (⟨m,0,none⟩:Addr) [pf.v,po.v]:=by
  have:At H (⟨m,0,none⟩:Addr) (mCells pf po sl ex s):=⟨⟨_,_,_,h.hm,rfl,fun j v hv=>by simpa using hv⟩⟩
  exact at_take 2 this
theorem VMX.c27 (h:VMX G H m pf po sl F ex st s):At H ((⟨m,0,none⟩:Addr).add 27) [.bool s.over]:=h.cell rfl
end
end Go.Proofs.YtkofafcgcnciaaaGreatDoor
set_option maxRecDepth 100000
namespace Go.Ax
theorem SlOk.tail1 {H:Heap} {A:Option Addr} {n c:Nat} {x:Int} {l:List Int} (k:SlOk H ⟨A,n,c⟩ 1 (intsC (x :: l))):SlOk H ⟨if c = Int.toNat 1 then A else Option.map (fun y:Addr=>y.add (Int.toNat 1 * 1)) A,n - Int.toNat 1,c - Int.toNat 1⟩ 1 (intsC l):=by
  have hl:=k.len
  have hc:=k.cap
  simp only [intsC,List.map_cons,List.length_cons,List.length_map,Nat.mul_one] at hl
  simp only at hc
  have t1:Int.toNat 1 = 1:=rfl
  rw [t1]
  refine ⟨by simp only [intsC,List.length_map,Nat.mul_one]; omega,by show n - 1 ≤ c - 1; omega,?_⟩
  rcases k.at_ with ⟨a1,a2,a3⟩ | ⟨b,off,cur,T,a1,a2,a3,a4⟩
  · simp only at a2; omega
  · simp only at a1 a3
    subst a1
    right
    by_cases h1:c = 1
    · subst h1
      have hn:l = []:=List.length_eq_zero_iff.1 (by omega)
      subst hn
      exact ⟨b,off,cur,T,by rw [if_pos rfl],a2,by show off + (1 - 1) * 1 ≤ cur.size; omega,fun j v hv=>by simp [intsC] at hv⟩
    · refine ⟨b,off + 1,cur,T,by rw [if_neg h1]; rfl,a2,by show off + 1 + (c - 1) * 1 ≤ cur.size; omega,fun j v hv=>?_⟩
      have:=a4 (j + 1) v (by simpa [intsC] using hv)
      rw [← this]; congr 1; omega
end Go.Ax
namespace Go.Proofs.YtkofafcgcnciaaaGreatDoor
open Go.Ax
section
variable {G H:Heap} {m:Nat} {pf po:SlH} {sl:Nat → SlH} {F:Heap} {ex:Value} {st:List SlH} {s:VS}
theorem VMX.setSig (h : VMX G H m pf po sl F ex st s) {k : Nat} (hk : k < 8) {hn : SlH} {l : List Int} (r : Ready F H m sl ex (6 + k) hn (intsC l)) {a : Addr} (ha : (sl 3).A = some a)
    {Q:Heap → Prop} (q:∀ H',VMX G H' m pf po (setH sl (6 + k) hn) F ex st { s with signals:=s.signals.set k l } → Q H'):Wr H (a.add (k * 1)) hn.v Q:=by
  have ok:=h.ok 3 (by decide)
  have hlen:=ok.len
  have hsz3:szC 3 = 1:=rfl
  have hc3:contC sl st s 3 = (List.range 8).map (fun i=>(sl (6 + i)).v):=rfl
  rcases ok.at_ with ⟨a1,_⟩ | ⟨b,off,cur,T,a1,a2,a3,a4⟩
  · rw [a1] at ha; cases ha
  · rw [a1] at ha; cases ha
    rw [Nat.mul_one]
    have b0:((⟨b,off,none⟩:Addr).add k).block = b:=by unfold Addr.add; split <;> rfl
    have o0:((⟨b,off,none⟩:Addr).add k).off = off + k:=by unfold Addr.add; split <;> simp_all
    have s0:((⟨b,off,none⟩:Addr).add k).spot = none:=by unfold Addr.add; split <;> rfl
    have hn8:=h.sigLen
    have hcap:=ok.cap
    rw [hsz3] at a3
    have hsz:off + k + [hn.v].length ≤ cur.size:=by show off + k + 1 ≤ _; omega
    have hblk:(sl 3).blk = some b:=by unfold SlH.blk; rw [a1]; rfl
    have fr:=h.free_own (by decide:3 < 14) hblk
    unfold Wr
    rw [b0,o0,s0]
    refine ⟨cur,T,a2,rfl,hsz,fun H1 e=>q H1 ?_⟩
    subst e
    have hb3:∀ b',hn.blk = some b' → b' ≠ b:=fun b' hb' e=>by
      subst e
      have:=(r.free b' hb').sl 3 (by decide) hblk
      omega
    have get:∀ c',setH sl (6 + k) hn c' = if c' = 6 + k then hn else sl c':=fun _=>rfl
    refine ⟨h.gf,⟨fun i o ho=>?_⟩,h.fm,?_,fun c' hc' b' hb'=>?_,fun c1 c2 b' hc1 hc2 h1 h2=>?_,fun c' hc'=>?_,h.stl,h.stk,h.vars,h.attrs,by show (s.signals.set k l).length = 8; rw [List.length_set]; exact h.sigs,⟨h.exp.none_,fun l2 hl2=>?_⟩⟩
    · rw [Heap.upd_other (fun e=>by subst e; rw [fr.f] at ho; cases ho)]; exact h.fh.sub _ _ ho
    · rw [Heap.upd_other (fun e=>fr.m e.symm)]
      have:mCells pf po (setH sl (6 + k) hn) ex { s with signals:=s.signals.set k l } = mCells pf po sl ex s:=by
        unfold mCells
        simp only [get]
        rw [if_neg (by omega),if_neg (by omega),if_neg (by omega),if_neg (by omega),if_neg (by omega),if_neg (by omega)]
      rw [this]; exact h.hm
    · rw [get] at hb'
      split at hb'
      · exact ⟨(r.free b' hb').f,(r.free b' hb').m⟩
      · exact h.own c' hc' b' hb'
    · rw [get] at h1 h2
      split at h1
      · rename_i q1
        split at h2
        · rename_i q2; rw [q1,q2]
        · rw [q1]; exact ((r.free b' h1).sl c2 hc2 h2).symm
      · split at h2
        · rename_i q2; rw [q2]; exact (r.free b' h2).sl c1 hc1 h1
        · exact h.inj c1 c2 b' hc1 hc2 h1 h2
    · by_cases h6:c' = 6 + k
      · subst h6
        have e1:contC (setH sl (6 + k) hn) st { s with signals:=s.signals.set k l } (6 + k) = intsC l:=by
          unfold contC
          rw [if_neg (by omega),if_neg (by omega),if_neg (by omega),if_neg (by omega),if_neg (by omega),if_neg (by omega)]
          have e6:6 + k - 6 = k:=by omega
          rw [e6]
          show intsC ((s.signals.set k l)[k]?.getD []) = _
          rw [List.getElem?_set_self (by rw [h.sigs]; exact hk)]; rfl
        rw [e1,get,if_pos rfl]
        exact r.ok.mono fun b' hb'=>Heap.upd_other (hb3 b' hb')
      · rw [get,if_neg h6]
        by_cases h3:c' = 3
        · subst h3
          have e3:contC (setH sl (6 + k) hn) st { s with signals:=s.signals.set k l } 3 = (contC sl st s 3).set k hn.v:=by
            show (List.range 8).map (fun i=>(setH sl (6 + k) hn (6 + i)).v) = ((List.range 8).map (fun i=>(sl (6 + i)).v)).set k hn.v
            apply List.ext_getElem?
            intro i
            rw [List.getElem?_set,List.getElem?_map,List.getElem?_map]
            by_cases hi:i < 8
            · rw [List.getElem?_range hi]
              by_cases hki:k = i
              · subst hki; simp [get,hk]
              · rw [if_neg hki]; simp only [Option.map_some,get]; rw [if_neg (by omega)]
            · rw [List.getElem?_eq_none (by simpa using hi)]
              rw [if_neg (by omega)]; rfl
          rw [e3]
          refine ⟨by rw [List.length_set]; exact hlen,ok.cap,.inr ⟨b,off,_,T,a1,Heap.upd_same,by rw [splice_size hsz,hsz3]; exact a3,fun j u hu=>?_⟩⟩
          rw [splice_get hsz]
          rw [List.getElem?_set] at hu
          by_cases hj:k = j
          · subst hj
            rw [if_pos rfl] at hu
            split at hu
            · rw [if_neg (by omega),if_pos (by show off + k < off + k + 1; omega)]
              have:off + k - (off + k) = 0:=by omega
              rw [this]; exact hu
            · cases hu
          · rw [if_neg hj] at hu
            have:=a4 j u hu
            by_cases hlt:off + j < off + k
            · rw [if_pos hlt]; exact this
            · rw [if_neg hlt,if_neg (by show ¬ off + j < off + k + 1; omega)]; exact this
        · have e4 : contC (setH sl (6 + k) hn) st { s with signals := s.signals.set k l } c' = contC sl st s c' := by
            unfold contC
            by_cases hlow:c' < 6
            · have:c' = 0 ∨ c' = 1 ∨ c' = 2 ∨ c' = 4 ∨ c' = 5:=by omega
              rcases this with rfl | rfl | rfl | rfl | rfl <;> rfl
            · rw [if_neg (by omega),if_neg (by omega),if_neg (by omega),if_neg (by omega),if_neg (by omega),if_neg (by omega),if_neg (by omega),if_neg (by omega),if_neg (by omega),if_neg (by omega),if_neg (by omega),if_neg (by omega)]
              show intsC ((s.signals.set k l)[c' - 6]?.getD []) = _
              rw [List.getElem?_set_ne (by omega)]
          rw [e4]
          exact (h.ok c' hc').mono fun b' hb'=>Heap.upd_other fun e=>by subst e; exact h3 (fr.sl c' hc' hb')
    · obtain ⟨xb,A,n,c2,T2,q1,q2,q3,q4,q5,q6,q7⟩:=h.exp.some_ l2 hl2
      refine ⟨xb,A,n,c2,T2,q1,by rw [Heap.upd_other (fr.x xb q1)]; exact q2,q3,q4,fun c' hc' hb'=>?_,q6,q7⟩
      rw [get] at hb'
      split at hb'
      · exact (r.free xb hb').x xb q1 rfl
      · exact q5 c' hc' hb'
end
end Go.Proofs.YtkofafcgcnciaaaGreatDoor
set_option maxRecDepth 100000
namespace Go.Proofs.YtkofafcgcnciaaaGreatDoor
open Go.Ax
section
variable {G H:Heap} {m:Nat} {pf po:SlH} {sl:Nat → SlH} {F:Heap} {ex:Value} {st:List SlH} {s:VS}
def ThrP (m bytes:Nat) (t:Thr) (H:Heap) (Q:Heap → Prop):Prop :=
  ∃ (A:Option Addr) (n c:Nat),At H (((⟨m,0,none⟩:Addr).add 2).add 21) [.slice A n c] ∧ appC 153 9 bytes H A n c (thrC (t,⟨none,0,0⟩)) 1 fun A' n' c' H4 =>
    ∃ a9:Addr,some (⟨m,0,none⟩:Addr) = some a9 ∧ Wr H4 ((a9.add 2).add 21) (.slice A' n' c') Q
theorem VMX.addThr (h:VMX G H m pf po sl F ex st s) (t:Thr) (ht:t.stack = []) {bytes:Nat} (hby:bytes ≤ 1000) (hl:s.threads.length ≤ 1000) {Q:Heap → Prop} (q:∀ H' sl',VMX G H' m pf po sl' F ex (st ++ [⟨none,0,0⟩]) (s.thread t) → Q H'):ThrP m bytes t H Q:=by
  have hn:=h.thrLen
  have hmul:((sl 0).n + 1) * bytes ≤ 140737488355328:=Nat.le_trans (Nat.mul_le_mul (show (sl 0).n + 1 ≤ 1001 by omega) hby) (by decide)
  refine ⟨_,_,_,h.c23,h.app (c:=0) (by decide) (new:=thrC (t,⟨none,0,0⟩)) (k:=1) rfl rfl hmul (by omega) fun A' c' H4 h4 r=>⟨_,rfl,?_⟩⟩
  have hs6:∀ k,setH sl 0 ⟨A',(sl 0).n + 1,c'⟩ (6 + k) = sl (6 + k):=fun k=>if_neg (by omega)
  refine h4.wrSl (c:=0) (by decide) r (k:=23) (by decide) (s.thread t) (st ++ [⟨none,0,0⟩]) rfl ?_ (fun c2 hc2 hne=>?_) rfl h.vars h.attrs h.sigs ?_ (fun j u z hu hz=>?_) fun H13 h13=>q _ _ h13
  · show ((s.threads ++ [t]).zip (st ++ [⟨none,0,0⟩])).flatMap thrC = (s.threads.zip st).flatMap thrC ++ thrC (t,⟨none,0,0⟩)
    rw [List.zip_append h.stl.symm,List.flatMap_append]; simp
  · simp only [contC,hs6,if_neg hne]
    rfl
  · show (st ++ [_]).length = (s.threads ++ [t]).length
    rw [List.length_append,List.length_append,h.stl]; rfl
  · have hu:(s.threads ++ [t])[j]? = some u:=hu
    by_cases hj:j < s.threads.length
    · rw [List.getElem?_append_left hj] at hu
      rw [List.getElem?_append_left (by rw [h.stl]; exact hj)] at hz
      exact h.stk j u z hu hz
    · have hlt:=get_lt hu
      rw [List.length_append] at hlt
      have hj2:j = s.threads.length:=by simp at hlt; omega
      subst hj2
      rw [List.getElem?_append_right (Nat.le_refl _),Nat.sub_self] at hu
      rw [← h.stl,List.getElem?_append_right (Nat.le_refl _),Nat.sub_self] at hz
      simp at hu hz
      subst hu; subst hz
      rw [ht]; exact HasL.nil _ _
def ScpP (m bytes:Nat) (f:Scp) (H:Heap) (Q:Heap → Prop):Prop :=
  ∃ (A:Option Addr) (n c:Nat),At H (((⟨m,0,none⟩:Addr).add 2).add 23) [.slice A n c] ∧ appC 199 2 bytes H A n c (scpC f) 1 fun A' n' c' H4 =>
    ∃ a9:Addr,some (⟨m,0,none⟩:Addr) = some a9 ∧ Wr H4 ((a9.add 2).add 23) (.slice A' n' c') Q
theorem VMX.addScp (h:VMX G H m pf po sl F ex st s) (f:Scp) {bytes:Nat} (hby:bytes ≤ 1000) (hl:s.scopes.length ≤ 1000) {Q:Heap → Prop} (q:∀ H' sl',VMX G H' m pf po sl' F ex st { s with scopes:=s.scopes ++ [f] } → Q H'):ScpP m bytes f H Q:=by
  have hn:=h.scpLen
  have hmul:((sl 2).n + 1) * bytes ≤ 140737488355328:=Nat.le_trans (Nat.mul_le_mul (show (sl 2).n + 1 ≤ 1001 by omega) hby) (by decide)
  refine ⟨_,_,_,h.c25,h.app (c:=2) (by decide) (new:=scpC f) (k:=1) rfl rfl hmul (by omega) fun A' c' H4 h4 r=>⟨_,rfl,?_⟩⟩
  have hs6:∀ k,setH sl 2 ⟨A',(sl 2).n + 1,c'⟩ (6 + k) = sl (6 + k):=fun k=>if_neg (by omega)
  refine h4.wrSl (c:=2) (by decide) r (k:=25) (by decide) { s with scopes:=s.scopes ++ [f] } st rfl ?_ (fun c2 hc2 hne=>?_) rfl h.vars h.attrs h.sigs h.stl h.stk fun H13 h13=>q _ _ h13
  · show (s.scopes ++ [f]).flatMap scpC = s.scopes.flatMap scpC ++ scpC f
    rw [List.flatMap_append]; simp
  · simp only [contC,hs6,if_neg hne]
end
end Go.Proofs.YtkofafcgcnciaaaGreatDoor
set_option maxRecDepth 100000
namespace Go.Proofs.YtkofafcgcnciaaaGreatDoor
open Go.Ax
section
variable {G H:Heap} {m:Nat} {pf po:SlH} {sl:Nat → SlH} {F:Heap} {ex:Value} {st:List SlH} {s:VS}
theorem VMX.sigOk (h:VMX G H m pf po sl F ex st s) {k:Nat} (hk:k < 8):SlOk H (sl (6 + k)) 1 (intsC (s.signals[k]?.getD [])):=by
  have ok:=h.ok (6 + k) (by omega)
  have z:szC (6 + k) = 1:=by unfold szC; rw [if_neg (by omega),if_neg (by omega),if_neg (by omega),if_neg (by omega),if_neg (by omega),if_neg (by omega)]
  have e:contC sl st s (6 + k) = intsC (s.signals[k]?.getD []):=by
    unfold contC
    rw [if_neg (by omega),if_neg (by omega),if_neg (by omega),if_neg (by omega),if_neg (by omega),if_neg (by omega)]
    have:6 + k - 6 = k:=by omega
    rw [this]
  rw [z,e] at ok; exact ok
def _root_.Go.Ax.SlH.next (h:SlH):SlH:=⟨if h.c = Int.toNat 1 then h.A else Option.map (fun y:Addr=>y.add (Int.toNat 1 * 1)) h.A,h.n - Int.toNat 1,h.c - Int.toNat 1⟩
theorem _root_.Go.Ax.SlH.next_blk (h:SlH):h.next.blk = h.blk:=by
  unfold SlH.next SlH.blk
  simp only
  split
  · rfl
  · cases h.A with
    | none=>rfl
    | some a=>simp only [Option.map_some]; congr 1
theorem VMX.sigNext (h:VMX G H m pf po sl F ex st s) {k:Nat} (hk:k < 8) {x:Int} {l:List Int} (e:s.signals[k]?.getD [] = x :: l):Ready F H m sl ex (6 + k) (sl (6 + k)).next (intsC l):=by
  have ok:=h.sigOk hk
  rw [e] at ok
  refine ⟨?_,fun b hb=>h.free_own (by omega) (by rw [SlH.next_blk] at hb; exact hb)⟩
  have z:szC (6 + k) = 1:=by unfold szC; rw [if_neg (by omega),if_neg (by omega),if_neg (by omega),if_neg (by omega),if_neg (by omega),if_neg (by omega)]
  rw [z]
  exact SlOk.tail1 (A:=(sl (6 + k)).A) (n:=(sl (6 + k)).n) (c:=(sl (6 + k)).c) ok
end
section
variable {p:Prg} {G0 H0 G H:Heap} {m rb tb:Nat} {q:SlH} {pf po:SlH} {sl:Nat → SlH} {F:Heap} {ex:Value} {st:List SlH} {r:Rn}
theorem RX.waits (h : RX p G0 H0 G H m rb tb q pf po sl F ex st r) (hb : r.t.stack.length ≤ 1000) (hpc : 0 ≤ r.t.pc ∧ r.t.pc ≤ 1000) {a : Int} (ha : 0 ≤ a ∧ a < 8) {K : Value → Heap → Prop} (k : ∀ H', RZ p G0 m rb tb pf po ex (r.waitS a).2 H' → K (.int .i64 (r.waitS a).1) H') :
    ∃ (A:Option Addr) (n c:Nat),At H (((⟨m,0,none⟩:Addr).add 2).add 24) [.slice A n c] ∧ ∃ a2:Addr,(A = some a2 ∧ (0:Int) ≤ a ∧ a < (n:Int)) ∧ ∃ (A1:Option Addr) (n1 c1:Nat),At H (a2.add (a.toNat * 1)) [.slice A1 n1 c1] ∧
      (((n1:Int) == 0) = true → ∃ a3:Addr,some (⟨rb,0,none⟩:Addr) = some a3 ∧ ∃ v3:Option Addr,At H (a3.add 1) [.pointer v3] ∧ ∃ a4:Addr,v3 = some a4 ∧ Wr H (a4.add 8) (.int .i64 a) fun H1=>K (.int .i64 1) H1) ∧
      (((n1:Int) == 0) = false → ∃ a5:Addr,(A1 = some a5 ∧ (0:Int) ≤ 0 ∧ (0:Int) < (n1:Int)) ∧ ∃ x2:Int,At H (a5.add (Int.toNat 0 * 1)) [.int .i64 x2] ∧ ∀ b:Nat,H b = none → ∀ H11,H11 = H.upd b (.cells #[.int .i64 x2] 2 (0,0)) →
        Tr Tryz.prog 174 #[.pointer (some ⟨rb,0,none⟩),.slice (some ⟨b,0,none⟩) 1 1] H11 fun v4 H2=>v4 = .tuple #[] ∧ ∃ a6:Addr,some (⟨rb,0,none⟩:Addr) = some a6 ∧ ∃ b1:Bool,At H2 (a6.add 2) [.bool b1] ∧
          ((!b1) = true → ∃ a7:Addr,some (⟨m,0,none⟩:Addr) = some a7 ∧ ((0:Int) ≤ 1 ∧ (1:Int) ≤ (n1:Int)) ∧ ∃ (A2:Option Addr) (n2 c3:Nat),At H2 ((a7.add 2).add 24) [.slice A2 n2 c3] ∧ ∃ a8:Addr,(A2 = some a8 ∧ (0:Int) ≤ a ∧ a < (n2:Int)) ∧
            Wr H2 (a8.add (a.toNat * 1)) (.slice (if c1 = Int.toNat 1 then A1 else Option.map (fun y:Addr=>y.add (Int.toNat 1 * 1)) A1) (n1 - Int.toNat 1) (c1 - Int.toNat 1)) fun H12=>∃ a9:Addr,some (⟨rb,0,none⟩:Addr) = some a9 ∧ ∃ v5:Option Addr,At H12 (a9.add 1) [.pointer v5] ∧ ∃ a10:Addr,v5 = some a10 ∧
              ∃ x3:Int,At H12 (a10.add 1) [.int .i64 x3] ∧ ∃ a11:Addr,v5 = some a11 ∧ Wr H12 (a11.add 1) (.int .i64 (IntKind.i64.wrap (x3 + 1))) fun H13=>K (.int .i64 0) H13) ∧
          ((!b1) = false → ∃ a12:Addr,some (⟨rb,0,none⟩:Addr) = some a12 ∧ ∃ v6:Option Addr,At H2 (a12.add 1) [.pointer v6] ∧ ∃ a13:Addr,v6 = some a13 ∧ ∃ x4:Int,At H2 (a13.add 1) [.int .i64 x4] ∧ ∃ a14:Addr,v6 = some a14 ∧ Wr H2 (a14.add 1) (.int .i64 (IntKind.i64.wrap (x4 + 1))) fun H14=>K (.int .i64 0) H14)):=by
  have hk:a.toNat < 8:=by omega
  have hw:IntKind.i64.wrap (r.t.pc + 1) = r.t.pc + 1:=wrapi (by omega) (by omega)
  obtain ⟨a2,ha2,hat2⟩:=h.vm.sig hk
  have hn:=h.vm.sigN hk
  have hl3:=h.vm.sigLen
  refine ⟨_,_,_,h.vm.c26,a2,⟨ha2,ha.1,by rw [hl3]; omega⟩,_,_,_,hat2,fun e=>⟨_,rfl,_,h.r1,_,rfl,?_⟩,fun e=>?_⟩
  · have hz:((sl (6 + a.toNat)).n:Int) = 0:=by simpa using e
    have he:r.s.signals[a.toNat]?.getD [] = []:=List.length_eq_zero_iff.1 (by omega)
    have hwt:r.waitS a = (1,{ r with t:={ r.t with signal:=a } }):=by unfold Rn.waitS; rw [he]
    rw [hwt] at k
    exact h.setT (i:=8) (by decide) { r.t with signal:=a } q rfl h.sq h.oq fun G' F' H' h'=>k H' h'.z
  · have e0:((sl (6 + a.toNat)).n:Int) ≠ 0:=by simpa using e
    obtain ⟨x,l,hxl⟩:∃ x l,r.s.signals[a.toNat]?.getD [] = x :: l:=by
      cases hh:r.s.signals[a.toNat]?.getD [] with
      | nil=>rw [hh] at hn; simp at hn; omega
      | cons x l=>exact ⟨x,l,rfl⟩
    have ok:=h.vm.sigOk hk
    rw [hxl] at ok
    obtain ⟨a5,ha5,hat5⟩:∃ a5,(sl (6 + a.toNat)).A = some a5 ∧ At H (a5.add (Int.toNat 0 * 1)) [.int .i64 x]:=by
      rcases ok.src with e1 | ⟨a5,h5,hat⟩
      · simp [intsC] at e1
      · exact ⟨a5,h5,at_one 0 hat rfl⟩
    have hwt:r.waitS a = if (r.leave [x]).fault = true then (0,(r.leave [x]).pc (r.t.pc + 1)) else (0,((r.leave [x]).vs { r.s with signals:=r.s.signals.set a.toNat l }).pc (r.t.pc + 1)):=by unfold Rn.waitS; rw [hxl]
    refine ⟨a5,⟨ha5,by decide,by omega⟩,x,hat5,fun b hb H11 e11=>?_⟩
    refine h.leaves [x] (by simp; omega) hb e11 fun G1 F1 q1 H1 h1=>⟨_,rfl,_,h1.r2,fun ef=>?_,fun ef=>?_⟩
    · have ef:(r.leave [x]).fault = false:=by simpa using ef
      rw [hwt,if_neg (by rw [ef]; simp)] at k
      refine ⟨_,rfl,⟨by decide,by omega⟩,_,_,_,h1.vm.c26,a2,⟨ha2,ha.1,by rw [hl3]; omega⟩,?_⟩
      refine h1.vm.setSig hk (h1.vm.sigNext hk hxl) ha2 fun H2 v2=>?_
      have h2:=h1.setVs v2
      refine ⟨_,rfl,_,h2.r1,_,rfl,r.t.pc,h2.t1,_,rfl,?_⟩
      rw [hw]
      exact h2.setPc fun G' F' H' h'=>k H' h'.z
    · have ef:(r.leave [x]).fault = true:=by simpa using ef
      rw [hwt,if_pos ef] at k
      refine ⟨_,rfl,_,h1.r1,_,rfl,r.t.pc,h1.t1,_,rfl,?_⟩
      rw [hw]
      exact h1.setPc fun G' F' H' h'=>k H' h'.z
end
end Go.Proofs.YtkofafcgcnciaaaGreatDoor
set_option maxRecDepth 100000
namespace Go.Proofs.YtkofafcgcnciaaaGreatDoor
open Go.Ax
theorem t69 (e:Ev) (H:Heap):Tr Tryz.prog 69 #[e.val] H fun v H'=>v = .bool (outsideM e) ∧ Sub H H':=by
  apply v69; unfold F69 outsideM
  exact ⟨fun h=>⟨by rw [if_pos h],Sub.refl _⟩,fun h=>⟨by rw [if_neg (by rw [h]; simp)],Sub.refl _⟩⟩
end Go.Proofs.YtkofafcgcnciaaaGreatDoor
set_option maxRecDepth 100000
namespace Go.Proofs.YtkofafcgcnciaaaGreatDoor
open Go.Ax
structure ThrOk (p:Prg) (s:VS) (t:Thr):Prop where
  fn:∃ f,p.funcs[t.func.toNat]? = some f ∧ t.pc < f.ops.length
  f0:0 ≤ t.func
  pc0:0 ≤ t.pc
  stack:t.stack.length ≤ 32
  scope:0 ≤ t.scope ∧ t.scope < s.scopes.length
  future:-1 ≤ t.future ∧ t.future < s.futures.length
  update:0 ≤ t.update
  waits:t.waits < s.futures.length
  signal:t.signal < 8
structure Inv (p:Prg) (s:VS):Prop where
  scp:ScpOk s.scopes
  scn:0 < s.scopes.length
  sc32:s.scopes.length ≤ 32
  t16:s.threads.length ≤ 16
  thr:∀ t ∈ s.threads,ThrOk p s t
  futs:∀ f ∈ s.futures,0 ≤ f.event ∧ 0 ≤ f.scope ∧ f.scope < s.scopes.length
  fuel:0 ≤ s.fuel ∧ s.fuel ≤ 1000
  many:(s.futures.length:Int) + s.fuel ≤ 1000 * s.count
  c0:0 ≤ s.count ∧ s.count ≤ 256
  c3:∀ l,s.expect = some l → s.count + l.length ≤ 256
  made:(s.made.length:Int) ≤ s.count
  sig:∀ l ∈ s.signals,(l.length:Int) ≤ s.count
  sg8:s.signals.length = 8
  upd:(s.updates.length:Int) ≤ s.count
  updI:∀ u ∈ s.updates,0 ≤ u.id
  v16:s.vars.length = 16
  a4:s.attrs.length = 4
def Room (s:VS):Prop:=s.expect = none → s.over = false → s.count ≤ 255
inductive FStep (p:Prg) (b:Bool):VS → VS → Prop
  | emit (s:VS) (e:Ev) (ho:s.over = false) (hc:cmdM e.kind = true):FStep p b s (s.emit e).2
  | fails (s:VS) (c:Int) (ho:s.over = false):FStep p b s (s.fails c)
  | done (s:VS) (i v k:Int):FStep p b s (s.setDone i v k)
  | fut (s:VS) (f:Fut) (h0:0 ≤ f.event) (h1:0 ≤ f.scope ∧ f.scope < s.scopes.length) (hm:(s.futures.length:Int) + s.fuel + 1 ≤ 1000 * s.count) (hd:f.done = true ∨ f.kind = 0 ∨ s.cancelled f.scope = false):FStep p b s (s.fut f)
  | scp (s:VS) (i:Int) (h1:0 ≤ i ∧ i < s.scopes.length) (h2:s.scopes.length < 32):FStep p b s { s with scopes:=s.scopes ++ [⟨i,false⟩] }
  | mark (s:VS) (i:Int):FStep p b s (s.mark i)
  | thr (s:VS) (t:Thr) (ht:ThrOk p s t) (h:s.threads.length < 16):FStep p b s (s.thread t)
  | set (s:VS) (i:Nat) (t:Thr) (hb:b = true) (ht:ThrOk p s t):FStep p b s { s with threads:=s.threads.set i t }
  | erase (s:VS) (i:Nat) (hb:b = true):FStep p b s { s with threads:=s.threads.eraseIdx i }
  | vars (s:VS) (k:Nat) (v:Int):FStep p b s { s with vars:=s.vars.set k v }
  | attrs (s:VS) (k:Nat) (v:Int):FStep p b s { s with attrs:=s.attrs.set k v }
  | draws (s:VS) (v:Int):FStep p b s { s with draws:=v }
  | fuel (s:VS) (n:Int) (hb:b = true) (h:0 ≤ n ∧ n ≤ s.fuel):FStep p b s { s with fuel:=n }
  | sig (s:VS) (k:Nat) (x:Int) (l:List Int) (h:s.signals[k]?.getD [] = x :: l):FStep p b s { s with signals:=s.signals.set k l }
inductive FSteps (p:Prg) (b:Bool):VS → VS → Prop
  | refl (s:VS):FSteps p b s s
  | tail {x y z:VS}:FSteps p b x y → FStep p b y z → FSteps p b x z
theorem FSteps.trans {p:Prg} {b:Bool} {x y z:VS} (h:FSteps p b x y) (k:FSteps p b y z):FSteps p b x z:=by
  induction k with
  | refl=>exact h
  | tail _ q ih=>exact .tail ih q
theorem FStep.one {p:Prg} {b:Bool} {x y:VS} (h:FStep p b x y):FSteps p b x y:=.tail (.refl _) h
theorem FStep.lift {p:Prg} {x y:VS} (h:FStep p false x y):FStep p true x y:=by
  cases h with
  | emit e ho hc=>exact .emit _ e ho hc
  | fails c ho=>exact .fails _ c ho
  | done i v k=>exact .done _ i v k
  | fut f h0 h1 hm hd=>exact .fut _ f h0 h1 hm hd
  | scp i h1 h2=>exact .scp _ i h1 h2
  | mark i=>exact .mark _ i
  | thr t ht h=>exact .thr _ t ht h
  | set i t hb ht=>cases hb
  | erase i hb=>cases hb
  | vars k v=>exact .vars _ k v
  | attrs k v=>exact .attrs _ k v
  | draws v=>exact .draws _ v
  | fuel n hb h=>cases hb
  | sig k x l h=>exact .sig _ k x l h
theorem FSteps.lift {p:Prg} {x y:VS} (h:FSteps p false x y):FSteps p true x y:=by
  induction h with
  | refl=>exact .refl _
  | tail _ q ih=>exact .tail ih q.lift
theorem matches_kind {e w:Ev} (h:matchesM e w = true):w.kind = e.kind:=by
  unfold matchesM Ev.beqM at h
  simp only [Bool.and_eq_true,beq_iff_eq] at h
  have:=h.2.2.1
  split at this
  · exact this.symm
  · split at this
    · exact this.symm
    · exact this.symm
inductive Emits (s:VS) (e:Ev):(Int × Bool) × VS → Prop
  | live (hx:s.expect = none):Emits s e ((e.id,true),s.push e)
  | none (hx:s.expect = some []):Emits s e ((0,false),s.drifts)
  | other (w:Ev) (l:List Ev) (hx:s.expect = some (w :: l)):Emits s e ((0,false),({ s with expect:=some l }:VS).drifts)
  | same (w:Ev) (l:List Ev) (hx:s.expect = some (w :: l)) (hm:matchesM e w = true):Emits s e ((w.id,true),({ s with expect:=some l }:VS).push w)
theorem emits (s:VS) (e:Ev):Emits s e (s.emit0 e):=by
  unfold VS.emit0
  split
  · rename_i h; exact .live h
  · rename_i h; exact .none h
  · rename_i w l h
    split
    · rename_i hm; exact .same w l h hm
    · exact .other w l h
structure Keep (s s':VS):Prop where
  vars:s'.vars = s.vars
  attrs:s'.attrs = s.attrs
  now:s'.now = s.now
  threads:s'.threads = s.threads
  futures:s'.futures = s.futures
  scopes:s'.scopes = s.scopes
  signals:s'.signals = s.signals
  updates:s'.updates = s.updates
  cancel:s'.cancel = s.cancel
  fuel:s'.fuel = s.fuel
  draws:s'.draws = s.draws
theorem keep0 (s:VS) (e:Ev):Keep s (s.emit0 e).2:=by
  have k:=emits s e
  generalize s.emit0 e = q at k ⊢
  cases k <;> exact ⟨rfl,rfl,rfl,rfl,rfl,rfl,rfl,rfl,rfl,rfl,rfl⟩
theorem keepF (s:VS) (c:Int):Keep s (s.fails c):=keep0 s _
theorem keepE (s:VS) (e:Ev):Keep s (s.emit e).2:=by
  unfold VS.emit; split
  · exact keepF s _
  · exact keep0 s _
structure Cnt (s s':VS):Prop where
  c0:s.count ≤ s'.count ∧ s'.count ≤ 256
  c3:∀ l,s'.expect = some l → s'.count + l.length ≤ 256
  made:(s'.made.length:Int) - s'.count = s.made.length - s.count
  room:Room s'
theorem cnt0 {s:VS} {e:Ev} (hk:s.expect = none → closeM e.kind = false → s.count + 1 ≠ 256) (ho:s.over = false) (h0:s.count ≤ 256) (h3:∀ l,s.expect = some l → s.count + l.length ≤ 256) (hr:Room s):Cnt s (s.emit0 e).2:=by
  have k:=emits s e
  generalize s.emit0 e = q at k ⊢
  cases k with
  | live hx =>
    have h1:=hr hx ho
    refine ⟨⟨by show s.count ≤ s.count + 1; omega,by show s.count + 1 ≤ 256; omega⟩,fun l hl=>?_,?_,fun _ hov=>?_⟩
    · have:s.expect = some l:=hl
      rw [hx] at this; cases this
    · show ((s.made ++ [e]).length:Int) - (s.count + 1) = _
      rw [List.length_append,List.length_singleton]; omega
    · show s.count + 1 ≤ 255
      have:closeM e.kind = false:=by
        cases hc:closeM e.kind with
        | false=>rfl
        | true=>exact absurd hov (by show ¬ (if closeM e.kind = true then true else s.over) = false; rw [if_pos hc]; simp)
      have:=hk hx this
      omega
  | none hx =>
    exact ⟨⟨Int.le_refl _,h0⟩,h3,rfl,fun hn=>by rw [show s.drifts.expect = s.expect from rfl,hx] at hn; cases hn⟩
  | other w l hx =>
    refine ⟨⟨Int.le_refl _,h0⟩,fun l' hl=>?_,rfl,fun hn=>by cases hn⟩
    have:some l = some l':=hl
    cases this
    have:=h3 _ hx
    rw [List.length_cons] at this
    show s.count + _ ≤ 256
    omega
  | same w l hx hm =>
    have:=h3 _ hx
    rw [List.length_cons] at this
    refine ⟨⟨by show s.count ≤ s.count + 1; omega,by show s.count + 1 ≤ 256; omega⟩,fun l' hl=>?_,?_,fun hn=>by cases hn⟩
    · have e:some l = some l':=hl
      cases e
      show s.count + 1 + _ ≤ 256; omega
    · show ((s.made ++ [w]).length:Int) - (s.count + 1) = _
      rw [List.length_append,List.length_singleton]; omega
theorem cntF {s:VS} (c:Int) (ho:s.over = false) (h0:s.count ≤ 256) (h3:∀ l,s.expect = some l → s.count + l.length ≤ 256) (hr:Room s):Cnt s (s.fails c):=cnt0 (fun _ h=>by cases h) ho h0 h3 hr
theorem cntE {s:VS} (e:Ev) (ho:s.over = false) (h0:s.count ≤ 256) (h3:∀ l,s.expect = some l → s.count + l.length ≤ 256) (hr:Room s):Cnt s (s.emit e).2:=by
  unfold VS.emit; split
  · exact cntF _ ho h0 h3 hr
  · rename_i h
    refine cnt0 (fun _ hc he=>h ?_) ho h0 h3 hr
    have hc:closeM e.kind = false:=hc
    rw [hc]; simpa using he
theorem overF (s:VS) (c:Int):(s.fails c).over = true:=by
  unfold VS.fails
  have k:=emits s (s.stamp (evM 16 c 0 0))
  generalize s.emit0 (s.stamp (evM 16 c 0 0)) = q at k
  cases k with
  | live=>rfl
  | none=>rfl
  | other=>rfl
  | same w l hx hm =>
    have:w.kind = 16:=matches_kind hm
    show (if closeM w.kind = true then true else s.over) = true
    rw [this]; rfl
theorem goes0 (s:VS) (e:Ev) (h:(s.emit0 e).1.2 = true):(s.emit0 e).2.over = if closeM e.kind = true then true else s.over:=by
  have k:=emits s e
  generalize s.emit0 e = q at h k
  cases k with
  | live=>rfl
  | none=>cases h
  | other=>cases h
  | same w l hx hm =>
    show (if closeM w.kind = true then true else s.over) = _
    rw [matches_kind hm]
theorem goesE (s:VS) (e:Ev) (h:(s.emit e).1.2 = true):(s.emit e).2.over = if closeM e.kind = true then true else s.over:=by
  unfold VS.emit at h ⊢
  split
  · rename_i hx; rw [if_pos hx] at h; cases h
  · rename_i hx; rw [if_neg hx] at h; exact goes0 s (s.stamp e) h
theorem id0 (s:VS) (e:Ev) (h:(s.emit0 e).1.2 = true):(s.emit0 e).1.1 = e.id:=by
  have k:=emits s e
  generalize s.emit0 e = q at h k
  cases k with
  | live=>rfl
  | none=>cases h
  | other=>cases h
  | same w l hx hm =>
    unfold matchesM Ev.beqM at hm
    simp only [Bool.and_eq_true,beq_iff_eq] at hm
    have:=hm.1
    show w.id = e.id
    rw [← this]
    split
    · rfl
    · split <;> rfl
theorem idE (s:VS) (e:Ev) (h:(s.emit e).1.2 = true):(s.emit e).1.1 = s.count + 1:=by
  unfold VS.emit at h ⊢
  split
  · rename_i hx; rw [if_pos hx] at h; cases h
  · rename_i hx; rw [if_neg hx] at h; exact id0 s (s.stamp e) h
end Go.Proofs.YtkofafcgcnciaaaGreatDoor
set_option maxRecDepth 100000
namespace Go.Proofs.YtkofafcgcnciaaaGreatDoor
open Go.Ax
theorem ThrOk.mono {p:Prg} {s s':VS} {t:Thr} (h:ThrOk p s t) (h1:s.scopes.length ≤ s'.scopes.length) (h2:s.futures.length ≤ s'.futures.length):ThrOk p s' t :=
  ⟨h.fn,h.f0,h.pc0,h.stack,⟨h.scope.1,by have:=h.scope.2; omega⟩,⟨h.future.1,by have:=h.future.2; omega⟩,h.update,by have:=h.waits; omega,h.signal⟩
theorem setDone_cases (s:VS) (i v k:Int):s.setDone i v k = s ∨ ∃ f,s.futures[i.toNat]? = some f ∧ 0 ≤ i ∧ f.done = false ∧ s.setDone i v k = { s with futures:=s.futures.set i.toNat (f.end_ v k) }:=by
  unfold VS.setDone
  split
  · rename_i f hf
    split
    · rename_i h
      right
      simp at h
      exact ⟨f,hf,h.1,h.2,rfl⟩
    · exact .inl rfl
  · exact .inl rfl
theorem mark_cases (s:VS) (i:Int):s.mark i = s ∨ ∃ c,s.scopes[i.toNat]? = some c ∧ s.mark i = { s with scopes:=s.scopes.set i.toNat { c with cancelled:=true } }:=by
  unfold VS.mark
  split
  · rename_i c hc; exact .inr ⟨c,hc,rfl⟩
  · exact .inl rfl
theorem Inv.keep {p:Prg} {s s':VS} (h:Inv p s) (k:Keep s s') (n:Cnt s s'):Inv p s' ∧ Room s':=by
  have hc:=n.c0
  refine ⟨⟨by rw [k.scopes]; exact h.scp,by rw [k.scopes]; exact h.scn,by rw [k.scopes]; exact h.sc32,by rw [k.threads]; exact h.t16,fun t ht=>?_,by rw [k.futures,k.scopes]; exact h.futs,by rw [k.fuel]; exact h.fuel,?_,⟨by have:=h.c0.1; omega,hc.2⟩,n.c3,?_,fun l hl=>?_,by rw [k.signals]; exact h.sg8,?_,by rw [k.updates]; exact h.updI,by rw [k.vars]; exact h.v16,by rw [k.attrs]; exact h.a4⟩,n.room⟩
  · rw [k.threads] at ht
    exact (h.thr t ht).mono (by rw [k.scopes]; exact Nat.le_refl _) (by rw [k.futures]; exact Nat.le_refl _)
  · rw [k.futures,k.fuel]; have:=h.many; omega
  · have:=n.made; have:=h.made; omega
  · rw [k.signals] at hl; have:=h.sig l hl; omega
  · rw [k.updates]; have:=h.upd; omega
theorem ScpOk.set {l:List Scp} (h:ScpOk l) {i:Nat} {c d:Scp} (hc:l[i]? = some c) (e:d.parent = c.parent):ScpOk (l.set i d):=fun j x hx=>by
  rw [List.getElem?_set] at hx
  split at hx
  · rename_i hij
    split at hx
    · cases hx; subst hij; rw [e]; exact h _ _ hc
    · cases hx
  · exact h j x hx
theorem ScpOk.snoc {l:List Scp} (h:ScpOk l) {c:Scp} (hc:c.parent < l.length):ScpOk (l ++ [c]):=fun j x hx=>by
  rcases Nat.lt_or_ge j l.length with hj | hj
  · rw [List.getElem?_append_left hj] at hx; exact h j x hx
  · have hlt:=get_lt hx
    rw [List.length_append,List.length_singleton] at hlt
    have:j = l.length:=by omega
    subst this
    rw [List.getElem?_append_right (Nat.le_refl _),Nat.sub_self] at hx
    cases hx; exact hc
theorem mem_set {α:Type} {l:List α} {i:Nat} {x y:α} (h:y ∈ l.set i x):y ∈ l ∨ y = x:=List.mem_or_eq_of_mem_set h
theorem FStep.inv {p:Prg} {b:Bool} {s s':VS} (q:FStep p b s s') (h:Inv p s) (r:Room s):Inv p s' ∧ Room s':=by
  cases q with
  | emit e ho hc=>exact h.keep (keepE s e) (cntE e ho h.c0.2 h.c3 r)
  | fails c ho=>exact h.keep (keepF s c) (cntF c ho h.c0.2 h.c3 r)
  | done i v k =>
    rcases setDone_cases s i v k with e | ⟨f,hf,h0,hd,e⟩
    · rw [e]; exact ⟨h,r⟩
    · rw [e]
      have hl:(s.futures.set i.toNat (f.end_ v k)).length = s.futures.length:=List.length_set
      refine ⟨⟨h.scp,h.scn,h.sc32,h.t16,fun t ht=>(h.thr t ht).mono (Nat.le_refl _) (by show _ ≤ (s.futures.set _ _).length; rw [hl]; exact Nat.le_refl _),fun g hg=>?_,h.fuel,by show ((s.futures.set i.toNat (f.end_ v k)).length:Int) + _ ≤ _; rw [hl]; exact h.many,h.c0,h.c3,h.made,h.sig,h.sg8,h.upd,h.updI,h.v16,h.a4⟩,r⟩
      rcases mem_set hg with hg | hg
      · exact h.futs g hg
      · subst hg; exact h.futs f (List.mem_of_getElem? hf)
  | fut f h0 h1 hm hd =>
    refine ⟨⟨h.scp,h.scn,h.sc32,h.t16,fun t ht=>(h.thr t ht).mono (Nat.le_refl _) (by show _ ≤ (s.futures ++ [f]).length; simp),fun g hg=>?_,h.fuel,by show ((s.futures ++ [f]).length:Int) + s.fuel ≤ _; rw [List.length_append,List.length_singleton]; show _ ≤ 1000 * s.count; omega,h.c0,h.c3,h.made,h.sig,h.sg8,h.upd,h.updI,h.v16,h.a4⟩,r⟩
    rcases List.mem_append.1 hg with hg | hg
    · exact h.futs g hg
    · rw [List.mem_singleton] at hg; subst hg; exact ⟨h0,h1⟩
  | scp i h1 h2 =>
    have hl:(s.scopes ++ [(⟨i,false⟩:Scp)]).length = s.scopes.length + 1:=by simp
    exact ⟨⟨h.scp.snoc h1.2,by show 0 < (s.scopes ++ [(⟨i,false⟩:Scp)]).length; omega,by show (s.scopes ++ [(⟨i,false⟩:Scp)]).length ≤ 32; omega,h.t16,fun t ht=>(h.thr t ht).mono (by show _ ≤ (s.scopes ++ [(⟨i,false⟩:Scp)]).length; omega) (Nat.le_refl _),fun g hg=>⟨(h.futs g hg).1,(h.futs g hg).2.1,by have:=(h.futs g hg).2.2; show _ < ((s.scopes ++ [(⟨i,false⟩:Scp)]).length:Int); omega⟩,h.fuel,h.many,h.c0,h.c3,h.made,h.sig,h.sg8,h.upd,h.updI,h.v16,h.a4⟩,r⟩
  | mark i =>
    rcases mark_cases s i with e | ⟨c,hc,e⟩
    · rw [e]; exact ⟨h,r⟩
    · rw [e]
      have hl:(s.scopes.set i.toNat { c with cancelled:=true }).length = s.scopes.length:=List.length_set
      exact ⟨⟨h.scp.set hc rfl,by show 0 < (s.scopes.set i.toNat { c with cancelled:=true }).length; rw [hl]; exact h.scn,by show (s.scopes.set i.toNat { c with cancelled:=true }).length ≤ 32; rw [hl]; exact h.sc32,h.t16,fun t ht=>(h.thr t ht).mono (by show _ ≤ (s.scopes.set i.toNat { c with cancelled:=true }).length; omega) (Nat.le_refl _),fun g hg=>⟨(h.futs g hg).1,(h.futs g hg).2.1,by have:=(h.futs g hg).2.2; show _ < ((s.scopes.set i.toNat { c with cancelled:=true }).length:Int); omega⟩,h.fuel,h.many,h.c0,h.c3,h.made,h.sig,h.sg8,h.upd,h.updI,h.v16,h.a4⟩,r⟩
  | thr t ht hlt =>
    refine ⟨⟨h.scp,h.scn,h.sc32,by show (s.threads ++ [t]).length ≤ 16; simp; omega,fun u hu=>?_,h.futs,h.fuel,h.many,h.c0,h.c3,h.made,h.sig,h.sg8,h.upd,h.updI,h.v16,h.a4⟩,r⟩
    rcases List.mem_append.1 hu with hu | hu
    · exact (h.thr u hu).mono (Nat.le_refl _) (Nat.le_refl _)
    · rw [List.mem_singleton] at hu; subst hu; exact ht.mono (Nat.le_refl _) (Nat.le_refl _)
  | set i t hb ht =>
    refine ⟨⟨h.scp,h.scn,h.sc32,by show (s.threads.set i t).length ≤ 16; rw [List.length_set]; exact h.t16,fun u hu=>?_,h.futs,h.fuel,h.many,h.c0,h.c3,h.made,h.sig,h.sg8,h.upd,h.updI,h.v16,h.a4⟩,r⟩
    rcases mem_set hu with hu | hu
    · exact (h.thr u hu).mono (Nat.le_refl _) (Nat.le_refl _)
    · subst hu; exact ht.mono (Nat.le_refl _) (Nat.le_refl _)
  | erase i hb =>
    refine ⟨⟨h.scp,h.scn,h.sc32,?_,fun u hu=>(h.thr u ?_).mono (Nat.le_refl _) (Nat.le_refl _),h.futs,h.fuel,h.many,h.c0,h.c3,h.made,h.sig,h.sg8,h.upd,h.updI,h.v16,h.a4⟩,r⟩
    · have:=List.length_eraseIdx_le s.threads i
      exact Nat.le_trans this h.t16
    · exact List.mem_of_mem_eraseIdx hu
  | vars k v=>exact ⟨⟨h.scp,h.scn,h.sc32,h.t16,fun t ht=>(h.thr t ht).mono (Nat.le_refl _) (Nat.le_refl _),h.futs,h.fuel,h.many,h.c0,h.c3,h.made,h.sig,h.sg8,h.upd,h.updI,by show (s.vars.set k v).length = 16; rw [List.length_set]; exact h.v16,h.a4⟩,r⟩
  | attrs k v=>exact ⟨⟨h.scp,h.scn,h.sc32,h.t16,fun t ht=>(h.thr t ht).mono (Nat.le_refl _) (Nat.le_refl _),h.futs,h.fuel,h.many,h.c0,h.c3,h.made,h.sig,h.sg8,h.upd,h.updI,h.v16,by show (s.attrs.set k v).length = 4; rw [List.length_set]; exact h.a4⟩,r⟩
  | draws v=>exact ⟨⟨h.scp,h.scn,h.sc32,h.t16,fun t ht=>(h.thr t ht).mono (Nat.le_refl _) (Nat.le_refl _),h.futs,h.fuel,h.many,h.c0,h.c3,h.made,h.sig,h.sg8,h.upd,h.updI,h.v16,h.a4⟩,r⟩
  | fuel n hb hn=>exact ⟨⟨h.scp,h.scn,h.sc32,h.t16,fun t ht=>(h.thr t ht).mono (Nat.le_refl _) (Nat.le_refl _),h.futs,⟨hn.1,by have:=h.fuel.2; show n ≤ 1000; omega⟩,by have:=h.many; show (s.futures.length:Int) + n ≤ _; show _ ≤ 1000 * s.count; omega,h.c0,h.c3,h.made,h.sig,h.sg8,h.upd,h.updI,h.v16,h.a4⟩,r⟩
  | sig k x l hk =>
    refine ⟨⟨h.scp,h.scn,h.sc32,h.t16,fun t ht=>(h.thr t ht).mono (Nat.le_refl _) (Nat.le_refl _),h.futs,h.fuel,h.many,h.c0,h.c3,h.made,fun z hz=>?_,by show (s.signals.set k l).length = 8; rw [List.length_set]; exact h.sg8,h.upd,h.updI,h.v16,h.a4⟩,r⟩
    rcases mem_set hz with hz | hz
    · exact h.sig z hz
    · subst hz
      cases e:s.signals[k]? with
      | none=>rw [e] at hk; cases hk
      | some y =>
        rw [e] at hk
        have:y = x :: z:=hk
        subst this
        have:=h.sig _ (List.mem_of_getElem? e)
        rw [List.length_cons] at this
        show (z.length:Int) ≤ s.count
        omega
theorem FSteps.inv {p:Prg} {b:Bool} {s s':VS} (q:FSteps p b s s') (h:Inv p s) (r:Room s):Inv p s' ∧ Room s':=by
  induction q with
  | refl=>exact ⟨h,r⟩
  | tail _ k ih=>exact k.inv ih.1 ih.2
structure Ext (s s':VS):Prop where
  futs:∀ (i:Nat) (f:Fut),s.futures[i]? = some f → ∃ f',s'.futures[i]? = some f' ∧ f'.kind = f.kind ∧ f'.event = f.event ∧ f'.scope = f.scope ∧ (f.done = true → f' = f)
  scps:∀ (i:Nat) (c:Scp),s.scopes[i]? = some c → ∃ c',s'.scopes[i]? = some c' ∧ c'.parent = c.parent ∧ (c.cancelled = true → c'.cancelled = true)
  sigs:∀ k:Nat,∃ l,s.signals[k]?.getD [] = l ++ s'.signals[k]?.getD []
theorem Ext.refl (s:VS):Ext s s:=⟨fun _ f h=>⟨f,h,rfl,rfl,rfl,fun _=>rfl⟩,fun _ c h=>⟨c,h,rfl,id⟩,fun _=>⟨[],rfl⟩⟩
theorem Ext.trans {a b c:VS} (h:Ext a b) (k:Ext b c):Ext a c:=by
  refine ⟨fun i f hf=>?_,fun i x hx=>?_,fun n=>?_⟩
  · obtain ⟨g,h1,h2,h3,h4,h5⟩:=h.futs i f hf
    obtain ⟨g2,k1,k2,k3,k4,k5⟩:=k.futs i g h1
    exact ⟨g2,k1,k2.trans h2,k3.trans h3,k4.trans h4,fun e=>by have:=h5 e; subst this; exact k5 e⟩
  · obtain ⟨g,h1,h2,h3⟩:=h.scps i x hx
    obtain ⟨g2,k1,k2,k3⟩:=k.scps i g h1
    exact ⟨g2,k1,k2.trans h2,fun e=>k3 (h3 e)⟩
  · obtain ⟨l,hl⟩:=h.sigs n
    obtain ⟨l2,hl2⟩:=k.sigs n
    exact ⟨l ++ l2,by rw [hl,hl2,List.append_assoc]⟩
theorem Ext.same {s s':VS} (h1:s'.futures = s.futures) (h2:s'.scopes = s.scopes) (h3:s'.signals = s.signals):Ext s s' :=
  ⟨fun i f h=>⟨f,by rw [h1]; exact h,rfl,rfl,rfl,fun _=>rfl⟩,fun i c h=>⟨c,by rw [h2]; exact h,rfl,id⟩,fun k=>⟨[],by rw [h3]; rfl⟩⟩
theorem Ext.keep {s s':VS} (k:Keep s s'):Ext s s':=.same k.futures k.scopes k.signals
theorem Ext.done (s:VS) (i v k:Int):Ext s (s.setDone i v k):=by
  rcases setDone_cases s i v k with e | ⟨f,hf,h0,hd,e⟩
  · rw [e]; exact .refl s
  · rw [e]
    refine ⟨fun j g hg=>?_,fun i c h=>⟨c,h,rfl,id⟩,fun _=>⟨[],rfl⟩⟩
    show ∃ f',(s.futures.set i.toNat (f.end_ v k))[j]? = some f' ∧ _
    rw [List.getElem?_set]
    by_cases hj:i.toNat = j
    · subst hj
      rw [hf] at hg; cases hg
      rw [if_pos rfl,if_pos (get_lt hf)]
      exact ⟨_,rfl,rfl,rfl,rfl,fun q=>by rw [hd] at q; cases q⟩
    · rw [if_neg hj]; exact ⟨g,hg,rfl,rfl,rfl,fun _=>rfl⟩
theorem FStep.ext {p:Prg} {b:Bool} {s s':VS} (q:FStep p b s s'):Ext s s':=by
  cases q with
  | emit e ho hc=>exact .keep (keepE s e)
  | fails c ho=>exact .keep (keepF s c)
  | done i v k=>exact .done s i v k
  | fut f h0 h1 hm hd =>
    refine ⟨fun j g hg=>⟨g,?_,rfl,rfl,rfl,fun _=>rfl⟩,fun i c h=>⟨c,h,rfl,id⟩,fun _=>⟨[],rfl⟩⟩
    show (s.futures ++ [f])[j]? = _
    rw [List.getElem?_append_left (get_lt hg)]; exact hg
  | scp i h1 h2 =>
    refine ⟨fun j g hg=>⟨g,hg,rfl,rfl,rfl,fun _=>rfl⟩,fun j c h=>⟨c,?_,rfl,id⟩,fun _=>⟨[],rfl⟩⟩
    show (s.scopes ++ [(⟨i,false⟩:Scp)])[j]? = _
    rw [List.getElem?_append_left (get_lt h)]; exact h
  | mark i =>
    rcases mark_cases s i with e | ⟨c,hc,e⟩
    · rw [e]; exact .refl s
    · rw [e]
      refine ⟨fun j g hg=>⟨g,hg,rfl,rfl,rfl,fun _=>rfl⟩,fun j d hd=>?_,fun _=>⟨[],rfl⟩⟩
      show ∃ c',(s.scopes.set i.toNat { c with cancelled:=true })[j]? = some c' ∧ _
      rw [List.getElem?_set]
      by_cases hj:i.toNat = j
      · subst hj
        rw [hc] at hd; cases hd
        rw [if_pos rfl,if_pos (get_lt hc)]
        exact ⟨_,rfl,rfl,fun _=>rfl⟩
      · rw [if_neg hj]; exact ⟨d,hd,rfl,id⟩
  | thr=>exact .same rfl rfl rfl
  | set=>exact .same rfl rfl rfl
  | erase=>exact .same rfl rfl rfl
  | vars=>exact .same rfl rfl rfl
  | attrs=>exact .same rfl rfl rfl
  | draws=>exact .same rfl rfl rfl
  | fuel=>exact .same rfl rfl rfl
  | sig k x l hk =>
    refine ⟨fun j g hg=>⟨g,hg,rfl,rfl,rfl,fun _=>rfl⟩,fun j c h=>⟨c,h,rfl,id⟩,fun n=>?_⟩
    show ∃ y,s.signals[n]?.getD [] = y ++ (s.signals.set k l)[n]?.getD []
    rw [List.getElem?_set]
    by_cases hn:k = n
    · subst hn
      rw [if_pos rfl,hk]
      split
      · exact ⟨[x],rfl⟩
      · exact ⟨x :: l,by simp⟩
    · rw [if_neg hn]; exact ⟨[],rfl⟩
theorem FSteps.ext {p:Prg} {b:Bool} {s s':VS} (q:FSteps p b s s'):Ext s s':=by
  induction q with
  | refl=>exact .refl _
  | tail _ k ih=>exact ih.trans k.ext
theorem FStep.threads {p:Prg} {s s':VS} (q:FStep p false s s'):∃ l,s'.threads = s.threads ++ l:=by
  cases q with
  | emit e ho hc=>exact ⟨[],by rw [(keepE s e).threads]; simp⟩
  | fails c ho=>exact ⟨[],by rw [(keepF s c).threads]; simp⟩
  | done i v k=>rcases setDone_cases s i v k with e | ⟨f,_,_,_,e⟩ <;> rw [e] <;> exact ⟨[],by simp⟩
  | mark i=>rcases mark_cases s i with e | ⟨c,hc,e⟩ <;> rw [e] <;> exact ⟨[],by simp⟩
  | thr t _ _=>exact ⟨[t],rfl⟩
  | set i t hb ht=>cases hb
  | erase i hb=>cases hb
  | fuel n hb hn=>cases hb
  | _=>exact ⟨[],(List.append_nil _).symm⟩
theorem FSteps.threads {p:Prg} {s s':VS} (q:FSteps p false s s'):∃ l,s'.threads = s.threads ++ l:=by
  induction q with
  | refl=>exact ⟨[],by simp⟩
  | tail _ k ih =>
    obtain ⟨l,hl⟩:=ih
    obtain ⟨l2,hl2⟩:=k.threads
    exact ⟨l ++ l2,by rw [hl2,hl,List.append_assoc]⟩
theorem FStep.fuel_eq {p:Prg} {s s':VS} (q:FStep p false s s'):s'.fuel = s.fuel:=by
  cases q with
  | emit e ho hc=>exact (keepE s e).fuel
  | fails c ho=>exact (keepF s c).fuel
  | done i v k=>rcases setDone_cases s i v k with e | ⟨f,_,_,_,e⟩ <;> rw [e]
  | mark i=>rcases mark_cases s i with e | ⟨c,hc,e⟩ <;> rw [e]
  | set i t hb ht=>cases hb
  | erase i hb=>cases hb
  | fuel n hb hn=>cases hb
  | _=>rfl
theorem FSteps.fuel_eq {p:Prg} {s s':VS} (q:FSteps p false s s'):s'.fuel = s.fuel:=by
  induction q with
  | refl=>rfl
  | tail _ k ih=>exact k.fuel_eq.trans ih
end Go.Proofs.YtkofafcgcnciaaaGreatDoor
set_option maxRecDepth 100000
namespace Go.Proofs.YtkofafcgcnciaaaGreatDoor
open Go.Ax Go.RowKit
def mkKey (k a:Int):Value:=.agg #[.int .i64 k,.int .i64 a]
structure Marks (es:Array MapEntry) (S:List (Int × Int)):Prop where
  keys:∀ e ∈ es.toList,∃ k a,e.key = mkKey k a ∧ e.val = .bool true
  mem:∀ k a,(∃ e ∈ es.toList,e.key = mkKey k a) ↔ (k,a) ∈ S
theorem mkKey_inj {k a k' a':Int} (h:mkKey k a = mkKey k' a'):k = k' ∧ a = a':=by
  unfold mkKey at h
  injection h with h
  injection h with h
  simp at h
  exact h
theorem run_check (w:World) (em:Bool) (k a:Int):(Instr.checkKey em 10000 218 (mkKey k a)).run Tryz.prog w = .ok () w:=by
  cases em <;> kernel_rfl
theorem run_eq (w:World) (k a k' a':Int):(Op.equal 218 (mkKey k a) (mkKey k' a')).run Tryz.prog w = .ok (k == k' && (a == a' && true)) w:=by
  have h:eqAgg Tryz.prog 218 #[.int .i64 k,.int .i64 a] #[.int .i64 k',.int .i64 a'] = some (k == k' && (a == a' && true)):=by kernel_rfl
  exact (eqAgg_sound h).2 w
theorem run_findAsk (w : World) (k a : Int) : ∀ (l : List MapEntry) (i : Nat), (∀ e ∈ l, ∃ k a, e.key = mkKey k a ∧ e.val = .bool true) →
    ((∃ e ∈ l,e.key = mkKey k a) ∧ ∃ j e,(Instr.findAsking 218 (mkKey k a) l i).run Tryz.prog w = .ok (some (i + j,.bool true)) w ∧ l[j]? = some e ∧ e.key = mkKey k a) ∨
    ((¬ ∃ e ∈ l,e.key = mkKey k a) ∧ (Instr.findAsking 218 (mkKey k a) l i).run Tryz.prog w = .ok none w)
  | [],i,_=>.inr ⟨by simp,by simp [Instr.findAsking]⟩
  | e :: l,i,h=>by
    obtain ⟨k',a',hk,hv⟩:=h e (List.mem_cons_self ..)
    simp only [Instr.findAsking,Sem.run_bind,hk,run_eq,Result.andThen_ok]
    by_cases heq:k = k' ∧ a = a'
    · obtain ⟨rfl,rfl⟩:=heq
      left
      refine ⟨⟨e,List.mem_cons_self ..,hk⟩,0,e,?_,rfl,hk⟩
      simp [hv]
    · have hf : (k == k' && (a == a' && true)) = false := by
        cases hb:(k == k' && (a == a' && true)) with
        | false=>rfl
        | true=>simp at hb; exact absurd hb heq
      rw [hf]
      rcases run_findAsk w k a l (i + 1) fun x hx=>h x (List.mem_cons_of_mem _ hx) with ⟨⟨x,hx,hxk⟩,j,e',h1,h2,h3⟩ | ⟨h1,h2⟩
      · left
        refine ⟨⟨x,List.mem_cons_of_mem _ hx,hxk⟩,j + 1,e',?_,by simpa using h2,h3⟩
        simp only [Bool.false_eq_true,if_false]
        rw [h1]; congr 3; omega
      · right
        refine ⟨?_,by simpa using h2⟩
        rintro ⟨x,hx,hxk⟩
        rcases List.mem_cons.1 hx with rfl | hx
        · rw [hk] at hxk
          obtain ⟨e1,e2⟩:=mkKey_inj hxk
          exact heq ⟨e1.symm,e2.symm⟩
        · exact h1 ⟨x,hx,hxk⟩
theorem run_find (w : World) (k a : Int) (l : List MapEntry) (h : ∀ e ∈ l, ∃ k a, e.key = mkKey k a ∧ e.val = .bool true) :
    ((∃ e ∈ l,e.key = mkKey k a) ∧ ∃ j e,(Instr.findKey 218 (mkKey k a) l).run Tryz.prog w = .ok (some (j,.bool true)) w ∧ l[j]? = some e ∧ e.key = mkKey k a) ∨
    ((¬ ∃ e ∈ l,e.key = mkKey k a) ∧ (Instr.findKey 218 (mkKey k a) l).run Tryz.prog w = .ok none w):=by
  have hu:Tryz.prog.underlying 218 = some (.struct (Tryz.prog.fieldsOf 218)):=by kernel_rfl
  unfold Instr.findKey
  simp only [Sem.run_bind,run_underlying hu,Result.andThen_ok]
  cases l with
  | nil=>right; simp [Instr.findNow]
  | cons e l =>
    have hn:Instr.findNow (.struct (Tryz.prog.fieldsOf 218)) (mkKey k a) (e :: l) 0 = none:=by simp [Instr.findNow,Instr.sameNow]
    rw [hn]
    have:=run_findAsk w k a (e :: l) 0 h
    simpa using this
theorem sm_lookup {H : Heap} {b : Nat} {es : Array MapEntry} {cl : Nat} {S : List (Int × Int)} (hb : H b = some (.map es cl)) (m : Marks es S) (k a : Int) :
    Sm Tryz.prog (Instr.lookup 175 (.map (some b)) (mkKey k a) false) H (fun v H'=>v = .bool (decide ((k,a) ∈ S)) ∧ H' = H):=by
  refine ⟨fun w hw=>?_⟩
  have hu:Tryz.prog.underlying 175 = some (.map 218 4):=Tryz.underlying175
  have hz:(zeroValue 4).run Tryz.prog w = .ok (.bool false) w:=by kernel_rfl
  have hg:(getObj b).run Tryz.prog w = .ok (.map es cl) w:=MapKept.run_getObj_map (hw _ _ hb)
  refine ⟨_,H,w,?_,Keeps.refl hw,rfl,rfl⟩
  unfold Instr.lookup
  simp only [Sem.run_bind,run_underlying hu,Result.andThen_ok,hg,Sem.run_pure,run_check]
  rcases run_find w k a es.toList m.keys with ⟨h1,j,e,h2,h3,h4⟩ | ⟨h1,h2⟩
  · rw [h2]
    have:(k,a) ∈ S:=(m.mem k a).1 h1
    simp [this]
  · rw [h2]
    have:(k,a) ∉ S:=fun hm=>h1 ((m.mem k a).2 hm)
    simp [this,hz]
theorem same_key (k a:Int):Instr.sameBits 10000 (mkKey k a) (mkKey k a) = true:=by
  have:Instr.sameBits 10000 (mkKey k a) (mkKey k a) = ((k == k) && ((a == a) && true)):=by kernel_rfl
  rw [this]; simp
theorem sm_update {H : Heap} {b : Nat} {es : Array MapEntry} {cl : Nat} {S : List (Int × Int)} (hb : H b = some (.map es cl)) (m : Marks es S) (k a : Int) :
    Sm Tryz.prog (updU (Instr.mapUpdate 175 (.map (some b)) (mkKey k a) (.bool true))) H (fun _ H'=>∃ es' cl',Marks es' ((k,a) :: S) ∧ H' = H.upd b (.map es' cl')):=by
  refine ⟨fun w hw=>?_⟩
  have hu:Tryz.prog.underlying 175 = some (.map 218 4):=Tryz.underlying175
  have hwb:=hw _ _ hb
  have hlt:=heap_lt hwb
  have hg:(getObj b).run Tryz.prog w = .ok (.map es cl) w:=MapKept.run_getObj_map hwb
  have put:∀ (o:Obj),(setObj b o).run Tryz.prog w = .ok () { w with heap:=w.heap.setIfInBounds b o }:=fun o=>MapKept.run_setObj_map o hwb
  have keeps:∀ o:Obj,Keeps H w (H.upd b o) { w with heap:=w.heap.setIfInBounds b o }:=fun o=>by
    refine ⟨fun i o' e=>?_,fun i hi e=>?_,by simp,rfl,rfl,rfl⟩
    · by_cases hi:i = b
      · subst hi; rw [Heap.upd_same] at e; cases e; simp [hlt]
      · rw [Heap.upd_other hi] at e
        have:=hw i o' e
        simp [Ne.symm hi,this]
    · have hne:i ≠ b:=fun e'=>by subst e'; rw [hb] at e; cases e
      exact ⟨by simp [Ne.symm hne],by rw [Heap.upd_other hne]; exact e⟩
  rcases run_find w k a es.toList m.keys with ⟨h1,j,e,h2,h3,h4⟩ | ⟨h1,h2⟩
  · have h3':es[j]? = some e:=by simpa using h3
    refine ⟨undef,_,_,?_,keeps (.map (es.modify j fun e=>{ e with key:=mkKey k a,val:=.bool true }) cl),_,cl,?_,rfl⟩
    · unfold updU Instr.mapUpdate
      simp only [Sem.run_bind,run_underlying hu,Result.andThen_ok,hg,run_check,h2]
      have hk:(Instr.keyThatStays (((es[j]?).map (·.key)).getD (mkKey k a)) (mkKey k a)).run Tryz.prog w = .ok (mkKey k a) w:=by
        rw [h3']
        simp [Instr.keyThatStays,h4,same_key]
      rw [hk]
      simp [put]
    · have hlist:(es.modify j fun e=>{ e with key:=mkKey k a,val:=.bool true }).toList = es.toList.modify j fun e=>{ e with key:=mkKey k a,val:=.bool true }:=by simp
      have hin:∀ x,x ∈ (es.modify j fun e=>{ e with key:=mkKey k a,val:=.bool true }).toList → (∃ y ∈ es.toList,y.key = x.key) ∧ x.val = .bool true:=by
        intro x hx
        rw [hlist] at hx
        obtain ⟨i,hi⟩:=List.mem_iff_getElem?.1 hx
        rw [List.getElem?_modify] at hi
        by_cases hij:j = i
        · subst hij
          rw [h3] at hi
          simp at hi
          subst hi
          exact ⟨⟨e,List.mem_of_getElem? h3,h4⟩,rfl⟩
        · simp [hij] at hi
          have hm:x ∈ es.toList:=by
            refine List.mem_iff_getElem?.2 ⟨i,?_⟩
            simpa using hi
          obtain ⟨_,_,_,hv⟩:=m.keys x hm
          exact ⟨⟨x,hm,rfl⟩,hv⟩
      have hout:∀ y ∈ es.toList,∃ x ∈ (es.modify j fun e=>{ e with key:=mkKey k a,val:=.bool true }).toList,x.key = y.key:=by
        intro y hy
        obtain ⟨i,hi⟩:=List.mem_iff_getElem?.1 hy
        by_cases hij:j = i
        · subst hij
          rw [h3] at hi; cases hi
          refine ⟨{ e with key:=mkKey k a,val:=.bool true },?_,h4.symm⟩
          rw [hlist]
          refine List.mem_iff_getElem?.2 ⟨j,?_⟩
          rw [List.getElem?_modify,h3]; simp
        · refine ⟨y,?_,rfl⟩
          rw [hlist]
          refine List.mem_iff_getElem?.2 ⟨i,?_⟩
          rw [List.getElem?_modify,hi]; simp [hij]
      refine ⟨fun x hx=>?_,fun k' a'=>?_⟩
      · obtain ⟨⟨y,hy,hyk⟩,hv⟩:=hin x hx
        obtain ⟨k2,a2,h5,_⟩:=m.keys y hy
        exact ⟨k2,a2,hyk ▸ h5,hv⟩
      · constructor
        · rintro ⟨x,hx,hxk⟩
          obtain ⟨⟨y,hy,hyk⟩,_⟩:=hin x hx
          exact List.mem_cons_of_mem _ ((m.mem k' a').1 ⟨y,hy,hyk.trans hxk⟩)
        · intro hm
          have:(k',a') ∈ S:=by
            rcases List.mem_cons.1 hm with e' | e'
            · cases e'; exact (m.mem k a).1 h1
            · exact e'
          obtain ⟨y,hy,hyk⟩:=(m.mem k' a').2 this
          obtain ⟨x,hx,hxk⟩:=hout y hy
          exact ⟨x,hx,hxk.trans hyk⟩
  · refine ⟨undef,_,_,?_,keeps (.map (es.push { key:=mkKey k a,val:=.bool true,born:=cl }) (cl + 1)),_,cl + 1,?_,rfl⟩
    · unfold updU Instr.mapUpdate
      simp only [Sem.run_bind,run_underlying hu,Result.andThen_ok,hg,run_check,h2]
      simp [put]
    · refine ⟨fun x hx=>?_,fun k' a'=>?_⟩
      · simp at hx
        rcases hx with hx | rfl
        · exact m.keys x (by simpa using hx)
        · exact ⟨k,a,rfl,rfl⟩
      · simp only [Array.toList_push,List.mem_append,List.mem_cons,List.not_mem_nil,or_false]
        constructor
        · rintro ⟨x,hx | rfl,hxk⟩
          · exact .inr ((m.mem k' a').1 ⟨x,hx,hxk⟩)
          · obtain ⟨rfl,rfl⟩:=mkKey_inj hxk
            exact .inl rfl
        · rintro (e | hm)
          · cases e; exact ⟨_,.inr rfl,rfl⟩
          · obtain ⟨x,hx,hxk⟩:=(m.mem k' a').2 hm
            exact ⟨x,.inl hx,hxk⟩
theorem Marks.nil:Marks #[] []:=⟨fun e h=>by simp at h,fun k a=>by simp⟩
end Go.Proofs.YtkofafcgcnciaaaGreatDoor
set_option maxRecDepth 100000
namespace Go.Proofs.YtkofafcgcnciaaaGreatDoor
open Go.Ax
section
variable {G0 F0 G H:Heap} {m:Nat} {pf po:SlH} {sl:Nat → SlH} {F:Heap} {ex:Value} {st:List SlH} {s:VS}
structure Side (G0 F0 G F:Heap) (q:SlH) (sz:Nat) (cs:List Value):Prop where
  g:Sub G0 G
  f:Sub F0 F
  gf:Sub G0 F0
  d:Sub (dif F0 G0) (dif F G)
  sl:SlOk G q sz cs
  free:∀ b,q.blk = some b → F0 b = none
theorem Side.nil {G F:Heap} (gf:Sub G F) (sz:Nat):Side G F G F ⟨none,0,0⟩ sz []:=⟨Sub.refl _,Sub.refl _,gf,Sub.refl _,⟨by simp,Nat.le_refl _,.inl ⟨rfl,rfl,rfl⟩⟩,fun b hb=>by cases hb⟩
theorem VMX.side (h : VMX G H m pf po sl F ex st s) {q : SlH} {sz : Nat} {cs : List Value} (d : Side G0 F0 G F q sz cs) {e : TypeId} {bytes : Nat} {new : List Value} {k : Nat} (hk : new.length = k * sz) (h1 : allOne new = true) (hb : (q.n + k) * bytes ≤ 140737488355328) (hl : q.n + k ≤ 9223372036854775807)
    {K:Option Addr → Nat → Nat → Heap → Prop} (r:∀ A' c' G' F' H',VMX G' H' m pf po sl F' ex st s → Side G0 F0 G' F' ⟨A',q.n + k,c'⟩ sz (cs ++ new) → K A' (q.n + k) c' H') :
    appC e sz bytes H q.A q.n q.c new k K:=by
  have ok:=d.sl
  have gh:Sub G H:=h.gf.trans h.fh
  have hs:=ok.len
  refine ⟨⟨cs,(ok.sub gh).src,ok.len,hk,h1,hb,hl,fun hcap=>?_,fun hcap b cap rest hbn hle hr=>?_⟩⟩
  · rcases ok.at_ with ⟨a1,a2,a3⟩ | ⟨b,off,cur,T,a1,a2,a3,a4⟩
    · left
      have k0:k = 0:=by omega
      subst k0
      have hn:new = []:=List.length_eq_zero_iff.1 (by omega)
      subst hn
      refine ⟨rfl,r _ _ _ _ _ h ⟨d.g,d.f,d.gf,d.d,⟨by rw [List.append_nil]; exact hs,hcap,.inl ⟨a1,by show q.n + 0 = 0; omega,a3⟩⟩,fun b hb=>?_⟩⟩
      unfold SlH.blk at hb; simp only at hb; rw [a1] at hb; cases hb
    · right
      have hblk:q.blk = some b:=by unfold SlH.blk; rw [a1]; rfl
      have hF0:=d.free b hblk
      have hG0:=none_below d.gf hF0
      have hsz:(off + q.n * sz) + new.length ≤ cur.size:=by
        have:(q.n + k) * sz ≤ q.c * sz:=Nat.mul_le_mul_right _ hcap
        rw [Nat.add_mul] at this
        omega
      have old:∀ j v,cs[j]? = some v → (splice cur (off + q.n * sz) new)[off + j]? = some v:=fun j v hv=>by
        rw [splice_get hsz,if_pos (by have:=get_lt hv; omega)]; exact a4 j v hv
      refine ⟨⟨b,off,none⟩,cur,T,a1,rfl,gh.sub _ _ a2,hsz,r _ _ _ _ _ (h.turn a2 _) ⟨base_upd d.g hG0 _,base_upd d.f hF0 _,d.gf,d.d.trans (dif_turn a2 _),⟨?_,hcap,.inr ⟨b,off,_,T,a1,Heap.upd_same,by rw [splice_size hsz]; exact a3,fun j v hv=>?_⟩⟩,fun b' hb'=>?_⟩⟩
      · rw [List.length_append,hs,hk,Nat.add_mul]
      · by_cases hj:j < q.n * sz
        · rw [List.getElem?_append_left (by omega)] at hv
          exact old j v hv
        · have hlt:=get_lt hv
          rw [List.length_append] at hlt
          rw [List.getElem?_append_right (by omega),hs] at hv
          rw [splice_get hsz,if_neg (by omega),if_pos (by omega)]
          rw [← hv]; congr 1; omega
      · unfold SlH.blk at hb'; simp only at hb'; rw [a1] at hb'; cases hb'
        exact hF0
  · have hG:=none_below gh hbn
    have hF:=none_below h.fh hbn
    have hF0:=none_below d.f hF
    have hG0:=none_below d.gf hF0
    refine r _ _ _ _ _ (h.ext hbn (.cells ⟨cs ++ new ++ rest⟩ e (0,0))) ⟨base_upd d.g hG0 _,base_upd d.f hF0 _,d.gf,d.d.trans (dif_ext hF _),⟨by rw [List.length_append,hs,hk,Nat.add_mul],hle,.inr ⟨b,0,_,e,rfl,Heap.upd_same,?_,fun j v hv=>?_⟩⟩,fun b' hb'=>?_⟩
    · simp only [List.size_toArray,List.length_append,hs,hk,hr]
      rw [← Nat.add_mul,← Nat.add_mul]
      have:q.n + k + (cap - (q.n + k)) = cap:=by omega
      rw [this]; simp
    · have hj:=get_lt hv
      simp only [List.getElem?_toArray,Nat.zero_add]
      rw [List.getElem?_append_left hj]; exact hv
    · unfold SlH.blk at hb'; simp only at hb'; cases hb'
      exact hF0
theorem VMX.unside (h:VMX G H m pf po sl F ex st s) {q:SlH} {sz:Nat} {cs:List Value} (d:Side G0 F0 G F q sz cs):VMX G0 H m pf po sl F ex st s:=h.weaken d.g
theorem dif_more {F F' G:Heap} (h:Sub F F'):Sub (dif F G) (dif F' G):=⟨fun i o k=>by
  unfold dif at k ⊢
  split at k
  · cases k
  · rename_i e; rw [if_neg e]; exact h.sub i o k⟩
end
theorem _root_.Go.Ax.Sm.mono {P:Program} {s:Sem Value} {H:Heap} {K K':Value → Heap → Prop} (h:Sm P s H K) (k:∀ v H',K v H' → K' v H'):Sm P s H K' :=
  ⟨fun w hw=>let ⟨v,H',w',a,b,c⟩:=h.run w hw; ⟨v,H',w',a,b,k v H' c⟩⟩
def entI (k v:Int) (n:Nat):MapEntry:={ key:=.int .i64 k,val:=.int .i64 v,born:=n }
theorem sm_updI {H : Heap} {b : Nat} {es : Array MapEntry} {cl : Nat} (hb : H b = some (.map es cl)) (k v : Int) (hn : ∀ d, Instr.findNow (.int d) (.int .i64 k) es.toList 0 = some none) :
    Sm Tryz.prog (updU (Instr.mapUpdate 224 (.map (some b)) (.int .i64 k) (.int .i64 v))) H (fun _ H'=>H' = H.upd b (.map (es.push (entI k v cl)) (cl + 1))):=by
  refine ⟨fun w hw=>?_⟩
  have hu:Tryz.prog.underlying 224 = some (.map 3 3):=by kernel_rfl
  have hi:Tryz.prog.underlying 3 = some (.int .i64):=by kernel_rfl
  have hwb:=hw _ _ hb
  have hlt:=heap_lt hwb
  have hg:(getObj b).run Tryz.prog w = .ok (.map es cl) w:=MapKept.run_getObj_map hwb
  have put:∀ (o:Obj),(setObj b o).run Tryz.prog w = .ok () { w with heap:=w.heap.setIfInBounds b o }:=fun o=>MapKept.run_setObj_map o hwb
  have hc:∀ em,(Instr.checkKey em 10000 3 (.int .i64 k)).run Tryz.prog w = .ok () w:=fun em=>by cases em <;> kernel_rfl
  have hf:(Instr.findKey 3 (.int .i64 k) es.toList).run Tryz.prog w = .ok none w:=MapKept.run_findKey hi (hn _)
  refine ⟨undef,H.upd b (.map (es.push (entI k v cl)) (cl + 1)),{ w with heap:=w.heap.setIfInBounds b (.map (es.push (entI k v cl)) (cl + 1)) },?_,?_,rfl⟩
  · unfold updU Instr.mapUpdate
    simp only [Sem.run_bind,run_underlying hu,Result.andThen_ok,hg,hc,hf]
    simp [put,entI]
  · refine ⟨fun i o' e=>?_,fun i hi e=>?_,by simp,rfl,rfl,rfl⟩
    · by_cases hi:i = b
      · subst hi; rw [Heap.upd_same] at e; cases e; simp [hlt]
      · rw [Heap.upd_other hi] at e
        have:=hw i o' e
        simp [Ne.symm hi,this]
    · have hne:i ≠ b:=fun e'=>by subst e'; rw [hb] at e; cases e
      exact ⟨by simp [Ne.symm hne],by rw [Heap.upd_other hne]; exact e⟩
theorem sm_lookI {H : Heap} {b : Nat} {es : Array MapEntry} {cl : Nat} (hb : H b = some (.map es cl)) (k r : Int) (hn : ∀ d, Instr.findNow (.int d) (.int .i64 k) es.toList 0 = some none ∧ r = 0 ∨ ∃ i, Instr.findNow (.int d) (.int .i64 k) es.toList 0 = some (some (i, .int .i64 r))) :
    Sm Tryz.prog (Instr.lookup 224 (.map (some b)) (.int .i64 k) false) H (fun v H'=>v = .int .i64 r ∧ H' = H):=by
  refine ⟨fun w hw=>?_⟩
  have hu:Tryz.prog.underlying 224 = some (.map 3 3):=by kernel_rfl
  have hi:Tryz.prog.underlying 3 = some (.int .i64):=by kernel_rfl
  have hz:(zeroValue 3).run Tryz.prog w = .ok (.int .i64 0) w:=by kernel_rfl
  have hc:∀ em,(Instr.checkKey em 10000 3 (.int .i64 k)).run Tryz.prog w = .ok () w:=fun em=>by cases em <;> kernel_rfl
  have hg:(getObj b).run Tryz.prog w = .ok (.map es cl) w:=MapKept.run_getObj_map (hw _ _ hb)
  refine ⟨_,H,w,?_,Keeps.refl hw,rfl,rfl⟩
  unfold Instr.lookup
  simp only [Sem.run_bind,run_underlying hu,Result.andThen_ok,hg,Sem.run_pure,hc]
  rcases hn .i64 with ⟨h,rfl⟩ | ⟨i,h⟩
  · rw [MapKept.run_findKey hi h]; simp [hz]
  · rw [MapKept.run_findKey hi h]; simp
def undoEs:Array MapEntry:=((#[].push (entI 3 6 0)).push (entI 4 7 1)).push (entI 5 8 2)
theorem undo_find (k:Int) (d:IntKind):Instr.findNow (.int d) (.int .i64 k) undoEs.toList 0 = some none ∧ undoK k = 0 ∨ ∃ i,Instr.findNow (.int d) (.int .i64 k) undoEs.toList 0 = some (some (i,.int .i64 (undoK k))):=by
  have h:undoEs.toList = [entI 3 6 0,entI 4 7 1,entI 5 8 2]:=rfl
  rw [h]
  have s:∀ j:Int,Instr.sameNow (.int d) (.int .i64 k) (.int .i64 j) = some (k == j):=fun _=>rfl
  unfold undoK
  by_cases h3:k = 3
  · right; subst h3; exact ⟨0,rfl⟩
  · by_cases h4:k = 4
    · right; subst h4; exact ⟨1,rfl⟩
    · by_cases h5:k = 5
      · right; subst h5; exact ⟨2,rfl⟩
      · left
        have e3:(k == 3) = false:=by simpa using h3
        have e4:(k == 4) = false:=by simpa using h4
        have e5:(k == 5) = false:=by simpa using h5
        refine ⟨?_,by rw [if_neg h3,if_neg h4,if_neg h5]⟩
        simp only [Instr.findNow,entI,s,e3,e4,e5]
theorem sm_undo {H : Heap} {b : Nat} (hb : H b = none) {H1 : Heap} (e : H1 = H.upd b (.map #[] 0)) (k : Int) {K : Value → Heap → Prop} (q : ∀ H', Sub H H' → K (.int .i64 (undoK k)) H') :
    Sm Tryz.prog (updU (Instr.mapUpdate 224 (.map (some b)) (.int .i64 3) (.int .i64 6))) H1 fun _ H'3 =>
    Sm Tryz.prog (updU (Instr.mapUpdate 224 (.map (some b)) (.int .i64 4) (.int .i64 7))) H'3 fun _ H'4 =>
    Sm Tryz.prog (updU (Instr.mapUpdate 224 (.map (some b)) (.int .i64 5) (.int .i64 8))) H'4 fun _ H'5 =>
    Sm Tryz.prog (Instr.lookup 224 (.map (some b)) (.int .i64 k) false) H'5 K:=by
  subst e
  refine (sm_updI Heap.upd_same 3 6 fun d=>rfl).mono fun _ H3 e3=>?_
  subst e3
  refine (sm_updI Heap.upd_same 4 7 fun d=>rfl).mono fun _ H4 e4=>?_
  subst e4
  refine (sm_updI Heap.upd_same 5 8 fun d=>rfl).mono fun _ H5 e5=>?_
  subst e5
  refine (sm_lookI (es:=undoEs) (cl:=3) Heap.upd_same k (undoK k) (undo_find k)).mono fun v H6 e6=>?_
  obtain ⟨e6,e7⟩:=e6
  subst e6; subst e7
  refine q _ ⟨fun i o h=>?_⟩
  have hne:i ≠ b:=fun e=>by subst e; rw [hb] at h; cases h
  rw [Heap.upd_other hne,Heap.upd_other hne,Heap.upd_other hne,Heap.upd_other hne]; exact h
end Go.Proofs.YtkofafcgcnciaaaGreatDoor
set_option maxRecDepth 100000
namespace Go.Proofs.YtkofafcgcnciaaaGreatDoor
open Go.Ax
def undoS (s:VS) (i:Nat) (f:Fut):VS:=if (f.kind != 5) = true then (s.emit (evM (undoK f.kind) f.event 0 0)).2.setDone i 0 3 else (s.emit (evM (undoK f.kind) f.event 0 0)).2
theorem undoK_cases (k:Int):undoK k = 0 ∨ (undoK k = 6 ∧ k = 3) ∨ (undoK k = 7 ∧ k = 4) ∨ (undoK k = 8 ∧ k = 5):=by
  unfold undoK
  by_cases h3:k = 3
  · rw [if_pos h3]; exact .inr (.inl ⟨rfl,h3⟩)
  · rw [if_neg h3]
    by_cases h4:k = 4
    · rw [if_pos h4]; exact .inr (.inr (.inl ⟨rfl,h4⟩))
    · rw [if_neg h4]
      by_cases h5:k = 5
      · rw [if_pos h5]; exact .inr (.inr (.inr ⟨rfl,h5⟩))
      · rw [if_neg h5]; exact .inl rfl
theorem undoK_cmd {k:Int} (h:undoK k ≠ 0):cmdM (undoK k) = true ∧ closeM (undoK k) = false:=by
  rcases undoK_cases k with e | ⟨e,-⟩ | ⟨e,-⟩ | ⟨e,-⟩
  · exact absurd e h
  all_goals rw [e]; exact ⟨rfl,rfl⟩
theorem setDone_over (s:VS) (i v k:Int):(s.setDone i v k).over = s.over:=by
  rcases setDone_cases s i v k with e | ⟨f,-,-,-,e⟩ <;> rw [e]
theorem setDone_len (s:VS) (i v k:Int):(s.setDone i v k).futures.length = s.futures.length:=by
  rcases setDone_cases s i v k with e | ⟨f,-,-,-,e⟩ <;> rw [e]
  exact List.length_set
theorem undoS_len (s:VS) (i:Nat) (f:Fut):(undoS s i f).futures.length = s.futures.length:=by
  unfold undoS
  split
  · rw [setDone_len,(keepE s _).futures]
  · rw [(keepE s _).futures]
theorem undoS_over {s:VS} {i:Nat} {f:Fut} (ho:s.over = false) (hk:undoK f.kind ≠ 0) (hok:(s.emit (evM (undoK f.kind) f.event 0 0)).1.2 = true):(undoS s i f).over = false:=by
  have h:=goesE s _ hok
  have hc:closeM (evM (undoK f.kind) f.event 0 0).kind = false:=(undoK_cmd hk).2
  rw [hc,if_neg (by simp)] at h
  unfold undoS
  split
  · rw [setDone_over,h]; exact ho
  · rw [h]; exact ho
theorem undoS_steps {p:Prg} {b:Bool} {s:VS} (i:Nat) {f:Fut} (ho:s.over = false) (hk:undoK f.kind ≠ 0):FSteps p b s (undoS s i f):=by
  have h:=(FStep.emit (p:=p) (b:=b) s (evM (undoK f.kind) f.event 0 0) ho (undoK_cmd hk).1).one
  unfold undoS
  split
  · exact h.tail (.done _ _ _ _)
  · exact h
theorem undoAll_cons {i : Nat} {l : List Nat} {s : VS} {f : Fut} (hf : s.futures[i]? = some f) : undoAll (i :: l) s = if (!s.cancelled f.scope) = true then undoAll l s else if undoK f.kind = 0 then undoAll l s else
    if (!(s.emit (evM (undoK f.kind) f.event 0 0)).1.2) = true then (s.emit (evM (undoK f.kind) f.event 0 0)).2 else undoAll l (undoS s i f):=by
  rw [undoAll,hf]; rfl
theorem undoAll_steps {p:Prg} {b:Bool}:∀ (l:List Nat) (s:VS),s.over = false → FSteps p b s (undoAll l s)
  | [],s,_=>.refl s
  | i :: l,s,ho=>by
    cases hf:s.futures[i]? with
    | none=>rw [undoAll,hf]; exact undoAll_steps l s ho
    | some f =>
      rw [undoAll_cons hf]
      split
      · exact undoAll_steps l s ho
      · split
        · exact undoAll_steps l s ho
        · rename_i hk
          split
          · exact (FStep.emit (p:=p) (b:=b) s (evM (undoK f.kind) f.event 0 0) ho (undoK_cmd hk).1).one
          · rename_i hok
            exact (undoS_steps i ho hk).trans (undoAll_steps l _ (undoS_over ho hk (by simpa using hok)))
theorem mark_over (s:VS) (i:Int):(s.mark i).over = s.over:=by
  rcases mark_cases s i with e | ⟨c,-,e⟩ <;> rw [e]
theorem mark_futs (s:VS) (i:Int):(s.mark i).futures = s.futures:=by
  rcases mark_cases s i with e | ⟨c,-,e⟩ <;> rw [e]
theorem cancels_steps {p:Prg} {b:Bool} {s:VS} (i:Int) (ho:s.over = false):FSteps p b s (s.cancels i):=by
  unfold VS.cancels
  split
  · split
    · exact .refl s
    · exact (FStep.mark s i).one.trans (undoAll_steps _ _ (by rw [mark_over]; exact ho))
  · exact .refl s
section
variable {G H:Heap} {m:Nat} {pf po:SlH} {sl:Nat → SlH} {F:Heap} {ex:Value} {st:List SlH} {s:VS}
theorem VMX.wrScp (h : VMX G H m pf po sl F ex st s) {i : Nat} {f g : Scp} (hf : s.scopes[i]? = some f) {a : Addr} (ha : (sl 2).A = some a) {j : Nat} (hj : j < 2) {v : Value} (e : (scpC f).set j v = scpC g)
    {Q:Heap → Prop} (q:∀ H',VMX G H' m pf po sl F ex st { s with scopes:=s.scopes.set i g } → Q H'):Wr H ((a.add (i * 2)).add j) v Q:=by
  have hi:=get_lt hf
  have hcl:(contC sl st s 2).length = s.scopes.length * 2:=flat_size (cells:=scpC) (sz:=2) (fun _=>rfl) _
  rw [add_add]
  refine h.put (c:=2) (by decide) ha (k:=i * 2 + j) (by rw [hcl]; omega) { s with scopes:=s.scopes.set i g } (flat_set (cells:=scpC) (sz:=2) (fun _=>rfl) s.scopes i f g j v hf hj e).symm (fun c' _ hne=>?_) rfl rfl rfl h.vars h.attrs h.sigs q
  unfold contC; rw [if_neg hne,if_neg hne]
def hitsTo (s:VS) (k:Nat):List Nat:=(List.range k).filter s.hitAt
theorem hitsTo_succ (s:VS) (k:Nat):hitsTo s (k + 1) = hitsTo s k ++ if s.hitAt k = true then [k] else []:=by
  unfold hitsTo
  rw [List.range_succ,List.filter_append]
  congr 1
  rw [List.filter_cons]
  split <;> simp
def natC (l:List Nat):List Value:=intsC (l.map Int.ofNat)
structure RHit (G F:Heap) (m:Nat) (pf po:SlH) (sl:Nat → SlH) (ex:Value) (st:List SlH) (s:VS) (A:Option Addr) (n c:Nat) (x:Int) (H1:Heap):Prop where
  out:∃ (k:Nat) (G1 F1:Heap),x = k ∧ k ≤ s.futures.length ∧ VMX G1 H1 m pf po sl F1 ex st s ∧ Side G F G1 F1 ⟨A,n,c⟩ 1 (natC (hitsTo s k))
structure RUndo (p:Prg) (G1 F1:Heap) (m:Nat) (pf po:SlH) (ex:Value) (st:List SlH) (l:List Nat) (s0:VS) (x:Int) (H1:Heap):Prop where
  out:∃ (k:Nat) (sl:Nat → SlH) (s:VS),x = k ∧ k ≤ l.length ∧ VMX G1 H1 m pf po sl F1 ex st s ∧ Inv p s ∧ Room s ∧ s.over = false ∧ s.futures.length = s0.futures.length ∧ undoAll (l.drop k) s = undoAll l s0
theorem natC_at {H:Heap} {h:SlH} {l:List Nat} (k:SlOk H h 1 (natC l)) {i j:Nat} (hi:l[i]? = some j):∃ a,h.A = some a ∧ At H (a.add (i * 1)) [.int .i64 (j:Int)]:=by
  rcases k.src with e | ⟨a,h5,hat⟩
  · have:=congrArg List.length e
    unfold natC intsC at this
    simp at this
    subst this; cases hi
  · refine ⟨a,h5,?_⟩
    rw [Nat.mul_one]
    exact at_one i hat (by unfold natC intsC; rw [List.getElem?_map,List.getElem?_map,hi]; rfl)
theorem t115 {p : Prg} (h : VMX G H m pf po sl F ex st s) (iv : Inv p s) (rm : Room s) (ho : s.over = false) (i : Int) (hi : 0 ≤ i ∧ i < s.scopes.length) :
    Tr Tryz.prog 115 #[.pointer (some ⟨m,0,none⟩),.int .i64 i] H fun v H'=>v = .tuple #[] ∧ ∃ sl' F',Sub F F' ∧ VMX G H' m pf po sl' F' ex st (s.cancels i):=by
  have hl:=h.scpLen
  have hfl:=h.futLen
  have hmany:=iv.many
  have hc0:=iv.c0
  have hfu:=iv.fuel
  obtain ⟨c,hc⟩:=get_some (l:=s.scopes) (i:=i.toNat) (by omega)
  obtain ⟨a,ha,hat⟩:=h.scp hc
  have hdef:s.cancels i = if c.cancelled = true then s else undoAll s.hits (s.mark i):=by unfold VS.cancels; rw [hc]
  apply v115; unfold F115
  refine ⟨_,rfl,_,_,_,h.c25,a,⟨ha,hi.1,by omega⟩,c.cancelled,at_one 1 hat rfl,fun e=>⟨rfl,sl,F,Sub.refl _,by rw [hdef,if_pos e]; exact h⟩,fun e=>⟨_,rfl,_,_,_,h.c24,?_⟩⟩
  rw [if_neg (by rw [e]; simp)] at hdef
  rw [hdef]
  refine ⟨RHit G F m pf po sl ex st s,fun _ _ _ x _=>((s.futures.length:Int) - x).toNat,⟨0,G,F,rfl,Nat.zero_le _,h,Side.nil h.gf 1⟩,fun A2 n2 c2 x H1 r=>?_⟩
  obtain ⟨k,G1,F1,rfl,hk,h1,sd⟩:=r.out
  have hlen:=sd.sl.len
  have hle:(hitsTo s k).length ≤ k:=by
    unfold hitsTo; exact Nat.le_trans (List.length_filter_le _ _) (by rw [List.length_range]; exact Nat.le_refl _)
  simp only [natC,intsC,List.length_map,Nat.mul_one] at hlen
  refine ⟨fun hlt=>?_,fun hge=>?_⟩
  · have hlt:(k:Int) < (sl 1).n:=of_decide_eq_true hlt
    obtain ⟨f,hf⟩:=get_some (l:=s.futures) (i:=k) (by omega)
    obtain ⟨a3,ha3,hat3⟩:=h1.fut hf
    have hw:IntKind.i64.wrap ((k:Int) + 1) = ((k + 1:Nat):Int):=by rw [wrapi (by omega) (by omega)]; rfl
    have hsc:=iv.futs f (List.mem_of_getElem? hf)
    rw [hw]
    have hh:s.hitAt k = (!f.done && !s.cancelled f.scope):=by unfold VS.hitAt; rw [hf]
    have dec:((s.futures.length:Int) - ((k + 1:Nat):Int)).toNat < ((s.futures.length:Int) - (k:Int)).toNat:=by omega
    refine ⟨a3,⟨ha3,by omega,hlt⟩,_,_,_,_,_,_,hat3,s.cancelled f.scope,fun _=>t140 h1 iv.scp _ hsc.2.2,fun e2=>?_,fun e2=>⟨⟨k + 1,G1,F1,rfl,by omega,h1,?_⟩,dec⟩⟩
    · refine h1.side sd (new:=[.int .i64 (k:Int)]) (k:=1) rfl rfl (by show (n2 + 1) * 8 ≤ _; omega) (by show n2 + 1 ≤ _; omega) fun A' c' G' F' H' h2 sd2=>⟨⟨k + 1,G',F',rfl,by omega,h2,?_⟩,dec⟩
      have:natC (hitsTo s (k + 1)) = natC (hitsTo s k) ++ [.int .i64 (k:Int)]:=by
        rw [hitsTo_succ,if_pos (by rw [hh]; exact e2)]; unfold natC intsC; simp
      rw [this]; exact sd2
    · have:hitsTo s (k + 1) = hitsTo s k:=by rw [hitsTo_succ,if_neg (by rw [hh,e2]; simp),List.append_nil]
      rw [this]; exact sd
  · have hge:¬ (k:Int) < (sl 1).n:=of_decide_eq_false hge
    have hkl:k = s.futures.length:=by omega
    subst hkl
    have hhits:hitsTo s s.futures.length = s.hits:=rfl
    rw [hhits] at hlen sd hle
    obtain ⟨a5,ha5,hat5⟩:=h1.scp hc
    have hmk:s.mark i = { s with scopes:=s.scopes.set i.toNat { c with cancelled:=true } }:=by unfold VS.mark; rw [hc]
    refine ⟨_,rfl,_,_,_,h1.c25,a5,⟨ha5,hi.1,by omega⟩,?_⟩
    refine h1.wrScp (g:={ c with cancelled:=true }) hc ha5 (j:=1) (by decide) rfl fun H2 h2=>?_
    rw [← hmk] at h2
    have im:=(FStep.mark (p:=p) (b:=false) s i).inv iv rm
    have hol:=mark_over s i
    have hml:(s.mark i).futures.length = s.futures.length:=by rw [mark_futs]
    refine ⟨RUndo p G1 F1 m pf po ex st s.hits (s.mark i),fun x _=>((s.hits.length:Int) - x).toNat,⟨0,sl,s.mark i,rfl,Nat.zero_le _,h2,im.1,im.2,by rw [hol]; exact ho,rfl,rfl⟩,fun x H3 r3=>?_⟩
    obtain ⟨k,sl3,s3,rfl,hk3,h3,iv3,rm3,ho3,hl3,hu⟩:=r3.out
    have hn2:(n2:Int) = s.hits.length:=by omega
    refine ⟨fun hlt=>?_,fun hge=>?_⟩
    · have hlt:(k:Int) < (n2:Int):=of_decide_eq_true hlt
      obtain ⟨j,hj⟩:=get_some (l:=s.hits) (i:=k) (by omega)
      have hjlt:j < s.futures.length:=by
        have:=List.mem_of_getElem? hj
        unfold VS.hits at this
        rw [List.mem_filter,List.mem_range] at this
        exact this.1
      obtain ⟨a6,ha6,hat6⟩:=natC_at (sd.sl.sub (h3.gf.trans h3.fh)) hj
      obtain ⟨f,hf⟩:=get_some (l:=s3.futures) (i:=j) (by omega)
      obtain ⟨a8,ha8,hat8⟩:=h3.fut (i:=j) hf
      have hsc:=iv3.futs f (List.mem_of_getElem? hf)
      have hw:IntKind.i64.wrap ((k:Int) + 1) = ((k + 1:Nat):Int):=by rw [wrapi (by omega) (by omega)]; rfl
      have dec:((s.hits.length:Int) - ((k + 1:Nat):Int)).toNat < ((s.hits.length:Int) - (k:Int)).toNat:=by omega
      have hdrop:s.hits.drop k = j :: s.hits.drop (k + 1):=(List.drop_eq_getElem_cons (get_lt hj)).trans (by rw [List.getElem?_eq_getElem (get_lt hj)] at hj; injection hj with hj; rw [hj])
      have hcons:=undoAll_cons (l:=s.hits.drop (k + 1)) hf
      rw [← hdrop,hu] at hcons
      have hf3:=h3.futLen
      rw [hw]
      refine ⟨a6,⟨ha6,by omega,hlt⟩,(j:Int),hat6,_,rfl,_,_,_,h3.c24,a8,⟨ha8,by omega,by omega⟩,_,_,_,_,_,_,hat8,s3.cancelled f.scope,t140 h3 iv3.scp _ hsc.2.2,fun e2=>⟨⟨k + 1,sl3,s3,rfl,by omega,h3,iv3,rm3,ho3,hl3,?_⟩,dec⟩,fun e2 b5 hb5 H11 e11=>?_⟩
      · rw [hcons,if_pos e2]
      · rw [if_neg (by rw [e2]; simp)] at hcons
        refine sm_undo hb5 e11 f.kind fun H6 sub6=>⟨_,rfl,fun e3=>⟨⟨k + 1,sl3,s3,rfl,by omega,h3.grow sub6,iv3,rm3,ho3,hl3,?_⟩,dec⟩,fun e3=>?_⟩
        · rw [hcons,if_pos (by simpa using e3)]
        · have hk0:undoK f.kind ≠ 0:=by simpa using e3
          rw [if_neg hk0] at hcons
          have hm3:=iv3.made
          have hc3:=iv3.c0
          refine (t141 (h3.grow sub6) (evM (undoK f.kind) f.event 0 0) hc3.1 (by omega) (by omega)).mono fun v H7 ⟨hv,sl7,h7⟩=>⟨_,_,hv,fun e4=>⟨rfl,sl7,F1,sd.f,?_⟩,fun e4=>?_⟩
          · rw [hcons,if_pos e4]
            exact h7.unside sd
          · rw [if_neg (by rw [e4]; simp)] at hcons
            have hok:(s3.emit (evM (undoK f.kind) f.event 0 0)).1.2 = true:=by simpa using e4
            have iv4:=(undoS_steps (p:=p) (b:=false) j ho3 hk0).inv iv3 rm3
            have ho4:=undoS_over (i:=j) ho3 hk0 hok
            have hl4:=undoS_len s3 j f
            refine ⟨fun e5=>?_,fun e5=>⟨⟨k + 1,sl7,undoS s3 j f,rfl,by omega,?_,iv4.1,iv4.2,ho4,by omega,hcons.symm⟩,dec⟩⟩
            · refine (t110 h7 (j:Int) 0 3 (by rw [(keepE s3 _).futures]; omega)).mono fun v H8 ⟨hv8,h8⟩=>⟨hv8,⟨k + 1,sl7,undoS s3 j f,rfl,by omega,?_,iv4.1,iv4.2,ho4,by omega,hcons.symm⟩,dec⟩
              unfold undoS; rw [if_pos e5]; exact h8
            · unfold undoS; rw [if_neg (by rw [e5]; simp)]; exact h7
    · have hge:¬ (k:Int) < (n2:Int):=of_decide_eq_false hge
      have:s.hits.drop k = []:=List.drop_eq_nil_of_le (by omega)
      rw [this] at hu
      exact ⟨rfl,sl3,F1,sd.f,by rw [← hu]; exact h3.unside sd⟩
end
end Go.Proofs.YtkofafcgcnciaaaGreatDoor
set_option maxRecDepth 100000
namespace Go.Proofs.YtkofafcgcnciaaaGreatDoor
open Go.Ax
structure RnOk (p:Prg) (r:Rn):Prop where
  inv:Inv p r.s
  room:Room r.s
  ho:r.s.over = false
  thr:ThrOk p r.s r.t
theorem take_t (r:Rn):r.take.2.t = { r.t with stack:=r.t.stack.dropLast }:=by
  unfold Rn.take
  cases h:r.t.stack.getLast? with
  | none =>
    have:r.t.stack = []:=List.getLast?_eq_none_iff.1 h
    show r.t = _
    rw [this]
    show r.t = { r.t with stack:=[] }
    rw [← this]
  | some v=>rfl
theorem ThrOk.stk {p:Prg} {s:VS} {t:Thr} (h:ThrOk p s t) {l:List Int} (hl:l.length ≤ 32):ThrOk p s { t with stack:=l } :=
  ⟨h.fn,h.f0,h.pc0,hl,h.scope,h.future,h.update,h.waits,h.signal⟩
theorem RnOk.take {p:Prg} {r:Rn} (h:RnOk p r):RnOk p r.take.2:=by
  have hs:=take_s r
  refine ⟨by rw [hs]; exact h.inv,by rw [hs]; exact h.room,by rw [hs]; exact h.ho,?_⟩
  rw [hs,take_t]
  exact h.thr.stk (by rw [List.length_dropLast]; have:=h.thr.stack; omega)
theorem RnOk.cmd {p:Prg} {r:Rn} (h:RnOk p r):CmdOk r:=by
  have h1:=h.inv.c0
  have h2:=h.inv.made
  have h3:=h.inv.many
  have h4:=h.inv.fuel
  exact ⟨by have:=h.thr.stack; omega,h.inv.scp,h.thr.scope.2,h1.1,by omega,by omega,by omega⟩
section
variable {p:Prg} {G0 H0 G H:Heap} {m rb tb:Nat} {q:SlH} {pf po:SlH} {sl:Nat → SlH} {F:Heap} {ex:Value} {st:List SlH} {r:Rn}
theorem RX.setVsF (h:RX p G0 H0 G H m rb tb q pf po sl F ex st r) {H' F':Heap} {sl':Nat → SlH} {st':List SlH} {s':VS} (v:VMX G H' m pf po sl' F' ex st' s') (k:Sub F F'):RX p G0 G0 G H' m rb tb q pf po sl' F' ex st' (r.vs s') :=
  ⟨v,h.pr.sub (dif_more k),h.base,h.base.trans (v.gf.trans v.fh),Sub.refl _,h.gr,h.gt,none_below h.g0h h.r0,none_below h.g0h h.t0,h.ne,h.sq,fun b hb=>⟨none_below h.g0h (h.oq b hb).1,(h.oq b hb).2⟩⟩
theorem RX.four (h : RX p G0 H0 G H m rb tb q pf po sl F ex st r) {L : Option Addr → Nat → Nat → Prop} {App : Int → Option Addr → Nat → Nat → Prop} (k : ∃ A n c, L A n c ∧ App r.t.scope A n c) :
    ∃ a9:Addr,some (⟨rb,0,none⟩:Addr) = some a9 ∧ (∃ (A:Option Addr) (n c:Nat),L A n c ∧ ∃ v:Option Addr,At H (a9.add 1) [.pointer v] ∧ ∃ a10:Addr,v = some a10 ∧ ∃ x:Int,At H (a10.add 2) [.int .i64 x] ∧ App x A n c) ∧
      ∃ v6:Option Addr,At H (a9.add 1) [.pointer v6] ∧ ∃ a12:Addr,v6 = some a12 ∧ (∃ (A:Option Addr) (n c:Nat),L A n c ∧ ∃ x:Int,At H (a12.add 2) [.int .i64 x] ∧ App x A n c) ∧
        ∃ x4:Int,At H (a12.add 2) [.int .i64 x4] ∧ (∃ (A:Option Addr) (n c:Nat),L A n c ∧ App x4 A n c) ∧ ∃ (A:Option Addr) (n c:Nat),L A n c ∧ App x4 A n c:=by
  obtain ⟨A,n,c,k1,k2⟩:=k
  exact ⟨_,rfl,⟨A,n,c,k1,_,h.r1,_,rfl,_,h.t2,k2⟩,_,h.r1,_,rfl,⟨A,n,c,k1,_,h.t2,k2⟩,_,h.t2,⟨A,n,c,k1,k2⟩,A,n,c,k1,k2⟩
theorem t189 (h : RX p G0 H0 G H m rb tb q pf po sl F ex st r) (ok : RnOk p r) (op a : Int) :
    Tr Tryz.prog 189 #[.pointer (some ⟨rb,0,none⟩),.agg #[.int .i64 op,.int .i64 a]] H fun v H'=>v = .tuple #[] ∧ RZ p G0 m rb tb pf po ex (r.threads op a) H':=by
  have nf:∀ {k:Int},(op == k) = false → ¬ op = k:=fun e e2=>by subst e2; simp at e
  have yf:∀ {k:Int},(op == k) = true → op = k:=fun e=>by simpa using e
  have cm:=ok.cmd
  have hst:=ok.thr.stack
  have hs:=take_s r
  have hb2:=take_len r
  have ht16:=ok.inv.t16
  have hsc32:=ok.inv.sc32
  have hfu:=cm.futs
  have hstack:=cm.stack
  apply v189; unfold F189
  refine ⟨_,rfl,_,h.r0_,fun e27=>?_,fun e27=>⟨fun e29=>?_,fun e29=>⟨fun e30=>?_,fun e30=>⟨fun e31=>?_,fun e31=>?_⟩⟩⟩⟩
  · have hdef : r.threads op a = (if r.take.2.fault = true then r.take.2 else
       if decide ((r.s.threads.length:Int) ≥ 16) = true then r.take.2.vs (r.s.fails (-3)) else
       (r.take.2.leave [(r.s.futures.length:Int)]).vs ((r.s.fut ⟨0,0,r.t.scope,false,0,0⟩).thread (Thr.new a r.t.scope r.take.1 (r.s.futures.length:Int) 0))):=by
      unfold Rn.threads; rw [if_pos (yf e27)]
    refine h.takes (by omega) fun G1 F1 q1 H1 h1=>⟨_,rfl,_,rfl,_,h1.r2,fun e1=>⟨rfl,?_⟩,fun e1=>⟨_,rfl,_,_,_,h1.vm.c23,fun e2=>?_,fun e2=>⟨_,rfl,_,_,_,h1.vm.c24,_,rfl,?_⟩⟩⟩
    · rw [hdef,if_pos e1]; exact h1.z
    · rw [h1.vm.thrLen,hs] at e2
      refine (t142 h1.vm (-3) (by rw [hs]; exact cm.c0) (by rw [hs]; exact cm.c1) (by rw [hs]; exact cm.made)).mono fun v H2 ⟨hv,sl2,v2⟩=>⟨hv,rfl,?_⟩
      rw [hdef,if_neg (by rw [e1]; simp),if_pos e2]
      rw [hs] at v2
      exact (h1.setVs v2).z
    · rw [h1.vm.thrLen,hs] at e2
      rw [h1.vm.futLen,hs]
      rw [if_neg (by rw [e1]; simp),if_neg (by rw [e2]; simp)] at hdef
      refine h1.four ?_
      refine h1.vm.addFut ⟨0,0,r.take.2.t.scope,false,0,0⟩ (by rw [hs]; exact hfu) fun H2 sl2 v2=>?_
      rw [hs] at v2
      have h2:=h1.setVs v2
      refine ⟨_,rfl,h2.four ?_⟩
      have hsc:=take_scope r
      refine h2.vm.addThr (Thr.new a r.take.2.t.scope r.take.1 (r.s.futures.length:Int) 0) rfl (by decide) (by show r.s.threads.length ≤ 1000; omega) fun H3 sl3 v3=>?_
      intro b hb H4 e4
      have h3:=h2.setVs v3
      refine h3.leaves [(r.s.futures.length:Int)] (by show r.take.2.t.stack.length + 1 ≤ _; omega) hb e4 fun G' F' q' H' h'=>⟨rfl,?_⟩
      rw [hdef]
      have:=h'.z
      rw [hsc] at this
      exact this
  · have hdef : r.threads op a = (if ((r.t.stack.length : Int) == 32) = true then r.fail else
       if decide ((r.s.scopes.length:Int) ≥ 32) = true then r.vs (r.s.fails (-3)) else
       (r.leave [(r.s.scopes.length:Int)]).vs { r.s with scopes:=r.s.scopes ++ [⟨r.t.scope,false⟩] }):=by
      unfold Rn.threads; rw [if_neg (nf e27),if_pos (yf e29)]
    refine ⟨_,rfl,_,h.r1,_,rfl,_,_,_,h.t3,fun e1=>⟨_,rfl,?_⟩,fun e1=>⟨_,rfl,_,_,_,h.vm.c25,fun e2=>?_,fun e2=>⟨_,rfl,_,_,_,h.vm.c25,fun b hb H1 eh=>?_⟩⟩⟩
    · rw [h.len] at e1
      refine h.setF (b:=true) fun G' F' H' h'=>⟨rfl,?_⟩
      rw [hdef,if_pos e1]; exact h'.z
    · rw [h.len] at e1
      rw [h.vm.scpLen] at e2
      refine (t142 h.vm (-3) cm.c0 cm.c1 cm.made).mono fun v H2 ⟨hv,sl2,v2⟩=>⟨hv,rfl,?_⟩
      rw [hdef,if_neg (by rw [e1]; simp),if_pos e2]
      exact (h.setVs v2).z
    · rw [h.len] at e1
      rw [h.vm.scpLen] at e2 eh
      rw [if_neg (by rw [e1]; simp),if_neg (by rw [e2]; simp)] at hdef
      refine h.leaves [(r.s.scopes.length:Int)] (by simp; omega) hb eh fun G1 F1 q1 H2 h1=>⟨_,rfl,h1.four ?_⟩
      refine h1.vm.addScp ⟨r.t.scope,false⟩ (by decide) (by show r.s.scopes.length ≤ 1000; omega) fun H3 sl3 v3=>⟨rfl,?_⟩
      rw [hdef]; exact (h1.setVs v3).z
  · have hdef : r.threads op a = (if r.scope.2.fault = true then r.scope.2 else { r.scope.2 with t := { r.scope.2.t with scope := r.scope.1 } }) := by
      unfold Rn.threads; rw [if_neg (nf e27),if_neg (nf e29),if_pos (yf e30)]
    rw [hdef]
    refine (t195 h (by omega)).mono fun v H1 ⟨hv,G1,F1,q1,h1⟩=>⟨_,hv,_,rfl,_,h1.r2,fun e1=>⟨_,rfl,_,h1.r1,_,rfl,?_⟩,fun e1=>⟨rfl,?_⟩⟩
    · have e1:r.scope.2.fault = false:=by simpa using e1
      rw [if_neg (by rw [e1]; simp)]
      exact h1.setT (i:=2) (by decide) { r.scope.2.t with scope:=r.scope.1 } q1 rfl h1.sq h1.oq fun G' F' H' h'=>⟨rfl,h'.z⟩
    · have e1:r.scope.2.fault = true:=by simpa using e1
      rw [if_pos e1]; exact h1.z
  · have hdef : r.threads op a = (if r.scope.2.fault = true then r.scope.2 else r.scope.2.vs (r.s.cancels r.scope.1)) := by
      unfold Rn.threads; rw [if_neg (nf e27),if_neg (nf e29),if_neg (nf e30),if_pos (yf e31)]
    rw [hdef]
    refine (t195 h (by omega)).mono fun v H1 ⟨hv,G1,F1,q1,h1⟩=>⟨_,hv,_,rfl,_,h1.r2,fun e1=>?_,fun e1=>⟨rfl,?_⟩⟩
    · have e1:r.scope.2.fault = false:=by simpa using e1
      rw [if_neg (by rw [e1]; simp)]
      have hss:r.scope.2.s = r.s:=by unfold Rn.scope; split <;> exact hs
      have hb:0 ≤ r.scope.1 ∧ r.scope.1 < r.s.scopes.length:=by
        unfold Rn.scope at e1 ⊢
        simp only at e1 ⊢
        split at e1
        · cases e1
        · rename_i hx
          simp at hx
          rw [hs] at hx
          omega
      have v1:=h1.vm
      rw [hss] at v1
      refine (t115 v1 ok.inv ok.room ok.ho r.scope.1 hb).mono fun v H2 ⟨hv2,sl2,F2,k2,v2⟩=>⟨hv2,rfl,(h1.setVsF v2 k2).z⟩
    · have e1:r.scope.2.fault = true:=by simpa using e1
      rw [if_pos e1]; exact h1.z
  · have hdef : r.threads op a = r.leave [truthM (r.s.cancelled r.t.scope)] := by
      unfold Rn.threads; rw [if_neg (nf e27),if_neg (nf e29),if_neg (nf e30),if_neg (nf e31)]
    rw [hdef]
    refine ⟨_,rfl,_,h.r1,_,rfl,_,h.t2,_,t140 h.vm ok.inv.scp _ ok.thr.scope.2,_,t175 _ _,fun b hb H1 eh=>?_⟩
    exact h.leaves [truthM (r.s.cancelled r.t.scope)] (by simp; omega) hb eh fun G' F' q' H' h'=>⟨rfl,h'.z⟩
end
end Go.Proofs.YtkofafcgcnciaaaGreatDoor
set_option maxRecDepth 100000
namespace Go.Proofs.YtkofafcgcnciaaaGreatDoor
open Go.Ax
structure OpOk (p:Prg) (op a:Int):Prop where
  o15:op = 15 → 0 ≤ a ∧ a < 16
  o16:op = 16 → 0 ≤ a ∧ a < 16
  o20:op = 20 → 0 ≤ a ∧ a < 8
  o22:op = 22 → 0 ≤ a ∧ a < 8
  o25:op = 25 → 0 ≤ a ∧ a < 8
  o26:op = 26 → 0 ≤ a ∧ a < 8
  o27:op = 27 → ∃ f,p.funcs[a.toNat]? = some f ∧ 0 ≤ a ∧ 0 < f.ops.length ∧ f.kind = 1
  o33:op = 33 → 0 ≤ a ∧ a < 4
  o34:op = 34 → 0 ≤ a ∧ a < 8
theorem scope_pc (r:Rn):r.scope.2.t.pc = r.t.pc:=by
  unfold Rn.scope; split <;> exact take_pc r
theorem threads_pc (r:Rn) (op a:Int):(r.threads op a).t.pc = r.t.pc:=by
  have c:∀ {P:Prop} [Decidable P] {x y:Rn},x.t.pc = r.t.pc → y.t.pc = r.t.pc → (if P then x else y).t.pc = r.t.pc:=fun h1 h2=>by split; exact h1; exact h2
  unfold Rn.threads
  exact c (c (take_pc r) (c (take_pc r) (take_pc r))) (c (c rfl (c rfl rfl)) (c (c (scope_pc r) (scope_pc r)) (c (c (scope_pc r) (scope_pc r)) rfl)))
theorem opens_pc (r:Rn) (e:Ev):(r.opens e).t.pc = r.t.pc:=by
  unfold Rn.opens; split
  · rfl
  · split <;> rfl
theorem asked_pc (r:Rn) (d:Nat):(r.asked d).2.t.pc = r.t.pc:=by
  rcases asked_cases r d with e | ⟨v,e,-⟩ <;> rw [e]
theorem told_pc (r:Rn) (op:Int):(r.told op).2.t.pc = r.t.pc:=by
  unfold Rn.told
  split
  · split
    · split
      · exact asked_pc r 1
      · rfl
    · exact asked_pc r 1
  · rfl
theorem command_pc (r:Rn) (op a ev v:Int):(r.command op a ev v).t.pc = r.t.pc:=by
  have c:∀ {P:Prop} [Decidable P] {x y:Rn},x.t.pc = r.t.pc → y.t.pc = r.t.pc → (if P then x else y).t.pc = r.t.pc:=fun h1 h2=>by split; exact h1; exact h2
  unfold Rn.command
  exact c rfl (c (opens_pc r _) (c (opens_pc r _) (c (opens_pc r _) (c (c rfl rfl) (c (take_pc r) rfl)))))
theorem commands_pc (r:Rn) (op a:Int):(r.commands op a).t.pc = r.t.pc:=by
  have c:∀ {P:Prop} [Decidable P] {x y:Rn},x.t.pc = r.t.pc → y.t.pc = r.t.pc → (if P then x else y).t.pc = r.t.pc:=fun h1 h2=>by split; exact h1; exact h2
  unfold Rn.commands
  exact c (c rfl (c rfl rfl)) (c (told_pc r op) (c (take_pc r) ((command_pc _ _ _ _ _).trans (take_pc r))))
section
variable {p:Prg} {G0 H0 G H:Heap} {m rb tb:Nat} {q:SlH} {pf po:SlH} {sl:Nat → SlH} {F:Heap} {ex:Value} {st:List SlH} {r:Rn}
def IncP (rb:Nat) (H:Heap) (Q:Heap → Prop):Prop :=
  ∃ a:Addr,some (⟨rb,0,none⟩:Addr) = some a ∧ ∃ v:Option Addr,At H (a.add 1) [.pointer v] ∧ ∃ b:Addr,v = some b ∧ ∃ x:Int,At H (b.add 1) [.int .i64 x] ∧ ∃ c:Addr,v = some c ∧ Wr H (c.add 1) (.int .i64 (IntKind.i64.wrap (x + 1))) Q
theorem RZ.inc (z:RZ p G0 m rb tb pf po ex r H) (hpc:0 ≤ r.t.pc ∧ r.t.pc ≤ 1000) {Q:Heap → Prop} (k:∀ H',RZ p G0 m rb tb pf po ex (r.pc (r.t.pc + 1)) H' → Q H'):IncP rb H Q:=by
  obtain ⟨G,F,q,sl,st,h⟩:=z.out
  have hw:IntKind.i64.wrap (r.t.pc + 1) = r.t.pc + 1:=wrapi (by omega) (by omega)
  refine ⟨_,rfl,_,h.r1,_,rfl,r.t.pc,h.t1,_,rfl,?_⟩
  rw [hw]
  exact h.setPc fun G' F' H' h'=>k H' h'.z
theorem t168 (h : RX p G0 H0 G H m rb tb q pf po sl F ex st r) (ok : RnOk p r) (hpc : r.t.pc ≤ 1000) (op a : Int) (oo : OpOk p op a) :
    Tr Tryz.prog 168 #[.pointer (some ⟨rb,0,none⟩),.agg #[.int .i64 op,.int .i64 a]] H fun v H'=>v = .int .i64 (r.does op a).1 ∧ RZ p G0 m rb tb pf po ex (r.does op a).2 H':=by
  have cm:=ok.cmd
  have hst:=ok.thr.stack
  have hpc0:=ok.thr.pc0
  have nf:∀ {k:Int},(op == k) = false → ¬ op = k:=fun e e2=>by subst e2; simp at e
  have yf:∀ {k:Int},(op == k) = true → op = k:=fun e=>by simpa using e
  have thr : (op == 27 || op == 29 || op == 30 || op == 31 || op == 32) = true → op ≠ 23 → op ≠ 24 → op ≠ 25 → op ≠ 36 → op ≠ 37 → op ≠ 35 → op ≠ 28 →
      Tr Tryz.prog 189 #[.pointer (some ⟨rb,0,none⟩),.agg #[.int .i64 op,.int .i64 a]] H fun v H'=>v = .tuple #[] ∧ IncP rb H' fun H''=>Value.int .i64 0 = .int .i64 (r.does op a).1 ∧ RZ p G0 m rb tb pf po ex (r.does op a).2 H'':=by
    intro e n23 n24 n25 n36 n37 n35 n28
    have hd:r.does op a = (0,(r.threads op a).pc ((r.threads op a).t.pc + 1)):=by
      unfold Rn.does
      rw [if_neg (by simp [n23,n24]),if_neg n25,if_neg (by simp [n36,n37,n35]),if_neg n28,if_pos e]
    rw [hd]
    have hpcT:=threads_pc r op a
    refine (t189 h ok op a).mono fun v H1 ⟨hv,z⟩=>⟨hv,z.inc (by rw [hpcT]; exact ⟨hpc0,hpc⟩) fun H' z'=>⟨rfl,z'⟩⟩
  apply v168; unfold F168
  refine ⟨_,rfl,_,h.r0_,fun e23=>?_,fun e23=>⟨fun e24=>?_,fun e24=>⟨fun e25=>?_,fun e25=>⟨fun e36=>?_,fun e36=>⟨fun e37=>?_,fun e37=>⟨fun e35=>?_,fun e35=>⟨fun e28=>?_,fun e28=>⟨fun e27=>?_,fun e27=>⟨fun e29=>?_,fun e29=>⟨fun e30=>?_,fun e30=>⟨fun e31=>?_,fun e31=>⟨fun e32=>?_,fun e32=>?_⟩⟩⟩⟩⟩⟩⟩⟩⟩⟩⟩⟩
  · have hd:r.does op a = r.awaits op:=by unfold Rn.does; rw [if_pos (by rw [e23]; rfl)]
    rw [hd]
    exact (t187 h (by omega) ⟨hpc0,hpc⟩ op a).mono fun v H1 ⟨hv,z⟩=>⟨_,hv,rfl,z⟩
  · have hd:r.does op a = r.awaits op:=by unfold Rn.does; rw [if_pos (by rw [e24]; simp)]
    rw [hd]
    exact (t187 h (by omega) ⟨hpc0,hpc⟩ op a).mono fun v H1 ⟨hv,z⟩=>⟨_,hv,rfl,z⟩
  · have hd:r.does op a = r.waitS a:=by unfold Rn.does; rw [if_neg (by rw [e23,e24]; simp),if_pos (yf e25)]
    rw [hd]
    exact ⟨_,rfl,h.waits (by omega) ⟨hpc0,hpc⟩ (oo.o25 (yf e25)) (K:=fun v H'=>v = .int .i64 (r.waitS a).1 ∧ RZ p G0 m rb tb pf po ex (r.waitS a).2 H') fun H' z=>⟨rfl,z⟩⟩
  · have hd:r.does op a = r.ends op:=by unfold Rn.does; rw [if_neg (by rw [e23,e24]; simp),if_neg (nf e25),if_pos (by rw [e36]; rfl)]
    rw [hd]
    exact (t188 h (by omega) ok.inv.scp ok.inv.scn ok.thr.future.2 cm.c0 cm.c1 cm.made op a).mono fun v H1 ⟨hv,z⟩=>⟨_,hv,rfl,z⟩
  · have hd:r.does op a = r.ends op:=by unfold Rn.does; rw [if_neg (by rw [e23,e24]; simp),if_neg (nf e25),if_pos (by rw [e37]; simp)]
    rw [hd]
    exact (t188 h (by omega) ok.inv.scp ok.inv.scn ok.thr.future.2 cm.c0 cm.c1 cm.made op a).mono fun v H1 ⟨hv,z⟩=>⟨_,hv,rfl,z⟩
  · have hd:r.does op a = r.ends op:=by unfold Rn.does; rw [if_neg (by rw [e23,e24]; simp),if_neg (nf e25),if_pos (by rw [e35]; simp)]
    rw [hd]
    exact (t188 h (by omega) ok.inv.scp ok.inv.scn ok.thr.future.2 cm.c0 cm.c1 cm.made op a).mono fun v H1 ⟨hv,z⟩=>⟨_,hv,rfl,z⟩
  · have hd:r.does op a = (1,r.pc (r.t.pc + 1)):=by unfold Rn.does; rw [if_neg (by rw [e23,e24]; simp),if_neg (nf e25),if_neg (by rw [e36,e37,e35]; simp),if_pos (yf e28)]
    rw [hd]
    exact h.z.inc ⟨hpc0,hpc⟩ (Q:=fun H'=>Value.int .i64 1 = .int .i64 1 ∧ RZ p G0 m rb tb pf po ex (r.pc (r.t.pc + 1)) H') fun H' z=>⟨rfl,z⟩
  · exact thr (by rw [e27]; rfl) (nf e23) (nf e24) (nf e25) (nf e36) (nf e37) (nf e35) (nf e28)
  · exact thr (by rw [e29]; simp) (nf e23) (nf e24) (nf e25) (nf e36) (nf e37) (nf e35) (nf e28)
  · exact thr (by rw [e30]; simp) (nf e23) (nf e24) (nf e25) (nf e36) (nf e37) (nf e35) (nf e28)
  · exact thr (by rw [e31]; simp) (nf e23) (nf e24) (nf e25) (nf e36) (nf e37) (nf e35) (nf e28)
  · exact thr (by rw [e32]; simp) (nf e23) (nf e24) (nf e25) (nf e36) (nf e37) (nf e35) (nf e28)
  · have hd : r.does op a = (0, (r.commands op a).pc ((r.commands op a).t.pc + 1)) := by
      unfold Rn.does
      rw [if_neg (by rw [e23,e24]; simp),if_neg (nf e25),if_neg (by rw [e36,e37,e35]; simp),if_neg (nf e28),if_neg (by rw [e27,e29,e30,e31,e32]; simp)]
    rw [hd]
    have hpcT:=commands_pc r op a
    exact (t190 h cm (fun i f hf=>(ok.inv.futs f (List.mem_of_getElem? hf)).1) op a oo.o16 oo.o33).mono fun v H1 ⟨hv,z⟩=>⟨hv,z.inc (by rw [hpcT]; exact ⟨hpc0,hpc⟩) (Q:=fun H'=>Value.int .i64 0 = .int .i64 0 ∧ RZ p G0 m rb tb pf po ex ((r.commands op a).pc ((r.commands op a).t.pc + 1)) H') fun H' z'=>⟨rfl,z'⟩⟩
end
end Go.Proofs.YtkofafcgcnciaaaGreatDoor
set_option maxRecDepth 100000
namespace Go.Proofs.YtkofafcgcnciaaaGreatDoor
open Go.Ax
theorem opOk {p:Prg} (ok:Okp p) {i k:Nat} {f:Fnc} {c a:Int} (hf:p.funcs[i]? = some f) (ho:f.ops[k]? = some (c,a)):OpOk p c a:=by
  have hr:=right_facts (ok.right i f k c a hf ho)
  have n3:=ok.n3
  refine ⟨fun e=>?_,fun e=>?_,fun e=>?_,fun e=>?_,fun e=>?_,fun e=>?_,fun e=>?_,fun e=>?_,fun e=>?_⟩
  · subst e; exact hr.most rfl 16 rfl
  · subst e; exact hr.most rfl 16 rfl
  · subst e; have:=hr.most rfl p.opts.length rfl; omega
  · subst e; exact hr.most rfl 8 rfl
  · subst e; exact hr.most rfl 8 rfl
  · subst e; exact hr.most rfl 8 rfl
  · subst e
    have h1:=hr.most rfl p.funcs.length rfl
    have h2:=hr.go rfl
    obtain ⟨g,hg⟩:=get_some (l:=p.funcs) (i:=a.toNat) (by omega)
    refine ⟨g,hg,h1.1,by have:=(ok.len hg).1; omega,?_⟩
    unfold Prg.kindAt at h2; rw [hg] at h2; exact h2
  · subst e; exact hr.most rfl 4 rfl
  · subst e; exact hr.most rfl 8 rfl
theorem next_of {p:Prg} {i k:Nat} {f:Fnc} {c a:Int} (hr:Right p i f k c a) (h13:c ≠ 13) (h35:c ≠ 35) (h36:c ≠ 36) (h37:c ≠ 37):(k:Int) + 1 < f.ops.length:=by
  rcases hr.last with h | h | h | h | h
  · omega
  · exact absurd h h13
  · exact absurd h h35
  · exact absurd h h36
  · exact absurd h h37
theorem ThrOk.at_ {p:Prg} {s:VS} {t:Thr} (h:ThrOk p s t) {n:Int} (h0:0 ≤ n) (h1:∃ f,p.funcs[t.func.toNat]? = some f ∧ n < f.ops.length):ThrOk p s { t with pc:=n } :=
  ⟨h1,h.f0,h0,h.stack,h.scope,h.future,h.update,h.waits,h.signal⟩
structure RnIn (p:Prg) (r:Rn):Prop extends RnOk p r where
  slack:(r.s.futures.length:Int) + r.s.fuel + 1 ≤ 1000 * r.s.count
structure After (p:Prg) (r r':Rn):Prop where
  steps:FSteps p false r.s r'.s
  fault:r'.fault = true → r'.s.over = false
  thr:r'.fault = false → ThrOk p r'.s r'.t
theorem RnIn.take {p:Prg} {r:Rn} (h:RnIn p r):RnIn p r.take.2:=⟨h.toRnOk.take,by rw [take_s]; exact h.slack⟩
theorem RnIn.self {p:Prg} {r r':Rn} (h:RnIn p r) (e:r'.s = r.s) (ht:r'.fault = false → ThrOk p r.s r'.t):After p r r' :=
  ⟨by rw [e]; exact .refl _,fun _=>by rw [e]; exact h.ho,fun f=>by rw [e]; exact ht f⟩
theorem After.from {p:Prg} {r r1 r':Rn} (h:After p r1 r') (e:r1.s = r.s):After p r r':=⟨by rw [← e]; exact h.steps,h.fault,h.thr⟩
theorem FSteps.len {p:Prg} {b:Bool} {s s':VS} (q:FSteps p b s s'):s.scopes.length ≤ s'.scopes.length ∧ s.futures.length ≤ s'.futures.length:=by
  have e:=q.ext
  refine ⟨?_,?_⟩
  · rcases Nat.eq_zero_or_pos s.scopes.length with h | h
    · omega
    · obtain ⟨c,hc⟩:=get_some (l:=s.scopes) (i:=s.scopes.length - 1) (by omega)
      obtain ⟨c',hc',-⟩:=e.scps _ _ hc
      have:=get_lt hc'; omega
  · rcases Nat.eq_zero_or_pos s.futures.length with h | h
    · omega
    · obtain ⟨c,hc⟩:=get_some (l:=s.futures) (i:=s.futures.length - 1) (by omega)
      obtain ⟨c',hc',-⟩:=e.futs _ _ hc
      have:=get_lt hc'; omega
theorem After.vs {p:Prg} {r r':Rn} {s':VS} (st:FSteps p false r.s s') (hf:r'.fault = true → s'.over = false) (ht:r'.fault = false → ThrOk p r.s r'.t) (e:r'.s = s'):After p r r' :=
  ⟨by rw [e]; exact st,fun f=>by rw [e]; exact hf f,fun f=>by rw [e]; exact (ht f).mono st.len.1 st.len.2⟩
theorem leave_thr {p:Prg} {r:Rn} (h:ThrOk p r.s r.t) (l:List Int) (hf:(r.leave l).fault = false):ThrOk p r.s (r.leave l).t:=h.stk (leave_ok r l hf)
theorem take_nofault {r:Rn} (h:r.fault = false):r.take.2.fault = r.t.stack.isEmpty:=by
  unfold Rn.take
  cases hs:r.t.stack.getLast? with
  | none=>rw [List.getLast?_eq_none_iff.1 hs]; rfl
  | some v =>
    cases hl:r.t.stack with
    | nil=>rw [hl] at hs; cases hs
    | cons x l=>exact h
theorem keepE_canc {s s':VS} (h:s'.scopes = s.scopes) (i:Int):s'.cancelled i = s.cancelled i:=by
  have:∀ (n:Nat) (i:Int),s'.cancG n i = s.cancG n i:=by
    intro n
    induction n with
    | zero=>intro i; rfl
    | succ n ih=>intro i; unfold VS.cancG; rw [h]; simp only [ih]
  unfold VS.cancelled; rw [h]; exact this _ _
theorem opens_after {p:Prg} {r:Rn} (h:RnIn p r) (hn:r.fault = false) (e:Ev) (hk:cmdM e.kind = true) (hc:closeM e.kind = false):After p r (r.opens e):=by
  unfold Rn.opens
  split
  · rename_i hcan
    exact .vs (FStep.fut (p:=p) (b:=false) r.s _ (Int.le_refl _) h.thr.scope h.slack (.inl rfl)).one (fun _=>h.ho) (leave_thr h.thr _) rfl
  · rename_i hcan
    split
    · refine .vs (FStep.emit (p:=p) (b:=false) r.s e h.ho hk).one (fun f=>?_) (fun _=>h.thr) rfl
      have:r.fault = true:=f
      rw [hn] at this; cases this
    · rename_i hok
      have hok:(r.s.emit e).1.2 = true:=by simpa using hok
      have hov:(r.s.emit e).2.over = false:=by rw [goesE _ _ hok,hc,if_neg (by simp)]; exact h.ho
      have kp:=keepE r.s e
      have hid:=idE r.s e hok
      have hc0:=h.inv.c0.1
      have cn:=cntE e h.ho h.inv.c0.2 h.inv.c3 h.room
      refine .vs (((FStep.emit (p:=p) (b:=false) r.s e h.ho hk).one).tail (.fut _ ⟨e.kind,(r.s.emit e).1.1,r.t.scope,false,0,0⟩ (by show 0 ≤ (r.s.emit e).1.1; rw [hid]; omega) (by rw [kp.scopes]; exact h.thr.scope) (by rw [kp.futures,kp.fuel]; have:=h.slack; have:=cn.c0.1; omega) (.inr (.inr (by rw [keepE_canc kp.scopes]; simpa using hcan))))) (fun _=>hov) (leave_thr h.thr _) rfl
theorem waits_thr {p:Prg} {s:VS} {t:Thr} (h:ThrOk p s t) {k:Int} (hk:k < s.futures.length):ThrOk p s { t with waits:=k }:=⟨h.fn,h.f0,h.pc0,h.stack,h.scope,h.future,h.update,hk,h.signal⟩
theorem signal_thr {p:Prg} {s:VS} {t:Thr} (h:ThrOk p s t) {k:Int} (hk:k < 8):ThrOk p s { t with signal:=k }:=⟨h.fn,h.f0,h.pc0,h.stack,h.scope,h.future,h.update,h.waits,hk⟩
theorem scope_thr {p:Prg} {s:VS} {t:Thr} (h:ThrOk p s t) {k:Int} (hk:0 ≤ k ∧ k < s.scopes.length):ThrOk p s { t with scope:=k }:=⟨h.fn,h.f0,h.pc0,h.stack,hk,h.future,h.update,h.waits,h.signal⟩
theorem scope_s (r:Rn):r.scope.2.s = r.s:=by unfold Rn.scope; split <;> exact take_s r
theorem scope_t (r:Rn):r.scope.2.t = r.take.2.t:=by unfold Rn.scope; split <;> rfl
theorem scope_ok {r:Rn} (h:r.scope.2.fault = false):0 ≤ r.scope.1 ∧ r.scope.1 < r.s.scopes.length:=by
  unfold Rn.scope at h ⊢
  simp only at h ⊢
  split at h
  · cases h
  · rename_i hx
    simp at hx
    rw [take_s] at hx
    omega
theorem threads_after {p:Prg} {r:Rn} (h:RnIn p r) (hn:r.fault = false) (op a:Int) (oo:OpOk p op a):After p r (r.threads op a):=by
  have ht:=h.take
  have hs:=take_s r
  unfold Rn.threads
  split
  · rename_i e27
    obtain ⟨g,hg,ha0,hgl,-⟩:=oo.o27 e27
    split
    · exact h.self hs (fun _=>by rw [← hs]; exact ht.thr)
    · rename_i hf
      split
      · exact .vs (FStep.fails (p:=p) (b:=false) r.s (-3) h.ho).one (fun f=>absurd f hf) (fun _=>by rw [← hs]; exact ht.thr) rfl
      · rename_i h16
        simp at h16
        have st1:=(FStep.fut (p:=p) (b:=false) r.s ⟨0,0,r.t.scope,false,0,0⟩ (Int.le_refl _) h.thr.scope h.slack (.inr (.inl rfl))).one
        refine .vs (st1.tail (.thr _ (Thr.new a r.t.scope r.take.1 (r.s.futures.length:Int) 0) ?_ (by show r.s.threads.length < 16; omega))) (fun _=>h.ho) (fun f=>?_) rfl
        · refine ⟨⟨g,hg,by show (0:Int) < g.ops.length; omega⟩,ha0,Int.le_refl _,Nat.zero_le _,h.thr.scope,⟨by show -1 ≤ (r.s.futures.length:Int); omega,?_⟩,Int.le_refl _,by show (-1:Int) < _; omega,by show (-1:Int) < 8; decide⟩
          show (r.s.futures.length:Int) < ((r.s.futures ++ [_]).length:Nat)
          rw [List.length_append,List.length_singleton]; omega
        · have:=leave_thr (r:=r.take.2) ht.thr _ f
          rw [hs] at this; exact this
  · split
    · split
      · exact h.self rfl (fun f=>by cases f)
      · rename_i h32
        split
        · exact .vs (FStep.fails (p:=p) (b:=false) r.s (-3) h.ho).one (fun f=>absurd (show r.fault = true from f) (by rw [hn]; simp)) (fun _=>h.thr) rfl
        · rename_i hs32
          simp at hs32
          exact .vs (FStep.scp (p:=p) (b:=false) r.s r.t.scope h.thr.scope (by omega)).one (fun _=>h.ho) (leave_thr h.thr _) rfl
    · split
      · split
        · rename_i hf
          exact h.self (scope_s r) (fun f=>absurd hf (by rw [f]; simp))
        · rename_i hf
          have hf:r.scope.2.fault = false:=by simpa using hf
          refine h.self (scope_s r) (fun _=>scope_thr ?_ (scope_ok hf))
          rw [scope_t,← hs]; exact ht.thr
      · split
        · split
          · rename_i hf
            exact h.self (scope_s r) (fun f=>absurd hf (by rw [f]; simp))
          · rename_i hf
            refine .vs (cancels_steps r.scope.1 h.ho) (fun f=>absurd f hf) (fun _=>?_) rfl
            show ThrOk p r.s r.scope.2.t
            rw [scope_t,← hs]; exact ht.thr
        · exact h.self rfl (leave_thr h.thr _)
theorem fault_take {r:Rn} (hf:¬ r.take.2.fault = true):r.take.2.fault = false:=by simpa using hf
theorem command_after {p:Prg} {r:Rn} (h:RnIn p r) (hn:r.fault = false) (op a ev v:Int) (h2:op = 34 → r.t.stack ≠ []):After p r (r.command op a ev v):=by
  unfold Rn.command
  split
  · exact .vs (FStep.vars (p:=p) (b:=false) r.s _ _).one (fun _=>h.ho) (fun _=>h.thr) rfl
  · split
    · exact opens_after h hn _ rfl rfl
    · split
      · exact opens_after h hn _ rfl rfl
      · split
        · exact opens_after h hn _ rfl rfl
        · split
          · have st:=(FStep.emit (p:=p) (b:=false) r.s (evM 10 a v 0) h.ho rfl).one
            split
            · exact .vs (st.tail (.attrs _ _ _)) (fun f=>absurd (show r.fault = true from f) (by rw [hn]; simp)) (fun _=>h.thr) rfl
            · exact .vs st (fun f=>absurd (show r.fault = true from f) (by rw [hn]; simp)) (fun _=>h.thr) rfl
          · split
            · rename_i e34
              have hs:=take_s r
              refine .vs (FStep.emit (p:=p) (b:=false) r.s (evM 9 ev a v) h.ho rfl).one (fun f=>?_) (fun _=>by rw [← hs]; exact h.take.thr) rfl
              have f:r.take.2.fault = true:=f
              rw [take_nofault hn] at f
              exact absurd (List.isEmpty_iff.1 f) (h2 e34)
            · exact h.self rfl (fun _=>h.thr)
theorem told_cases (r:Rn) (op:Int):((r.told op).1 < 0 ∧ (r.told op).2.fault = true ∧ (r.told op).2.s = r.s) ∨ (op ≠ 34 ∧ r.told op = (0,r)) ∨ (op = 34 ∧ (∃ f ∈ r.s.futures,f.kind = 5 ∧ f.event ≠ 0 ∧ r.told op = (f.event,r)) ∧ 2 ≤ r.t.stack.length):=by
  unfold Rn.told
  by_cases h:op = 34
  · rw [if_pos h]
    rcases asked_cases r 1 with e | ⟨v,e,h0,h1⟩
    · rw [e]; exact .inl ⟨by show (-1:Int) < 0; decide,rfl,rfl⟩
    · rw [e]
      simp only
      rw [if_neg (by rw [decide_eq_true_iff]; omega)]
      obtain ⟨f,hf⟩:=get_some (l:=r.s.futures) (i:=v.toNat) (by omega)
      rw [hf]
      simp only
      split
      · exact .inl ⟨by show (-1:Int) < 0; decide,rfl,rfl⟩
      · rename_i hx
        simp at hx
        refine .inr (.inr ⟨h,⟨f,List.mem_of_getElem? hf,hx.1,hx.2,rfl⟩,?_⟩)
        unfold Rn.asked at e
        split at e
        · rename_i w hw
          have:=get_lt hw
          rw [List.length_reverse] at this
          omega
        · have:=congrArg Prod.fst e
          simp only at this
          omega
  · rw [if_neg h]; exact .inr (.inl ⟨h,rfl⟩)
theorem commands_after {p:Prg} {r:Rn} (h:RnIn p r) (hn:r.fault = false) (op a:Int):After p r (r.commands op a):=by
  have hs:=take_s r
  have nof:¬ r.fault = true:=by rw [hn]; simp
  unfold Rn.commands
  split
  · split
    · exact h.self rfl (fun f=>by cases f)
    · rename_i h32
      have st1:=(FStep.draws (p:=p) (b:=false) r.s (IntKind.u64.wrap (r.s.draws + 1))).one
      have st2:=st1.tail (.emit _ (evM 11 (IntKind.i64.wrap (mix64 r.s.draws)) 0 0) h.ho rfl)
      simp only
      split
      · rename_i hok
        refine .vs st2 (fun _=>?_) (leave_thr h.thr _) rfl
        have:=goesE _ _ hok
        rw [show closeM (evM 11 (IntKind.i64.wrap (mix64 r.s.draws)) 0 0).kind = false from rfl,if_neg (by simp)] at this
        rw [this]; exact h.ho
      · exact .vs st2 (fun f=>absurd f nof) (fun _=>h.thr) rfl
  · rcases told_cases r op with ⟨h1,h2,h3⟩ | ⟨h1,h2⟩ | ⟨h1,⟨f,hf,hk,he,h2⟩,h3⟩
    · rw [if_pos (by rw [decide_eq_true_iff]; exact h1)]
      exact h.self h3 (fun f=>absurd h2 (by rw [f]; simp))
    · rw [h2]
      rw [if_neg (by show ¬ decide ((0:Int) < 0) = true; decide)]
      split
      · rename_i hf
        exact h.self hs (fun f=>absurd hf (by rw [f]; simp))
      · rename_i hf
        exact (command_after h.take (fault_take hf) op a _ _ (fun e=>absurd e h1)).from hs
    · rw [h2]
      have hev:=(h.inv.futs f hf).1
      rw [if_neg (by rw [decide_eq_true_iff]; show ¬ f.event < 0; omega)]
      split
      · rename_i hf
        exact h.self hs (fun f=>absurd hf (by rw [f]; simp))
      · rename_i hf
        refine (command_after h.take (fault_take hf) op a _ _ (fun _ e=>?_)).from hs
        rw [take_t] at e
        have:r.t.stack.dropLast.length = 0:=by rw [show r.t.stack.dropLast = [] from e]; rfl
        rw [List.length_dropLast] at this
        omega
theorem emit_after {p:Prg} {r:Rn} (h:RnIn p r) (hf:¬ r.take.2.fault = true) (e:Ev) (hk:cmdM e.kind = true):After p r (r.take.2.vs (r.s.emit e).2) :=
  .vs (FStep.emit (p:=p) (b:=false) r.s e h.ho hk).one (fun f=>absurd f hf) (fun _=>by rw [← take_s r]; exact h.take.thr) rfl
theorem ends_after {p:Prg} {r:Rn} (h:RnIn p r) (op:Int):After p r (r.ends op).2:=by
  have hs:=take_s r
  unfold Rn.ends
  split
  · rename_i hf
    exact h.self hs (fun f=>absurd hf (by rw [f]; simp))
  · rename_i hf
    simp only
    split
    · exact emit_after h hf _ rfl
    · split
      · exact emit_after h hf _ rfl
      · split
        · exact .vs (FStep.done (p:=p) (b:=false) r.s _ _ _).one (fun f=>absurd f hf) (fun _=>by rw [← hs]; exact h.take.thr) rfl
        · split
          · exact emit_after h hf _ rfl
          · split
            · exact emit_after h hf _ rfl
            · exact emit_after h hf _ rfl
theorem pc_after {p:Prg} {r r':Rn} (h:After p r r') (ht:r'.t.func = r.t.func) {n:Int} (h0:0 ≤ n) (h1:∃ f,p.funcs[r.t.func.toNat]? = some f ∧ n < f.ops.length):After p r (r'.pc n) :=
  ⟨h.steps,h.fault,fun f=>(h.thr f).at_ h0 (by rw [ht]; exact h1)⟩
end Go.Proofs.YtkofafcgcnciaaaGreatDoor
set_option maxRecDepth 100000
namespace Go.Proofs.YtkofafcgcnciaaaGreatDoor
open Go.Ax
structure Fix (g:Thr → Int):Prop where
  stack:∀ t l,g { t with stack:=l } = g t
  scope:∀ t i,g { t with scope:=i } = g t
  pc:∀ t i,g { t with pc:=i } = g t
  waits:∀ t i,g { t with waits:=i } = g t
  signal:∀ t i,g { t with signal:=i } = g t
theorem fix_func:Fix Thr.func:=⟨fun _ _=>rfl,fun _ _=>rfl,fun _ _=>rfl,fun _ _=>rfl,fun _ _=>rfl⟩
theorem fix_update:Fix Thr.update:=⟨fun _ _=>rfl,fun _ _=>rfl,fun _ _=>rfl,fun _ _=>rfl,fun _ _=>rfl⟩
theorem fix_future:Fix Thr.future:=⟨fun _ _=>rfl,fun _ _=>rfl,fun _ _=>rfl,fun _ _=>rfl,fun _ _=>rfl⟩
theorem fix_arg:Fix Thr.arg:=⟨fun _ _=>rfl,fun _ _=>rfl,fun _ _=>rfl,fun _ _=>rfl,fun _ _=>rfl⟩
section
variable {g:Thr → Int}
theorem Fix.take (k:Fix g) (r:Rn):g r.take.2.t = g r.t:=by rw [take_t]; exact k.stack _ _
theorem Fix.leave (k:Fix g) (r:Rn) (l:List Int):g (r.leave l).t = g r.t:=k.stack _ _
theorem ite_g {r:Rn} {P:Prop} [Decidable P] {x y:Rn} (h1:g x.t = g r.t) (h2:g y.t = g r.t):g (if P then x else y).t = g r.t:=by split; exact h1; exact h2
theorem Fix.scope_ (k:Fix g) (r:Rn):g r.scope.2.t = g r.t:=by rw [scope_t]; exact k.take r
theorem Fix.threads (k:Fix g) (r:Rn) (op a:Int):g (r.threads op a).t = g r.t:=by
  unfold Rn.threads
  exact ite_g (ite_g (k.take r) (ite_g (k.take r) ((k.leave _ _).trans (k.take r)))) (ite_g (ite_g rfl (ite_g rfl (k.leave _ _))) (ite_g (ite_g (k.scope_ r) ((k.scope _ _).trans (k.scope_ r))) (ite_g (ite_g (k.scope_ r) (k.scope_ r)) (k.leave _ _))))
theorem Fix.opens (k:Fix g) (r:Rn) (e:Ev):g (r.opens e).t = g r.t:=by
  unfold Rn.opens; exact ite_g (k.leave _ _) (ite_g rfl (k.leave _ _))
theorem Fix.asked (r:Rn) (d:Nat):g (r.asked d).2.t = g r.t:=by
  rcases asked_cases r d with e | ⟨v,e,-⟩ <;> rw [e]
theorem Fix.told (r:Rn) (op:Int):g (r.told op).2.t = g r.t:=by
  unfold Rn.told
  split
  · split
    · split
      · exact Fix.asked r 1
      · rfl
    · exact Fix.asked r 1
  · rfl
theorem Fix.command (k:Fix g) (r:Rn) (op a ev v:Int):g (r.command op a ev v).t = g r.t:=by
  unfold Rn.command
  exact ite_g rfl (ite_g (k.opens r _) (ite_g (k.opens r _) (ite_g (k.opens r _) (ite_g (ite_g rfl rfl) (ite_g (k.take r) rfl)))))
theorem Fix.commands (k:Fix g) (r:Rn) (op a:Int):g (r.commands op a).t = g r.t:=by
  unfold Rn.commands
  exact ite_g (ite_g rfl (ite_g (k.leave _ _) rfl)) (ite_g (Fix.told r op) (ite_g (k.take r) ((k.command _ _ _ _ _).trans (k.take r))))
theorem Fix.pure_ (k:Fix g) (r:Rn) (op a:Int):g (r.pure_ op a).t = g r.t:=by
  have h:g ((r.pc (r.t.pc + 1)).pure1 op a).t = g (r.pc (r.t.pc + 1)).t:=by
    generalize r.pc (r.t.pc + 1) = r1
    exact pure1_ind (fun z=>g z.t = g r1.t) r1 op a (fun _ l=>k.leave _ _) (fun _ l=>(k.leave _ _).trans (k.take r1)) (fun _ l=>(k.leave _ _).trans ((k.take _).trans (k.take r1))) (fun _=>k.take r1) (fun _=>k.pc _ _) (fun _=>(k.pc _ _).trans (k.take r1))
  exact h.trans (k.pc _ _)
end
theorem awaits_after {p:Prg} {r:Rn} (h:RnIn p r) (op:Int) (hx:∃ f,p.funcs[r.t.func.toNat]? = some f ∧ r.t.pc + 1 < f.ops.length):After p r (r.awaits op).2:=by
  have hs:=take_s r
  have hp:=h.thr.pc0
  unfold Rn.awaits
  rcases asked_cases r 0 with e | ⟨v,e,h0,h1⟩
  · rw [e]
    rw [if_pos (by show decide ((-1:Int) < 0) = true; decide)]
    exact h.self rfl (fun f=>by cases f)
  · rw [e]
    rw [if_neg (by rw [decide_eq_true_iff]; show ¬ v < 0; omega)]
    obtain ⟨f,hf⟩:=get_some (l:=r.s.futures) (i:=v.toNat) (by omega)
    simp only
    rw [hf]
    simp only
    have tl:∀ l:List Int,After p r ((r.take.2.leave l).pc (r.t.pc + 1)):=fun l=>by
      refine pc_after ?_ ((fix_func.leave r.take.2 l).trans (fix_func.take r)) (by omega) hx
      refine h.self hs (fun f=>?_)
      have:=leave_thr (r:=r.take.2) h.take.thr l f
      rw [hs] at this; exact this
    split
    · exact h.self rfl (fun _=>waits_thr h.thr h1)
    · split
      · exact tl _
      · exact tl _
theorem waitS_after {p:Prg} {r:Rn} (h:RnIn p r) {a:Int} (ha:0 ≤ a ∧ a < 8) (hx:∃ f,p.funcs[r.t.func.toNat]? = some f ∧ r.t.pc + 1 < f.ops.length):After p r (r.waitS a).2:=by
  have hp:=h.thr.pc0
  unfold Rn.waitS
  split
  · exact h.self rfl (fun _=>signal_thr h.thr ha.2)
  · rename_i x l hxl
    split
    · refine pc_after (r':=r.leave [x]) ?_ (fix_func.leave r _) (by omega) hx
      exact h.self rfl (leave_thr h.thr _)
    · refine pc_after (r':=(r.leave [x]).vs { r.s with signals:=r.s.signals.set a.toNat l }) ?_ (fix_func.leave r _) (by omega) hx
      exact .vs (FStep.sig (p:=p) r.s a.toNat x l hxl).one (fun _=>h.ho) (leave_thr h.thr _) rfl
theorem does_after {p:Prg} {r:Rn} (h:RnIn p r) (hn:r.fault = false) (op a:Int) (oo:OpOk p op a) (hpu:(pureB op && op != 36 && op != 37) = false) (hx:op ≠ 13 → op ≠ 35 → op ≠ 36 → op ≠ 37 → ∃ f,p.funcs[r.t.func.toNat]? = some f ∧ r.t.pc + 1 < f.ops.length):After p r (r.does op a).2:=by
  have hp:=h.thr.pc0
  have n13:op ≠ 13:=fun e=>by subst e; cases hpu
  unfold Rn.does
  split
  · rename_i e
    have:op = 23 ∨ op = 24:=by simpa using e
    exact awaits_after h op (hx n13 (by omega) (by omega) (by omega))
  · split
    · rename_i e
      exact waitS_after h (oo.o25 e) (hx n13 (by omega) (by omega) (by omega))
    · split
      · exact ends_after h op
      · rename_i n
        have n:op ≠ 36 ∧ op ≠ 37 ∧ op ≠ 35:=by simpa [and_assoc] using n
        have hx:=hx n13 n.2.2 n.1 n.2.1
        split
        · exact pc_after (r':=r) (h.self rfl (fun _=>h.thr)) rfl (by omega) hx
        · split
          · exact pc_after (threads_after h hn op a oo) (fix_func.threads r op a) (by rw [threads_pc]; omega) (by rw [threads_pc]; exact hx)
          · exact pc_after (commands_after h hn op a) (fix_func.commands r op a) (by rw [commands_pc]; omega) (by rw [commands_pc]; exact hx)
theorem pure_fields {p:Prg} {r:Rn} (h:ThrOk p r.s r.t) (op a:Int) (hf:(r.pure_ op a).fault = false) (h0:0 ≤ (r.pure_ op a).t.pc) (h1:∃ f,p.funcs[r.t.func.toNat]? = some f ∧ (r.pure_ op a).t.pc < f.ops.length):ThrOk p r.s (r.pure_ op a).t:=by
  have k1:=fix_func.pure_ r op a
  have k2:=fix_update.pure_ r op a
  have k3:=fix_future.pure_ r op a
  have k4:Fix Thr.arg:=fix_arg
  have sc:(r.pure_ op a).t.scope = r.t.scope ∧ (r.pure_ op a).t.waits = r.t.waits ∧ (r.pure_ op a).t.signal = r.t.signal :=
    pure1_ind (fun z=>z.t.scope = r.t.scope ∧ z.t.waits = r.t.waits ∧ z.t.signal = r.t.signal) (r.pc (r.t.pc + 1)) op a (fun _ _=>⟨rfl,rfl,rfl⟩)
      (fun _ _=>by show (Rn.take _).2.t.scope = _ ∧ (Rn.take _).2.t.waits = _ ∧ (Rn.take _).2.t.signal = _; rw [take_t]; exact ⟨rfl,rfl,rfl⟩)
      (fun _ _=>by show (Rn.take _).2.t.scope = _ ∧ (Rn.take _).2.t.waits = _ ∧ (Rn.take _).2.t.signal = _; rw [take_t,take_t]; exact ⟨rfl,rfl,rfl⟩)
      (fun _=>by rw [take_t]; exact ⟨rfl,rfl,rfl⟩) (fun _=>⟨rfl,rfl,rfl⟩) (fun _=>by show (Rn.take _).2.t.scope = _ ∧ (Rn.take _).2.t.waits = _ ∧ (Rn.take _).2.t.signal = _; rw [take_t]; exact ⟨rfl,rfl,rfl⟩)
  exact ⟨by rw [k1]; exact h1,by rw [k1]; exact h.f0,h0,pure_stack r op a h.stack hf,by rw [sc.1]; exact h.scope,by rw [k3]; exact h.future,by rw [k2]; exact h.update,by rw [sc.2.1]; exact h.waits,by rw [sc.2.2]; exact h.signal⟩
structure Stands (p:Prg) (t:Thr) (i k:Nat) (f:Fnc) (c a:Int):Prop where
  func:t.func = i
  pc:t.pc = k
  fn:p.funcs[i]? = some f
  o:f.ops[k]? = some (c,a)
  op:p.opAt t.func t.pc = (c,a)
theorem stands {p:Prg} {s:VS} {t:Thr} (h:ThrOk p s t):∃ i k f c a,Stands p t i k f c a:=by
  obtain ⟨f,hf,hk⟩:=h.fn
  have h0:=h.f0
  have h1:=h.pc0
  obtain ⟨⟨c,a⟩,ho⟩:=get_some (l:=f.ops) (i:=t.pc.toNat) (by omega)
  have e1:t.func = (t.func.toNat:Int):=by omega
  have e2:t.pc = (t.pc.toNat:Int):=by omega
  refine ⟨t.func.toNat,t.pc.toNat,f,c,a,e1,e2,hf,ho,?_⟩
  have:=opAt_eq hf ho
  rw [← e1,← e2] at this; exact this
def Thr.wake (t:Thr):Thr:={ t with waits:=-1,signal:=-1 }
theorem wake_thr {p:Prg} {s:VS} {t:Thr} (h:ThrOk p s t):ThrOk p s t.wake:=⟨h.fn,h.f0,h.pc0,h.stack,h.scope,h.future,h.update,by show (-1:Int) < _; omega,by show (-1:Int) < 8; decide⟩
theorem run_eq_ {p:Prg} {s:VS} {i:Nat} {t:Thr} (ht:s.threads[i]? = some t):s.run p i = if (pureB (p.opAt t.func t.pc).1 && (p.opAt t.func t.pc).1 != 36 && (p.opAt t.func t.pc).1 != 37) = true then (0,(⟨s,t.wake,false⟩:Rn).pure_ (p.opAt t.func t.pc).1 (p.opAt t.func t.pc).2) else (⟨s,t.wake,false⟩:Rn).does (p.opAt t.func t.pc).1 (p.opAt t.func t.pc).2:=by
  unfold VS.run; rw [ht]; rfl
theorem run_after {p:Prg} (ok:Okp p) {s:VS} {i:Nat} {t:Thr} (ht:s.threads[i]? = some t) (iv:Inv p s) (rm:Room s) (ho:s.over = false) (sk:(s.futures.length:Int) + s.fuel + 1 ≤ 1000 * s.count):After p ⟨s,t.wake,false⟩ (s.run p i).2:=by
  have hT:=iv.thr t (List.mem_of_getElem? ht)
  have hw:=wake_thr hT
  obtain ⟨j,k,f,c,a,st⟩:=stands hT
  have hr:=right_facts (ok.right j f k c a st.fn st.o)
  have hin:RnIn p ⟨s,t.wake,false⟩:=⟨⟨iv,rm,ho,hw⟩,sk⟩
  have hx:c ≠ 13 → c ≠ 35 → c ≠ 36 → c ≠ 37 → ∃ f,p.funcs[t.func.toNat]? = some f ∧ t.pc + 1 < f.ops.length:=fun h1 h2 h3 h4=>⟨f,by rw [st.func]; exact st.fn,by rw [st.pc]; exact next_of hr h1 h2 h3 h4⟩
  rw [run_eq_ ht,st.op]
  split
  · rename_i hp
    simp only
    have h36:c ≠ 36:=fun e=>by subst e; simp at hp
    have h37:c ≠ 37:=fun e=>by subst e; simp at hp
    have h35:c ≠ 35:=fun e=>by subst e; simp [pureB] at hp
    refine hin.self (pure_s _ _ _) (fun hf=>?_)
    have hpc:0 ≤ ((⟨s,t.wake,false⟩:Rn).pure_ c a).t.pc ∧ ((⟨s,t.wake,false⟩:Rn).pure_ c a).t.pc < f.ops.length:=by
      rcases pure_pc (⟨s,t.wake,false⟩:Rn) c a with ⟨hc,e⟩ | ⟨hc,e⟩
      · rw [e]
        have hopd:opd c = true:=by rcases hc with rfl | rfl <;> rfl
        have hm:mostB p.funcs.length p.opts.length f.ops.length c = (f.ops.length:Nat):=by rcases hc with rfl | rfl <;> rfl
        exact hr.most hopd _ hm
      · rw [e]
        have:=next_of hr hc h35 h36 h37
        have hp0:=st.pc
        show 0 ≤ t.pc + 1 ∧ t.pc + 1 < _
        omega
    exact pure_fields (r:=⟨s,t.wake,false⟩) hw c a hf hpc.1 ⟨f,by show p.funcs[t.func.toNat]? = _; rw [st.func]; exact st.fn,hpc.2⟩
  · rename_i hp
    exact does_after hin rfl c a (opOk ok st.fn st.o) (by simpa using hp) hx
theorem instr_steps {p:Prg} (ok:Okp p) {s:VS} {i:Nat} {t:Thr} (ht:s.threads[i]? = some t) (iv:Inv p s) (rm:Room s) (ho:s.over = false) (sk:(s.futures.length:Int) + s.fuel + 1 ≤ 1000 * s.count):FSteps p true s (s.instruction p i).2:=by
  have h:=run_after ok ht iv rm ho sk
  unfold VS.instruction
  split
  · rename_i hf
    exact h.steps.lift.tail (.fails _ _ (h.fault hf))
  · rename_i hf
    exact h.steps.lift.tail (.set _ _ _ rfl (h.thr (by simpa using hf)))
end Go.Proofs.YtkofafcgcnciaaaGreatDoor
set_option maxRecDepth 100000
namespace Go.Ax
def WrL (H:Heap) (a:Addr) (vs:List Value) (Q:Heap → Prop):Prop :=
  ∃ (cur:Array Value) (T:TypeId),H a.block = some (.cells cur T (0,0)) ∧ a.spot = none ∧ a.off + vs.length ≤ cur.size ∧ ∀ H1,H1 = H.upd a.block (.cells (splice cur a.off vs) T (0,0)) → Q H1
theorem zip_set {α β:Type}:∀ (l:List α) (k:List β) (i:Nat) (x:α) (y:β),(l.set i x).zip (k.set i y) = (l.zip k).set i (x,y)
  | [],_,_,_,_=>by simp
  | _ :: _,[],_,_,_=>by simp
  | a :: l,b :: k,0,x,y=>rfl
  | a :: l,b :: k,i + 1,x,y=>by rw [List.set_cons_succ,List.set_cons_succ,List.zip_cons_cons,List.zip_cons_cons,List.set_cons_succ,zip_set l k i x y]
theorem flat_setL {α:Type} {cells:α → List Value} {sz:Nat} (hsz:∀ x,(cells x).length = sz):∀ (l:List α) (i:Nat) (y:α),i < l.length → (l.set i y).flatMap cells = (l.flatMap cells).take (i * sz) ++ cells y ++ (l.flatMap cells).drop (i * sz + sz)
  | [],i,y,h=>by simp at h
  | z :: l,0,y,_=>by
    rw [List.set_cons_zero,List.flatMap_cons,List.flatMap_cons,Nat.zero_mul,Nat.zero_add,List.take_zero,List.nil_append]
    congr 1
    rw [← hsz z,List.drop_left]
  | z :: l,i + 1,y,h=>by
    rw [List.set_cons_succ,List.flatMap_cons,List.flatMap_cons,flat_setL hsz l i y (by simpa using h)]
    have e:(i + 1) * sz = (cells z).length + i * sz:=by rw [hsz,Nat.add_mul]; omega
    rw [e,Nat.add_assoc,List.take_length_add_append,List.drop_length_add_append]
    simp [List.append_assoc]
end Go.Ax
namespace Go.Proofs.YtkofafcgcnciaaaGreatDoor
open Go.Ax
section
variable {G H:Heap} {m:Nat} {pf po:SlH} {sl:Nat → SlH} {F:Heap} {ex:Value} {st:List SlH} {s:VS}
theorem VMX.putL (h : VMX G H m pf po sl F ex st s) {c : Nat} (hc : c < 14) {a : Addr} (ha : (sl c).A = some a) {k : Nat} {vs : List Value} (hk : k + vs.length ≤ (contC sl st s c).length) (s' : VS) (st' : List SlH)
    (e0:contC sl st' s' c = (contC sl st s c).take k ++ vs ++ (contC sl st s c).drop (k + vs.length)) (ec:∀ c',c' < 14 → c' ≠ c → contC sl st' s' c' = contC sl st s c') (em:mCells pf po sl ex s' = mCells pf po sl ex s) (e7:s'.expect = s.expect) (e8:s'.vars.length = 16) (e9:s'.attrs.length = 4) (e10:s'.signals.length = 8)
    (e11:st'.length = s'.threads.length) (e12:∀ (j:Nat) (t:Thr) (q:SlH),s'.threads[j]? = some t → st'[j]? = some q → HasL (dif F G) q t.stack)
    {Q:Heap → Prop} (q:∀ H',VMX G H' m pf po sl F ex st' s' → Q H'):WrL H (a.add k) vs Q:=by
  have ok:=h.ok c hc
  have hlen:=ok.len
  rcases ok.at_ with ⟨a1,_⟩ | ⟨b,off,cur,T,a1,a2,a3,a4⟩
  · rw [a1] at ha; cases ha
  · rw [a1] at ha; cases ha
    have b0:((⟨b,off,none⟩:Addr).add k).block = b:=by unfold Addr.add; split <;> rfl
    have o0:((⟨b,off,none⟩:Addr).add k).off = off + k:=by unfold Addr.add; split <;> simp_all
    have s0:((⟨b,off,none⟩:Addr).add k).spot = none:=by unfold Addr.add; split <;> rfl
    unfold WrL
    rw [b0,o0,s0]
    have hcap:(sl c).n * szC c ≤ (sl c).c * szC c:=Nat.mul_le_mul_right _ ok.cap
    have hsz:off + k + vs.length ≤ cur.size:=by omega
    have hblk:(sl c).blk = some b:=by unfold SlH.blk; rw [a1]; rfl
    have fr:=h.free_own hc hblk
    refine ⟨cur,T,a2,rfl,hsz,fun H1 e=>q H1 ?_⟩
    subst e
    refine ⟨h.gf,⟨fun i o ho=>?_⟩,h.fm,by rw [Heap.upd_other (fun e=>fr.m e.symm),em]; exact h.hm,h.own,h.inj,fun c' hc'=>?_,e11,e12,e8,e9,e10,⟨fun q=>h.exp.none_ (by rw [← e7]; exact q),fun l hl=>?_⟩⟩
    · rw [Heap.upd_other (fun e=>by subst e; rw [fr.f] at ho; cases ho)]; exact h.fh.sub _ _ ho
    · by_cases hcc:c' = c
      · subst hcc
        rw [e0]
        refine ⟨by simp only [List.length_append,List.length_take,List.length_drop]; omega,ok.cap,.inr ⟨b,off,_,T,a1,Heap.upd_same,by rw [splice_size hsz]; exact a3,fun j u hu=>?_⟩⟩
        rw [splice_get hsz]
        by_cases h1:j < k
        · rw [if_pos (by omega)]
          rw [List.append_assoc,List.getElem?_append_left (by rw [List.length_take]; omega),List.getElem?_take,if_pos h1] at hu
          exact a4 j u hu
        · rw [if_neg (by omega)]
          by_cases h2:j < k + vs.length
          · rw [if_pos (by omega)]
            rw [List.append_assoc,List.getElem?_append_right (by rw [List.length_take]; omega),List.getElem?_append_left (by rw [List.length_take]; omega),List.length_take] at hu
            rw [← hu]; congr 1; omega
          · rw [if_neg (by omega)]
            have hlt:=get_lt hu
            rw [List.getElem?_append_right (by simp only [List.length_append,List.length_take]; omega),List.getElem?_drop] at hu
            simp only [List.length_append,List.length_take] at hu
            have:=a4 j u (by rw [← hu]; congr 1; omega)
            exact this
      · rw [ec c' hc' hcc]
        exact (h.ok c' hc').mono fun b' hb'=>Heap.upd_other fun e=>by subst e; exact hcc (fr.sl c' hc' hb')
    · rw [e7] at hl
      obtain ⟨xb,A,n,c2,T2,q1,q2,q3,q4,q5,q6,q7⟩:=h.exp.some_ l hl
      exact ⟨xb,A,n,c2,T2,q1,by rw [Heap.upd_other (fr.x xb q1)]; exact q2,q3,q4,q5,q6,q7⟩
theorem VMX.wrThr (h : VMX G H m pf po sl F ex st s) {i : Nat} (hi : i < s.threads.length) {a : Addr} (ha : (sl 0).A = some a) (t : Thr) (q : SlH) (hq : HasL (dif F G) q t.stack)
    {Q:Heap → Prop} (k:∀ H',VMX G H' m pf po sl F ex (st.set i q) { s with threads:=s.threads.set i t } → Q H'):WrL H (a.add (i * 9)) (thrC (t,q)) Q:=by
  have hcl:(contC sl st s 0).length = s.threads.length * 9:=by
    show ((s.threads.zip st).flatMap thrC).length = _
    rw [flat_size (cells:=thrC) (sz:=9) (fun _=>rfl),List.length_zip,h.stl,Nat.min_self]
  refine h.putL (c:=0) (by decide) ha (k:=i * 9) (vs:=thrC (t,q)) (by rw [hcl]; show i * 9 + 9 ≤ _; omega) { s with threads:=s.threads.set i t } (st.set i q) ?_ (fun c' _ hne=>?_) rfl rfl h.vars h.attrs h.sigs ?_ (fun j u z hu hz=>?_) k
  · show ((s.threads.set i t).zip (st.set i q)).flatMap thrC = _
    rw [zip_set,flat_setL (cells:=thrC) (sz:=9) (fun _=>rfl) _ i (t,q) (by rw [List.length_zip,h.stl,Nat.min_self]; exact hi)]
    rfl
  · unfold contC; rw [if_neg hne,if_neg hne]
  · show (st.set i q).length = (s.threads.set i t).length
    rw [List.length_set,List.length_set]; exact h.stl
  · have hu:(s.threads.set i t)[j]? = some u:=hu
    rw [List.getElem?_set] at hu hz
    by_cases hj:i = j
    · subst hj
      rw [if_pos rfl,if_pos hi] at hu
      rw [if_pos rfl,if_pos (by rw [h.stl]; exact hi)] at hz
      cases hu; cases hz; exact hq
    · rw [if_neg hj] at hu hz
      exact h.stk j u z hu hz
end
end Go.Proofs.YtkofafcgcnciaaaGreatDoor
set_option maxRecDepth 100000
namespace Go.Proofs.YtkofafcgcnciaaaGreatDoor
open Go.Ax
theorem dif_low {F G G':Heap} (h:Sub G' G):Sub (dif F G) (dif F G'):=⟨fun i o k=>by
  unfold dif at k ⊢
  split at k
  · cases k
  · rename_i e
    have:G' i = none:=by
      cases h2:G' i with
      | none=>rfl
      | some x=>rw [h.sub _ _ h2] at e; exact absurd rfl e
    rw [this]; simpa using k⟩
theorem dif_at {F G:Heap} {b:Nat} {o:Obj} (h1:F b = some o) (h2:G b = none):dif F G b = some o:=by
  unfold dif; rw [h2]; simpa using h1
structure VMP (p:Prg) (G H:Heap) (m:Nat) (pf po:SlH) (ex:Value) (s:VS):Prop where
  out:∃ sl F st,VMX G H m pf po sl F ex st s ∧ HasP (dif F G) pf.A pf.n po.A po.n p
section
variable {p:Prg} {G0 G H:Heap} {m rb tb:Nat} {q:SlH} {pf po:SlH} {sl:Nat → SlH} {F:Heap} {ex:Value} {st:List SlH} {r:Rn} {s:VS}
theorem _root_.Go.Ax.SlOk.has {H:Heap} {q:SlH} {l:List Int} (k:SlOk H q 1 (intsC l)):HasL H q l:=⟨by have:=k.len; unfold intsC at this; rw [List.length_map] at this; omega,k.src⟩
theorem RX.low_stack (h:RX p G0 G0 G H m rb tb q pf po sl F ex st r):HasL (dif F G0) q r.t.stack:=by
  refine (h.sq.mono (H':=dif F G0) fun b hb=>?_).has
  have hb0:=(h.oq b hb).1
  rcases h.sq.at_ with ⟨a1,_⟩ | ⟨b',off,cur,T,a1,a2,_⟩
  · unfold SlH.blk at hb; rw [a1] at hb; cases hb
  · unfold SlH.blk at hb; rw [a1] at hb; cases hb
    rw [a2]; exact dif_at (h.vm.gf.sub _ _ a2) hb0
theorem RZ.fin (z : RZ p G0 m rb tb pf po ex r H) {i : Nat} (hi : i < r.s.threads.length) (hc : 0 ≤ r.s.count) (hc2 : r.s.count ≤ 100000) (hm : r.s.made.length ≤ 100000) {K : Int → Heap → Prop} {x : Int}
    (kf:r.fault = true → ∀ H',VMP p G0 H' m pf po ex (r.s.fails (-2)) → K 1 H') (kn:r.fault = false → ∀ H',VMP p G0 H' m pf po ex { r.s with threads:=r.s.threads.set i r.t } → K x H') :
    ∃ a9:Addr,some (⟨rb,0,none⟩:Addr) = some a9 ∧ ∃ b4:Bool,At H (a9.add 2) [.bool b4] ∧
      (b4 = true → Tr Tryz.prog 142 #[.pointer (some ⟨m,0,none⟩),.int .i64 (-2)] H fun v4 H'5=>v4 = .tuple #[] ∧ K 1 H'5) ∧
      (b4 = false → ∃ a10:Addr,some (⟨m,0,none⟩:Addr) = some a10 ∧
        (∃ (A9:Option Addr) (n9 c15:Nat),At H ((a10.add 2).add 21) [.slice A9 n9 c15] ∧ ∃ (x29 x30 x31:Int) (A10:Option Addr) (n10 c16:Nat) (x32 x33 x34 x35 x36:Int),At H (⟨tb,0,none⟩:Addr) [.int .i64 x29,.int .i64 x30,.int .i64 x31,.slice A10 n10 c16,.int .i64 x32,.int .i64 x33,.int .i64 x34,.int .i64 x35,.int .i64 x36] ∧
          ∃ a11:Addr,(A9 = some a11 ∧ 0 ≤ (i:Int) ∧ (i:Int) < (n9:Int)) ∧ WrL H (a11.add ((i:Int).toNat * 9)) [.int .i64 x29,.int .i64 x30,.int .i64 x31,.slice A10 n10 c16,.int .i64 x32,.int .i64 x33,.int .i64 x34,.int .i64 x35,.int .i64 x36] fun H18=>K x H18) ∧
        ∃ (x37 x38 x39:Int) (A11:Option Addr) (n11 c18:Nat) (x40 x41 x42 x43 x44:Int),At H (⟨tb,0,none⟩:Addr) [.int .i64 x37,.int .i64 x38,.int .i64 x39,.slice A11 n11 c18,.int .i64 x40,.int .i64 x41,.int .i64 x42,.int .i64 x43,.int .i64 x44] ∧
          ∃ (A12:Option Addr) (n12 c19:Nat),At H ((a10.add 2).add 21) [.slice A12 n12 c19] ∧ ∃ a12:Addr,(A12 = some a12 ∧ 0 ≤ (i:Int) ∧ (i:Int) < (n12:Int)) ∧ WrL H (a12.add ((i:Int).toNat * 9)) [.int .i64 x37,.int .i64 x38,.int .i64 x39,.slice A11 n11 c18,.int .i64 x40,.int .i64 x41,.int .i64 x42,.int .i64 x43,.int .i64 x44] fun H19=>K x H19):=by
  obtain ⟨G,F,q,sl,st,h⟩:=z.out
  refine ⟨_,rfl,_,h.r2,fun e=>?_,fun e=>?_⟩
  · refine (t142 h.vm (-2) hc hc2 hm).mono fun v H1 ⟨hv,sl1,v1⟩=>⟨hv,kf e H1 ⟨sl1,F,st,v1.weaken h.base,h.pr.sub (dif_low h.base)⟩⟩
  · have w:=h.vm.weaken h.base
    obtain ⟨t,ht⟩:=get_some hi
    obtain ⟨a,_,ha,-⟩:=w.thr ht
    have tc:At H (⟨tb,0,none⟩:Addr) (thrC (r.t,q)):=⟨⟨_,_,_,h.ht,rfl,fun j v hv=>by simpa using hv⟩⟩
    have key:WrL H (a.add (i * 9)) (thrC (r.t,q)) fun H'=>K x H':=w.wrThr hi ha r.t q h.low_stack fun H' v'=>kn e H' ⟨sl,F,_,v',h.pr.sub (dif_low h.base)⟩
    have hn:=w.thrLen
    exact ⟨_,rfl,⟨_,_,_,w.c23,_,_,_,_,_,_,_,_,_,_,_,tc,a,⟨ha,by omega,by omega⟩,key⟩,_,_,_,_,_,_,_,_,_,_,_,tc,_,_,_,w.c23,a,⟨ha,by omega,by omega⟩,key⟩
structure Pre (p:Prg) (G G' H':Heap) (m:Nat) (pf po:SlH) (sl:Nat → SlH) (F':Heap) (ex:Value) (st:List SlH) (s:VS) (b:Nat) (cs:List Value) (q:SlH) (l:List Int):Prop where
  v:VMX G' H' m pf po sl F' ex st s
  gb:G' b = some (.cells ⟨cs⟩ 153 (0,0))
  gn:G b = none
  sub:Sub G G'
  pr:HasP (dif F' G') pf.A pf.n po.A po.n p
  sq:SlOk G' q 1 (intsC l)
  nb:∀ b',q.blk = some b' → G b' = none ∧ b' ≠ b
theorem Pre.wr {G' H' F':Heap} {b:Nat} {cs:List Value} {l:List Int} (h:Pre p G G' H' m pf po sl F' ex st s b cs q l) {k:Nat} (hk:k < cs.length) {v:Value} {Q:Heap → Prop} (r:∀ G'' F'' H'',Pre p G G'' H'' m pf po sl F'' ex st s b (cs.set k v) q l → Q H''):Wr H' ((⟨b,0,none⟩:Addr).add k) v Q :=
  wr_cells ((h.v.gf.trans h.v.fh).sub _ _ h.gb) hk (r _ _ _ ⟨h.v.turn h.gb _,Heap.upd_same,h.gn,base_upd h.sub h.gn _,h.pr.sub (dif_turn h.gb _),h.sq.mono fun b' hb'=>Heap.upd_other (h.nb b' hb').2,h.nb⟩)
theorem Pre.run {G' H' F':Heap} {b:Nat} {t:Thr} (h:Pre p G G' H' m pf po sl F' ex st s b (thrC (t,q)) q t.stack) {b1:Nat} (hb1:H' b1 = none):∃ G'' F'',RX p G G G'' (H'.upd b1 (.cells ⟨runC m b false⟩ 230 (0,0))) m b1 b q pf po sl F'' ex st ⟨s,t,false⟩:=by
  have v7:=h.v.ext hb1 (.cells ⟨runC m b false⟩ 230 (0,0))
  have hF6:=none_below h.v.fh hb1
  have hG6:=none_below h.v.gf hF6
  have hne:b1 ≠ b:=fun e=>by rw [e,h.gb] at hG6; cases hG6
  have s7:=base_upd h.sub (none_below h.sub hG6) (.cells ⟨runC m b false⟩ 230 (0,0))
  refine ⟨_,_,⟨v7,h.pr.sub (dif_ext hF6 _),s7,s7.trans (v7.gf.trans v7.fh),Sub.refl _,Heap.upd_same,by rw [Heap.upd_other hne.symm]; exact h.gb,none_below h.sub hG6,h.gn,hne,h.sq.sub (Sub.upd_new hG6),fun b' hb'=>⟨(h.nb b' hb').1,fun e=>?_,(h.nb b' hb').2⟩⟩⟩
  rcases h.sq.at_ with ⟨a1,_⟩ | ⟨b2',off,cur,T,a1,a2,_⟩
  · unfold SlH.blk at hb'; rw [a1] at hb'; cases hb'
  · unfold SlH.blk at hb'; rw [a1] at hb'; cases hb'
    have e:b2' = b1:=e
    rw [← e] at hG6
    rw [hG6] at a2; cases a2
theorem t143 (okp : Okp p) (h : VMX G H m pf po sl F ex st s) (pr : HasP (dif F G) pf.A pf.n po.A po.n p) (iv : Inv p s) (rm : Room s) (ho : s.over = false) (sk : (s.futures.length : Int) + s.fuel + 1 ≤ 1000 * s.count) {i : Nat} {t : Thr} (ht : s.threads[i]? = some t) :
    Tr Tryz.prog 143 #[.pointer (some ⟨m,0,none⟩),.int .i64 i] H fun v H'=>v = .int .i64 (s.instruction p i).1 ∧ VMP p G H' m pf po ex (s.instruction p i).2:=by
  obtain ⟨a,q,ha,hst,hq,hat⟩:=h.thr ht
  have hil:=get_lt ht
  have hT:=iv.thr t (List.mem_of_getElem? ht)
  have haf:=run_after okp ht iv rm ho sk
  have hiv:=haf.steps.inv iv rm
  obtain ⟨j,k,f,c,op,S⟩:=stands hT
  have hpk:=okp.len S.fn
  have hkl:=get_lt S.o
  have hn:=h.thrLen
  have hlen:=hq.len
  have hstk:=hT.stack
  have hrun:=run_eq_ (p:=p) ht
  rw [S.op] at hrun
  simp only at hrun
  have hins:s.instruction p i = if (s.run p i).2.fault = true then (1,(s.run p i).2.s.fails (-2)) else ((s.run p i).1,{ (s.run p i).2.s with threads:=(s.run p i).2.s.threads.set i (s.run p i).2.t }):=rfl
  have hi2:i < (s.run p i).2.s.threads.length:=by
    obtain ⟨l,hl⟩:=haf.steps.threads
    rw [hl,List.length_append]
    show i < s.threads.length + _
    omega
  apply v143; unfold F143
  refine ⟨_,rfl,_,_,_,h.c23,a,⟨ha,by omega,by omega⟩,_,_,_,_,_,_,_,_,_,_,_,hat,fun b hb H1 e1=>?_⟩
  subst e1
  have hF:=none_below h.fh hb
  have hG:=none_below h.gf hF
  refine ⟨_,_,Heap.upd_same,rfl,Nat.le_refl _,fun H2 e2=>?_⟩
  have e2':H2 = H.upd b (.cells ⟨thrC (t,q)⟩ 153 (0,0)):=by
    rw [e2]
    funext i
    by_cases hi:i = b
    · rw [hi,Heap.upd_same,Heap.upd_same]; rfl
    · rw [Heap.upd_other hi,Heap.upd_other hi,Heap.upd_other hi]
  have v2:=h.ext hb (.cells ⟨thrC (t,q)⟩ 153 (0,0))
  rw [← e2'] at v2
  have b2:H2 b = some (.cells ⟨thrC (t,q)⟩ 153 (0,0)):=by rw [e2']; exact Heap.upd_same
  have d2:=dif_ext (G:=G) hF (.cells ⟨thrC (t,q)⟩ 153 (0,0))
  have hq2:=hq.sub d2
  refine ⟨q.A,q.n,q.c,at_cells b2 rfl,⟨⟨intsC t.stack,src_sub hq2.src (dif_sub.trans v2.fh),by unfold intsC; rw [List.length_map,hlen,Nat.mul_one],?_⟩⟩⟩
  refine v2.side (q:=⟨none,0,0⟩) (Side.nil v2.gf 1) (new:=intsC t.stack) (k:=q.n) (by unfold intsC; rw [List.length_map,hlen,Nat.mul_one]) (intsC_one _) (by show (0 + q.n) * 8 ≤ _; omega) (by show 0 + q.n ≤ _; omega) fun A' c' G3 F3 H3 v3 sd=>?_
  have g2:(G.upd b (.cells ⟨thrC (t,q)⟩ 153 (0,0))) b = some (.cells ⟨thrC (t,q)⟩ 153 (0,0)):=Heap.upd_same
  have p3:Pre p G G3 H3 m pf po sl F3 ex st s b (thrC (t,q)) ⟨A',0 + q.n,c'⟩ t.stack :=
    ⟨v3,sd.g.sub _ _ g2,hG,(Sub.upd_new hG).trans sd.g,(pr.sub d2).sub sd.d,sd.sl,fun b' hb'=>⟨none_below (Sub.upd_new hG) (none_below v2.gf (sd.free b' hb')),fun e=>by have:=sd.free b' hb'; rw [e,v2.gf.sub _ _ g2] at this; cases this⟩⟩
  -- the copy's header,and that it waits for nothing
  refine p3.wr (k:=3) (by decide:3 < 9) fun G4 F4 H4 p4=>?_
  refine p4.wr (k:=7) (by show 7 < 9; decide) fun G5 F5 H5 p5=>?_
  refine p5.wr (k:=8) (by show 8 < 9; decide) fun G6 F6 H6 p6=>?_
  have p6:Pre p G G6 H6 m pf po sl F6 ex st s b (thrC (t.wake,⟨A',0 + q.n,c'⟩)) ⟨A',0 + q.n,c'⟩ t.wake.stack:=p6
  intro b1 hb1 H7 e7
  obtain ⟨G7,F7,rx⟩:=p6.run hb1
  rw [show H6.upd b1 (.cells ⟨runC m b false⟩ 230 (0,0)) = H7 from e7.symm] at rx
  have rin:RnOk p ⟨s,t.wake,false⟩:=⟨iv,rm,ho,wake_thr hT⟩
  have hc0:=hiv.1.c0
  have hmd:=hiv.1.made
  have hpc:=S.pc
  have hfun:=S.func
  have pH:=(rx.pr.sub dif_sub).sub rx.vm.fh
  obtain ⟨a1,B,mm,d,ha1,hat1,hops⟩:=pH.fns.at_ j f S.fn
  obtain ⟨a2,ha2,hat2⟩:=hops.at_ k c op S.o
  have hfn:=pH.fns.len
  have hol:=hops.len
  have hjl:=get_lt S.fn
  have t0:At H7 ((⟨b,0,none⟩:Addr).add 0) [.int .i64 (j:Int)]:=by rw [← hfun]; exact at_cells rx.ht rfl
  have t1:At H7 ((⟨b,0,none⟩:Addr).add 1) [.int .i64 (k:Int)]:=by rw [← hpc]; exact at_cells rx.ht rfl
  refine ⟨H7,Sub.refl _,_,rfl,_,_,_,rx.vm.c0,(j:Int),t0,a1,⟨ha1,by omega,by omega⟩,B,mm,d,at_one 2 hat1 rfl,(k:Int),t1,a2,⟨ha2,by omega,by omega⟩,c,op,hat2,Sub.refl _,Sub.refl _,pureB c,t164 _ _,fun e=>?_,fun e=>?_⟩
  · rw [if_pos e] at hrun
    rw [hrun] at hins haf hi2 hiv hc0 hmd
    simp only at hc0 hmd
    refine (t151 rx (by show t.stack.length ≤ 1000; omega) ⟨hT.pc0,by show t.pc ≤ 1000; omega⟩ c op (opOk okp S.fn S.o).o15 (opOk okp S.fn S.o).o26).mono fun v H8 ⟨hv,G8,F8,q8,h8⟩=>⟨hv,?_⟩
    refine h8.z.fin (i:=i) (x:=0) hi2 hc0.1 (by omega) (by omega) (K:=fun y H'=>Value.int .i64 y = .int .i64 (s.instruction p i).1 ∧ VMP p G H' m pf po ex (s.instruction p i).2) (fun ef H' w=>?_) (fun ef H' w=>?_)
    · rw [hins,if_pos ef]; exact ⟨rfl,w⟩
    · rw [hins,if_neg (by rw [ef]; simp)]; exact ⟨rfl,w⟩
  · rw [if_neg (by rw [e]; simp)] at hrun
    rw [hrun] at hins haf hi2 hiv hc0 hmd
    refine (t168 rx rin (by show t.pc ≤ 1000; omega) c op (opOk okp S.fn S.o)).mono fun v H8 ⟨hv,z⟩=>⟨_,hv,?_⟩
    refine z.fin (i:=i) (x:=((⟨s,t.wake,false⟩:Rn).does c op).1) hi2 hc0.1 (by omega) (by omega) (K:=fun y H'=>Value.int .i64 y = .int .i64 (s.instruction p i).1 ∧ VMP p G H' m pf po ex (s.instruction p i).2) (fun ef H' w=>?_) (fun ef H' w=>?_)
    · rw [hins,if_pos ef]; exact ⟨rfl,w⟩
    · rw [hins,if_neg (by rw [ef]; simp)]; exact ⟨rfl,w⟩
end
end Go.Proofs.YtkofafcgcnciaaaGreatDoor
set_option maxRecDepth 100000
namespace Go.Proofs.YtkofafcgcnciaaaGreatDoor
open Go.Ax
theorem instr_threads {p:Prg} (ok:Okp p) {s:VS} {i:Nat} {t:Thr} (ht:s.threads[i]? = some t) (iv:Inv p s) (rm:Room s) (ho:s.over = false) (sk:(s.futures.length:Int) + s.fuel + 1 ≤ 1000 * s.count):s.threads.length ≤ (s.instruction p i).2.threads.length:=by
  obtain ⟨l,hl⟩:=(run_after ok ht iv rm ho sk).steps.threads
  have hl:(s.run p i).2.s.threads = s.threads ++ l:=hl
  unfold VS.instruction
  split
  · rw [(keepF _ _).threads,hl]; simp
  · show s.threads.length ≤ ((s.run p i).2.s.threads.set i (s.run p i).2.t).length
    rw [List.length_set,hl]; simp
def VS.fuelAt (s:VS) (n:Int):VS:={ s with fuel:=n }
theorem fuel_step {p:Prg} {s:VS} {n:Nat} (iv:Inv p s) (rm:Room s) (hn:s.fuel = ((n + 1:Nat):Int)):FStep p true s (s.fuelAt n) ∧ Inv p (s.fuelAt n) ∧ Room (s.fuelAt n) ∧ ((s.fuelAt n).futures.length:Int) + (s.fuelAt n).fuel + 1 ≤ 1000 * (s.fuelAt n).count:=by
  have st:FStep p true s (s.fuelAt n):=.fuel s n rfl ⟨by omega,by omega⟩
  have h:=st.inv iv rm
  have:=iv.many
  exact ⟨st,h.1,h.2,by show (s.futures.length:Int) + (n:Int) + 1 ≤ 1000 * s.count; omega⟩
theorem stepsG_eq (p : Prg) (i n : Nat) (s : VS) : VS.stepsG p i n s = if s.over = true then (1, s) else match n with
    | 0=>(1,s.fails (-1))
    | n + 1=>if (((s.fuelAt n).instruction p i).1 != 0) = true then (s.fuelAt n).instruction p i else VS.stepsG p i n ((s.fuelAt n).instruction p i).2:=by
  cases n <;> rfl
theorem instr_fuel {p:Prg} {s:VS} {i:Nat} {t:Thr} (ok:Okp p) (ht:s.threads[i]? = some t) (iv:Inv p s) (rm:Room s) (ho:s.over = false) (sk:(s.futures.length:Int) + s.fuel + 1 ≤ 1000 * s.count):(s.instruction p i).2.fuel = s.fuel:=by
  have h:(s.run p i).2.s.fuel = s.fuel:=(run_after ok ht iv rm ho sk).steps.fuel_eq
  unfold VS.instruction
  split
  · rw [(keepF _ _).fuel,h]
  · exact h
theorem stepsG_steps {p:Prg} (ok:Okp p) (i:Nat):∀ (n:Nat) (s:VS),s.fuel = n → Inv p s → Room s → i < s.threads.length → FSteps p true s (VS.stepsG p i n s).2 ∧ i < (VS.stepsG p i n s).2.threads.length ∧ ((VS.stepsG p i n s).1 ≠ 1 → (VS.stepsG p i n s).2.fuel < s.fuel)
  | 0,s,hf,iv,rm,hi=>by
    rw [stepsG_eq]
    split
    · exact ⟨.refl s,hi,fun h=>absurd rfl h⟩
    · rename_i ho
      exact ⟨(FStep.fails s (-1) (by simpa using ho)).one,by rw [show ((1,s.fails (-1)):Int × VS).2 = s.fails (-1) from rfl,(keepF _ _).threads]; exact hi,fun h=>absurd rfl h⟩
  | n + 1,s,hf,iv,rm,hi=>by
    rw [stepsG_eq]
    split
    · exact ⟨.refl s,hi,fun h=>absurd rfl h⟩
    · rename_i ho
      have ho:s.over = false:=by simpa using ho
      obtain ⟨st,iv1,rm1,sk⟩:=fuel_step iv rm hf
      obtain ⟨t,ht⟩:=get_some hi
      have ht1:(s.fuelAt n).threads[i]? = some t:=ht
      have st2:=st.one.trans (instr_steps ok ht1 iv1 rm1 ho sk)
      have tl:=instr_threads ok ht1 iv1 rm1 ho sk
      have tl:s.threads.length ≤ ((s.fuelAt n).instruction p i).2.threads.length:=tl
      have fl:=instr_fuel ok ht1 iv1 rm1 ho sk
      have fl:((s.fuelAt n).instruction p i).2.fuel = n:=fl
      simp only
      split
      · exact ⟨st2,by omega,fun _=>by omega⟩
      · have iv2:=st2.inv iv rm
        obtain ⟨h1,h2,h3⟩:=stepsG_steps ok i n _ fl iv2.1 iv2.2 (by omega)
        exact ⟨st2.trans h1,h2,fun h=>by have:=h3 h; omega⟩
theorem steps_steps {p:Prg} (ok:Okp p) {i:Nat} {s:VS} (iv:Inv p s) (rm:Room s) (hi:i < s.threads.length):FSteps p true s (s.steps p i).2 ∧ i < (s.steps p i).2.threads.length ∧ ((s.steps p i).1 ≠ 1 → (s.steps p i).2.fuel < s.fuel) :=
  stepsG_steps ok i _ s (by have:=iv.fuel; omega) iv rm hi
def fuelIn (m:Nat) (H:Heap):Nat:=match H m with
  | some (.cells c _ _)=>(match c[31]? with | some (Value.int _ v)=>v.toNat | _=>0)
  | _=>0
section
variable {p:Prg} {G H:Heap} {m:Nat} {pf po:SlH} {sl:Nat → SlH} {F:Heap} {ex:Value} {st:List SlH} {s:VS}
theorem VMX.fuelIn (h:VMX G H m pf po sl F ex st s):fuelIn m H = s.fuel.toNat:=by
  unfold Go.Proofs.YtkofafcgcnciaaaGreatDoor.fuelIn; rw [h.hm]; rfl
theorem VMX.c31 (h:VMX G H m pf po sl F ex st s):At H ((⟨m,0,none⟩:Addr).add 31) [.int .i64 s.fuel]:=h.cell rfl
structure RStp (p:Prg) (G:Heap) (m:Nat) (pf po:SlH) (ex:Value) (i:Nat) (s0:VS) (H1:Heap):Prop where
  out:∃ s n,VMP p G H1 m pf po ex s ∧ Inv p s ∧ Room s ∧ s.fuel = (n:Nat) ∧ i < s.threads.length ∧ VS.stepsG p i n s = s0.steps p i
theorem t118 (okp : Okp p) (h : VMP p G H m pf po ex s) (iv : Inv p s) (rm : Room s) {i : Nat} (hi : i < s.threads.length) :
    Tr Tryz.prog 118 #[.pointer (some ⟨m,0,none⟩),.int .i64 i] H fun v H'=>v = .int .i64 (s.steps p i).1 ∧ VMP p G H' m pf po ex (s.steps p i).2:=by
  apply v118; unfold F118
  refine ⟨RStp p G m pf po ex i s,fun H1=>fuelIn m H1,⟨s,s.fuel.toNat,h,iv,rm,by have:=iv.fuel; omega,hi,rfl⟩,fun H1 r=>?_⟩
  obtain ⟨s1,n,h1,iv1,rm1,hn,hi1,he⟩:=r.out
  obtain ⟨sl1,F1,st1,v1,pr1⟩:=h1.out
  have hc:=iv1.c0
  have hmd:=iv1.made
  have hfu:=iv1.fuel
  rw [← he,stepsG_eq]
  refine ⟨_,rfl,_,v1.c27,fun ho=>⟨_,rfl,_,v1.c31,fun e=>?_,fun e=>⟨_,rfl,_,v1.c31,_,rfl,?_⟩⟩,fun ho=>?_⟩
  · have ho:s1.over = false:=by simpa using ho
    have e:s1.fuel = 0:=by simpa using e
    have hn0:n = 0:=by omega
    subst hn0
    rw [if_neg (by rw [ho]; simp)]
    exact (t142 v1 (-1) hc.1 (by omega) (by omega)).mono fun v H2 ⟨hv,sl2,v2⟩=>⟨hv,rfl,sl2,F1,st1,v2,pr1⟩
  · have ho:s1.over = false:=by simpa using ho
    have e:s1.fuel ≠ 0:=by simpa using e
    obtain ⟨k,rfl⟩:∃ k,n = k + 1:=⟨n - 1,by omega⟩
    rw [if_neg (by rw [ho]; simp)]
    have hw:IntKind.i64.wrap (s1.fuel - 1) = (k:Int):=by rw [wrapi (by omega) (by omega)]; omega
    rw [hw]
    obtain ⟨fs,iv2,rm2,sk⟩:=fuel_step iv1 rm1 hn
    obtain ⟨t,ht⟩:=get_some hi1
    refine v1.wr (k:=31) (by decide) (s1.fuelAt k) rfl rfl rfl rfl rfl rfl rfl rfl v1.vars v1.attrs fun H2 v2=>?_
    have ht2:(s1.fuelAt k).threads[i]? = some t:=ht
    have is:=instr_steps okp ht2 iv2 rm2 ho sk
    have iv3:=is.inv iv2 rm2
    have tl:=instr_threads okp ht2 iv2 rm2 ho sk
    have tl:s1.threads.length ≤ ((s1.fuelAt k).instruction p i).2.threads.length:=tl
    have fl:=instr_fuel okp ht2 iv2 rm2 ho sk
    have fl:((s1.fuelAt k).instruction p i).2.fuel = k:=fl
    refine (t143 okp v2 pr1 iv2 rm2 ho sk ht2).mono fun v H3 ⟨hv,h3⟩=>⟨_,hv,fun e2=>?_,fun e2=>⟨⟨_,k,h3,iv3.1,iv3.2,fl,by omega,?_⟩,?_⟩⟩
    · simp only; rw [if_pos e2]; exact ⟨rfl,h3⟩
    · rw [← he,stepsG_eq p i (k + 1) s1,if_neg (by rw [ho]; simp)]
      simp only
      rw [if_neg (by rw [e2]; simp)]
    · obtain ⟨sl3,F3,st3,v3,-⟩:=h3.out
      show Go.Proofs.YtkofafcgcnciaaaGreatDoor.fuelIn m H3 < Go.Proofs.YtkofafcgcnciaaaGreatDoor.fuelIn m H1
      rw [v3.fuelIn,v1.fuelIn,fl]; omega
  · have ho:s1.over = true:=by simpa using ho
    rw [if_pos ho]
    exact ⟨rfl,h1⟩
end
end Go.Proofs.YtkofafcgcnciaaaGreatDoor
set_option maxRecDepth 100000
namespace Go.Proofs.YtkofafcgcnciaaaGreatDoor
open Go.Ax
theorem purelyG_left (p:Prg) (fn:Int):∀ (n:Nat) (r:Rn),(purelyG p fn n r).2.2 ≤ n
  | 0,_=>Nat.le_refl _
  | n + 1,r=>by
    rw [purelyG]
    split
    · split
      · exact Nat.le_succ _
      · split <;> exact Nat.le_succ _
    · split
      · exact Nat.le_succ _
      · exact Nat.le_trans (purelyG_left p fn n _) (Nat.le_succ _)
theorem find_at {p:Prg} (ok:Okp p) {kind name:Int} (h:¬ p.find kind name < 0):(∃ f,p.funcs[(p.find kind name).toNat]? = some f ∧ (0:Int) < f.ops.length) ∧ 0 ≤ p.find kind name:=by
  obtain ⟨i,f,hi,hf,-,-⟩:=find_found h
  rw [hi]
  exact ⟨⟨f,hf,by have:=(ok.len hf).1; omega⟩,by omega⟩
theorem admit2_steps {p:Prg} (ok:Okp p) {s:VS} (iv:Inv p s) (ho:s.over = false) {e:Ev} (he:0 ≤ e.id) (hf:¬ p.find 3 e.a < 0):FSteps p true s (s.admit2 (p.find 3 e.a) e):=by
  obtain ⟨f1,f2⟩:=find_at ok hf
  have st:=(FStep.emit (p:=p) (b:=true) s (evM 12 e.id 0 0) ho rfl).one
  unfold VS.admit2
  split
  · exact (FStep.fails s _ ho).one
  · rename_i h16
    simp at h16
    split
    · have k:=keepE s (evM 12 e.id 0 0)
      have hn:=iv.scn
      refine st.tail (.thr _ _ ⟨f1,f2,Int.le_refl _,Nat.zero_le _,⟨Int.le_refl _,by rw [k.scopes]; show (0:Int) < _; omega⟩,⟨Int.le_refl _,by show (-1:Int) < _; omega⟩,he,by show (-1:Int) < _; omega,by show (-1:Int) < 8; decide⟩ (by rw [k.threads]; omega))
    · exact st
theorem ite_V {P:VS → Prop} {c:Prop} [Decidable c] {x y:VS} (h1:P x) (h2:P y):P (if c then x else y):=by split; exact h1; exact h2
theorem admits_steps {p:Prg} (ok:Okp p) {s:VS} (iv:Inv p s) (rm:Room s) (ho:s.over = false) {e:Ev} (he:0 ≤ e.id):FSteps p true s (s.admits p e):=by
  unfold VS.admits
  split
  · exact (FStep.emit s _ ho rfl).one
  · rename_i hf
    have hf:¬ p.find 3 e.a < 0:=by simpa using hf
    split
    · have hfu:=iv.fuel
      have hl:=purelyG_left p (p.find 4 e.a) s.fuel.toNat ⟨s,⟨p.find 4 e.a,0,0,[],e.b,0,0,0,0⟩,false⟩
      have hl:(s.purely p (p.find 4 e.a) e.b s.fuel.toNat).2.2 ≤ s.fuel.toNat:=hl
      have st:FStep p true s { s with fuel:=((s.purely p (p.find 4 e.a) e.b s.fuel.toNat).2.2:Int) }:=.fuel s _ rfl ⟨by omega,by omega⟩
      have iv1:=st.inv iv rm
      exact ite_V (P:=FSteps p true s) (st.one.tail (.fails _ _ ho)) (ite_V (P:=FSteps p true s) (st.one.tail (.emit _ _ ho rfl)) (st.one.trans (admit2_steps ok iv1.1 ho he hf)))
    · exact admit2_steps ok iv ho he hf
section
variable {p:Prg} {G H:Heap} {m:Nat} {pf po:SlH} {sl:Nat → SlH} {F:Heap} {ex:Value} {st:List SlH} {s:VS}
def Admit2P (m:Nat) (fn id arg:Int) (H:Heap) (K:Heap → Prop):Prop :=
  ∃ a4:Addr,some (⟨m,0,none⟩:Addr) = some a4 ∧ ∃ (A:Option Addr) (n c:Nat),At H ((a4.add 2).add 21) [.slice A n c] ∧
    (decide ((n:Int) ≥ 16) = true → Tr Tryz.prog 142 #[.pointer (some ⟨m,0,none⟩),.int .i64 (-3)] H fun v H'=>v = .tuple #[] ∧ K H') ∧
    (decide ((n:Int) ≥ 16) = false → Tr Tryz.prog 141 #[.pointer (some ⟨m,0,none⟩),(evM 12 id 0 0).val] H fun v H'=>∃ (x:Int) (b:Bool),v = .tuple #[.int .i64 x,.bool b] ∧
      (b = true → ∃ a5:Addr,some (⟨m,0,none⟩:Addr) = some a5 ∧
        (∃ (A:Option Addr) (n c:Nat),At H' ((a5.add 2).add 21) [.slice A n c] ∧ appC 153 9 88 H' A n c (thrC (Thr.new fn 0 arg (-1) id,⟨none,0,0⟩)) 1 fun A' n' c' H4=>∃ a9:Addr,some (⟨m,0,none⟩:Addr) = some a9 ∧ Wr H4 ((a9.add 2).add 21) (.slice A' n' c') K) ∧
        (∃ (A:Option Addr) (n c:Nat),At H' ((a5.add 2).add 21) [.slice A n c] ∧ appC 153 9 88 H' A n c (thrC (Thr.new fn 0 arg (-1) id,⟨none,0,0⟩)) 1 fun A' n' c' H4=>∃ a9:Addr,some (⟨m,0,none⟩:Addr) = some a9 ∧ Wr H4 ((a9.add 2).add 21) (.slice A' n' c') K)) ∧
      (b = false → K H'))
theorem VMX.admit2 (h:VMX G H m pf po sl F ex st s) (pr:HasP (dif F G) pf.A pf.n po.A po.n p) (iv:Inv p s) (fn:Int) (e:Ev) {K:Heap → Prop} (k:∀ H',VMP p G H' m pf po ex (s.admit2 fn e) → K H'):Admit2P m fn e.id e.b H K:=by
  have hc:=iv.c0
  have hmd:=iv.made
  have ht:=iv.t16
  refine ⟨_,rfl,_,_,_,h.c23,fun e1=>?_,fun e1=>?_⟩
  · rw [h.thrLen] at e1
    refine (t142 h (-3) hc.1 (by omega) (by omega)).mono fun v H2 ⟨hv,sl2,v2⟩=>⟨hv,k H2 ⟨sl2,F,st,?_,pr⟩⟩
    unfold VS.admit2; rw [if_pos e1]; exact v2
  · rw [h.thrLen] at e1
    refine (t141 h (evM 12 e.id 0 0) hc.1 (by omega) (by omega)).mono fun v H2 ⟨hv,sl2,v2⟩=>⟨_,_,hv,fun eb=>?_,fun eb=>k H2 ⟨sl2,F,st,?_,pr⟩⟩
    · have key : ThrP m 88 (Thr.new fn 0 e.b (-1) e.id) H2 K := v2.addThr (Thr.new fn 0 e.b (-1) e.id) rfl (by decide) (by rw [(keepE s _).threads]; omega) fun H3 sl3 v3 => k H3 ⟨sl3, F, _, (by
        unfold VS.admit2; rw [if_neg (by rw [e1]; simp),if_pos eb]; exact v3),pr⟩
      exact ⟨_,rfl,key,key⟩
    · unfold VS.admit2; rw [if_neg (by rw [e1]; simp),if_neg (by rw [eb]; simp)]; exact v2
theorem t116 (okp : Okp p) (h : VMX G H m pf po sl F ex st s) (pr : HasP (dif F G) pf.A pf.n po.A po.n p) (iv : Inv p s) (rm : Room s) (e : Ev) :
    Tr Tryz.prog 116 #[.pointer (some ⟨m,0,none⟩),e.val] H fun v H'=>v = .tuple #[] ∧ VMP p G H' m pf po ex (s.admits p e):=by
  have hc:=iv.c0
  have hmd:=iv.made
  have hfu:=iv.fuel
  have pH:=(pr.sub dif_sub).sub h.fh
  have em : ∀ {s : VS} {H : Heap} {sl : Nat → SlH} (h : VMX G H m pf po sl F ex st s) (iv : Inv p s) (ev : Ev) {Q : Heap → Prop}, (∀ H', VMP p G H' m pf po ex (s.emit ev).2 → Q H') →
      Tr Tryz.prog 141 #[.pointer (some ⟨m,0,none⟩),ev.val] H fun v H'=>∃ (x:Int) (b:Bool),v = .tuple #[.int .i64 x,.bool b] ∧ Q H':=fun h iv ev Q k=>by
    have hc:=iv.c0
    have hmd:=iv.made
    exact (t141 h ev hc.1 (by omega) (by omega)).mono fun v H2 ⟨hv,sl2,v2⟩=>⟨_,_,hv,k H2 ⟨sl2,F,st,v2,pr⟩⟩
  apply v116; unfold F116
  refine ⟨_,rfl,_,_,_,_,_,_,h.c01,_,t125 pH 3 e.a,fun e1=>?_,fun e1=>⟨_,rfl,_,_,_,_,_,_,h.c01,_,t125 pH 4 e.a,fun e2=>?_,fun e2=>?_⟩⟩
  · have hd:s.admits p e = (s.emit (evM 13 e.id 50 0)).2:=by unfold VS.admits; rw [if_pos e1]
    rw [hd]
    exact em h iv (evM 13 e.id 50 0) fun H' w=>⟨rfl,w⟩
  · obtain ⟨j,f,hj,hf,hk,-⟩:=find_found (p:=p) (kind:=4) (name:=e.a) (by have:=of_decide_eq_true e2; omega)
    have hfl:s.fuel = (s.fuel.toNat:Int):=by omega
    have hl:=purelyG_left p (p.find 4 e.a) s.fuel.toNat ⟨s,⟨p.find 4 e.a,0,0,[],e.b,0,0,0,0⟩,false⟩
    have hl:(s.purely p (p.find 4 e.a) e.b s.fuel.toNat).2.2 ≤ s.fuel.toNat:=hl
    have hd : s.admits p e = (let q := s.purely p (p.find 4 e.a) e.b s.fuel.toNat
       let s1:VS:={ s with fuel:=(q.2.2:Int) }
       if (q.2.1 == 3) = true then s1.fails (-1) else
       if (q.2.1 != 0 || (if (q.2.1 == 2) = true then (-2:Int) else q.1) != 0) = true then (s1.emit (evM 13 e.id (if (q.2.1 == 2) = true then (-2:Int) else q.1) 0)).2 else s1.admit2 (p.find 3 e.a) e):=by
      unfold VS.admits; rw [if_neg (by rw [e1]; simp),if_pos e2]
    simp only at hd
    have pu:=t126 h pr okp hf (.inr hk) e.b s.fuel.toNat (by omega)
    rw [hj] at hd hl ⊢
    rw [hfl.symm] at pu
    have st1:FStep p true s { s with fuel:=((s.purely p j e.b s.fuel.toNat).2.2:Int) }:=.fuel s _ rfl ⟨by omega,by omega⟩
    have iv1:=st1.inv iv rm
    have hc1:=iv1.1.c0
    have hmd1:=iv1.1.made
    refine ⟨_,rfl,_,h.c31,_,_,_,pu,_,rfl,?_⟩
    refine h.wr (k:=31) (by decide) { s with fuel:=((s.purely p j e.b s.fuel.toNat).2.2:Int) } rfl rfl rfl rfl rfl rfl rfl rfl h.vars h.attrs fun H2 v2=>?_
    refine ⟨fun e3=>?_,fun e3=>⟨fun e4=>⟨fun e5=>?_,fun e5=>?_⟩,fun e4=>⟨fun e5=>?_,fun e5=>?_⟩⟩⟩
    · rw [hd,if_pos e3]
      exact (t142 v2 (-1) hc1.1 (by omega) (by omega)).mono fun v H3 ⟨hv,sl3,v3⟩=>⟨hv,rfl,sl3,F,st,v3,pr⟩
    · have hd2 : s.admits p e = (({ s with fuel := ((s.purely p j e.b s.fuel.toNat).2.2 : Int) } : VS).emit (evM 13 e.id (-2) 0)).2 := by
        rw [hd]; simp only [e3,e4,if_true,if_false,Bool.false_eq_true]; rw [if_pos e5]
      rw [hd2]
      exact em v2 iv1.1 (evM 13 e.id (-2) 0) fun H' w=>⟨rfl,w⟩
    · exact absurd e5 (by simp)
    · have hd2 : s.admits p e = (({ s with fuel := ((s.purely p j e.b s.fuel.toNat).2.2 : Int) } : VS).emit (evM 13 e.id (s.purely p j e.b s.fuel.toNat).1 0)).2 := by
        rw [hd]; simp only [e3,e4,if_false,Bool.false_eq_true]; rw [if_pos e5]
      rw [hd2]
      exact em v2 iv1.1 (evM 13 e.id (s.purely p j e.b s.fuel.toNat).1 0) fun H' w=>⟨rfl,w⟩
    · have hd2 : s.admits p e = ({ s with fuel := ((s.purely p j e.b s.fuel.toNat).2.2 : Int) } : VS).admit2 (p.find 3 e.a) e := by
        rw [hd]; simp only [e3,e4,if_false,Bool.false_eq_true]; rw [if_neg (by rw [e5]; simp)]
      rw [hd2]
      exact v2.admit2 pr iv1.1 (p.find 3 e.a) e (K:=fun H'=>Value.tuple #[] = .tuple #[] ∧ VMP p G H' m pf po ex (({ s with fuel:=((s.purely p j e.b s.fuel.toNat).2.2:Int) }:VS).admit2 (p.find 3 e.a) e)) fun H' w=>⟨rfl,w⟩
  · have hd:s.admits p e = s.admit2 (p.find 3 e.a) e:=by unfold VS.admits; rw [if_neg (by rw [e1]; simp),if_neg (by rw [e2]; simp)]
    rw [hd]
    exact h.admit2 pr iv (p.find 3 e.a) e (K:=fun H'=>Value.tuple #[] = .tuple #[] ∧ VMP p G H' m pf po ex (s.admit2 (p.find 3 e.a) e)) fun H' w=>⟨rfl,w⟩
end
end Go.Proofs.YtkofafcgcnciaaaGreatDoor
set_option maxRecDepth 100000
set_option linter.unusedVariables false
namespace Go.Proofs.YtkofafcgcnciaaaGreatDoor
open Go.Ax
def LoopsP (m:Option Addr) (A:Option Addr) (n:Nat) (H:Heap) (K:Value → Heap → Prop):Prop :=
 ∃ (Rel:Int → Heap → Prop),
 ∃ (mu:Int → Heap → Nat),
 Rel (0:Int) H ∧
 ∀ (x3:Int) (H1:Heap),
 Rel x3 H1 →
 (decide (x3 < (↑n:Int)) = true →
 ∃ (a11:Addr),
 (A = some a11 ∧ (0:Int) ≤ x3 ∧ x3 < (↑n:Int)) ∧
 ∃ (x4:Int),
 ∃ (x5:Int),
 ∃ (x6:Int),
 ∃ (x7:Int),
 ∃ (x8:Int),
 ∃ (x9:Int),
 ∃ (x10:Int),
 ∃ (x11:Int),
 ∃ (x12:Int),
 At H1 (a11.add (x3.toNat * 9)) [Value.int IntKind.i64 x4,Value.int IntKind.i64 x5,Value.int IntKind.i64 x6,Value.int IntKind.i64 x7,Value.int IntKind.i64 x8,Value.int IntKind.i64 x9,Value.int IntKind.i64 x10,Value.int IntKind.i64 x11,Value.int IntKind.i64 x12] ∧
 ∃ (a12:Addr),
 m = some a12 ∧
 ∃ (b2:Bool),
 At H1 ((a12.add 2).add 25) [Value.bool b2] ∧
 ((!b2) = true →
 Tr Tryz.prog 116 #[Value.pointer m,Value.agg #[Value.int IntKind.i64 x4,Value.int IntKind.i64 x5,Value.int IntKind.i64 x6,Value.int IntKind.i64 x7,Value.int IntKind.i64 x8,Value.int IntKind.i64 x9,Value.int IntKind.i64 x10,Value.int IntKind.i64 x11,Value.int IntKind.i64 x12]] H1 fun (v1:Value) (H_1:Heap) =>
 v1 = Value.tuple #[] ∧ Rel (IntKind.i64.wrap (x3 + (1:Int))) H_1 ∧ mu (IntKind.i64.wrap (x3 + (1:Int))) H_1 < mu x3 H1) ∧
 ((!b2) = false → Rel (IntKind.i64.wrap (x3 + (1:Int))) H1 ∧ mu (IntKind.i64.wrap (x3 + (1:Int))) H1 < mu x3 H1)) ∧
 (decide (x3 < (↑n:Int)) = false →
 ∃ (Rel1:Heap → Prop),
 ∃ (mu1:Heap → Nat),
 Rel1 H1 ∧
 ∀ (H2:Heap),
 Rel1 H2 →
 ∃ (Rel2:Bool → Int → Heap → Prop),
 ∃ (mu2:Bool → Int → Heap → Nat),
 Rel2 false (0:Int) H2 ∧
 ∀ (b3:Bool) (x13:Int) (H3:Heap),
 Rel2 b3 x13 H3 →
 ∃ (a13:Addr),
 m = some a13 ∧
 ∃ (A1:Option Addr),
 ∃ (n1:Nat),
 ∃ (c7:Nat),
 At H3 ((a13.add 2).add 21) [Value.slice A1 n1 c7] ∧
 (decide (x13 < (↑n1:Int)) = true →
 ∃ (a14:Addr),
 m = some a14 ∧
 ∃ (b4:Bool),
 At H3 ((a14.add 2).add 25) [Value.bool b4] ∧
 (b4 = true → K (Value.tuple #[]) H3) ∧
 (b4 = false →
 ∃ (a15:Addr),
 m = some a15 ∧
 ∃ (A2:Option Addr),
 ∃ (n2:Nat),
 ∃ (c8:Nat),
 At H3 ((a15.add 2).add 21) [Value.slice A2 n2 c8] ∧
 ∃ (a16:Addr),
 (A2 = some a16 ∧ (0:Int) ≤ x13 ∧ x13 < (↑n2:Int)) ∧
 ∃ (x14:Int),
 ∃ (x15:Int),
 ∃ (x16:Int),
 ∃ (A3:Option Addr),
 ∃ (n3:Nat),
 ∃ (c9:Nat),
 ∃ (x17:Int),
 ∃ (x18:Int),
 ∃ (x19:Int),
 ∃ (x20:Int),
 ∃ (x21:Int),
 At H3 (a16.add (x13.toNat * 9)) [Value.int IntKind.i64 x14,Value.int IntKind.i64 x15,Value.int IntKind.i64 x16,Value.slice A3 n3 c9,Value.int IntKind.i64 x17,Value.int IntKind.i64 x18,Value.int IntKind.i64 x19,Value.int IntKind.i64 x20,Value.int IntKind.i64 x21] ∧
 ∃ (b5:Bool),
 (Tr Tryz.prog 117 #[Value.pointer m,Value.agg #[Value.int IntKind.i64 x14,Value.int IntKind.i64 x15,Value.int IntKind.i64 x16,Value.slice A3 n3 c9,Value.int IntKind.i64 x17,Value.int IntKind.i64 x18,Value.int IntKind.i64 x19,Value.int IntKind.i64 x20,Value.int IntKind.i64 x21]] H3
 fun (v2:Value) (H_2:Heap)=>v2 = Value.bool b5 ∧ Ax.Sub H3 H_2) ∧
 ((!b5) = true → Rel2 b3 (IntKind.i64.wrap (x13 + (1:Int))) H3 ∧ mu2 b3 (IntKind.i64.wrap (x13 + (1:Int))) H3 < mu2 b3 x13 H3) ∧
 ((!b5) = false →
 Tr Tryz.prog 118 #[Value.pointer m,Value.int IntKind.i64 x13] H3 fun (v3:Value) (H_3:Heap) =>
 ∃ (x22:Int),
 v3 = Value.int IntKind.i64 x22 ∧
 ∃ (a17:Addr),
 ((x22 == (2:Int)) = true → m = some a17) ∧
 ∃ (b6:Bool),
 ((x22 == (2:Int)) = true → At H_3 ((a17.add 2).add 25) [Value.bool b6]) ∧
 ((x22 == (2:Int) && !b6) = true →
 ∃ (a18:Addr),
 m = some a18 ∧
 ∃ (a19:Addr),
 m = some a19 ∧
 (∃ (A4:Option Addr),
 ∃ (n4:Nat),
 ∃ (c10:Nat),
 At H_3 ((a18.add 2).add 21) [Value.slice A4 n4 c10] ∧
 ((0:Int) ≤ x13 ∧ x13 ≤ (↑c10:Int) ∧ (0:Int) ≤ x13 ∧ x13 ≤ x13) ∧
 ∃ (A5:Option Addr),
 ∃ (n5:Nat),
 ∃ (c11:Nat),
 At H_3 ((a19.add 2).add 21) [Value.slice A5 n5 c11] ∧
 ((0:Int) ≤ IntKind.i64.wrap (x13 + (1:Int)) ∧ IntKind.i64.wrap (x13 + (1:Int)) ≤ (↑n5:Int)) ∧
 appS 153 9 88 H_3 (if x13.toNat = (0:Nat) then A4 else Option.map (fun (x:Addr)=>x.add ((0:Nat) * 9)) A4) (x13.toNat - (0:Nat)) (x13.toNat - (0:Nat))
 (if c11 = (IntKind.i64.wrap (x13 + (1:Int))).toNat then A5 else Option.map (fun (x:Addr)=>x.add ((IntKind.i64.wrap (x13 + (1:Int))).toNat * 9)) A5) (n5 - (IntKind.i64.wrap (x13 + (1:Int))).toNat) fun (A':Option Addr) (n' c':Nat) (H_4:Heap) =>
 ∃ (a20:Addr),
 m = some a20 ∧
 ∃ (c12:Array Value),
 ∃ (T6:TypeId),
 H_4 ((a20.add 2).add 21).block = some (Obj.cells c12 T6) ∧
 ((a20.add 2).add 21).spot = none ∧
 ((a20.add 2).add 21).off + [Value.slice A' n' c'].length ≤ c12.size ∧
 ∀ (H17:Heap),
 H17 = H_4.upd ((a20.add 2).add 21).block (Obj.cells (splice c12 ((a20.add 2).add 21).off [Value.slice A' n' c']) T6) →
 Rel2 true (IntKind.i64.wrap (IntKind.i64.wrap (x13 - (1:Int)) + (1:Int))) H17 ∧ mu2 true (IntKind.i64.wrap (IntKind.i64.wrap (x13 - (1:Int)) + (1:Int))) H17 < mu2 b3 x13 H3) ∧
 ∃ (A6:Option Addr),
 ∃ (n6:Nat),
 ∃ (c13:Nat),
 At H_3 ((a19.add 2).add 21) [Value.slice A6 n6 c13] ∧
 ((0:Int) ≤ IntKind.i64.wrap (x13 + (1:Int)) ∧ IntKind.i64.wrap (x13 + (1:Int)) ≤ (↑n6:Int)) ∧
 ∃ (A7:Option Addr),
 ∃ (n7:Nat),
 ∃ (c14:Nat),
 At H_3 ((a18.add 2).add 21) [Value.slice A7 n7 c14] ∧
 ((0:Int) ≤ x13 ∧ x13 ≤ (↑c14:Int) ∧ (0:Int) ≤ x13 ∧ x13 ≤ x13) ∧
 appS 153 9 88 H_3 (if x13.toNat = (0:Nat) then A7 else Option.map (fun (x:Addr)=>x.add ((0:Nat) * 9)) A7) (x13.toNat - (0:Nat)) (x13.toNat - (0:Nat))
 (if c13 = (IntKind.i64.wrap (x13 + (1:Int))).toNat then A6 else Option.map (fun (x:Addr)=>x.add ((IntKind.i64.wrap (x13 + (1:Int))).toNat * 9)) A6) (n6 - (IntKind.i64.wrap (x13 + (1:Int))).toNat) fun (A'1:Option Addr) (n'1 c'1:Nat) (H_5:Heap) =>
 ∃ (a21:Addr),
 m = some a21 ∧
 ∃ (c15:Array Value),
 ∃ (T7:TypeId),
 H_5 ((a21.add 2).add 21).block = some (Obj.cells c15 T7) ∧
 ((a21.add 2).add 21).spot = none ∧
 ((a21.add 2).add 21).off + [Value.slice A'1 n'1 c'1].length ≤ c15.size ∧
 ∀ (H18:Heap),
 H18 = H_5.upd ((a21.add 2).add 21).block (Obj.cells (splice c15 ((a21.add 2).add 21).off [Value.slice A'1 n'1 c'1]) T7) →
 Rel2 true (IntKind.i64.wrap (IntKind.i64.wrap (x13 - (1:Int)) + (1:Int))) H18 ∧ mu2 true (IntKind.i64.wrap (IntKind.i64.wrap (x13 - (1:Int)) + (1:Int))) H18 < mu2 b3 x13 H3) ∧
 ((x22 == (2:Int) && !b6) = false → Rel2 true (IntKind.i64.wrap (x13 + (1:Int))) H_3 ∧ mu2 true (IntKind.i64.wrap (x13 + (1:Int))) H_3 < mu2 b3 x13 H3)))) ∧
 (decide (x13 < (↑n1:Int)) = false → ((!b3) = true → K (Value.tuple #[]) H3) ∧ ((!b3) = false → Rel1 H3 ∧ mu1 H3 < mu1 H2)))
section
variable {p:Prg} {G H:Heap} {m:Nat} {pf po:SlH} {sl:Nat → SlH} {F:Heap} {ex:Value} {st:List SlH} {s:VS}
theorem zip_erase {α β:Type}:∀ (l:List α) (k:List β) (i:Nat),l.length = k.length → i < l.length → (l.eraseIdx i).zip (k.eraseIdx i) = (l.zip k).take i ++ (l.zip k).drop (i + 1)
  | [],_,_,_,h=>by simp at h
  | _ :: _,[],_,h,_=>by simp at h
  | a :: l,b :: k,0,_,_=>by simp
  | a :: l,b :: k,i + 1,h,hi=>by
    simp only [List.eraseIdx_cons_succ,List.zip_cons_cons,List.take_succ_cons,List.drop_succ_cons,List.cons_append]
    rw [zip_erase l k i (by simpa using h) (by simpa using hi)]
theorem flat_take {α:Type} {cells:α → List Value} {sz:Nat} (hsz:∀ x,(cells x).length = sz):∀ (l:List α) (i:Nat),(l.take i).flatMap cells = (l.flatMap cells).take (i * sz)
  | [],i=>by simp
  | x :: l,0=>by simp
  | x :: l,i + 1=>by
    rw [List.take_succ_cons,List.flatMap_cons,List.flatMap_cons,flat_take hsz l i]
    have:(i + 1) * sz = (cells x).length + i * sz:=by rw [hsz,Nat.add_mul]; omega
    rw [this,List.take_length_add_append]
theorem flat_drop {α:Type} {cells:α → List Value} {sz:Nat} (hsz:∀ x,(cells x).length = sz):∀ (l:List α) (i:Nat),(l.drop i).flatMap cells = (l.flatMap cells).drop (i * sz)
  | [],i=>by simp
  | x :: l,0=>by simp
  | x :: l,i + 1=>by
    rw [List.drop_succ_cons,List.flatMap_cons,flat_drop hsz l i]
    have:(i + 1) * sz = (cells x).length + i * sz:=by rw [hsz,Nat.add_mul]; omega
    rw [this,List.drop_length_add_append]
theorem add_nil (a:Addr):a.add (0 * 9) = a:=by unfold Addr.add; cases a with | mk b o s=>cases s <;> simp
theorem VMX.erase (h : VMX G H m pf po sl F ex st s) {i : Nat} (hi : i < s.threads.length) (h16 : s.threads.length ≤ 1000) {A1 A2 : Option Addr} (e1 : A1 = if (i : Int).toNat = 0 then (sl 0).A else Option.map (fun x : Addr => x.add (0 * 9)) (sl 0).A)
    (e2:A2 = if (sl 0).c = i + 1 then (sl 0).A else Option.map (fun x:Addr=>x.add ((i + 1) * 9)) (sl 0).A) {K:Option Addr → Nat → Nat → Heap → Prop}
    (k:∀ A' n' c' H',VMX G H' m pf po sl F ex st s → Ready F H' m sl ex 0 ⟨A',n',c'⟩ (((s.threads.eraseIdx i).zip (st.eraseIdx i)).flatMap thrC) → K A' n' c' H') :
    appS 153 9 88 H A1 (i - 0) (i - 0) A2 ((sl 0).n - (i + 1)) K:=by
  have ok:=h.ok 0 (by decide)
  have hc0:contC sl st s 0 = (s.threads.zip st).flatMap thrC:=rfl
  have hn:=h.thrLen
  have hlen:=ok.len
  have z9:szC 0 = 9:=rfl
  rw [hc0,z9,hn] at hlen
  have eA1:A1 = (sl 0).A:=by
    rw [e1]; split
    · rfl
    · cases (sl 0).A with
      | none=>rfl
      | some a=>rw [Option.map_some,add_nil]
  have hcells:((s.threads.eraseIdx i).zip (st.eraseIdx i)).flatMap thrC = ((s.threads.zip st).flatMap thrC).take (i * 9) ++ ((s.threads.zip st).flatMap thrC).drop ((i + 1) * 9):=by
    rw [zip_erase _ _ _ h.stl.symm hi,List.flatMap_append,flat_take (cells:=thrC) (sz:=9) (fun _=>rfl),flat_drop (cells:=thrC) (sz:=9) (fun _=>rfl)]
  rw [hcells] at k
  rcases ok.at_ with ⟨a1,a2,a3⟩ | ⟨b,off,cur,T,a1,a2,a3,a4⟩
  · omega
  · rw [z9] at a3
    have hcap:=ok.cap
    have hsrc:At H ⟨b,off,none⟩ ((s.threads.zip st).flatMap thrC):=⟨⟨cur,T,(0,0),a2,rfl,fun j v hv=>a4 j v (by rw [hc0]; exact hv)⟩⟩
    have hB:Src H A2 (((s.threads.zip st).flatMap thrC).drop ((i + 1) * 9)):=by
      by_cases hl:(sl 0).c = i + 1
      · left
        rw [List.drop_eq_nil_iff,hlen]; omega
      · right
        rw [e2,if_neg hl,a1]
        exact ⟨_,rfl,at_drop _ hsrc⟩
    have hsz2:(i * 9) ≤ s.threads.length * 9:=Nat.mul_le_mul_right _ (by omega)
    have hnl:(((s.threads.zip st).flatMap thrC).drop ((i + 1) * 9)).length = ((sl 0).n - (i + 1)) * 9:=by rw [List.length_drop,hlen,hn,Nat.sub_mul]
    have htl:(((s.threads.zip st).flatMap thrC).take (i * 9)).length = i * 9:=by rw [List.length_take,hlen]; omega
    refine ⟨⟨_,hB,hnl,⟨⟨((s.threads.zip st).flatMap thrC).take (i * 9),?_,by rw [htl]; rfl,hnl,?_,?_,by omega,fun hcap2=>.inl ⟨?_,?_⟩,fun hcap2 b' cap rest hbn hle hr=>?_⟩⟩⟩⟩
    · rw [eA1,a1]; exact .inr ⟨_,rfl,at_take _ hsrc⟩
    · have : ∀ (l : List (Thr × SlH)), allOne (l.flatMap thrC) = true := fun l => by
        induction l with
        | nil=>rfl
        | cons x l ih=>rw [List.flatMap_cons]; exact ih
      rw [← flat_drop (cells:=thrC) (sz:=9) (fun _=>rfl)]
      exact this _
    · exact Nat.le_trans (Nat.mul_le_mul_right 88 (show i - 0 + ((sl 0).n - (i + 1)) ≤ 1000 by omega)) (by decide)
    · rw [List.drop_eq_nil_iff,hlen]; omega
    · have hz:(sl 0).n - (i + 1) = 0:=by omega
      have hd:((s.threads.zip st).flatMap thrC).drop ((i + 1) * 9) = []:=by rw [List.drop_eq_nil_iff,hlen]; omega
      refine k _ _ _ _ h ⟨⟨?_,by omega,.inr ⟨b,off,cur,T,by rw [eA1]; exact a1,a2,?_,fun j v hv=>?_⟩⟩,fun b' hb'=>?_⟩
      · rw [hd,List.append_nil,htl,z9]; show i * 9 = (i - 0 + ((sl 0).n - (i + 1))) * 9; rw [hz]; rfl
      · rw [z9]; show off + (i - 0) * 9 ≤ cur.size
        have:i * 9 ≤ (sl 0).c * 9:=Nat.mul_le_mul_right _ (by omega)
        show off + i * 9 ≤ cur.size
        omega
      · rw [hd,List.append_nil,List.getElem?_take] at hv
        split at hv
        · exact a4 j v (by rw [hc0]; exact hv)
        · cases hv
      · refine h.free_own (by decide) ?_
        unfold SlH.blk at hb' ⊢
        simp only at hb'
        rw [eA1] at hb'; exact hb'
    · refine k _ _ _ _ (h.grow (Sub.upd_new hbn)) ⟨⟨?_,hle,.inr ⟨b',0,_,153,rfl,Heap.upd_same,?_,fun j v hv=>?_⟩⟩,fun b2 hb2=>?_⟩
      · rw [List.length_append,htl,hnl,z9]; show i * 9 + ((sl 0).n - (i + 1)) * 9 = (i - 0 + ((sl 0).n - (i + 1))) * 9; rw [Nat.add_mul]; rfl
      · rw [z9]
        simp only [List.size_toArray,List.length_append,htl,hnl,hr,Nat.zero_add]
        rw [← Nat.add_mul,← Nat.add_mul]
        have:i + ((sl 0).n - (i + 1)) + (cap - (i - 0 + ((sl 0).n - (i + 1)))) = cap:=by omega
        rw [this]; exact Nat.le_refl _
      · have hj:=get_lt hv
        simp only [List.getElem?_toArray,Nat.zero_add]
        rw [List.getElem?_append_left hj]; exact hv
      · unfold SlH.blk at hb2; simp only at hb2; cases hb2
        have fr:=h.free_new (c:=0) hbn
        exact ⟨fr.f,fr.m,fr.sl,fr.x⟩
theorem VMX.adopt (h : VMX G H m pf po sl F ex st s) {b : Nat} {o : Obj} (hb : H b = some o) (hF : F b = none) (hm : b ≠ m) (hs : ∀ c, c < 14 → (sl c).blk ≠ some b) (hx : ∀ xb : Nat, ex = .func (.func 112) #[] #[.pointer (some ⟨xb, 0, none⟩)] → xb ≠ b) :
    VMX (G.upd b o) H m pf po sl (F.upd b o) ex st s:=by
  have d:=dif_ext (G:=G) hF o
  refine ⟨⟨fun i x hi=>?_⟩,⟨fun i x hi=>?_⟩,by rw [Heap.upd_other (Ne.symm hm)]; exact h.fm,h.hm,fun c hc b' hb'=>⟨by rw [Heap.upd_other (fun e=>hs c hc (by rw [← e]; exact hb'))]; exact (h.own c hc b' hb').1,(h.own c hc b' hb').2⟩,h.inj,h.ok,h.stl,fun j t q h1 h2=>(h.stk j t q h1 h2).sub d,h.vars,h.attrs,h.sigs,h.exp.none_,fun l hl=>?_⟩
  · by_cases e:i = b
    · subst e; rw [Heap.upd_same] at hi ⊢; exact hi
    · rw [Heap.upd_other e] at hi ⊢; exact h.gf.sub i x hi
  · by_cases e:i = b
    · subst e; rw [Heap.upd_same] at hi; cases hi; exact hb
    · rw [Heap.upd_other e] at hi; exact h.fh.sub i x hi
  · obtain ⟨xb,A,n,c,T,q1,q2,q3,q4,q5,q6,q7⟩:=h.exp.some_ l hl
    exact ⟨xb,A,n,c,T,q1,q2,by rw [Heap.upd_other (hx xb q1)]; exact q3,q4,q5,q6,src_sub q7 d⟩
end
end Go.Proofs.YtkofafcgcnciaaaGreatDoor
set_option maxRecDepth 100000
namespace Go.Proofs.YtkofafcgcnciaaaGreatDoor
open Go.Ax
theorem FStep.fuel_le {p:Prg} {b:Bool} {s s':VS} (q:FStep p b s s'):s'.fuel ≤ s.fuel:=by
  cases q with
  | emit e ho hc=>rw [(keepE s e).fuel]; exact Int.le_refl _
  | fails c ho=>rw [(keepF s c).fuel]; exact Int.le_refl _
  | done i v k=>rcases setDone_cases s i v k with e | ⟨f,_,_,_,e⟩ <;> rw [e] <;> exact Int.le_refl _
  | mark i=>rcases mark_cases s i with e | ⟨c,hc,e⟩ <;> rw [e] <;> exact Int.le_refl _
  | fuel n hb h=>exact h.2
  | _=>exact Int.le_refl _
theorem FSteps.fuel_le {p:Prg} {b:Bool} {s s':VS} (q:FSteps p b s s'):s'.fuel ≤ s.fuel:=by
  induction q with
  | refl=>exact Int.le_refl _
  | tail _ k ih=>exact Int.le_trans k.fuel_le ih
def VS.left (s:VS):Nat:=s.fuel.toNat + if s.over = true then 0 else 1
theorem stepsG_left {p:Prg} (ok:Okp p) (i:Nat):∀ (n:Nat) (s:VS),s.fuel = n → Inv p s → Room s → i < s.threads.length → s.over = false → (VS.stepsG p i n s).2.fuel < s.fuel ∨ (VS.stepsG p i n s).2.over = true
  | 0,s,hf,iv,rm,hi,ho=>by
    rw [stepsG_eq,if_neg (by rw [ho]; simp)]
    exact .inr (overF s (-1))
  | n + 1,s,hf,iv,rm,hi,ho=>by
    left
    rw [stepsG_eq,if_neg (by rw [ho]; simp)]
    obtain ⟨st,iv1,rm1,sk⟩:=fuel_step iv rm hf
    obtain ⟨t,ht⟩:=get_some hi
    have ht1:(s.fuelAt n).threads[i]? = some t:=ht
    have fl:=instr_fuel ok ht1 iv1 rm1 ho sk
    have fl:((s.fuelAt n).instruction p i).2.fuel = n:=fl
    have iv2:=(instr_steps ok ht1 iv1 rm1 ho sk).inv iv1 rm1
    have tl:=instr_threads ok ht1 iv1 rm1 ho sk
    have tl:s.threads.length ≤ ((s.fuelAt n).instruction p i).2.threads.length:=tl
    simp only
    split
    · omega
    · have:=(stepsG_steps ok i n _ fl iv2.1 iv2.2 (by omega)).1.fuel_le
      omega
theorem steps_left {p:Prg} (ok:Okp p) {i:Nat} {s:VS} (iv:Inv p s) (rm:Room s) (hi:i < s.threads.length) (ho:s.over = false):(s.steps p i).2.left < s.left:=by
  have hf:=iv.fuel
  have st:=steps_steps ok iv rm hi
  have h1:=st.1.fuel_le
  have hf2:=(st.1.inv iv rm).1.fuel
  have h2:(s.steps p i).2.fuel < s.fuel ∨ (s.steps p i).2.over = true:=stepsG_left ok i s.fuel.toNat s (by omega) iv rm hi ho
  have e1:s.left = s.fuel.toNat + 1:=by unfold VS.left; rw [ho]; rfl
  rw [e1]
  unfold VS.left
  rcases h2 with h | h
  · split <;> omega
  · rw [if_pos h]; omega
def passM (s:VS) (k:Nat) (went:Bool):Nat:=40 * s.left + (if went = true then 20 else 0) + (17 - k)
def leftAt (m:Nat) (H:Heap):Nat:=fuelIn m H + match H m with
  | some (.cells c _ _)=>(match c[27]? with | some (Value.bool true)=>0 | _=>1)
  | _=>0
section
variable {p:Prg} {G H:Heap} {m:Nat} {pf po:SlH} {sl:Nat → SlH} {F:Heap} {ex:Value} {st:List SlH} {s:VS}
theorem VMX.leftAt (h:VMX G H m pf po sl F ex st s):Go.Proofs.YtkofafcgcnciaaaGreatDoor.leftAt m H = s.left:=by
  have e:Go.Proofs.YtkofafcgcnciaaaGreatDoor.leftAt m H = s.fuel.toNat + (match some (Value.bool s.over) with | some (Value.bool true)=>0 | _=>1):=by
    unfold Go.Proofs.YtkofafcgcnciaaaGreatDoor.leftAt; rw [h.fuelIn,h.hm]; rfl
  rw [e]; unfold VS.left
  cases s.over <;> rfl
structure RAdm (p:Prg) (G:Heap) (m:Nat) (pf po:SlH) (ex:Value) (ups:List Ev) (s1:VS) (x:Int) (H1:Heap):Prop where
  out:∃ (k:Nat) (s:VS),x = k ∧ k ≤ ups.length ∧ VMP p G H1 m pf po ex s ∧ Inv p s ∧ Room s ∧ admitAll p (ups.drop k) s = admitAll p ups s1
structure RPass (p:Prg) (G:Heap) (m:Nat) (pf po:SlH) (ex:Value) (tgt:VS) (H1:Heap):Prop where
  out:∃ (g:Nat) (s:VS),VMP p G H1 m pf po ex s ∧ Inv p s ∧ Room s ∧ passG p g s 0 false = tgt ∧ passM s 0 false < g
structure RIn (p:Prg) (G:Heap) (m:Nat) (pf po:SlH) (ex:Value) (tgt:VS) (H2:Heap) (went:Bool) (x:Int) (H1:Heap):Prop where
  out:∃ (g k:Nat) (s:VS),x = k ∧ k ≤ s.threads.length ∧ VMP p G H1 m pf po ex s ∧ Inv p s ∧ Room s ∧ passG p g s k went = tgt ∧ passM s k went < g ∧ s.left + (if went = true then 1 else 0) ≤ leftAt m H2
theorem pass_some {p : Prg} {g : Nat} {s : VS} {i : Nat} {went : Bool} {t : Thr} (ht : s.threads[i]? = some t) : passG p (g + 1) s i went = if s.over = true then s else
        if (!s.ready t) = true then passG p g s (i + 1) went else
        if ((s.steps p i).1 == 2 && !(s.steps p i).2.over) = true then passG p g { (s.steps p i).2 with threads:=(s.steps p i).2.threads.eraseIdx i } i true else passG p g (s.steps p i).2 (i + 1) true:=by
  rw [passG,ht]
theorem pass_none {p:Prg} {g:Nat} {s:VS} {i:Nat} {went:Bool} (ht:s.threads[i]? = none):passG p (g + 1) s i went = if (!went) = true then s else passG p g s 0 false:=by
  rw [passG,ht]
theorem loops {A : Option Addr} {n : Nat} {ups : List Ev} (okp : Okp p) (h : VMP p G H m pf po ex s) (iv : Inv p s) (rm : Room s) (hs : Src G A (ups.flatMap Ev.cells)) (hn : n = ups.length) (hid : ∀ u ∈ ups, 0 ≤ u.id) (hlen : ups.length ≤ 1000) {K : Value → Heap → Prop}
    (k:∀ H',VMP p G H' m pf po ex (passG p passGas (admitAll p ups s) 0 false) → K (.tuple #[]) H'):LoopsP (some ⟨m,0,none⟩) A n H K:=by
  subst hn
  refine ⟨RAdm p G m pf po ex ups s,fun x _=>((ups.length:Int) - x).toNat,⟨0,s,rfl,Nat.zero_le _,h,iv,rm,rfl⟩,fun x H1 r=>?_⟩
  obtain ⟨j,s1,rfl,hj,h1,iv1,rm1,he1⟩:=r.out
  obtain ⟨sl1,F1,st1,v1,pr1⟩:=h1.out
  have hw1:IntKind.i64.wrap ((j:Int) + 1) = ((j + 1:Nat):Int):=by rw [wrapi (by omega) (by omega)]; rfl
  rw [hw1]
  refine ⟨fun hlt=>?_,fun hge=>?_⟩
  · have hlt:(j:Int) < (ups.length:Int):=of_decide_eq_true hlt
    obtain ⟨e,he⟩:=get_some (l:=ups) (i:=j) (by omega)
    obtain ⟨a,ha,hat⟩:=src_elem (cells:=Ev.cells) (sz:=9) (fun _=>rfl) (by decide) (src_sub hs (v1.gf.trans v1.fh)) j e he
    have hdrop:ups.drop j = e :: ups.drop (j + 1):=(List.drop_eq_getElem_cons (get_lt he)).trans (by rw [List.getElem?_eq_getElem (get_lt he)] at he; injection he with he; rw [he])
    have dec:((ups.length:Int) - ((j + 1:Nat):Int)).toNat < ((ups.length:Int) - (j:Int)).toNat:=by omega
    rw [hdrop,admitAll] at he1
    refine ⟨a,⟨ha,by omega,hlt⟩,_,_,_,_,_,_,_,_,_,hat,_,rfl,_,v1.c27,fun ho=>?_,fun ho=>⟨⟨j + 1,s1,rfl,by omega,h1,iv1,rm1,?_⟩,dec⟩⟩
    · rw [if_pos ho] at he1
      have ho:s1.over = false:=by simpa using ho
      have iv2:=(admits_steps okp iv1 rm1 ho (hid e (List.mem_of_getElem? he))).inv iv1 rm1
      exact (t116 okp v1 pr1 iv1 rm1 e).mono fun v H2 ⟨hv,h2⟩=>⟨hv,⟨j + 1,_,rfl,by omega,h2,iv2.1,iv2.2,he1⟩,dec⟩
    · rw [if_neg (by rw [ho]; simp)] at he1; exact he1
  · have hge:¬ (j:Int) < (ups.length:Int):=of_decide_eq_false hge
    have hd:ups.drop j = []:=List.drop_eq_nil_of_le (by omega)
    rw [hd] at he1
    have he1:s1 = admitAll p ups s:=he1
    rw [← he1] at k
    have hf1:=iv1.fuel
    refine ⟨RPass p G m pf po ex (passG p passGas s1 0 false),fun H'=>leftAt m H',⟨passGas,s1,h1,iv1,rm1,rfl,?_⟩,fun H2 r2=>?_⟩
    · have hg:passGas = 100000:=rfl
      have hl1:s1.left ≤ 1001:=by unfold VS.left; split <;> omega
      rw [hg]
      show 40 * s1.left + 0 + 17 < 100000
      omega
    obtain ⟨g0,s2,h2,iv2,rm2,he2,hm2⟩:=r2.out
    have hl2:s2.left = leftAt m H2:=by obtain ⟨_,_,_,v2,_⟩:=h2.out; exact v2.leftAt.symm
    refine ⟨RIn p G m pf po ex (passG p passGas s1 0 false) H2,fun went x H'=>40 * leftAt m H' + (if went = true then 20 else 0) + (17 - x.toNat),⟨g0,0,s2,rfl,Nat.zero_le _,h2,iv2,rm2,he2,hm2,by rw [hl2]; simp⟩,fun went x H3 r3=>?_⟩
    obtain ⟨g,i,s3,rfl,hi,h3,iv3,rm3,he3,hm3,hw3⟩:=r3.out
    obtain ⟨sl3,F3,st3,v3,pr3⟩:=h3.out
    obtain ⟨g,rfl⟩:∃ g',g = g' + 1:=⟨g - 1,by omega⟩
    have h16:=iv3.t16
    have hn3:=v3.thrLen
    have hwi:IntKind.i64.wrap ((i:Int) + 1) = ((i + 1:Nat):Int):=by rw [wrapi (by omega) (by omega)]; rfl
    have hwd:IntKind.i64.wrap (IntKind.i64.wrap ((i:Int) - 1) + 1) = (i:Int):=by rw [wrapi (x:=(i:Int) - 1) (by omega) (by omega),wrapi (by omega) (by omega)]; omega
    rw [hwi,hwd]
    refine ⟨_,rfl,_,_,_,v3.c23,fun hlt=>?_,fun hge=>?_⟩
    · have hlt:(i:Int) < ((sl3 0).n:Int):=of_decide_eq_true hlt
      obtain ⟨t,ht⟩:=get_some (l:=s3.threads) (i:=i) (by omega)
      obtain ⟨a,q,ha,hq,-,hat⟩:=v3.thr ht
      have hT:=iv3.thr t (List.mem_of_getElem? ht)
      rw [pass_some ht] at he3
      refine ⟨_,rfl,_,v3.c27,fun ho=>?_,fun ho=>⟨_,rfl,_,_,_,v3.c23,a,⟨ha,by omega,by omega⟩,_,_,_,_,_,_,_,_,_,_,_,hat,_,t117 v3 t q hT.waits hT.signal,fun e=>?_,fun e=>?_⟩⟩
      · rw [if_pos ho] at he3
        rw [← he3] at k
        exact k H3 h3
      · rw [if_neg (by rw [ho]; simp),if_pos e] at he3
        refine ⟨⟨g,i + 1,s3,rfl,by omega,h3,iv3,rm3,he3,?_,hw3⟩,?_⟩
        · unfold passM at hm3 ⊢; omega
        · show 40 * leftAt m H3 + _ + (17 - (i + 1)) < 40 * leftAt m H3 + _ + (17 - i); omega
      · rw [if_neg (by rw [ho]; simp),if_neg (by rw [e]; simp)] at he3
        have hi':i < s3.threads.length:=by omega
        have ss:=steps_steps okp iv3 rm3 hi'
        have iv4:=ss.1.inv iv3 rm3
        have hl4:=steps_left okp iv3 rm3 hi' ho
        have hlen4:=ss.2.1
        have h164:=iv4.1.t16
        refine (t118 okp h3 iv3 rm3 hi').mono fun v H4 ⟨hv,h4⟩=>?_
        obtain ⟨sl4,F4,st4,v4,pr4⟩:=h4.out
        have hli3:=v3.leftAt
        have hli4:=v4.leftAt
        have hdec:40 * leftAt m H4 + 20 + 17 < 40 * leftAt m H3 + (if went = true then 20 else 0) + (17 - i):=by
          rw [hli3,hli4]; omega
        have hmm:∀ j,passM (s3.steps p i).2 j true + 1 ≤ g:=fun j=>by
          unfold passM at hm3 ⊢
          rw [if_pos rfl]
          omega
        have hw4:(s3.steps p i).2.left + (if true = true then 1 else 0) ≤ leftAt m H2:=by
          rw [if_pos rfl]
          have:s3.left ≤ leftAt m H2:=Nat.le_trans (Nat.le_add_right _ _) hw3
          omega
        refine ⟨_,hv,_,fun _=>rfl,_,fun _=>v4.c27,fun e2=>?_,fun e2=>⟨⟨g,i + 1,_,rfl,by omega,h4,iv4.1,iv4.2,?_,hmm _,hw4⟩,?_⟩⟩
        · rw [if_pos e2] at he3
          have hn4:=v4.thrLen
          have hc4:=(v4.ok 0 (by decide)).cap
          have he4:=(FStep.erase (p:=p) (b:=true) (s3.steps p i).2 i rfl).inv iv4.1 iv4.2
          have hel:i ≤ ((s3.steps p i).2.threads.eraseIdx i).length:=by
            have:=List.length_eraseIdx_of_lt (l:=(s3.steps p i).2.threads) (i:=i) hlen4
            omega
          have hwt:((i + 1:Nat):Int).toNat = i + 1:=by omega
          have hti:(i:Int).toNat = i:=by omega
          have key : appS 153 9 88 H4 (if (i : Int).toNat = 0 then (sl4 0).A else Option.map (fun x : Addr => x.add (0 * 9)) (sl4 0).A) (i - 0) (i - 0) (if (sl4 0).c = i + 1 then (sl4 0).A else Option.map (fun x : Addr => x.add ((i + 1) * 9)) (sl4 0).A) ((sl4 0).n - (i + 1)) fun A' n' c' H5 => ∃ a20 : Addr, some (⟨m, 0, none⟩ : Addr) = some a20 ∧ Wr H5 ((a20.add 2).add 21) (.slice A' n' c') fun H6 =>
              RIn p G m pf po ex (passG p passGas s1 0 false) H2 true (i:Int) H6 ∧ 40 * leftAt m H6 + (if true = true then 20 else 0) + (17 - (i:Int).toNat) < 40 * leftAt m H3 + (if went = true then 20 else 0) + (17 - (i:Int).toNat):=by
            refine v4.erase hlen4 (by omega) rfl rfl fun A' n' c' H5 v5 rd=>⟨_,rfl,?_⟩
            have hs6:∀ k,setH sl4 0 ⟨A',n',c'⟩ (6 + k) = sl4 (6 + k):=fun k=>if_neg (by omega)
            refine v5.wrSl (c:=0) (by decide) rd (k:=23) (by decide) { (s3.steps p i).2 with threads:=(s3.steps p i).2.threads.eraseIdx i } (st4.eraseIdx i) rfl rfl (fun c2 hc2 hne=>?_) rfl v5.vars v5.attrs v5.sigs ?_ (fun j u z hu hz=>?_) fun H6 v6=>⟨⟨g,i,_,rfl,hel,⟨_,F4,_,v6,pr4⟩,he4.1,he4.2,he3,hmm i,hw4⟩,?_⟩
            · simp only [contC,hs6,if_neg hne]
            · show (st4.eraseIdx i).length = ((s3.steps p i).2.threads.eraseIdx i).length
              rw [List.length_eraseIdx_of_lt (by rw [v5.stl]; exact hlen4),List.length_eraseIdx_of_lt hlen4,v5.stl]
            · have hu:((s3.steps p i).2.threads.eraseIdx i)[j]? = some u:=hu
              rw [List.getElem?_eraseIdx] at hu hz
              split at hu
              · rename_i hj; rw [if_pos hj] at hz; exact v5.stk _ u z hu hz
              · rename_i hj; rw [if_neg hj] at hz; exact v5.stk _ u z hu hz
            · have hli6:leftAt m H6 = (s3.steps p i).2.left:=v6.leftAt
              rw [hli6]
              rw [hli4] at hdec
              rw [if_pos rfl]
              omega
          rw [hwt]
          exact ⟨_,rfl,_,rfl,⟨_,_,_,v4.c23,⟨by omega,by omega,by omega,by omega⟩,_,_,_,v4.c23,⟨by omega,by omega⟩,key⟩,_,_,_,v4.c23,⟨by omega,by omega⟩,_,_,_,v4.c23,⟨by omega,by omega,by omega,by omega⟩,key⟩
        · rw [if_neg (by rw [e2]; simp)] at he3; exact he3
        · show 40 * leftAt m H4 + (if true = true then 20 else 0) + (17 - (i + 1)) < 40 * leftAt m H3 + _ + (17 - i)
          rw [if_pos rfl]; omega
    · have hge:¬ (i:Int) < ((sl3 0).n:Int):=of_decide_eq_false hge
      have ht:s3.threads[i]? = none:=List.getElem?_eq_none (by omega)
      rw [pass_none ht] at he3
      refine ⟨fun e=>?_,fun e=>?_⟩
      · rw [if_pos e] at he3
        rw [← he3] at k
        exact k H3 h3
      · rw [if_neg (by rw [e]; simp)] at he3
        have e:went = true:=by simpa using e
        subst e
        have hli3:=v3.leftAt
        rw [if_pos rfl] at hw3
        refine ⟨⟨g,s3,h3,iv3,rm3,he3,?_⟩,?_⟩
        · unfold passM at hm3 ⊢
          rw [if_pos rfl] at hm3
          rw [if_neg (by simp)]
          omega
        · show leftAt m H3 < leftAt m H2
          omega
end
end Go.Proofs.YtkofafcgcnciaaaGreatDoor
set_option maxRecDepth 100000
namespace Go.Proofs.YtkofafcgcnciaaaGreatDoor
open Go.Ax
structure Tasks (s:VS):Prop where
  ho:s.over = false
  c:s.count ≤ 255
  live:s.expect = none → s.count ≤ 254
  rep:∀ l,s.expect = some l → s.count + 1 + l.length ≤ 256
theorem begin_inv {p:Prg} {s:VS} (iv:Inv p s) (tk:Tasks s) (now:Int):Inv p (s.begin_ now) ∧ Room (s.begin_ now):=by
  have hm:=iv.many
  have hf:=iv.fuel
  have hc:=iv.c0
  have h1:=tk.c
  refine ⟨⟨iv.scp,iv.scn,iv.sc32,iv.t16,fun t ht=>(iv.thr t ht).mono (Nat.le_refl _) (Nat.le_refl _),iv.futs,⟨by show (0:Int) ≤ 1000; decide,by show (1000:Int) ≤ 1000; decide⟩,?_,⟨by show 0 ≤ s.count + 1; omega,by show s.count + 1 ≤ 256; omega⟩,tk.rep,?_,fun l hl=>?_,iv.sg8,?_,fun u hu=>(by cases hu),iv.v16,iv.a4⟩,fun hx _=>?_⟩
  · show (s.futures.length:Int) + 1000 ≤ 1000 * (s.count + 1); omega
  · show ((1:Nat):Int) ≤ s.count + 1; omega
  · have:=iv.sig l hl; show (l.length:Int) ≤ s.count + 1; omega
  · show ((0:Nat):Int) ≤ s.count + 1; omega
  · have:=tk.live hx; show s.count + 1 ≤ 255; omega
theorem admitAll_steps {p:Prg} (ok:Okp p):∀ (l:List Ev) (s:VS),Inv p s → Room s → (∀ u ∈ l,0 ≤ u.id) → FSteps p true s (admitAll p l s)
  | [],s,_,_,_=>.refl s
  | e :: l,s,iv,rm,h=>by
    rw [admitAll]
    split
    · rename_i ho
      have st:=admits_steps ok iv rm (show s.over = false by simpa using ho) (h e (List.mem_cons_self ..))
      have iv1:=st.inv iv rm
      exact st.trans (admitAll_steps ok l _ iv1.1 iv1.2 fun u hu=>h u (List.mem_cons_of_mem _ hu))
    · exact admitAll_steps ok l s iv rm fun u hu=>h u (List.mem_cons_of_mem _ hu)
theorem pass_steps {p:Prg} (ok:Okp p):∀ (g:Nat) (s:VS) (i:Nat) (went:Bool),Inv p s → Room s → FSteps p true s (passG p g s i went)
  | 0,s,_,_,_,_=>.refl s
  | g + 1,s,i,went,iv,rm=>by
    cases ht:s.threads[i]? with
    | none =>
      rw [pass_none ht]
      split
      · exact .refl s
      · exact pass_steps ok g s 0 false iv rm
    | some t =>
      rw [pass_some ht]
      split
      · exact .refl s
      · rename_i ho
        split
        · exact pass_steps ok g s (i + 1) went iv rm
        · have ss:=steps_steps ok iv rm (get_lt ht)
          have iv1:=ss.1.inv iv rm
          split
          · have st:=ss.1.tail (.erase _ i rfl)
            have iv2:=st.inv iv rm
            exact st.trans (pass_steps ok g _ i true iv2.1 iv2.2)
          · exact ss.1.trans (pass_steps ok g _ (i + 1) true iv1.1 iv1.2)
def VS.opened (s:VS) (now:Int):VS:=if s.cancel = true then (s.begin_ now).cancels 0 else s.begin_ now
theorem opened_steps {p:Prg} {s:VS} (ho:s.over = false) (now:Int):FSteps p true (s.begin_ now) (s.opened now):=by
  unfold VS.opened; split
  · exact cancels_steps 0 ho
  · exact .refl _
theorem task_eq (s:VS) (p:Prg) (now:Int):s.task p now = passG p passGas (admitAll p s.updates (s.opened now)) 0 false:=rfl
theorem task_steps {p:Prg} (ok:Okp p) {s:VS} (iv:Inv p s) (tk:Tasks s) (now:Int):FSteps p true (s.begin_ now) (s.task p now):=by
  have h0:=begin_inv iv tk now
  have s1:=opened_steps (p:=p) tk.ho now
  have h1:=s1.inv h0.1 h0.2
  have s2:=admitAll_steps ok s.updates _ h1.1 h1.2 iv.updI
  have h2:=s2.inv h1.1 h1.2
  exact (s1.trans s2).trans (pass_steps ok passGas _ 0 false h2.1 h2.2)
section
variable {p:Prg} {G H:Heap} {m:Nat} {pf po:SlH} {sl:Nat → SlH} {F:Heap} {ex:Value} {st:List SlH} {s:VS}
theorem VMX.c28 (h:VMX G H m pf po sl F ex st s):At H ((⟨m,0,none⟩:Addr).add 28) [(sl 4).v]:=h.cell rfl
theorem VMX.c29 (h:VMX G H m pf po sl F ex st s):At H ((⟨m,0,none⟩:Addr).add 29) [.bool s.cancel]:=h.cell rfl
theorem VMX.updLen (h:VMX G H m pf po sl F ex st s):(sl 4).n = s.updates.length:=by
  have:=(h.ok 4 (by decide)).len
  have e:contC sl st s 4 = s.updates.flatMap Ev.cells:=rfl
  rw [e,flat_size (cells:=Ev.cells) (sz:=9) (fun _=>rfl)] at this
  have z:szC 4 = 9:=rfl
  rw [z] at this; omega
theorem VMX.letUpd (h : VMX G H m pf po sl F ex st s) (pr : HasP (dif F G) pf.A pf.n po.A po.n p) {Q : Heap → Prop} (q : ∀ G' F' H', VMX G' H' m pf po (setH sl 4 ⟨none, 0, 0⟩) F' ex st { s with updates := [] } → Sub G G' → HasP (dif F' G') pf.A pf.n po.A po.n p → Src G' (sl 4).A (s.updates.flatMap Ev.cells) → Q H') :
    Wr H ((⟨m,0,none⟩:Addr).add 28) (.slice none 0 0) Q:=by
  have hs6:∀ k,setH sl 4 ⟨none,0,0⟩ (6 + k) = sl (6 + k):=fun k=>if_neg (by omega)
  have rd:Ready F H m sl ex 4 ⟨none,0,0⟩ []:=⟨⟨by simp,Nat.le_refl _,.inl ⟨rfl,rfl,rfl⟩⟩,fun b hb=>by cases hb⟩
  have v:=h.setSl (c:=4) (by decide) rd { s with updates:=[] } st rfl (fun c2 hc2 hne=>by simp only [contC,hs6,if_neg hne]) rfl h.vars h.attrs h.sigs h.stl h.stk
  refine wr_cells h.hm (k:=28) (by rw [mCells_len]; decide) ?_
  have em:(mCells pf po sl ex s).set 28 (.slice none 0 0) = mCells pf po (setH sl 4 ⟨none,0,0⟩) ex { s with updates:=[] }:=rfl
  rw [em]
  have ok:=h.ok 4 (by decide)
  have e4:contC sl st s 4 = s.updates.flatMap Ev.cells:=rfl
  rw [e4] at ok
  rcases ok.at_ with ⟨a1,a2,a3⟩ | ⟨b,off,cur,T,a1,a2,a3,a4⟩
  · refine q G F _ v (Sub.refl _) pr (.inl ?_)
    have:=ok.len
    rw [a2,Nat.zero_mul] at this
    exact List.length_eq_zero_iff.1 this
  · have hblk:(sl 4).blk = some b:=by unfold SlH.blk; rw [a1]; rfl
    have fr:=h.free_own (by decide:4 < 14) hblk
    have hb:(H.upd m (.cells ⟨mCells pf po (setH sl 4 ⟨none,0,0⟩) ex { s with updates:=[] }⟩ 149 (0,0))) b = some (.cells cur T (0,0)):=by rw [Heap.upd_other fr.m]; exact a2
    have hG:=none_below h.gf fr.f
    refine q _ _ _ (v.adopt hb fr.f fr.m (fun c hc hcb=>?_) fr.x) (Sub.upd_new hG) (pr.sub (dif_ext fr.f _)) (.inr ⟨_,a1,⟨⟨cur,T,(0,0),Heap.upd_same,rfl,a4⟩⟩⟩)
    by_cases h4:c = 4
    · subst h4
      have:(setH sl 4 ⟨none,0,0⟩ 4).blk = none:=rfl
      rw [this] at hcb; cases hcb
    · have:setH sl 4 ⟨none,0,0⟩ c = sl c:=if_neg h4
      rw [this] at hcb
      exact h4 (fr.sl c hc hcb)
theorem t68 (okp : Okp p) (h : VMX G H m pf po sl F ex st s) (pr : HasP (dif F G) pf.A pf.n po.A po.n p) (iv : Inv p s) (tk : Tasks s) (now : Int) :
    Tr Tryz.prog 68 #[.pointer (some ⟨m,0,none⟩),.int .i64 now] H fun v H'=>v = .tuple #[] ∧ VMP p G H' m pf po ex (s.task p now):=by
  have hc:=iv.c0
  have hcc:=tk.c
  have hup:=iv.upd
  have hw:IntKind.i64.wrap (s.count + 1) = s.count + 1:=wrapi (by omega) (by omega)
  have h0:=begin_inv iv tk now
  apply v68; unfold F68
  refine ⟨_,rfl,?_⟩
  refine h.wr (k:=31) (by decide) (s.fuelAt 1000) rfl rfl rfl rfl rfl rfl rfl rfl h.vars h.attrs fun H1 v1=>?_
  refine ⟨_,rfl,_,rfl,⟨s.count,v1.c30,s.count,v1.c30,?_⟩,s.count,v1.c30,s.count,v1.c30,?_⟩
  all_goals
    rw [hw]
    intro b hb H2 e2
    have v2:=v1.grow (Sub.upd_new (o:=.cells ⟨Ev.cells ⟨s.count + 1,now,2,s.count,0,0,0,0,0⟩⟩ 47 (0,0)) hb)
    have fr:=v1.free_new (c:=5) hb
    have e2':H2 = H1.upd b (.cells ⟨Ev.cells ⟨s.count + 1,now,2,s.count,0,0,0,0,0⟩⟩ 47 (0,0)):=e2
    rw [← e2'] at v2
    have rd:Ready F H2 m sl ex 5 ⟨some ⟨b,0,none⟩,1,1⟩ (Ev.cells ⟨s.count + 1,now,2,s.count,0,0,0,0,0⟩) :=
      ⟨⟨rfl,Nat.le_refl _,.inr ⟨b,0,_,_,rfl,by rw [e2']; exact Heap.upd_same,Nat.le_refl _,fun j v hv=>by simpa using hv⟩⟩,fun b' hb'=>by
        have:b = b':=by unfold SlH.blk at hb'; simpa using hb'
        subst this
        exact ⟨fr.f,fr.m,fr.sl,fr.x⟩⟩
    have hs6:∀ k,setH sl 5 ⟨some ⟨b,0,none⟩,1,1⟩ (6 + k) = sl (6 + k):=fun k=>if_neg (by omega)
    refine ⟨_,rfl,?_⟩
    refine v2.wrSl (c:=5) (by decide) rd (k:=32) (by decide) { s with fuel:=1000,made:=[⟨s.count + 1,now,2,s.count,0,0,0,0,0⟩] } st rfl (List.append_nil _) (fun c2 hc2 hne=>by simp only [contC,hs6,if_neg hne]; rfl) rfl h.vars h.attrs h.sigs h.stl h.stk fun H3 v3=>?_
    refine ⟨_,rfl,?_⟩
    refine v3.wr (k:=22) (by decide) { s with fuel:=1000,made:=[⟨s.count + 1,now,2,s.count,0,0,0,0,0⟩],now:=now } rfl rfl rfl rfl rfl rfl rfl rfl h.vars h.attrs fun H4 v4=>?_
    refine ⟨_,rfl,s.count,v4.c30,_,rfl,?_⟩
    rw [hw]
    refine v4.wr (k:=30) (by decide) { s with fuel:=1000,made:=[⟨s.count + 1,now,2,s.count,0,0,0,0,0⟩],now:=now,count:=s.count + 1 } rfl rfl rfl rfl rfl rfl rfl rfl h.vars h.attrs fun H5 v5=>?_
    refine ⟨_,rfl,s.cancel,v5.c29,_,rfl,_,_,_,v5.c28,_,rfl,?_⟩
    have hul:(setH sl 5 ⟨some ⟨b,0,none⟩,1,1⟩ 4).n = s.updates.length:=v5.updLen
    refine v5.wr (k:=29) (by decide) { s with fuel:=1000,made:=[⟨s.count + 1,now,2,s.count,0,0,0,0,0⟩],now:=now,count:=s.count + 1,cancel:=false } rfl rfl rfl rfl rfl rfl rfl rfl h.vars h.attrs fun H6 v6=>?_
    refine ⟨_,rfl,?_⟩
    refine v6.letUpd pr fun G7 F7 H7 v7 sg pr7 hsrc=>?_
    have v7:VMX G7 H7 m pf po _ F7 ex st (s.begin_ now):=v7
    refine ⟨fun ec=>?_,fun ec=>?_⟩
    · have ho:s.opened now = (s.begin_ now).cancels 0:=by unfold VS.opened; rw [if_pos ec]
      have st1:=opened_steps (p:=p) tk.ho now
      have h1:=st1.inv h0.1 h0.2
      rw [ho] at h1
      have hsn:=iv.scn
      refine (t115 v7 h0.1 h0.2 tk.ho 0 ⟨Int.le_refl _,by show (0:Int) < s.scopes.length; omega⟩).mono fun v H8 ⟨hv,sl8,F8,k8,v8⟩=>⟨hv,?_⟩
      refine loops (ups:=s.updates) (K:=fun v H'=>v = .tuple #[] ∧ VMP p G H' m pf po ex (s.task p now)) okp ⟨sl8,F8,st,v8,pr7.sub (dif_more k8)⟩ h1.1 h1.2 hsrc hul iv.updI (by omega) fun H9 w=>⟨rfl,?_⟩
      rw [task_eq,ho]
      obtain ⟨sl9,F9,st9,v9,pr9⟩:=w.out
      exact ⟨sl9,F9,st9,v9.weaken sg,pr9.sub (dif_low sg)⟩
    · have ho:s.opened now = s.begin_ now:=by unfold VS.opened; rw [if_neg (by rw [ec]; simp)]
      refine loops (ups:=s.updates) (K:=fun v H'=>v = .tuple #[] ∧ VMP p G H' m pf po ex (s.task p now)) okp ⟨_,F7,st,v7,pr7⟩ h0.1 h0.2 hsrc hul iv.updI (by omega) fun H9 w=>⟨rfl,?_⟩
      rw [task_eq,ho]
      obtain ⟨sl9,F9,st9,v9,pr9⟩:=w.out
      exact ⟨sl9,F9,st9,v9.weaken sg,pr9.sub (dif_low sg)⟩
end
end Go.Proofs.YtkofafcgcnciaaaGreatDoor
set_option maxRecDepth 100000
namespace Go.Proofs.YtkofafcgcnciaaaGreatDoor
open Go.Ax
theorem valid_head {e:Ev} (h:validM e = true):1 ≤ e.id ∧ e.id ≤ 256 ∧ 0 ≤ e.time ∧ e.time ≤ 1099511627776 ∧ 0 ≤ fieldsM e.kind:=by
  unfold validM headOk at h
  rw [Bool.and_eq_true] at h
  have:=h.1
  simp at this
  omega
theorem valid_19 {e:Ev} (h:validM e = true) (k:e.kind = 19):0 ≤ e.a ∧ e.a < 8:=by
  unfold validM at h
  rw [Bool.and_eq_true] at h
  have h:=h.2
  rw [k] at h
  simp only [Bool.and_eq_true] at h
  have h0:=h.1.1.1.1.1
  have e1:numOk 19 0 e.a = (decide ((spanM 19 0).1 ≤ e.a) && decide (e.a ≤ (spanM 19 0).2)):=rfl
  rw [e1] at h0
  have e2:(spanM 19 0) = (0,7):=rfl
  rw [e2] at h0
  simp at h0
  omega
def VS.counted (s:VS):VS:={ s with count:=s.count + 1 }
theorem signal_eq {s:VS} {k:Nat} {l:List Int} (h:s.signals[k]? = some l) (v:Int):s.signal k v = { s with signals:=s.signals.set k (l ++ [v]) }:=by
  unfold VS.signal
  rw [Int.toNat_natCast]
  congr 1
  apply List.ext_getElem?
  intro i
  rw [List.getElem?_modify,List.getElem?_set]
  by_cases hi:k = i
  · subst hi
    have e:s.signals[k]'(get_lt h) = l:=by have:=h; rw [List.getElem?_eq_getElem (get_lt h)] at this; injection this
    simp [get_lt h,e]
  · simp [hi]
theorem bne_not (a b:Bool):(!a == b) = (a != b):=by cases a <;> cases b <;> rfl
structure Taken (s:VS) (e:Ev):Prop where
  valid:validM e = true
  id:e.id = s.count + 1
  out:outsideM e = true
  first:(e.kind == 1) = (s.count == 0)
theorem taken {s:VS} {e:Ev} (h:s.refuses e = false):Taken s e:=by
  unfold VS.refuses at h
  simp only [Bool.or_eq_false_iff,bne_eq_false_iff_eq] at h
  obtain ⟨⟨⟨h1,h2⟩,h3⟩,h4⟩:=h
  exact ⟨by simpa using h1,h2,by simpa using h3,h4⟩
theorem counted_inv {p:Prg} {s:VS} (iv:Inv p s) (hx:s.expect = none) (hc:s.count ≤ 255):Inv p s.counted:=by
  have hm:=iv.many
  have h0:=iv.c0
  refine ⟨iv.scp,iv.scn,iv.sc32,iv.t16,fun t ht=>(iv.thr t ht).mono (Nat.le_refl _) (Nat.le_refl _),iv.futs,iv.fuel,?_,⟨by show 0 ≤ s.count + 1; omega,by show s.count + 1 ≤ 256; omega⟩,fun l hl=>?_,?_,fun l hl=>?_,iv.sg8,?_,iv.updI,iv.v16,iv.a4⟩
  · show (s.futures.length:Int) + s.fuel ≤ 1000 * (s.count + 1); omega
  · rw [show s.counted.expect = s.expect from rfl,hx] at hl; cases hl
  · have:=iv.made; show (s.made.length:Int) ≤ s.count + 1; omega
  · have:=iv.sig l hl; show (l.length:Int) ≤ s.count + 1; omega
  · have:=iv.upd; show (s.updates.length:Int) ≤ s.count + 1; omega
theorem done_inv {p:Prg} {s:VS} (iv:Inv p s) (i v k:Int):Inv p (s.setDone i v k):=by
  rcases setDone_cases s i v k with e | ⟨f,hf,h0,hd,e⟩
  · rw [e]; exact iv
  · rw [e]
    have hl:(s.futures.set i.toNat (f.end_ v k)).length = s.futures.length:=List.length_set
    refine ⟨iv.scp,iv.scn,iv.sc32,iv.t16,fun t ht=>(iv.thr t ht).mono (Nat.le_refl _) (by show _ ≤ (s.futures.set _ _).length; rw [hl]; exact Nat.le_refl _),fun g hg=>?_,iv.fuel,by show ((s.futures.set i.toNat (f.end_ v k)).length:Int) + _ ≤ _; rw [hl]; exact iv.many,iv.c0,iv.c3,iv.made,iv.sig,iv.sg8,iv.upd,iv.updI,iv.v16,iv.a4⟩
    rcases mem_set hg with hg | hg
    · exact iv.futs g hg
    · subst hg; exact iv.futs f (List.mem_of_getElem? hf)
theorem over_inv {p:Prg} {s:VS} (iv:Inv p s):Inv p { s with over:=true }:=⟨iv.scp,iv.scn,iv.sc32,iv.t16,fun t ht=>(iv.thr t ht).mono (Nat.le_refl _) (Nat.le_refl _),iv.futs,iv.fuel,iv.many,iv.c0,iv.c3,iv.made,iv.sig,iv.sg8,iv.upd,iv.updI,iv.v16,iv.a4⟩
theorem apply_inv {p:Prg} (ok:Okp p) {s:VS} (iv:Inv p s) (hx:s.expect = none) {e:Ev}:Inv p (s.apply e).2:=by
  unfold VS.apply
  split
  · exact iv
  · split
    · exact iv
    · rename_i hr
      have tk:=taken (by simpa using hr)
      have hh:=valid_head tk.valid
      have hid:=tk.id
      have ic:=counted_inv iv hx (by omega)
      show Inv p (s.counted.applied e)
      unfold VS.applied
      split
      · obtain ⟨f,hf⟩:=get_some (l:=p.funcs) (i:=0) (by have:=ok.n1; omega)
        have hlen:=(ok.len hf).1
        have hn:=iv.scn
        refine ⟨ic.scp,ic.scn,ic.sc32,by show 1 ≤ 16; decide,fun t ht=>?_,ic.futs,ic.fuel,ic.many,ic.c0,ic.c3,ic.made,ic.sig,ic.sg8,ic.upd,ic.updI,ic.v16,ic.a4⟩
        have:t = Thr.new 0 0 e.b (-1) 0:=by simpa using ht
        subst this
        exact ⟨⟨f,hf,by show (0:Int) < f.ops.length; omega⟩,Int.le_refl _,Int.le_refl _,Nat.zero_le _,⟨Int.le_refl _,by show (0:Int) < s.scopes.length; omega⟩,⟨Int.le_refl _,by show (-1:Int) < _; omega⟩,Int.le_refl _,by show (-1:Int) < _; omega,by show (-1:Int) < 8; decide⟩
      · split
        · rename_i h19
          have ha:=valid_19 tk.valid h19
          obtain ⟨l,hl⟩:=get_some (l:=s.counted.signals) (i:=e.a.toNat) (by have:=iv.sg8; show e.a.toNat < s.signals.length; omega)
          have hea:e.a = (e.a.toNat:Int):=by omega
          rw [hea,signal_eq hl]
          refine ⟨ic.scp,ic.scn,ic.sc32,ic.t16,fun t ht=>(ic.thr t ht).mono (Nat.le_refl _) (Nat.le_refl _),ic.futs,ic.fuel,ic.many,ic.c0,ic.c3,ic.made,fun z hz=>?_,by show (s.counted.signals.set _ _).length = 8; rw [List.length_set]; exact ic.sg8,ic.upd,ic.updI,ic.v16,ic.a4⟩
          rcases mem_set hz with hz | hz
          · exact ic.sig z hz
          · subst hz
            have:=iv.sig l (List.mem_of_getElem? hl)
            rw [List.length_append]
            show ((l.length + 1:Nat):Int) ≤ s.count + 1
            omega
        · split
          · exact ⟨ic.scp,ic.scn,ic.sc32,ic.t16,fun t ht=>(ic.thr t ht).mono (Nat.le_refl _) (Nat.le_refl _),ic.futs,ic.fuel,ic.many,ic.c0,ic.c3,ic.made,ic.sig,ic.sg8,ic.upd,ic.updI,ic.v16,ic.a4⟩
          · split
            · refine ⟨ic.scp,ic.scn,ic.sc32,ic.t16,fun t ht=>(ic.thr t ht).mono (Nat.le_refl _) (Nat.le_refl _),ic.futs,ic.fuel,ic.many,ic.c0,ic.c3,ic.made,ic.sig,ic.sg8,?_,fun u hu=>?_,ic.v16,ic.a4⟩
              · have:=iv.upd
                show ((s.updates ++ [e]).length:Int) ≤ s.count + 1
                rw [List.length_append,List.length_singleton]; omega
              · rcases List.mem_append.1 hu with hu | hu
                · exact iv.updI u hu
                · rw [List.mem_singleton] at hu; subst hu; omega
            · split
              · exact done_inv ic _ _ _
              · split
                · exact done_inv ic _ _ _
                · split
                  · exact done_inv ic _ _ _
                  · split
                    · exact done_inv ic _ _ _
                    · split
                      · exact done_inv ic _ _ _
                      · split
                        · exact over_inv ic
                        · exact ic
section
variable {p:Prg} {G H:Heap} {m:Nat} {pf po:SlH} {sl:Nat → SlH} {F:Heap} {ex:Value} {st:List SlH} {s:VS}
theorem VMX.addSig (h : VMX G H m pf po sl F ex st s) (pr : HasP (dif F G) pf.A pf.n po.A po.n p) {k : Nat} (hk : k < 8) {l : List Int} (hl : s.signals[k]? = some l) (hlen : l.length ≤ 1000) (x : Int) {K : Heap → Prop} (q : ∀ H', VMP p G H' m pf po ex (s.signal k x) → K H') :
    ∃ a8:Addr,((sl 3).A = some a8 ∧ (0:Int) ≤ (k:Int) ∧ (k:Int) < ((sl 3).n:Int)) ∧ At H (a8.add ((k:Int).toNat * 1)) [(sl (6 + k)).v] ∧ appC 2 1 8 H (sl (6 + k)).A (sl (6 + k)).n (sl (6 + k)).c [.int .i64 x] 1 fun A' n' c' H2=>Sub (onlyB m (.cells ⟨mCells pf po sl ex s⟩ 149 (0,0))) H2 ∧
      ∃ a9:Addr,((sl 3).A = some a9 ∧ (0:Int) ≤ (k:Int) ∧ (k:Int) < ((sl 3).n:Int)) ∧ Wr H2 (a9.add ((k:Int).toNat * 1)) (.slice A' n' c') fun H3=>Sub (onlyB m (.cells ⟨mCells pf po sl ex s⟩ 149 (0,0))) H3 ∧ K H3:=by
  obtain ⟨a,ha,hat⟩:=h.sig hk
  have hn:=h.sigN hk
  have h3:=h.sigLen
  have hgl:s.signals[k]?.getD [] = l:=by rw [hl]; rfl
  have z:szC (6 + k) = 1:=by unfold szC; rw [if_neg (by omega),if_neg (by omega),if_neg (by omega),if_neg (by omega),if_neg (by omega),if_neg (by omega)]
  have e6:contC sl st s (6 + k) = intsC l:=by
    unfold contC
    rw [if_neg (by omega),if_neg (by omega),if_neg (by omega),if_neg (by omega),if_neg (by omega),if_neg (by omega)]
    have:6 + k - 6 = k:=by omega
    rw [this,hgl]
  rw [hgl] at hn
  have hkt:(k:Int).toNat = k:=by omega
  rw [hkt]
  have bd:(sl 3).A = some a ∧ (0:Int) ≤ (k:Int) ∧ (k:Int) < ((sl 3).n:Int):=⟨ha,by omega,by omega⟩
  have key : appC 2 (szC (6 + k)) 8 H (sl (6 + k)).A (sl (6 + k)).n (sl (6 + k)).c [.int .i64 x] 1 fun A' n' c' H2 => Sub (onlyB m (.cells ⟨mCells pf po sl ex s⟩ 149 (0, 0))) H2 ∧
      ∃ a9:Addr,((sl 3).A = some a9 ∧ (0:Int) ≤ (k:Int) ∧ (k:Int) < ((sl 3).n:Int)) ∧ Wr H2 (a9.add (k * 1)) (.slice A' n' c') fun H3=>Sub (onlyB m (.cells ⟨mCells pf po sl ex s⟩ 149 (0,0))) H3 ∧ K H3 :=
    h.app (c:=6 + k) (by omega) (new:=[.int .i64 x]) (k:=1) (by rw [z]; rfl) rfl (by omega) (by omega) fun A' c' H2 v2 rd=>⟨onlyB_sub v2.hm,a,bd,by
      rw [e6] at rd
      have rd2:Ready F H2 m sl ex (6 + k) ⟨A',(sl (6 + k)).n + 1,c'⟩ (intsC (l ++ [x])):=by rw [intsC_app]; exact rd
      refine v2.setSig hk rd2 ha fun H3 v3=>?_
      have e:mCells pf po (setH sl (6 + k) ⟨A',(sl (6 + k)).n + 1,c'⟩) ex { s with signals:=s.signals.set k (l ++ [x]) } = mCells pf po sl ex s:=by
        unfold mCells setH
        rw [if_neg (by omega),if_neg (by omega),if_neg (by omega),if_neg (by omega),if_neg (by omega),if_neg (by omega)]
      have hm3:=v3.hm
      rw [e] at hm3
      rw [← signal_eq hl] at v3
      exact ⟨onlyB_sub hm3,q H3 ⟨_,F,st,v3,pr⟩⟩⟩
  rw [z] at key
  exact ⟨a,bd,hat,key⟩
theorem VMX.addUpd (h : VMX G H m pf po sl F ex st s) (e : Ev) (hl : s.updates.length ≤ 1000) {Q : Heap → Prop} (q : ∀ H' sl', VMX G H' m pf po sl' F ex st { s with updates := s.updates ++ [e] } → Q H') :
    ∃ (A:Option Addr) (n c:Nat),At H ((⟨m,0,none⟩:Addr).add 28) [.slice A n c] ∧ appC 47 9 72 H A n c e.cells 1 fun A' n' c' H4=>∃ a9:Addr,some (⟨m,0,none⟩:Addr) = some a9 ∧ Wr H4 (a9.add 28) (.slice A' n' c') Q:=by
  have hn:=h.updLen
  refine ⟨_,_,_,h.c28,h.app (c:=4) (by decide) (new:=e.cells) (k:=1) rfl (ev_one e) (by omega) (by omega) fun A' c' H4 h4 r=>⟨_,rfl,?_⟩⟩
  have hs6:∀ k,setH sl 4 ⟨A',(sl 4).n + 1,c'⟩ (6 + k) = sl (6 + k):=fun k=>if_neg (by omega)
  refine h4.wrSl (c:=4) (by decide) r (k:=28) (by decide) { s with updates:=s.updates ++ [e] } st rfl ?_ (fun c2 hc2 hne=>?_) rfl h.vars h.attrs h.sigs h.stl h.stk fun H13 h13=>q _ _ h13
  · show (s.updates ++ [e]).flatMap Ev.cells = s.updates.flatMap Ev.cells ++ e.cells
    rw [List.flatMap_append]; simp
  · simp only [contC,hs6,if_neg hne]
theorem VMX.firstThr (h : VMX G H m pf po sl F ex st s) (t : Thr) (ht : t.stack = []) {b : Nat} (hb : H b = none) {H1 : Heap} (e : H1 = H.upd b (.cells ⟨thrC (t, ⟨none, 0, 0⟩)⟩ 153 (0, 0))) {Q : Heap → Prop} (q : ∀ H' sl' st', VMX G H' m pf po sl' F ex st' { s with threads := [t] } → Q H') :
    Wr H1 (((⟨m,0,none⟩:Addr).add 2).add 21) (.slice (some ⟨b,0,none⟩) 1 1) Q:=by
  have v2:=h.grow (Sub.upd_new (o:=.cells ⟨thrC (t,⟨none,0,0⟩)⟩ 153 (0,0)) hb)
  have fr:=h.free_new (c:=0) hb
  rw [← e] at v2
  have rd:Ready F H1 m sl ex 0 ⟨some ⟨b,0,none⟩,1,1⟩ (thrC (t,⟨none,0,0⟩)) :=
    ⟨⟨rfl,Nat.le_refl _,.inr ⟨b,0,_,_,rfl,by rw [e]; exact Heap.upd_same,Nat.le_refl _,fun j v hv=>by simpa using hv⟩⟩,fun b' hb'=>by
      have:b = b':=by unfold SlH.blk at hb'; simpa using hb'
      subst this
      exact ⟨fr.f,fr.m,fr.sl,fr.x⟩⟩
  have hs6:∀ k,setH sl 0 ⟨some ⟨b,0,none⟩,1,1⟩ (6 + k) = sl (6 + k):=fun k=>if_neg (by omega)
  refine v2.wrSl (c:=0) (by decide) rd (k:=23) (by decide) { s with threads:=[t] } [⟨none,0,0⟩] rfl (List.append_nil _) (fun c2 hc2 hne=>by simp only [contC,hs6,if_neg hne]) rfl h.vars h.attrs h.sigs rfl (fun j u z hu hz=>?_) fun H' v'=>q H' _ _ v'
  have hu:[t][j]? = some u:=hu
  cases j with
  | zero=>simp at hu hz; subst hu; subst hz; rw [ht]; exact HasL.nil _ _
  | succ j=>simp at hu
theorem t64 (okp : Okp p) (h : VMX G H m pf po sl F ex st s) (pr : HasP (dif F G) pf.A pf.n po.A po.n p) (iv : Inv p s) (e : Ev) :
    Tr Tryz.prog 64 #[.pointer (some ⟨m,0,none⟩),e.val] H fun v H'=>v = .int .i64 (s.apply e).1 ∧ VMP p G H' m pf po ex (s.apply e).2:=by
  have hc:=iv.c0
  have hm:=iv.many
  have hfu:=iv.fuel
  have hup:=iv.upd
  have hw:IntKind.i64.wrap (s.count + 1) = s.count + 1:=wrapi (by omega) (by omega)
  have nf:∀ {k:Int},(e.kind == k) = false → ¬ e.kind = k:=fun e e2=>by rw [e2] at e; simp at e
  have yf:∀ {k:Int},(e.kind == k) = true → e.kind = k:=fun e=>by simpa using e
  apply v64; unfold F64
  refine ⟨fun e=>absurd e (by simp),fun _=>⟨_,rfl,_,h.c27,fun ho=>⟨?_,?_⟩,fun ho=>?_⟩⟩
  · unfold VS.apply; rw [if_pos ho]
  · unfold VS.apply; rw [if_pos ho]; exact ⟨sl,F,st,h,pr⟩
  have hap:s.apply e = if s.refuses e = true then (54,s) else (0,s.counted.applied e):=by unfold VS.apply; rw [if_neg (by rw [ho]; simp)]; rfl
  have hrf:(!validM e || e.id != IntKind.i64.wrap (s.count + 1) || !outsideM e || !(e.kind == 1) == (s.count == 0)) = s.refuses e:=by rw [hw,bne_not]; rfl
  refine ⟨_,t109 e H,_,fun _=>rfl,s.count,fun _=>h.c30,_,fun _=>t69 e H,_,fun _=>rfl,s.count,fun _=>h.c30,?_⟩
  rw [hrf]
  refine ⟨fun hr=>⟨?_,?_⟩,fun hr=>⟨_,rfl,s.count,h.c30,_,rfl,?_⟩⟩
  · rw [hap,if_pos hr]
  · rw [hap,if_pos hr]; exact ⟨sl,F,st,h,pr⟩
  rw [hw]
  rw [if_neg (by rw [hr]; simp)] at hap
  rw [hap]
  have tk:=taken hr
  refine h.wr (k:=30) (by decide) s.counted rfl rfl rfl rfl rfl rfl rfl rfl h.vars h.attrs fun H1 v1=>?_
  have dn:∀ (v k:Int),s.counted.applied e = s.counted.setDone (s.counted.future e.a) v k → ∃ x:Int,(Tr Tryz.prog 111 #[.pointer (some ⟨m,0,none⟩),.int .i64 e.a] H1 fun v2 H7=>v2 = .int .i64 x ∧ Sub H1 H7) ∧ Tr Tryz.prog 110 #[.pointer (some ⟨m,0,none⟩),.int .i64 x,.int .i64 v,.int .i64 k] H1 fun v3 H8=>v3 = .tuple #[] ∧ Value.int .i64 0 = .int .i64 0 ∧ VMP p G H8 m pf po ex (s.counted.applied e):=fun v k he=>by
    have hlt:s.counted.future e.a < s.counted.futures.length:=by
      unfold VS.future
      split
      · rename_i j hj
        obtain ⟨i,hi,hi2⟩:=scan_ex hj
        unfold VS.futHit at hi2
        split at hi2
        · split at hi2
          · cases hi2; omega
          · cases hi2
        · cases hi2
      · omega
    refine ⟨_,t111 v1 (by show s.futures.length ≤ 1000000; omega) e.a,(t110 v1 _ v k hlt).mono fun x H8 ⟨hx,v8⟩=>⟨hx,rfl,sl,F,st,?_,pr⟩⟩
    rw [he]; exact v8
  have ov:s.counted.applied e = { s.counted with over:=true } → Wr H1 (((⟨m,0,none⟩:Addr).add 2).add 25) (.bool true) fun H'=>Value.int .i64 0 = .int .i64 0 ∧ VMP p G H' m pf po ex (s.counted.applied e):=fun he=>by
    refine v1.wr (k:=27) (by decide) { s.counted with over:=true } rfl rfl rfl rfl rfl rfl rfl rfl h.vars h.attrs fun H2 v2=>⟨rfl,sl,F,st,?_,pr⟩
    rw [he]; exact v2
  refine ⟨fun e1 b hb H2 e2=>⟨_,rfl,?_⟩,fun e1=>⟨fun e19=>?_,fun e19=>⟨fun e20=>⟨_,rfl,?_⟩,fun e20=>⟨fun e21=>⟨_,rfl,?_⟩,fun e21=>⟨fun e22=>dn _ _ ?_,fun e22=>⟨fun e23=>dn _ _ ?_,fun e23=>⟨fun e27=>dn _ _ ?_,fun e27=>⟨fun e24=>dn _ _ ?_,fun e24=>⟨fun e25=>dn _ _ ?_,fun e25=>⟨fun e28=>dn _ _ ?_,fun e28=>⟨fun e16=>⟨_,rfl,ov ?_⟩,fun e16=>⟨fun e30=>⟨_,rfl,ov ?_⟩,fun e30=>⟨fun e31=>⟨_,rfl,ov ?_⟩,fun e31=>⟨rfl,sl,F,st,?_,pr⟩⟩⟩⟩⟩⟩⟩⟩⟩⟩⟩⟩⟩⟩
  · have he:s.counted.applied e = { s.counted with threads:=[Thr.new 0 0 e.b (-1) 0] }:=by unfold VS.applied; rw [if_pos (yf e1)]
    rw [he]
    exact v1.firstThr (Thr.new 0 0 e.b (-1) 0) rfl hb e2 fun H3 sl3 st3 v3=>⟨rfl,sl3,F,st3,v3,pr⟩
  · have h19:=yf e19
    have he:s.counted.applied e = s.counted.signal e.a e.b:=by unfold VS.applied; rw [if_neg (nf e1),if_pos h19]
    have ha:=valid_19 tk.valid h19
    obtain ⟨l,hl⟩:=get_some (l:=s.counted.signals) (i:=e.a.toNat) (by have:=iv.sg8; show e.a.toNat < s.signals.length; omega)
    have hsl:=iv.sig l (List.mem_of_getElem? hl)
    have hea:e.a = (e.a.toNat:Int):=by omega
    rw [he,hea]
    obtain ⟨a8,b8,at8,key⟩:=v1.addSig pr (k:=e.a.toNat) (by omega) hl (by omega) e.b (K:=fun H'=>Value.int .i64 0 = .int .i64 0 ∧ VMP p G H' m pf po ex (s.counted.signal (e.a.toNat:Int) e.b)) fun H' w=>⟨rfl,w⟩
    have s0:=onlyB_sub v1.hm
    have c0:At (onlyB m (.cells ⟨mCells pf po sl ex s.counted⟩ 149 (0,0))) (((⟨m,0,none⟩:Addr).add 2).add 24) [(sl 3).v]:=at_cells (k:=26) onlyB_at rfl
    exact ⟨_,s0,_,rfl,_,rfl,_,_,_,c0,⟨_,_,_,v1.c26,s0,a8,b8,⟨_,_,_,at8,s0,s0,key⟩,s0,_,_,_,at8,s0,key⟩,s0,_,_,_,v1.c26,s0,a8,b8,_,_,_,at8,s0,key⟩
  · have he:s.counted.applied e = { s.counted with cancel:=true }:=by unfold VS.applied; rw [if_neg (nf e1),if_neg (nf e19),if_pos (yf e20)]
    refine v1.wr (k:=29) (by decide) { s.counted with cancel:=true } rfl rfl rfl rfl rfl rfl rfl rfl h.vars h.attrs fun H2 v2=>⟨rfl,sl,F,st,?_,pr⟩
    rw [he]; exact v2
  · have he:s.counted.applied e = { s.counted with updates:=s.counted.updates ++ [e] }:=by unfold VS.applied; rw [if_neg (nf e1),if_neg (nf e19),if_neg (nf e20),if_pos (yf e21)]
    have key:=v1.addUpd e (by show s.updates.length ≤ 1000; omega) (Q:=fun H'=>Value.int .i64 0 = .int .i64 0 ∧ VMP p G H' m pf po ex (s.counted.applied e)) fun H' sl' v'=>⟨rfl,sl',F,st,by rw [he]; exact v',pr⟩
    exact ⟨key,key⟩
  · unfold VS.applied; rw [if_neg (nf e1),if_neg (nf e19),if_neg (nf e20),if_neg (nf e21),if_pos (yf e22)]
  · unfold VS.applied; rw [if_neg (nf e1),if_neg (nf e19),if_neg (nf e20),if_neg (nf e21),if_neg (nf e22),if_pos (.inl (yf e23))]
  · unfold VS.applied; rw [if_neg (nf e1),if_neg (nf e19),if_neg (nf e20),if_neg (nf e21),if_neg (nf e22),if_pos (.inr (yf e27))]
  · unfold VS.applied; rw [if_neg (nf e1),if_neg (nf e19),if_neg (nf e20),if_neg (nf e21),if_neg (nf e22),if_neg (by rintro (q | q); exact nf e23 q; exact nf e27 q),if_pos (yf e24)]
  · unfold VS.applied; rw [if_neg (nf e1),if_neg (nf e19),if_neg (nf e20),if_neg (nf e21),if_neg (nf e22),if_neg (by rintro (q | q); exact nf e23 q; exact nf e27 q),if_neg (nf e24),if_pos (yf e25)]
  · unfold VS.applied; rw [if_neg (nf e1),if_neg (nf e19),if_neg (nf e20),if_neg (nf e21),if_neg (nf e22),if_neg (by rintro (q | q); exact nf e23 q; exact nf e27 q),if_neg (nf e24),if_neg (nf e25),if_pos (yf e28)]
  · unfold VS.applied; rw [if_neg (nf e1),if_neg (nf e19),if_neg (nf e20),if_neg (nf e21),if_neg (nf e22),if_neg (by rintro (q | q); exact nf e23 q; exact nf e27 q),if_neg (nf e24),if_neg (nf e25),if_neg (nf e28),if_pos (.inl (yf e16))]
  · unfold VS.applied; rw [if_neg (nf e1),if_neg (nf e19),if_neg (nf e20),if_neg (nf e21),if_neg (nf e22),if_neg (by rintro (q | q); exact nf e23 q; exact nf e27 q),if_neg (nf e24),if_neg (nf e25),if_neg (nf e28),if_pos (.inr (.inl (yf e30)))]
  · unfold VS.applied; rw [if_neg (nf e1),if_neg (nf e19),if_neg (nf e20),if_neg (nf e21),if_neg (nf e22),if_neg (by rintro (q | q); exact nf e23 q; exact nf e27 q),if_neg (nf e24),if_neg (nf e25),if_neg (nf e28),if_pos (.inr (.inr (yf e31)))]
  · have he : s.counted.applied e = s.counted := by
      unfold VS.applied; rw [if_neg (nf e1),if_neg (nf e19),if_neg (nf e20),if_neg (nf e21),if_neg (nf e22),if_neg (by rintro (q | q); exact nf e23 q; exact nf e27 q),if_neg (nf e24),if_neg (nf e25),if_neg (nf e28),if_neg (by rintro (q | q | q); exact nf e16 q; exact nf e30 q; exact nf e31 q)]
    rw [he]; exact v1
end
end Go.Proofs.YtkofafcgcnciaaaGreatDoor
set_option maxRecDepth 100000
namespace Go.Proofs.YtkofafcgcnciaaaGreatDoor
open Go.Ax Go.RowKit
theorem keeps_new {H:Heap} {w:World} (h:Holds H w) (o:Obj):Keeps H w (H.upd w.heap.size o) (w.alloc o):=by
  refine ⟨fun b o' e=>?_,fun b hb e=>?_,by simp,rfl,rfl,rfl⟩
  · by_cases hb:b = w.heap.size
    · subst hb; rw [Heap.upd_same] at e; injection e with e; subst e; exact heap_alloc_new w _
    · rw [Heap.upd_other hb] at e
      exact (Below.heap_alloc w _ b (heap_lt (h b o' e))).trans (h b o' e)
  · exact ⟨Below.heap_alloc w _ b hb,by rw [Heap.upd_other (by omega)]; exact e⟩
theorem none_size {H:Heap} {w:World} (h:Holds H w):H w.heap.size = none:=by
  cases hh:H w.heap.size with
  | none=>rfl
  | some o'=>have:=heap_lt (h _ _ hh); omega
theorem sm_make {T e : TypeId} {sz by_ : Nat} (hu : Tryz.prog.underlying T = some (.slice e)) (hi : ((Tryz.prog.info? e).map fun i => (i.size, i.bytes, i.zero.isSome)) = some (sz, by_, true)) (n : Nat) (hn : by_ * n ≤ 281474976710656) (hn2 : n ≤ 9223372036854775807) (H : Heap) :
    Sm Tryz.prog (Instr.makeSlice T (.int .i64 n) (.int .i64 n)) H (fun v H'=>∃ b z,(Tryz.prog.info? e).bind (·.zero) = some z ∧ v = .slice (some ⟨b,0,none⟩) n n ∧ H b = none ∧ H' = H.upd b (.cells (madeCells z.cells (n * sz)) e (0,0))):=by
  refine ⟨fun w hw=>?_⟩
  cases hq:Tryz.prog.info? e with
  | none=>rw [hq] at hi; cases hi
  | some i =>
    rw [hq] at hi
    simp only [Option.map_some,Option.some.injEq,Prod.mk.injEq] at hi
    obtain ⟨h1,h2,h3⟩:=hi
    obtain ⟨z,hz⟩:=Option.isSome_iff_exists.1 h3
    have hb:(i.bytes:Int) * (n:Int) ≤ 281474976710656:=by
      have:((i.bytes * n:Nat):Int) ≤ 281474976710656:=by rw [h2]; omega
      rwa [Int.natCast_mul] at this
    have hr:=run_make (P:=Tryz.prog) w T e i z hu hq hz .i64 .i64 n n (by omega) (Int.le_refl _) hb (by omega)
    simp only [Int.toNat_natCast] at hr
    rw [h1] at hr
    exact ⟨_,_,_,hr,keeps_new hw _,w.heap.size,z,by simp [hz],rfl,none_size hw,rfl⟩
theorem sm_table (H:Heap):Sm Tryz.prog (Instr.makeSlice 73 (.int .i64 8) (.int .i64 8)) H fun v H'=>∃ b,v = .slice (some ⟨b,0,none⟩) 8 8 ∧ H b = none ∧ H' = H.upd b (.cells ⟨List.replicate 8 (.slice none 0 0)⟩ 134 (0,0)):=by
  have hu:Tryz.prog.underlying 73 = some (.slice 134):=by kernel_rfl
  have hi:((Tryz.prog.info? 134).map fun i=>(i.size,i.bytes,i.zero.isSome)) = some (1,24,true):=by kernel_rfl
  have hz:(Tryz.prog.info? 134).bind (·.zero) = some (.slice none 0 0):=by kernel_rfl
  refine (sm_make hu hi 8 (by decide) (by decide) H).mono fun v H' ⟨b,z,h1,h2,h3,h4⟩=>⟨b,h2,h3,?_⟩
  rw [hz] at h1
  cases h1
  have e:madeCells (Value.slice none 0 0).cells (8 * 1) = ⟨List.replicate 8 (.slice none 0 0)⟩:=by kernel_rfl
  rw [h4,e]
theorem _root_.Go.Ax.OwnS.out {X F H1:Heap} {A:Option Addr} {n c sz:Nat} {cs:List Value} (o:OwnS F H1 A n c sz cs) (h:Sub X F):Src (dif H1 X) A cs:=by
  rcases o.src with e | ⟨a,ha,hat⟩
  · exact .inl e
  · rcases o.at_ with ⟨a1,a2,a3⟩ | ⟨b,cur,T,a1,a2,a3,a4,a5⟩
    · rw [a1] at ha; cases ha
    · refine .inr ⟨_,a1,⟨⟨cur,T,(0,0),dif_at a3 (none_below h a2),rfl,fun j v hv=>by simpa using a5 j v hv⟩⟩⟩
theorem src_out {X F B1:Heap} {B:Option Addr} {cs:List Value} (h:Src F B cs) (k:∀ r,(B1 r).isSome = true → Src (Ax.del F r) B cs) (hx:Sub X B1):Src (dif F X) B cs:=by
  by_cases h0:cs = []
  · exact .inl h0
  rcases h with e | ⟨a,ha,hat⟩
  · exact .inl e
  · right
    refine ⟨a,ha,?_⟩
    obtain ⟨cur,T,fz,a2,a3,a4⟩:=hat.out
    refine ⟨⟨cur,T,fz,?_,a3,a4⟩⟩
    cases hX:X a.block with
    | none=>exact dif_at a2 hX
    | some o =>
      rcases k a.block (by rw [hx.sub _ _ hX]; rfl) with e | ⟨a',ha',hat'⟩
      · exact absurd e h0
      · rw [ha] at ha'; cases ha'
        obtain ⟨cur',T',fz',b2,-⟩:=hat'.out
        unfold Ax.del at b2
        rw [if_pos rfl] at b2; cases b2
theorem _root_.Go.Ax.HasOps.more {F F' X:Heap} {A:Option Addr} {n:Nat} {l:List (Int × Int)} (h:HasOps (dif F X) A n l) (k:Sub F F'):HasOps (dif F' X) A n l:=h.sub (dif_more k)
theorem t108 {H : Heap} {fA oA : Option Addr} {fn fc on oc : Nat} {p : Prg} (h : HasP H fA fn oA on p) (z : p.Sz) :
    Tr Tryz.prog 108 #[.agg #[.slice fA fn fc,.slice oA on oc]] H (fun v H'=>∃ A n c A1 n1 c1,v = .agg #[.slice A n c,.slice A1 n1 c1] ∧ HasP (dif H' H) A n A1 n1 p ∧ Sub H H'):=by
  have hl:=h.fns.len; have hb:=h.fns.big; have hol:=h.opts.len; have hob:=h.opts.big
  have z1:=z.fns; have z2:=z.opts
  apply v108; unfold F108
  refine ⟨⟨p.opts.flatMap O.cells,h.opts.src,by rw [flat_size (cells:=O.cells) (sz:=11) (fun _=>rfl),hol],own_app (OwnS.nil H 11) (by rw [flat_size (cells:=O.cells) (sz:=11) (fun _=>rfl),hol]) (cells_one_o _) (show (0 + on) * 88 ≤ 140737488355328 by omega) (by omega) fun A' c' H' o'=>?_⟩⟩
  have hopts:HasOpts (dif H' H) A' (0 + on) p.opts:=hasOpts_of (by simpa using o'.out (Sub.refl _)) (by omega) (by omega)
  refine ⟨fun x A n c H1=>∃ (k:Nat) (hs:List FnH) (F:Heap),x = k ∧ k ≤ fn ∧ n = k ∧ Sub H' F ∧ OwnS F H1 A n c 3 (hs.flatMap fnC) ∧ hs.map (·.1) = p.funcs.take k ∧ ∀ z ∈ hs,HasOps (dif F H) z.2.1 z.2.2.1 z.1.ops,fun x _ _ _ _=>((fn:Int) - x).toNat,
    ⟨0,[],H',rfl,by omega,rfl,Sub.refl _,OwnS.nil H' 3,rfl,by simp⟩,?_⟩
  rintro x A n c H1 ⟨k,hs,F,rfl,hk,rfl,hF,o1,e1,hops⟩
  have s1:Sub H H1:=o'.sub.trans (hF.trans o1.sub)
  refine ⟨fun hlt=>?_,fun hge=>?_⟩
  · have hlt:(n:Int) < fn:=of_decide_eq_true hlt
    obtain ⟨f,hf⟩:=get_some (l:=p.funcs) (i:=n) (by omega)
    obtain ⟨a,B,m,d,ha,hat0,ho0⟩:=h.fns.at_ n f hf
    have hat:=hat0.sub s1
    have ho:=ho0.sub s1
    have hm:=ho.len; have zm:=z.ops f (List.mem_of_getElem? hf)
    refine ⟨a,⟨ha,by omega,hlt⟩,_,_,_,_,_,hat,?_⟩
    refine ⟨⟨f.ops.flatMap opC,ho.src,by rw [flat_size (cells:=opC) (sz:=2) (fun _=>rfl),hm],own_app (OwnS.nil H1 2) (by rw [flat_size (cells:=opC) (sz:=2) (fun _=>rfl),hm]) (cells_one_op _) (show (0 + m) * 16 ≤ 140737488355328 by omega) (by omega) fun A2 c2 H2 o2=>?_⟩⟩
    obtain ⟨F2,f1,f2,f3,f4⟩:=o1.absorb o2
    refine own_app f2 rfl rfl (show (n + 1) * 40 ≤ 140737488355328 by omega) (by omega) fun A3 c3 H3 o3=>?_
    rw [wrapi (x:=(n:Int) + 1) (by omega) (by omega)]
    refine ⟨⟨n + 1,hs ++ [(f,A2,0 + m,c2)],F2,by omega,by omega,rfl,hF.trans f1,by rw [List.flatMap_append]; exact o3,?_,fun z hz=>?_⟩,by show ((fn:Int) - ((n:Int) + 1)).toNat < ((fn:Int) - (n:Int)).toNat; omega⟩
    · rw [List.map_append,e1,List.take_add_one,hf]; rfl
    · rcases List.mem_append.1 hz with hz | hz
      · exact (hops z hz).more f1
      · simp at hz; subst hz
        exact hasOps_of (by simpa using src_out f3 f4 s1) (by simp only; omega) (by simp only; omega)
  · have hge:¬ (n:Int) < fn:=of_decide_eq_false hge
    refine ⟨_,_,_,_,_,_,rfl,⟨?_,hopts.sub (dif_more (hF.trans o1.sub))⟩,s1⟩
    rw [List.take_of_length_le (by omega)] at e1
    rw [← e1]
    refine hasFns_of (o1.out (o'.sub.trans hF)) ?_ (by omega) fun z hz=>(hops z hz).more o1.sub
    have:=congrArg List.length e1
    rw [List.length_map] at this; omega
theorem _root_.Go.Ax.Okp.sz {p:Prg} (ok:Okp p):p.Sz:=by
  have h2:=ok.n2
  have h3:=ok.n3
  refine ⟨by omega,by omega,fun f hf=>?_⟩
  obtain ⟨i,hi,e⟩:=List.mem_iff_getElem.1 hf
  have:=(ok.len (i:=i) (f:=f) (by rw [List.getElem?_eq_getElem hi,e])).2
  omega
theorem init_inv (p:Prg):Inv p VS.init:=by
  refine ⟨fun i c h=>?_,by decide,by decide,by decide,fun t h=>(by cases h),fun f h=>(by cases h),by decide,by decide,by decide,fun l h=>(by cases h),by decide,fun l hl=>?_,rfl,by decide,fun u h=>(by cases h),rfl,rfl⟩
  · have hi:=get_lt h
    have:i = 0:=by
      have e:(VS.init.scopes).length = 1:=rfl
      omega
    subst this
    cases h
    show (-1:Int) < 0; decide
  · have:l = []:=List.eq_of_mem_replicate hl
    subst this
    show ((0:Nat):Int) ≤ 0
    decide
theorem t63 {H : Heap} {fA oA : Option Addr} {fn fc on oc : Nat} {p : Prg} (h : HasP H fA fn oA on p) :
    Tr Tryz.prog 63 #[.agg #[.slice fA fn fc,.slice oA on oc]] H (fun v H'=>(p.check.1 ≠ 0 ∧ v = .tuple #[.pointer none,.int .i64 p.check.1] ∧ Sub H H') ∨ (Okp p ∧ ∃ m pf po,v = .tuple #[.pointer (some ⟨m,0,none⟩),.int .i64 0] ∧ Sub H H' ∧ VMP p H H' m pf po .nilFunc VS.init)):=by
  apply v63; unfold F63
  refine ⟨_,_,_,t107 h,fun e=>.inl ⟨by simpa using e,rfl,Sub.refl _⟩,fun e=>?_⟩
  obtain ⟨e1,ok⟩:=check_ok (p:=p) (by simpa using e)
  refine (t108 h ok.sz).mono fun v H1 ⟨A,n,c,A1,n1,c1,hv,hp,s1⟩=>⟨A,n,c,A1,n1,c1,hv,fun b hb H2 e2 b1 hb1 H3 e3=>?_⟩
  have hne:b1 ≠ b:=fun q=>by rw [q,e2,Heap.upd_same] at hb1; cases hb1
  have hb1':H1 b1 = none:=by rw [e2,Heap.upd_other hne] at hb1; exact hb1
  have m2:H2 = H1.upd b (.cells ⟨mCells ⟨A,n,c⟩ ⟨A1,n1,c1⟩ (fun _=>⟨none,0,0⟩) .nilFunc VS.init⟩ 149 (0,0)):=e2
  refine ⟨_,rfl,?_⟩
  refine wr_cells (cs:=mCells ⟨A,n,c⟩ ⟨A1,n1,c1⟩ (fun _=>⟨none,0,0⟩) .nilFunc VS.init) (T:=149) (m:=b) (k:=25) (by rw [e3,Heap.upd_other hne.symm,m2]; exact Heap.upd_same) (by rw [mCells_len]; decide) ?_
  refine (sm_table _).mono fun v2 H5 ⟨b2,hv2,hb2,e5⟩=>⟨_,_,_,hv2,_,rfl,?_⟩
  have hne2:b2 ≠ b:=fun q=>by rw [q,Heap.upd_same] at hb2; cases hb2
  have hb2':H3 b2 = none:=by rw [Heap.upd_other hne2] at hb2; exact hb2
  have hne3:b2 ≠ b1:=fun q=>by rw [q,e3,Heap.upd_same] at hb2'; cases hb2'
  have hb2'':H1 b2 = none:=by rw [e3,Heap.upd_other hne3,m2,Heap.upd_other hne2] at hb2'; exact hb2'
  let sl:Nat → SlH:=fun i=>if i = 2 then ⟨some ⟨b1,0,none⟩,1,1⟩ else if i = 3 then ⟨some ⟨b2,0,none⟩,8,8⟩ else ⟨none,0,0⟩
  refine wr_cells (m:=b) (k:=26) (by rw [e5,Heap.upd_other hne2.symm]; exact Heap.upd_same) (by rw [List.length_set,mCells_len]; decide) ?_
  have ec:((mCells ⟨A,n,c⟩ ⟨A1,n1,c1⟩ (fun _=>⟨none,0,0⟩) .nilFunc VS.init).set 25 (.slice (some ⟨b1,0,none⟩) 1 1)).set 26 (.slice (some ⟨b2,0,none⟩) 8 8) = mCells ⟨A,n,c⟩ ⟨A1,n1,c1⟩ sl .nilFunc VS.init:=rfl
  rw [ec]
  generalize hH6:H5.upd b (.cells ⟨mCells ⟨A,n,c⟩ ⟨A1,n1,c1⟩ sl .nilFunc VS.init⟩ 149 (0,0)) = H6
  have g0:H6 b = some (.cells ⟨mCells ⟨A,n,c⟩ ⟨A1,n1,c1⟩ sl .nilFunc VS.init⟩ 149 (0,0)):=by rw [← hH6]; exact Heap.upd_same
  have g1:H6 b1 = some (.cells #[.int .i64 (-1),.bool false] 199 (0,0)):=by rw [← hH6,Heap.upd_other hne,e5,Heap.upd_other hne3.symm,Heap.upd_other hne,e3]; exact Heap.upd_same
  have g2:H6 b2 = some (.cells ⟨List.replicate 8 (.slice none 0 0)⟩ 134 (0,0)):=by rw [← hH6,Heap.upd_other hne2,e5]; exact Heap.upd_same
  have gs:Sub H1 H6:=⟨fun i o hi=>by
    have i0:i ≠ b:=fun q=>by subst q; rw [hb] at hi; cases hi
    have i1:i ≠ b1:=fun q=>by subst q; rw [hb1'] at hi; cases hi
    have i2:i ≠ b2:=fun q=>by subst q; rw [hb2''] at hi; cases hi
    rw [← hH6,Heap.upd_other i0,e5,Heap.upd_other i2,Heap.upd_other i0,e3,Heap.upd_other i1,m2,Heap.upd_other i0]; exact hi⟩
  have blk:∀ c b',(sl c).blk = some b' → (c = 2 ∧ b' = b1) ∨ (c = 3 ∧ b' = b2):=fun c b' hb'=>by
    by_cases h2:c = 2
    · subst h2; have:some b1 = some b':=hb'; cases this; exact .inl ⟨rfl,rfl⟩
    · by_cases h3:c = 3
      · subst h3; have:some b2 = some b':=hb'; cases this; exact .inr ⟨rfl,rfl⟩
      · have:sl c = ⟨none,0,0⟩:=by show (if c = 2 then _ else if c = 3 then _ else _) = _; rw [if_neg h2,if_neg h3]
        rw [this] at hb'; cases hb'
  refine .inr ⟨ok,b,⟨A,n,c⟩,⟨A1,n1,c1⟩,rfl,s1.trans gs,sl,H1,[],⟨s1,gs,hb,g0,fun c hc b' hb'=>?_,fun c c' b' hc hc' h1 h2=>?_,fun c hc=>?_,rfl,fun j t q h1=>(by cases h1),rfl,rfl,rfl,fun _=>rfl,fun l hl=>(by cases hl)⟩,hp⟩
  · rcases blk c b' hb' with ⟨-,rfl⟩ | ⟨-,rfl⟩
    · exact ⟨hb1',hne⟩
    · exact ⟨hb2'',hne2⟩
  · rcases blk c b' h1 with ⟨rfl,rfl⟩ | ⟨rfl,rfl⟩
    · rcases blk c' _ h2 with ⟨rfl,-⟩ | ⟨rfl,e⟩
      · rfl
      · exact absurd e.symm hne3
    · rcases blk c' _ h2 with ⟨rfl,e⟩ | ⟨rfl,-⟩
      · exact absurd e hne3
      · rfl
  · by_cases h2:c = 2
    · subst h2
      have hc2:contC sl [] VS.init 2 = [.int .i64 (-1),.bool false]:=rfl
      rw [hc2]
      exact ⟨rfl,Nat.le_refl _,.inr ⟨b1,0,_,_,rfl,g1,by show 0 + 1 * 2 ≤ 2; decide,fun j v hv=>by simpa using hv⟩⟩
    · by_cases h3:c = 3
      · subst h3
        have hc3:contC sl [] VS.init 3 = List.replicate 8 (.slice none 0 0):=rfl
        rw [hc3]
        exact ⟨rfl,Nat.le_refl _,.inr ⟨b2,0,_,_,rfl,g2,by show 0 + 8 * 1 ≤ 8; decide,fun j v hv=>by simpa using hv⟩⟩
      · have e0:sl c = ⟨none,0,0⟩:=by show (if c = 2 then _ else if c = 3 then _ else _) = _; rw [if_neg h2,if_neg h3]
        have e1:contC sl [] VS.init c = []:=by
          unfold contC
          rw [if_neg h2,if_neg h3]
          have:c = 0 ∨ c = 1 ∨ c = 4 ∨ c = 5 ∨ 6 ≤ c:=by omega
          rcases this with rfl | rfl | rfl | rfl | h6
          · rfl
          · rfl
          · rfl
          · rfl
          · rw [if_neg (by omega),if_neg (by omega),if_neg (by omega),if_neg (by omega)]
            have:VS.init.signals[c - 6]?.getD [] = []:=by
              show (List.replicate 8 ([]:List Int))[c - 6]?.getD [] = []
              rw [List.getElem?_replicate]; split <;> rfl
            rw [this]; rfl
        rw [e0,e1]
        exact ⟨by simp,Nat.le_refl _,.inl ⟨rfl,rfl,rfl⟩⟩
end Go.Proofs.YtkofafcgcnciaaaGreatDoor
set_option maxRecDepth 100000
namespace Go.Proofs.YtkofafcgcnciaaaGreatDoor
open Go.Ax
theorem evs_one:∀ l:List Ev,allOne (l.flatMap Ev.cells) = true
  | []=>rfl
  | x :: l=>by rw [List.flatMap_cons]; exact evs_one l
theorem taskE_ok {s:VS} {now:Int} (h:s.taskE now = 0):s.over = false ∧ s.count ≠ 0 ∧ s.count ≤ 254 ∧ 0 ≤ now ∧ now ≤ 1099511627776:=by
  unfold VS.taskE at h
  split at h
  · split at h <;> cases h
  · rename_i h1
    split at h
    · cases h
    · rename_i h2
      split at h
      · cases h
      · rename_i h3
        split at h
        · cases h
        · rename_i h4
          simp at h1 h2 h3 h4
          exact ⟨h2,h3,h4,by omega,by omega⟩
def VS.ready_ (s:VS) (draw:Int):VS:={ s with draws:=IntKind.u64.wrap draw,expect:=none }
theorem ready_inv {p:Prg} {s:VS} (iv:Inv p s) (draw:Int):Inv p (s.ready_ draw) :=
  ⟨iv.scp,iv.scn,iv.sc32,iv.t16,fun t ht=>(iv.thr t ht).mono (Nat.le_refl _) (Nat.le_refl _),iv.futs,iv.fuel,iv.many,iv.c0,fun l hl=>(by cases hl),iv.made,iv.sig,iv.sg8,iv.upd,iv.updI,iv.v16,iv.a4⟩
theorem Task_eq (s:VS) (p:Prg) (now draw:Int):s.Task p now draw = if s.taskE now ≠ 0 then (([],s.taskE now),s) else ((((s.ready_ draw).task p now).made,0),(s.ready_ draw).task p now):=rfl
theorem ready_tasks {s:VS} {now:Int} (h:s.taskE now = 0) (draw:Int):Tasks (s.ready_ draw):=by
  obtain ⟨h1,h2,h3,-⟩:=taskE_ok h
  exact ⟨h1,by show s.count ≤ 255; omega,fun _=>h3,fun l hl=>by cases hl⟩
section
variable {p:Prg} {G H:Heap} {m:Nat} {pf po:SlH} {sl:Nat → SlH} {F:Heap} {ex:Value} {st:List SlH} {s:VS}
theorem VMX.exNil (h:VMX G H m pf po sl F ex st s) (hx:s.expect = none):ex = .nilFunc:=h.exp.none_ hx
end
end Go.Proofs.YtkofafcgcnciaaaGreatDoor
set_option maxRecDepth 100000
namespace Go.Proofs.YtkofafcgcnciaaaGreatDoor
open Go.Ax
structure Hand (G0 G:Heap) (q:SlH) (sz:Nat) (cs:List Value):Prop where
  g:Sub G0 G
  sl:SlOk G q sz cs
  free:∀ b,q.blk = some b → G0 b = none
theorem Hand.nil {G0 G:Heap} (g:Sub G0 G) (sz:Nat):Hand G0 G ⟨none,0,0⟩ sz []:=⟨g,⟨by simp,Nat.le_refl _,.inl ⟨rfl,rfl,rfl⟩⟩,fun b hb=>by cases hb⟩
theorem Hand.sub {G0 G G':Heap} {q:SlH} {sz:Nat} {cs:List Value} (h:Hand G0 G q sz cs) (k:Sub G G'):Hand G0 G' q sz cs:=⟨h.g.trans k,h.sl.sub k,h.free⟩
theorem Hand.len {G0 G:Heap} {q:SlH} {l:List Ev} (h:Hand G0 G q 9 (l.flatMap Ev.cells)):q.n = l.length:=by
  have:=h.sl.len
  rw [flat_size (cells:=Ev.cells) (sz:=9) (fun _=>rfl)] at this
  omega
section
variable {p:Prg} {G0 G H:Heap} {m:Nat} {pf po:SlH} {sl:Nat → SlH} {F:Heap} {ex:Value} {st:List SlH} {s:VS} {q:SlH} {sz:Nat} {cs:List Value}
theorem VMP.gh (w:VMP p G H m pf po ex s):Sub G H:=by
  obtain ⟨sl,F,st,h,pr⟩:=w.out
  exact h.gf.trans h.fh
theorem hand_evs {G:Heap} {l:List Ev} (h:SlOk G q 9 (l.flatMap Ev.cells)):HasEvs G q.A q.n l :=
  ⟨by have:=h.len; rw [flat_size (cells:=Ev.cells) (sz:=9) (fun _=>rfl)] at this; omega,fun i x hx=>src_elem (cells:=Ev.cells) (sz:=9) (fun _=>rfl) (by decide) h.src i x hx⟩
end
end Go.Proofs.YtkofafcgcnciaaaGreatDoor
