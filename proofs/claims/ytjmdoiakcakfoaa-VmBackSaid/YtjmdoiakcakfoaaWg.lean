/- The statement that provedVmBack proves, and the last lemmas that it needs. Conditions: none but the row's own. -/
import Derived.Test.YtjmdoiakcakfoaaWf
import Derived.Test.YtjmdoiakcakfoaaRows
set_option maxRecDepth 100000
namespace Go.Proofs.Ytjmdoiakcakfoaa
open Go.Ax Go.RowKit Go.ChangeShapes Go.WideShapes Go.ChangeAt
theorem fitE {H:Heap} {n:Nat} {l:List Value} (h:FitS Try.prog H (n + 2) 23 l):∃ x:Ev,l = x.cells:=by
  obtain ⟨hl,h0,h1,h2,h3,h4,h5,h6,h7,h8,-⟩:=Eq.mp (show FitS Try.prog H (n + 2) 23 l = (l.length = 9 ∧ FitS Try.prog H (n + 1) 3 ((l.drop 0).take 1) ∧ FitS Try.prog H (n + 1) 2 ((l.drop 1).take 1) ∧
    FitS Try.prog H (n + 1) 3 ((l.drop 2).take 1) ∧ FitS Try.prog H (n + 1) 2 ((l.drop 3).take 1) ∧ FitS Try.prog H (n + 1) 2 ((l.drop 4).take 1) ∧ FitS Try.prog H (n + 1) 2 ((l.drop 5).take 1) ∧ FitS Try.prog H (n + 1) 2 ((l.drop 6).take 1) ∧
    FitS Try.prog H (n + 1) 2 ((l.drop 7).take 1) ∧ FitS Try.prog H (n + 1) 2 ((l.drop 8).take 1) ∧ True) by kernel_rfl) h
  match l,hl with
  | [c0,c1,c2,c3,c4,c5,c6,c7,c8],_ =>
    obtain ⟨x0,e0,-⟩:=fitI h0; obtain ⟨x1,e1,-⟩:=fitL h1; obtain ⟨x2,e2,-⟩:=fitI h2; obtain ⟨x3,e3,-⟩:=fitL h3
    obtain ⟨x4,e4,-⟩:=fitL h4; obtain ⟨x5,e5,-⟩:=fitL h5; obtain ⟨x6,e6,-⟩:=fitL h6; obtain ⟨x7,e7,-⟩:=fitL h7; obtain ⟨x8,e8,-⟩:=fitL h8
    simp at e0 e1 e2 e3 e4 e5 e6 e7 e8
    subst e0 e1 e2 e3 e4 e5 e6 e7 e8
    exact ⟨⟨x0,x1,x2,x3,x4,x5,x6,x7,x8⟩,rfl⟩
theorem fitAct {H:Heap} {n:Nat} {l:List Value} (h:FitS Try.prog H (n + 3) 63 l):∃ x:ActM,l = x.cells:=by
  obtain ⟨hl,h0,h1,h2,h3,h4,-⟩:=Eq.mp (show FitS Try.prog H (n + 3) 63 l = (l.length = 13 ∧ FitS Try.prog H (n + 2) 3 ((l.drop 0).take 1) ∧ FitS Try.prog H (n + 2) 23 ((l.drop 1).take 9) ∧
    FitS Try.prog H (n + 2) 2 ((l.drop 10).take 1) ∧ FitS Try.prog H (n + 2) 2 ((l.drop 11).take 1) ∧ FitS Try.prog H (n + 2) 3 ((l.drop 12).take 1) ∧ True) by kernel_rfl) h
  match l,hl with
  | [c0,c1,c2,c3,c4,c5,c6,c7,c8,c9,c10,c11,c12],_ =>
    obtain ⟨x0,e0,-⟩:=fitI h0; obtain ⟨x1,e1⟩:=fitE h1; obtain ⟨x2,e2,-⟩:=fitL h2; obtain ⟨x3,e3,-⟩:=fitL h3; obtain ⟨x4,e4,-⟩:=fitI h4
    simp at e0 e2 e3 e4
    have e1:[c1,c2,c3,c4,c5,c6,c7,c8,c9] = x1.cells:=e1
    refine ⟨⟨x0,x1,x2,x3,x4⟩,?_⟩
    subst e0 e2 e3 e4
    show [.int .i64 x0,c1,c2,c3,c4,c5,c6,c7,c8,c9,.int .i64 x2,.int .i64 x3,.int .i64 x4] = [.int .i64 x0] ++ x1.cells ++ _
    rw [← e1]; rfl
theorem fitActs {H:Heap} {n:Nat} {l:List Value} (h:FitS Try.prog H (n + 4) 49 l):∃ A m c acts,l = [.slice A m c] ∧ HasActs H A m acts:=by
  obtain ⟨A,m,c,e,hb,hz,hx⟩:=fitSl (e:=63) Try.underlying49 h
  have cA:Try.prog.cellsOf 63 = 13:=by kernel_rfl
  rw [cA] at hx
  obtain ⟨acts,hl,hp⟩:=list_of (p:=fun i (x:ActM)=>∃ a,A = some a ∧ At H (a.add (i * 13)) x.cells) m fun i hi=>by
    obtain ⟨a,cs',ha,-,hat,hf⟩:=hx i hi
    obtain ⟨x,rfl⟩:=fitAct hf
    exact ⟨x,a,ha,hat (by decide)⟩
  exact ⟨A,m,c,acts,e,⟨hl.symm,hb,src_of (cells:=ActM.cells) (sz:=13) (fun _=>rfl) hp⟩⟩
theorem openActs {W : World} {H : Type} {enc : TypeId × Value → H} {b0 : Nat} {spare : Nat → Bool} {held : Bool} {d : DataW H} {p : List MemPlace} {ts : List TypeId} {ds : List (DataW H)} (hsz : (DataW.weightsEach Try.prog ts ds).all (· ≤ reachBytes) = true) {j : Nat} (ht : ts[j]? = some 49) (hd : ds[j]? = some d)
    {A:Option Addr} {n c:Nat} (h:DataW.Trod enc Try.prog W b0 spare held 49 (.slice A n c) d p):∃ l,HasActs (hp W) A n l:=by
  obtain ⟨A',m,c',acts,e,k⟩:=fitActs (n:=0) (fits_of_Trod 4 hsz ht hd h)
  simp [Value.cells] at e
  obtain ⟨rfl,rfl,rfl⟩:=e
  exact ⟨acts,k⟩
end Go.Proofs.Ytjmdoiakcakfoaa
namespace Go.Proofs.Ytjmdoiakcakfoaa
open Go.ChangeShapes Go.WideShapes Go.ChangeAt Go.RowKit Go.Ax
open Go.ChangeMaps (open_string shut_string)
set_option linter.unusedVariables false
theorem own9:ownKnob Try.prog.godebug = none:=by kernel_rfl
theorem laidOut9:laidOutB Try.prog = true:=by kernel_rfl
set_option maxRecDepth 100000 in
theorem lifted9 (os : Os) (started : os.Started) (H : Type) (enc : TypeId × Value → H) :
    ReturnsInHanded {} Try.checked os 9 .any (Rows.vmBackSpec.pre6 enc Try.prog Try.f9 Rows.vmBackRow.domain false) (Rows.vmBackSpec.post enc Try.prog Try.f9 false true false false):=by
  refine returnsInHanded_of_change_sized (C:=Try.checked) own9 started (by kernel_rfl) Try.func9
    (ChangeSpec.witness6 (enc:=enc) (C:=Try.checked) false ⟨#[],#[.agg #[.slice none 0 0,.slice none 0 0],.slice none 0 0,.int .i64 0],[]⟩ 8 (by kernel_rfl) (by kernel_rfl) (by kernel_rfl) (by kernel_rfl)) ?_
  intro W base args ds gs before hval0 hW hcnd hsz _
  have hval:∀ (j:Nat) t v,Try.f9.params[j]? = some t → args[j]? = some v → Value.okWide Try.prog W .any base t v:=hval0
  have hW':=hW
  obtain ⟨p,q,hA0,hV,rfl,hfz,hnd⟩:=hW
  have hA:DataW.TrodAll enc Try.prog W 0 (fun _=>true) true Try.f9.params.toList args.toList ds p:=hA0
  rw [Try.params9] at hA hval
  obtain ⟨v0,vs0,d0,ds0,p0,q0,hargs,rfl,rfl,h0,s0⟩:=trodAll_cons hA
  obtain ⟨v1,vs1,d1,ds1,p1,q1,rfl,rfl,rfl,h1,s1⟩:=trodAll_cons s0
  obtain ⟨v2,vs2,d2,ds2,p2,q2,rfl,rfl,rfl,h2,s2⟩:=trodAll_cons s1
  obtain ⟨rfl,rfl,rfl⟩:=trodAll_nil s2
  obtain rfl:args = #[v0,v1,v2]:=by cases args; simp_all
  obtain ⟨rfl,rfl⟩:=trodVars_none hV
  have k0:=h0
  have lt0:∀ x ∈ p0,x.block < W.heap.size:=by obtain ⟨m,hm⟩:=k0; exact DataW.trod_lt m _ _ _ hm
  have k1:=h1
  have lt1:∀ x ∈ p1,x.block < W.heap.size:=by obtain ⟨m,hm⟩:=k1; exact DataW.trod_lt m _ _ _ hm
  have k2:=h2
  have lt2:∀ x ∈ p2,x.block < W.heap.size:=by obtain ⟨m,hm⟩:=k2; exact DataW.trod_lt m _ _ _ hm
  obtain ⟨fA0,fn0,fc0,oA0,on0,oc0,z0,rfl,r0,w0,q0⟩:=openP Try.underlying48 (hval 0 48 v0 rfl rfl) hsz (j:=0) rfl rfl h0
  obtain ⟨A1,n1,c1,rfl⟩:=okWide_slice Try.underlying49 (hval 1 49 v1 rfl rfl)
  obtain ⟨z1,r1⟩:=openActs hsz (j:=1) rfl rfl h1
  obtain ⟨a2,rfl,-,-,r2⟩:=open_int Try.underlying2 (hval 2 2 v2 rfl rfl) h2
  clear hA0 hval0
  refine (below_of_tr (f:=9) (t9 r0 r1 a2)).mono fun e W' ⟨he,bel⟩=>?_
  subst he
  exact ⟨_,rfl,_,_,_,[],_,[],hW',trodAll_mk1 (shut_bool Try.underlying4 _),(trodAll_cons_mk (Below.trod laidOut9 (by kernel_rfl) (of_decide_eq_true (by kernel_rfl)) k0 bel lt0) (trodAll_cons_mk (Below.trod laidOut9 (by kernel_rfl) (of_decide_eq_true (by kernel_rfl)) k1 bel lt1) (trodAll_cons_mk (Below.trod laidOut9 (by kernel_rfl) (of_decide_eq_true (by kernel_rfl)) k2 bel lt2) trodAll_mk0))),rfl,bel.frame _,fun h=>by cases h⟩
theorem over9:Rows.vmBackRow.holds Try.pinned (OpenSpec.ofChange Rows.vmBackSpec) :=
  OpenClaim.holds_of_wide 9 Try.f9 rfl rfl rfl rfl rfl rfl rfl ⟨rfl,rfl,rfl,rfl,rfl⟩ rfl rfl rfl rfl rfl (by kernel_rfl) Try.func9 (by kernel_rfl)
    (of_decide_eq_true (by kernel_rfl)) (by unfold Func.isWrapper; first | (rw [if_pos (by decide +kernel)]; kernel_rfl) | (rw [if_neg (by decide +kernel)]; exact ⟨rfl,rfl⟩))
    (fun os started H enc _=>lifted9 os started H enc)
theorem provedVmBack:Rows.VmBackSaid:=over9
end Go.Proofs.Ytjmdoiakcakfoaa
