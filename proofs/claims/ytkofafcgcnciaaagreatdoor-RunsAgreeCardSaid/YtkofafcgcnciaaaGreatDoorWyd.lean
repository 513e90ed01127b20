/- Lemmas that the claim needs, in order. Conditions: those of each lemma. -/
import Derived.Test.YtkofafcgcnciaaaGreatDoorWyc
set_option maxRecDepth 100000
set_option linter.unusedVariables false
namespace Go.Proofs.YtkofafcgcnciaaaGreatDoor
open Go.Ax IntKind
noncomputable def c189:Cx:={ P:=Tryz.prog,res:=[],pub:=[26,95,127],loops:=[],quiet:=[140,175],draws:=[⟨10,[],[],false,true⟩,⟨11,[7],[],false,true⟩,⟨19,[],[],false,true⟩],asm:=true }
def F189 (r:Option Addr) (oCode oA:Int) (H:Heap) (K:Value→Heap→Prop):Prop :=
 ∃(a:Addr),r=some a ∧∃(v:Option Addr),At H (a.add 0) [.pointer v] ∧((oCode==27)=true→Tr Tryz.prog 150 #[.pointer r] H fun v1 H' =>∃(x:Int),v1=.int .i64 x ∧∃(a1:Addr),r=some a1 ∧∃(b:Bool),At H' (a1.add 2) [.bool b] ∧(b=true→K (.tuple #[]) H') ∧(b=false→∃(a2:Addr),v=some a2 ∧∃(A:Option Addr) (n c:Nat),At H' ((a2.add 2).add 21) [.slice A n c] ∧(decide ((↑n:Int)≥16)=true→Tr Tryz.prog 142 #[.pointer v,(-3:Int)] H' fun v2 H'1=>v2=.tuple #[] ∧K (.tuple #[]) H'1) ∧(decide ((↑n:Int)≥16)=false→∃(a3:Addr),v=some a3 ∧∃(A1:Option Addr) (n1 c1:Nat),
 At H' ((a3.add 2).add 22) [.slice A1 n1 c1] ∧∃(a4:Addr),v=some a4 ∧∃(a5:Addr),r=some a5 ∧(∃(A2:Option Addr),∃(n2 c2:Nat),At H' ((a4.add 2).add 22) [.slice A2 n2 c2] ∧∃(v3:Option Addr),At H' (a5.add 1) [.pointer v3] ∧∃(a6:Addr),v3=some a6 ∧∃(x1:Int),At H' (a6.add 2) [x1] ∧appC 81 6 48 H' A2 n2 c2 [(0:Int),(0:Int),x1,.bool false,(0:Int),(0:Int)] 1 fun (A':Option Addr) (n' c':Nat) (H'2:Heap) =>∃(a7:Addr),v=some a7 ∧StL H'2 ((a7.add 2).add 22) [.slice A' n' c'] fun H1 =>∃(a8:Addr),v=some a8 ∧∃(a9:Addr),r=some a9 ∧(∃(A3:Option Addr),∃(n3 c4:Nat),
 At H1 ((a8.add 2).add 21) [.slice A3 n3 c4] ∧∃(v4:Option Addr),At H1 (a9.add 1) [.pointer v4] ∧∃(a10:Addr),v4=some a10 ∧∃(x2:Int),At H1 (a10.add 2) [x2] ∧appC 153 9 88 H1 A3 n3 c4 [oA,(0:Int),x2,.slice none 0 0,x,.int .i64 (↑n1:Int),(0:Int),(-1:Int),(-1:Int)] 1 fun (A'1:Option Addr) (n'1 c'1:Nat) (H'3:Heap) =>∃(a11:Addr),v=some a11 ∧StL H'3 ((a11.add 2).add 21) [.slice A'1 n'1 c'1] fun H11=>∀b1,H11 b1=none→∀H12,H12=H11.upd b1 (.cells #[.int .i64 (↑n1:Int)] 2)→Tr Tryz.prog 174 #[.pointer r,.slice (some (b1:Addr)) (1:Nat) (1:Nat)] H12 fun v5 H'4=>v5=.tuple #[] ∧
 K (.tuple #[]) H'4) ∧∃(v6:Option Addr),At H1 (a9.add 1) [.pointer v6] ∧∃(a12:Addr),v6=some a12 ∧(∃(A4:Option Addr),∃(n4 c6:Nat),At H1 ((a8.add 2).add 21) [.slice A4 n4 c6] ∧∃(x3:Int),At H1 (a12.add 2) [x3] ∧appC 153 9 88 H1 A4 n4 c6 [oA,(0:Int),x3,.slice none 0 0,x,.int .i64 (↑n1:Int),(0:Int),(-1:Int),(-1:Int)] 1 fun (A'2:Option Addr) (n'2 c'2:Nat) (H'5:Heap) =>∃(a13:Addr),v=some a13 ∧
 StL H'5 ((a13.add 2).add 21) [.slice A'2 n'2 c'2] fun H13=>∀b2,H13 b2=none→∀H14,H14=H13.upd b2 (.cells #[.int .i64 (↑n1:Int)] 2)→Tr Tryz.prog 174 #[.pointer r,.slice (some (b2:Addr)) (1:Nat) (1:Nat)] H14 fun v7 H'6=>v7=.tuple #[] ∧K (.tuple #[]) H'6) ∧∃(x4:Int),At H1 (a12.add 2) [x4] ∧(∃(A5:Option Addr),∃(n5 c8:Nat),At H1 ((a8.add 2).add 21) [.slice A5 n5 c8] ∧appC 153 9 88 H1 A5 n5 c8 [oA,(0:Int),x4,.slice none 0 0,x,.int .i64 (↑n1:Int),(0:Int),(-1:Int),(-1:Int)] 1 fun (A'3:Option Addr) (n'3 c'3:Nat) (H'7:Heap) =>∃(a14:Addr),v=some a14 ∧
 StL H'7 ((a14.add 2).add 21) [.slice A'3 n'3 c'3] fun H15=>∀b3,H15 b3=none→∀H16,H16=H15.upd b3 (.cells #[.int .i64 (↑n1:Int)] 2)→Tr Tryz.prog 174 #[.pointer r,.slice (some (b3:Addr)) (1:Nat) (1:Nat)] H16 fun v8 H'8=>v8=.tuple #[] ∧K (.tuple #[]) H'8) ∧∃(A6:Option Addr) (n6 c10:Nat),At H1 ((a8.add 2).add 21) [.slice A6 n6 c10] ∧appC 153 9 88 H1 A6 n6 c10 [oA,(0:Int),x4,.slice none 0 0,x,.int .i64 (↑n1:Int),(0:Int),(-1:Int),(-1:Int)] 1 fun (A'4:Option Addr) (n'4 c'4:Nat) (H'9:Heap) =>∃(a15:Addr),v=some a15 ∧
 StL H'9 ((a15.add 2).add 21) [.slice A'4 n'4 c'4] fun H17=>∀b4,H17 b4=none→∀H18,H18=H17.upd b4 (.cells #[.int .i64 (↑n1:Int)] 2)→Tr Tryz.prog 174 #[.pointer r,.slice (some (b4:Addr)) (1:Nat) (1:Nat)] H18 fun v9 H'10=>v9=.tuple #[] ∧K (.tuple #[]) H'10) ∧∃(v10:Option Addr),At H' (a5.add 1) [.pointer v10] ∧∃(a16:Addr),v10=some a16 ∧(∃(A7:Option Addr),∃(n7 c12:Nat),At H' ((a4.add 2).add 22) [.slice A7 n7 c12] ∧∃(x5:Int),At H' (a16.add 2) [x5] ∧appC 81 6 48 H' A7 n7 c12 [(0:Int),(0:Int),x5,.bool false,(0:Int),(0:Int)] 1 fun (A'5:Option Addr) (n'5 c'5:Nat) (H'11:Heap) =>
 ∃(a17:Addr),v=some a17 ∧StL H'11 ((a17.add 2).add 22) [.slice A'5 n'5 c'5] fun H19 =>∃(a18:Addr),v=some a18 ∧∃(a19:Addr),r=some a19 ∧(∃(A8:Option Addr),∃(n8 c14:Nat),At H19 ((a18.add 2).add 21) [.slice A8 n8 c14] ∧∃(v11:Option Addr),At H19 (a19.add 1) [.pointer v11] ∧∃(a20:Addr),v11=some a20 ∧∃(x6:Int),At H19 (a20.add 2) [x6] ∧appC 153 9 88 H19 A8 n8 c14 [oA,(0:Int),x6,.slice none 0 0,x,.int .i64 (↑n1:Int),(0:Int),(-1:Int),(-1:Int)] 1 fun (A'6:Option Addr) (n'6 c'6:Nat) (H'12:Heap) =>∃(a21:Addr),v=some a21 ∧
 StL H'12 ((a21.add 2).add 21) [.slice A'6 n'6 c'6] fun H110=>∀b5,H110 b5=none→∀H111,H111=H110.upd b5 (.cells #[.int .i64 (↑n1:Int)] 2)→Tr Tryz.prog 174 #[.pointer r,.slice (some (b5:Addr)) (1:Nat) (1:Nat)] H111 fun v12 H'13=>v12=.tuple #[] ∧K (.tuple #[]) H'13) ∧∃(v13:Option Addr),At H19 (a19.add 1) [.pointer v13] ∧∃(a22:Addr),v13=some a22 ∧(∃(A9:Option Addr),∃(n9 c16:Nat),At H19 ((a18.add 2).add 21) [.slice A9 n9 c16] ∧∃(x7:Int),At H19 (a22.add 2) [x7] ∧
 appC 153 9 88 H19 A9 n9 c16 [oA,(0:Int),x7,.slice none 0 0,x,.int .i64 (↑n1:Int),(0:Int),(-1:Int),(-1:Int)] 1 fun (A'7:Option Addr) (n'7 c'7:Nat) (H'14:Heap) =>∃(a23:Addr),v=some a23 ∧StL H'14 ((a23.add 2).add 21) [.slice A'7 n'7 c'7] fun H112=>∀b6,H112 b6=none→∀H113,H113=H112.upd b6 (.cells #[.int .i64 (↑n1:Int)] 2)→Tr Tryz.prog 174 #[.pointer r,.slice (some (b6:Addr)) (1:Nat) (1:Nat)] H113 fun v14 H'15=>v14=.tuple #[] ∧K (.tuple #[]) H'15) ∧∃(x8:Int),At H19 (a22.add 2) [x8] ∧(∃(A10:Option Addr),∃(n10 c18:Nat),At H19 ((a18.add 2).add 21) [.slice A10 n10 c18] ∧
 appC 153 9 88 H19 A10 n10 c18 [oA,(0:Int),x8,.slice none 0 0,x,.int .i64 (↑n1:Int),(0:Int),(-1:Int),(-1:Int)] 1 fun (A'8:Option Addr) (n'8 c'8:Nat) (H'16:Heap) =>∃(a24:Addr),v=some a24 ∧StL H'16 ((a24.add 2).add 21) [.slice A'8 n'8 c'8] fun H114=>∀b7,H114 b7=none→∀H115,H115=H114.upd b7 (.cells #[.int .i64 (↑n1:Int)] 2)→Tr Tryz.prog 174 #[.pointer r,.slice (some (b7:Addr)) (1:Nat) (1:Nat)] H115 fun v15 H'17=>v15=.tuple #[] ∧K (.tuple #[]) H'17) ∧∃(A11:Option Addr) (n11 c20:Nat),At H19 ((a18.add 2).add 21) [.slice A11 n11 c20] ∧
 appC 153 9 88 H19 A11 n11 c20 [oA,(0:Int),x8,.slice none 0 0,x,.int .i64 (↑n1:Int),(0:Int),(-1:Int),(-1:Int)] 1 fun (A'9:Option Addr) (n'9 c'9:Nat) (H'18:Heap) =>∃(a25:Addr),v=some a25 ∧StL H'18 ((a25.add 2).add 21) [.slice A'9 n'9 c'9] fun H116=>∀b8,H116 b8=none→∀H117,H117=H116.upd b8 (.cells #[.int .i64 (↑n1:Int)] 2)→Tr Tryz.prog 174 #[.pointer r,.slice (some (b8:Addr)) (1:Nat) (1:Nat)] H117 fun v16 H'19=>v16=.tuple #[] ∧K (.tuple #[]) H'19) ∧∃(x9:Int),At H' (a16.add 2) [x9] ∧(∃(A12:Option Addr),∃(n12 c22:Nat),At H' ((a4.add 2).add 22) [.slice A12 n12 c22] ∧
 appC 81 6 48 H' A12 n12 c22 [(0:Int),(0:Int),x9,.bool false,(0:Int),(0:Int)] 1 fun (A'10:Option Addr) (n'10 c'10:Nat) (H'20:Heap) =>∃(a26:Addr),v=some a26 ∧StL H'20 ((a26.add 2).add 22) [.slice A'10 n'10 c'10] fun H118 =>∃(a27:Addr),v=some a27 ∧∃(a28:Addr),r=some a28 ∧(∃(A13:Option Addr),∃(n13 c24:Nat),At H118 ((a27.add 2).add 21) [.slice A13 n13 c24] ∧∃(v17:Option Addr),At H118 (a28.add 1) [.pointer v17] ∧∃(a29:Addr),v17=some a29 ∧∃(x10:Int),At H118 (a29.add 2) [x10] ∧
 appC 153 9 88 H118 A13 n13 c24 [oA,(0:Int),x10,.slice none 0 0,x,.int .i64 (↑n1:Int),(0:Int),(-1:Int),(-1:Int)] 1 fun (A'11:Option Addr) (n'11 c'11:Nat) (H'21:Heap) =>∃(a30:Addr),v=some a30 ∧StL H'21 ((a30.add 2).add 21) [.slice A'11 n'11 c'11] fun H119=>∀b9,H119 b9=none→∀H120,H120=H119.upd b9 (.cells #[.int .i64 (↑n1:Int)] 2)→Tr Tryz.prog 174 #[.pointer r,.slice (some (b9:Addr)) (1:Nat) (1:Nat)] H120 fun v18 H'22=>v18=.tuple #[] ∧K (.tuple #[]) H'22) ∧∃(v19:Option Addr),At H118 (a28.add 1) [.pointer v19] ∧∃(a31:Addr),v19=some a31 ∧(∃(A14:Option Addr),∃(n14 c26:Nat),
 At H118 ((a27.add 2).add 21) [.slice A14 n14 c26] ∧∃(x11:Int),At H118 (a31.add 2) [x11] ∧appC 153 9 88 H118 A14 n14 c26 [oA,(0:Int),x11,.slice none 0 0,x,.int .i64 (↑n1:Int),(0:Int),(-1:Int),(-1:Int)] 1 fun (A'12:Option Addr) (n'12 c'12:Nat) (H'23:Heap) =>∃(a32:Addr),v=some a32 ∧StL H'23 ((a32.add 2).add 21) [.slice A'12 n'12 c'12] fun H121=>∀b10,H121 b10=none→∀H122,H122=H121.upd b10 (.cells #[.int .i64 (↑n1:Int)] 2)→Tr Tryz.prog 174 #[.pointer r,.slice (some (b10:Addr)) (1:Nat) (1:Nat)] H122 fun v20 H'24=>v20=.tuple #[] ∧K (.tuple #[]) H'24) ∧∃(x12:Int),
 At H118 (a31.add 2) [x12] ∧(∃(A15:Option Addr),∃(n15 c28:Nat),At H118 ((a27.add 2).add 21) [.slice A15 n15 c28] ∧appC 153 9 88 H118 A15 n15 c28 [oA,(0:Int),x12,.slice none 0 0,x,.int .i64 (↑n1:Int),(0:Int),(-1:Int),(-1:Int)] 1 fun (A'13:Option Addr) (n'13 c'13:Nat) (H'25:Heap) =>∃(a33:Addr),v=some a33 ∧StL H'25 ((a33.add 2).add 21) [.slice A'13 n'13 c'13] fun H123=>∀b11,H123 b11=none→∀H124,H124=H123.upd b11 (.cells #[.int .i64 (↑n1:Int)] 2)→Tr Tryz.prog 174 #[.pointer r,.slice (some (b11:Addr)) (1:Nat) (1:Nat)] H124 fun v21 H'26=>v21=.tuple #[] ∧K (.tuple #[]) H'26) ∧
 ∃(A16:Option Addr) (n16 c30:Nat),At H118 ((a27.add 2).add 21) [.slice A16 n16 c30] ∧appC 153 9 88 H118 A16 n16 c30 [oA,(0:Int),x12,.slice none 0 0,x,.int .i64 (↑n1:Int),(0:Int),(-1:Int),(-1:Int)] 1 fun (A'14:Option Addr) (n'14 c'14:Nat) (H'27:Heap) =>∃(a34:Addr),v=some a34 ∧StL H'27 ((a34.add 2).add 21) [.slice A'14 n'14 c'14] fun H125=>∀b12,H125 b12=none→∀H126,H126=H125.upd b12 (.cells #[.int .i64 (↑n1:Int)] 2)→Tr Tryz.prog 174 #[.pointer r,.slice (some (b12:Addr)) (1:Nat) (1:Nat)] H126 fun v22 H'28=>v22=.tuple #[] ∧K (.tuple #[]) H'28) ∧∃(A17:Option Addr) (n17 c32:Nat),
 At H' ((a4.add 2).add 22) [.slice A17 n17 c32] ∧appC 81 6 48 H' A17 n17 c32 [(0:Int),(0:Int),x9,.bool false,(0:Int),(0:Int)] 1 fun (A'15:Option Addr) (n'15 c'15:Nat) (H'29:Heap) =>∃(a35:Addr),v=some a35 ∧StL H'29 ((a35.add 2).add 22) [.slice A'15 n'15 c'15] fun H127 =>∃(a36:Addr),v=some a36 ∧∃(a37:Addr),r=some a37 ∧(∃(A18:Option Addr),∃(n18 c34:Nat),At H127 ((a36.add 2).add 21) [.slice A18 n18 c34] ∧∃(v23:Option Addr),At H127 (a37.add 1) [.pointer v23] ∧∃(a38:Addr),v23=some a38 ∧∃(x13:Int),At H127 (a38.add 2) [x13] ∧
 appC 153 9 88 H127 A18 n18 c34 [oA,(0:Int),x13,.slice none 0 0,x,.int .i64 (↑n1:Int),(0:Int),(-1:Int),(-1:Int)] 1 fun (A'16:Option Addr) (n'16 c'16:Nat) (H'30:Heap) =>∃(a39:Addr),v=some a39 ∧StL H'30 ((a39.add 2).add 21) [.slice A'16 n'16 c'16] fun H128=>∀b13,H128 b13=none→∀H129,H129=H128.upd b13 (.cells #[.int .i64 (↑n1:Int)] 2)→Tr Tryz.prog 174 #[.pointer r,.slice (some (b13:Addr)) (1:Nat) (1:Nat)] H129 fun v24 H'31=>v24=.tuple #[] ∧K (.tuple #[]) H'31) ∧∃(v25:Option Addr),At H127 (a37.add 1) [.pointer v25] ∧∃(a40:Addr),v25=some a40 ∧(∃(A19:Option Addr),∃(n19 c36:Nat),
 At H127 ((a36.add 2).add 21) [.slice A19 n19 c36] ∧∃(x14:Int),At H127 (a40.add 2) [x14] ∧appC 153 9 88 H127 A19 n19 c36 [oA,(0:Int),x14,.slice none 0 0,x,.int .i64 (↑n1:Int),(0:Int),(-1:Int),(-1:Int)] 1 fun (A'17:Option Addr) (n'17 c'17:Nat) (H'32:Heap) =>∃(a41:Addr),v=some a41 ∧StL H'32 ((a41.add 2).add 21) [.slice A'17 n'17 c'17] fun H130=>∀b14,H130 b14=none→∀H131,H131=H130.upd b14 (.cells #[.int .i64 (↑n1:Int)] 2)→Tr Tryz.prog 174 #[.pointer r,.slice (some (b14:Addr)) (1:Nat) (1:Nat)] H131 fun v26 H'33=>v26=.tuple #[] ∧K (.tuple #[]) H'33) ∧∃(x15:Int),
 At H127 (a40.add 2) [x15] ∧(∃(A20:Option Addr),∃(n20 c38:Nat),At H127 ((a36.add 2).add 21) [.slice A20 n20 c38] ∧appC 153 9 88 H127 A20 n20 c38 [oA,(0:Int),x15,.slice none 0 0,x,.int .i64 (↑n1:Int),(0:Int),(-1:Int),(-1:Int)] 1 fun (A'18:Option Addr) (n'18 c'18:Nat) (H'34:Heap) =>∃(a42:Addr),v=some a42 ∧StL H'34 ((a42.add 2).add 21) [.slice A'18 n'18 c'18] fun H132=>∀b15,H132 b15=none→∀H133,H133=H132.upd b15 (.cells #[.int .i64 (↑n1:Int)] 2)→Tr Tryz.prog 174 #[.pointer r,.slice (some (b15:Addr)) (1:Nat) (1:Nat)] H133 fun v27 H'35=>v27=.tuple #[] ∧K (.tuple #[]) H'35) ∧
 ∃(A21:Option Addr) (n21 c40:Nat),At H127 ((a36.add 2).add 21) [.slice A21 n21 c40] ∧appC 153 9 88 H127 A21 n21 c40 [oA,(0:Int),x15,.slice none 0 0,x,.int .i64 (↑n1:Int),(0:Int),(-1:Int),(-1:Int)] 1 fun (A'19:Option Addr) (n'19 c'19:Nat) (H'36:Heap) =>∃(a43:Addr),v=some a43 ∧StL H'36 ((a43.add 2).add 21) [.slice A'19 n'19 c'19] fun H134=>∀b16,H134 b16=none→∀H135,H135=H134.upd b16 (.cells #[.int .i64 (↑n1:Int)] 2)→Tr Tryz.prog 174 #[.pointer r,.slice (some (b16:Addr)) (1:Nat) (1:Nat)] H135 fun v28 H'37=>v28=.tuple #[] ∧K (.tuple #[]) H'37))) ∧
 ((oCode==27)=false→((oCode==29)=true→∃(a44:Addr),r=some a44 ∧∃(v29:Option Addr),At H (a44.add 1) [.pointer v29] ∧∃(a45:Addr),v29=some a45 ∧∃(A22:Option Addr) (n22 c42:Nat),At H (a45.add 3) [.slice A22 n22 c42] ∧(((↑n22:Int)==32)=true→∃(a46:Addr),r=some a46 ∧StL H (a46.add 2) [.bool true] fun H136=>K (.tuple #[]) H136) ∧(((↑n22:Int)==32)=false→∃(a47:Addr),v=some a47 ∧∃(A23:Option Addr) (n23 c44:Nat),At H ((a47.add 2).add 23) [.slice A23 n23 c44] ∧(decide ((↑n23:Int)≥32)=true→Tr Tryz.prog 142 #[.pointer v,(-3:Int)] H fun v30 H'38=>v30=.tuple #[] ∧
 K (.tuple #[]) H'38) ∧(decide ((↑n23:Int)≥32)=false→∃(a48:Addr),v=some a48 ∧∃(A24:Option Addr) (n24 c45:Nat),At H ((a48.add 2).add 23) [.slice A24 n24 c45] ∧∀b17,H b17=none→∀H137,H137=H.upd b17 (.cells #[.int .i64 (↑n24:Int)] 2)→Tr Tryz.prog 174 #[.pointer r,.slice (some (b17:Addr)) (1:Nat) (1:Nat)] H137 fun v31 H'39=>v31=.tuple #[] ∧∃(a49:Addr),v=some a49 ∧∃(a50:Addr),r=some a50 ∧(∃(A25:Option Addr),∃(n25 c46:Nat),At H'39 ((a49.add 2).add 23) [.slice A25 n25 c46] ∧∃(v32:Option Addr),At H'39 (a50.add 1) [.pointer v32] ∧∃(a51:Addr),v32=some a51 ∧∃(x16:Int),
 At H'39 (a51.add 2) [x16] ∧appC 199 2 16 H'39 A25 n25 c46 [x16,.bool false] 1 fun (A'20:Option Addr) (n'20 c'20:Nat) (H'40:Heap) =>∃(a52:Addr),v=some a52 ∧StL H'40 ((a52.add 2).add 23) [.slice A'20 n'20 c'20] fun H138=>K (.tuple #[]) H138) ∧∃(v33:Option Addr),At H'39 (a50.add 1) [.pointer v33] ∧∃(a53:Addr),v33=some a53 ∧(∃(A26:Option Addr),∃(n26 c48:Nat),At H'39 ((a49.add 2).add 23) [.slice A26 n26 c48] ∧∃(x17:Int),At H'39 (a53.add 2) [x17] ∧appC 199 2 16 H'39 A26 n26 c48 [x17,.bool false] 1 fun (A'21:Option Addr) (n'21 c'21:Nat) (H'41:Heap) =>∃(a54:Addr),v=some a54 ∧
 StL H'41 ((a54.add 2).add 23) [.slice A'21 n'21 c'21] fun H139=>K (.tuple #[]) H139) ∧∃(x18:Int),At H'39 (a53.add 2) [x18] ∧(∃(A27:Option Addr),∃(n27 c50:Nat),At H'39 ((a49.add 2).add 23) [.slice A27 n27 c50] ∧appC 199 2 16 H'39 A27 n27 c50 [x18,.bool false] 1 fun (A'22:Option Addr) (n'22 c'22:Nat) (H'42:Heap) =>∃(a55:Addr),v=some a55 ∧StL H'42 ((a55.add 2).add 23) [.slice A'22 n'22 c'22] fun H140=>K (.tuple #[]) H140) ∧∃(A28:Option Addr) (n28 c52:Nat),At H'39 ((a49.add 2).add 23) [.slice A28 n28 c52] ∧
 appC 199 2 16 H'39 A28 n28 c52 [x18,.bool false] 1 fun (A'23:Option Addr) (n'23 c'23:Nat) (H'43:Heap) =>∃(a56:Addr),v=some a56 ∧StL H'43 ((a56.add 2).add 23) [.slice A'23 n'23 c'23] fun H141=>K (.tuple #[]) H141))) ∧((oCode==29)=false→((oCode==30)=true→Tr Tryz.prog 195 #[.pointer r] H fun v34 H'44 =>∃(x19:Int),v34=.int .i64 x19 ∧∃(a57:Addr),r=some a57 ∧∃(b18:Bool),At H'44 (a57.add 2) [.bool b18] ∧((!b18)=true→∃(a58:Addr),r=some a58 ∧∃(v35:Option Addr),At H'44 (a58.add 1) [.pointer v35] ∧∃(a59:Addr),v35=some a59 ∧
 StL H'44 (a59.add 2) [x19] fun H142=>K (.tuple #[]) H142) ∧((!b18)=false→K (.tuple #[]) H'44)) ∧((oCode==30)=false→((oCode==31)=true→Tr Tryz.prog 195 #[.pointer r] H fun v36 H'45 =>∃(x20:Int),v36=.int .i64 x20 ∧∃(a60:Addr),r=some a60 ∧∃(b19:Bool),At H'45 (a60.add 2) [.bool b19] ∧((!b19)=true→Tr Tryz.prog 115 #[.pointer v,x20] H'45 fun v37 H'46=>v37=.tuple #[] ∧K (.tuple #[]) H'46) ∧((!b19)=false→K (.tuple #[]) H'45)) ∧((oCode==31)=false→∃(a61:Addr),r=some a61 ∧∃(v38:Option Addr),At H (a61.add 1) [.pointer v38] ∧∃(a62:Addr),v38=some a62 ∧
 ∃(x21:Int),At H (a62.add 2) [x21] ∧∃(b20:Bool),TrQ Tryz.prog 140 #[.pointer v,x21] H (.bool b20) ∧∃(x22:Int),TrQ Tryz.prog 175 #[.bool b20] H (.int .i64 x22) ∧∀b21,H b21=none→∀H143,H143=H.upd b21 (.cells #[x22] 2)→Tr Tryz.prog 174 #[.pointer r,.slice (some (b21:Addr)) (1:Nat) (1:Nat)] H143 fun v41 H'49=>v41=.tuple #[] ∧K (.tuple #[]) H'49))))

theorem v189 {r:Option Addr} {oCode oA:Int} {H:Heap} {K:Value→Heap→Prop} (h:F189 r oCode oA H K):Tr Tryz.prog 189 #[.pointer r,.agg #[.int .i64 oCode,.int .i64 oA]] H K :=
 tr_of_eq (C:=c189) Tryz.func189 (by kernel_rfl) h
noncomputable def c190:Cx:={ P:=Tryz.prog,res:=[],pub:=[66],loops:=[],quiet:=[196],draws:=[⟨9,[],[],false,true⟩,⟨19,[2],[],false,true⟩,⟨29,[2],[],false,true⟩,⟨32,[11],[],false,true⟩],asm:=true }
def F190 (r:Option Addr) (oCode oA:Int) (H:Heap) (K:Value→Heap→Prop):Prop :=
 ∃(a:Addr),r=some a ∧∃(v:Option Addr),At H (a.add 0) [.pointer v] ∧((oCode==19)=true→∃(a1:Addr),r=some a1 ∧∃(v1:Option Addr),At H (a1.add 1) [.pointer v1] ∧∃(a2:Addr),v1=some a2 ∧∃(A:Option Addr) (n c:Nat),At H (a2.add 3) [.slice A n c] ∧(((↑n:Int)==32)=true→∃(a3:Addr),r=some a3 ∧StL H (a3.add 2) [.bool true] fun H1=>K (.tuple #[]) H1) ∧(((↑n:Int)==32)=false→∃(a4:Addr),v=some a4 ∧∃(x:Int),At H (a4.add 33) [.int .u64 x] ∧∃(x1:Int),TrQ Tryz.prog 196 #[.int .u64 x] H (.int .u64 x1) ∧∃(a5:Addr),v=some a5 ∧∃(x2:Int),At H (a5.add 33) [.int .u64 x2] ∧
 ∃(a6:Addr),v=some a6 ∧StL H (a6.add 33) [.int .u64 (u64.wrap (x2+1))] fun H11=>Tr Tryz.prog 141 #[.pointer v,.agg #[(0:Int),(0:Int),(11:Int),.int .i64 (i64.wrap x1),(0:Int),(0:Int),(0:Int),(0:Int),(0:Int)]] H11 fun v3 H'1 =>∃(x3:Int) (b:Bool),v3=.tuple #[x3,.bool b] ∧(b=true→∃(a7:Addr),v=some a7 ∧∃(a8:Addr),v=some a8 ∧(∃(A1:Option Addr),∃(n1 c3:Nat),At H'1 (a7.add 32) [.slice A1 n1 c3] ∧∃(A2:Option Addr) (n2 c4:Nat),At H'1 (a8.add 32) [.slice A2 n2 c4] ∧∃(a9:Addr),InB A1 a9 (i64.wrap ((↑n2:Int)-1)) n1 ∧∃(x4:Int),
 At H'1 ((a9.add ((i64.wrap ((↑n2:Int)-1)).toNat*9)).add 3) [x4] ∧∀b1,H'1 b1=none→∀H12,H12=H'1.upd b1 (.cells #[x4] 2)→Tr Tryz.prog 174 #[.pointer r,.slice (some (b1:Addr)) (1:Nat) (1:Nat)] H12 fun v4 H'2=>v4=.tuple #[] ∧K (.tuple #[]) H'2) ∧∃(A3:Option Addr) (n3 c5:Nat),At H'1 (a8.add 32) [.slice A3 n3 c5] ∧∃(A4:Option Addr) (n4 c6:Nat),At H'1 (a7.add 32) [.slice A4 n4 c6] ∧∃(a10:Addr),InB A4 a10 (i64.wrap ((↑n3:Int)-1)) n4 ∧∃(x5:Int),At H'1 ((a10.add ((i64.wrap ((↑n3:Int)-1)).toNat*9)).add 3) [x5] ∧
 ∀b2,H'1 b2=none→∀H13,H13=H'1.upd b2 (.cells #[x5] 2)→Tr Tryz.prog 174 #[.pointer r,.slice (some (b2:Addr)) (1:Nat) (1:Nat)] H13 fun v5 H'3=>v5=.tuple #[] ∧K (.tuple #[]) H'3) ∧(b=false→K (.tuple #[]) H'1))) ∧((oCode==19)=false→((oCode==34)=true→Tr Tryz.prog 194 #[.pointer r,(1:Int)] H fun v6 H'4 =>∃(x6:Int),v6=.int .i64 x6 ∧∃(a11:Addr),((!decide (x6<0))=true→v=some a11) ∧∃(A5:Option Addr) (n5 c7:Nat),((!decide (x6<0))=true→At H'4 ((a11.add 2).add 22) [.slice A5 n5 c7]) ∧∃(a12:Addr),((!decide (x6<0))=true→A5=some a12 ∧(0:Int)≤x6 ∧
 x6<(↑n5:Int)) ∧∃(x7:Int),((!decide (x6<0))=true→At H'4 ((a12.add (x6.toNat*6)).add 0) [x7]) ∧∃(a13:Addr),((!(decide (x6<0)||x7 != 5))=true→v=some a13) ∧∃(A6:Option Addr) (n6 c8:Nat),((!(decide (x6<0)||x7 != 5))=true→At H'4 ((a13.add 2).add 22) [.slice A6 n6 c8]) ∧∃(a14:Addr),((!(decide (x6<0)||x7 != 5))=true→A6=some a14 ∧(0:Int)≤x6 ∧x6<(↑n6:Int)) ∧∃(x8:Int),((!(decide (x6<0)||x7 != 5))=true→At H'4 ((a14.add (x6.toNat*6)).add 1) [x8]) ∧((decide (x6<0)||x7 != 5||x8==0)=true→∃(a15:Addr),r=some a15 ∧
 StL H'4 (a15.add 2) [.bool true] fun H14=>K (.tuple #[]) H14) ∧((decide (x6<0)||x7 != 5||x8==0)=false→Tr Tryz.prog 150 #[.pointer r] H'4 fun v7 H'5 =>∃(x9:Int),v7=.int .i64 x9 ∧∃(a16:Addr),r=some a16 ∧∃(b3:Bool),At H'5 (a16.add 2) [.bool b3] ∧(b3=true→K (.tuple #[]) H'5) ∧(b3=false→((oCode==16)=true→∃(a17:Addr),v=some a17 ∧((0:Int)≤oA ∧oA<(↑(16:Nat):Int)) ∧StL H'5 (((a17.add 2).add 0).add (oA.toNat*1)) [x9] fun H15=>K (.tuple #[]) H15) ∧
 ((oCode==16)=false→((oCode==20)=true→Tr Tryz.prog 197 #[.pointer r,.agg #[(0:Int),(0:Int),(3:Int),oA,x9,(0:Int),(0:Int),(0:Int),(0:Int)]] H'5 fun v8 H'6=>v8=.tuple #[] ∧K (.tuple #[]) H'6) ∧((oCode==20)=false→((oCode==21)=true→∃(a18:Addr),v=some a18 ∧∃(x10:Int),At H'5 ((a18.add 2).add 20) [x10] ∧
 Tr Tryz.prog 197 #[.pointer r,.agg #[(0:Int),(0:Int),(4:Int),(i64.wrap (x10+if (1048576:Int)<if (0:Int)>x9 then (0:Int) else x9 then (1048576:Int) else if (0:Int)>x9 then (0:Int) else x9)),(0:Int),(0:Int),(0:Int),(0:Int),(0:Int)]] H'5 fun v9 H'7=>v9=.tuple #[] ∧K (.tuple #[]) H'7) ∧((oCode==21)=false→((oCode==22)=true→Tr Tryz.prog 197 #[.pointer r,.agg #[(0:Int),(0:Int),(5:Int),oA,x9,(0:Int),(0:Int),(0:Int),(0:Int)]] H'5 fun v10 H'8=>v10=.tuple #[] ∧K (.tuple #[]) H'8) ∧
 ((oCode==22)=false→((oCode==33)=true→Tr Tryz.prog 141 #[.pointer v,.agg #[(0:Int),(0:Int),(10:Int),oA,x9,(0:Int),(0:Int),(0:Int),(0:Int)]] H'5 fun v11 H'9 =>∃(x11:Int) (b4:Bool),v11=.tuple #[x11,.bool b4] ∧(b4=true→∃(a19:Addr),v=some a19 ∧((0:Int)≤oA ∧oA<(↑(4:Nat):Int)) ∧StL H'9 (((a19.add 2).add 16).add (oA.toNat*1)) [x9] fun H16=>K (.tuple #[]) H16) ∧(b4=false→K (.tuple #[]) H'9)) ∧((oCode==33)=false→((oCode==34)=true→Tr Tryz.prog 150 #[.pointer r] H'5 fun v12 H'10 =>∃(x12:Int),v12=.int .i64 x12 ∧∃(a20:Addr),v=some a20 ∧
 ∃(A7:Option Addr) (n7 c12:Nat),At H'10 ((a20.add 2).add 22) [.slice A7 n7 c12] ∧∃(a21:Addr),InB A7 a21 x6 n7 ∧∃(x13:Int),At H'10 ((a21.add (x6.toNat*6)).add 1) [x13] ∧Tr Tryz.prog 141 #[.pointer v,.agg #[(0:Int),(0:Int),(9:Int),x13,oA,x9,(0:Int),(0:Int),(0:Int)]] H'10 fun v13 H'11 =>∃(x14:Int) (b5:Bool),v13=.tuple #[x14,.bool b5] ∧K (.tuple #[]) H'11) ∧((oCode==34)=false→K (.tuple #[]) H'5))))))))) ∧((oCode==34)=false→Tr Tryz.prog 150 #[.pointer r] H fun v14 H'12 =>∃(x15:Int),v14=.int .i64 x15 ∧∃(a22:Addr),r=some a22 ∧∃(b6:Bool),At H'12 (a22.add 2) [.bool b6] ∧
 (b6=true→K (.tuple #[]) H'12) ∧(b6=false→((oCode==16)=true→∃(a23:Addr),v=some a23 ∧((0:Int)≤oA ∧oA<(↑(16:Nat):Int)) ∧StL H'12 (((a23.add 2).add 0).add (oA.toNat*1)) [x15] fun H17=>K (.tuple #[]) H17) ∧((oCode==16)=false→((oCode==20)=true→Tr Tryz.prog 197 #[.pointer r,.agg #[(0:Int),(0:Int),(3:Int),oA,x15,(0:Int),(0:Int),(0:Int),(0:Int)]] H'12 fun v15 H'13=>v15=.tuple #[] ∧K (.tuple #[]) H'13) ∧((oCode==20)=false→((oCode==21)=true→∃(a24:Addr),v=some a24 ∧∃(x16:Int),At H'12 ((a24.add 2).add 20) [x16] ∧
 Tr Tryz.prog 197 #[.pointer r,.agg #[(0:Int),(0:Int),(4:Int),(i64.wrap (x16+if (1048576:Int)<if (0:Int)>x15 then (0:Int) else x15 then (1048576:Int) else if (0:Int)>x15 then (0:Int) else x15)),(0:Int),(0:Int),(0:Int),(0:Int),(0:Int)]] H'12 fun v16 H'14=>v16=.tuple #[] ∧K (.tuple #[]) H'14) ∧((oCode==21)=false→((oCode==22)=true→Tr Tryz.prog 197 #[.pointer r,.agg #[(0:Int),(0:Int),(5:Int),oA,x15,(0:Int),(0:Int),(0:Int),(0:Int)]] H'12 fun v17 H'15=>v17=.tuple #[] ∧K (.tuple #[]) H'15) ∧
 ((oCode==22)=false→((oCode==33)=true→Tr Tryz.prog 141 #[.pointer v,.agg #[(0:Int),(0:Int),(10:Int),oA,x15,(0:Int),(0:Int),(0:Int),(0:Int)]] H'12 fun v18 H'16 =>∃(x17:Int) (b7:Bool),v18=.tuple #[x17,.bool b7] ∧(b7=true→∃(a25:Addr),v=some a25 ∧((0:Int)≤oA ∧oA<(↑(4:Nat):Int)) ∧StL H'16 (((a25.add 2).add 16).add (oA.toNat*1)) [x15] fun H18=>K (.tuple #[]) H18) ∧(b7=false→K (.tuple #[]) H'16)) ∧((oCode==33)=false→((oCode==34)=true→Tr Tryz.prog 150 #[.pointer r] H'12 fun v19 H'17 =>∃(x18:Int),v19=.int .i64 x18 ∧∃(a26:Addr),v=some a26 ∧
 ∃(A8:Option Addr) (n8 c15:Nat),At H'17 ((a26.add 2).add 22) [.slice A8 n8 c15] ∧∃(a27:Addr),InB A8 a27 (0:Int) n8 ∧∃(x19:Int),At H'17 ((a27.add (Int.toNat (0:Int)*6)).add 1) [x19] ∧Tr Tryz.prog 141 #[.pointer v,.agg #[(0:Int),(0:Int),(9:Int),x19,oA,x15,(0:Int),(0:Int),(0:Int)]] H'17 fun v20 H'18 =>∃(x20:Int) (b8:Bool),v20=.tuple #[x20,.bool b8] ∧K (.tuple #[]) H'18) ∧((oCode==34)=false→K (.tuple #[]) H'12)))))))))

theorem v190 {r:Option Addr} {oCode oA:Int} {H:Heap} {K:Value→Heap→Prop} (h:F190 r oCode oA H K):Tr Tryz.prog 190 #[.pointer r,.agg #[.int .i64 oCode,.int .i64 oA]] H K :=
 tr_of_eq (C:=c190) Tryz.func190 (by kernel_rfl) h
noncomputable def c68:Cx:={ P:=Tryz.prog,res:=[],pub:=[25],loops:=[⟨9,[(59,.int .i64)],[7,60,61,62,63,64,65,66,67,68,69,70,71,72],[]⟩,⟨14,[],[8,9,73,74,75,76,77,78,79,80,81,82,83,84,85,86,87,88,89,90,91,92,93,94,95,96,97,98,99,100,101,102,103,104,105,106,107,108,109,110,111,112,113,114,115,116,117,118,119,120,121,122,123,124,125,126,127,128,129,130,131,132,133,134,135],[]⟩,⟨16,[(8,.bool),(9,.int .i64)],[73,74,75,76,77,78,79,80,81,82,83,84,85,86,87,88,89,90,91,92,93,94,95,96,97,98,99,100,101,102,103,104,105,106,107,108,109,110,111,112,113,114,115,116,117,118,119,120,121,122,123,124,125,126,127,128,129,130,131,132,133],[]⟩],quiet:=[117],draws:=[⟨1,[],[],false,true⟩,⟨22,[],[],false,true⟩],asm:=true }
def F68 (m:Option Addr) (now:Int) (H:Heap) (K:Value→Heap→Prop):Prop :=
 ∃(a:Addr),m=some a ∧StL H (a.add 31) [(1000:Int)] fun H1 =>∃(a1:Addr),m=some a1 ∧∃(a2:Addr),m=some a2 ∧(∃(x:Int),At H1 (a1.add 30) [x] ∧∃(x1:Int),At H1 (a2.add 30) [x1] ∧∀b,H1 b=none→∀H11,H11=H1.upd b (.cells #[(i64.wrap (x+1)),now,(2:Int),x1,(0:Int),(0:Int),(0:Int),(0:Int),(0:Int)] 47)→∃(a3:Addr),m=some a3 ∧StL H11 (a3.add 32) [.slice (some (b:Addr)) (1:Nat) (1:Nat)] fun H12 =>∃(a4:Addr),m=some a4 ∧StL H12 ((a4.add 2).add 20) [now] fun H13 =>∃(a5:Addr),m=some a5 ∧∃(x2:Int),At H13 (a5.add 30) [x2] ∧∃(a6:Addr),m=some a6 ∧
 StL H13 (a6.add 30) [(i64.wrap (x2+1))] fun H14 =>∃(a7:Addr),m=some a7 ∧∃(b1:Bool),At H14 (a7.add 29) [.bool b1] ∧∃(a8:Addr),m=some a8 ∧∃(A:Option Addr) (n c4:Nat),At H14 (a8.add 28) [.slice A n c4] ∧∃(a9:Addr),m=some a9 ∧StL H14 (a9.add 29) [.bool false] fun H15 =>∃(a10:Addr),m=some a10 ∧StL H15 (a10.add 28) [.slice none 0 0] fun H16=>(b1=true→Tr Tryz.prog 115 #[.pointer m,(0:Int)] H16 fun v H'=>v=.tuple #[] ∧∃(Rel:Int→Heap→Prop) (mu:Int→Heap→Nat),Rel (0:Int) H' ∧∀(x3:Int) (H1:Heap),Rel x3 H1→(decide (x3<(↑n:Int))=true→∃(a11:Addr),InB A a11 x3 n ∧
 ∃(x4 x5 x6 x7 x8 x9 x10 x11 x12:Int),At H1 (a11.add (x3.toNat*9)) [x4,x5,x6,x7,x8,x9,x10,x11,x12] ∧∃(a12:Addr),m=some a12 ∧∃(b2:Bool),At H1 ((a12.add 2).add 25) [.bool b2] ∧((!b2)=true→Tr Tryz.prog 116 #[.pointer m,.agg #[x4,x5,x6,x7,x8,x9,x10,x11,x12]] H1 fun v1 H'1=>v1=.tuple #[] ∧Rel (i64.wrap (x3+1)) H'1 ∧mu (i64.wrap (x3+1)) H'1<mu x3 H1) ∧((!b2)=false→Rel (i64.wrap (x3+1)) H1 ∧mu (i64.wrap (x3+1)) H1<mu x3 H1)) ∧(decide (x3<(↑n:Int))=false→∃(Rel1:Heap→Prop) (mu1:Heap→Nat),Rel1 H1 ∧∀(H2:Heap),Rel1 H2 →
 ∃(Rel2:Bool→Int→Heap→Prop) (mu2:Bool→Int→Heap→Nat),Rel2 false (0:Int) H2 ∧∀(b3:Bool) (x13:Int) (H3:Heap),Rel2 b3 x13 H3→∃(a13:Addr),m=some a13 ∧∃(A1:Option Addr) (n1 c7:Nat),At H3 ((a13.add 2).add 21) [.slice A1 n1 c7] ∧(decide (x13<(↑n1:Int))=true→∃(a14:Addr),m=some a14 ∧∃(b4:Bool),At H3 ((a14.add 2).add 25) [.bool b4] ∧(b4=true→K (.tuple #[]) H3) ∧(b4=false→∃(a15:Addr),m=some a15 ∧∃(A2:Option Addr) (n2 c8:Nat),At H3 ((a15.add 2).add 21) [.slice A2 n2 c8] ∧∃(a16:Addr),InB A2 a16 x13 n2 ∧
 ∃(x14 x15 x16:Int) (A3:Option Addr) (n3 c9:Nat) (x17 x18 x19 x20 x21:Int),At H3 (a16.add (x13.toNat*9)) [x14,x15,x16,.slice A3 n3 c9,x17,x18,x19,x20,x21] ∧∃(b5:Bool),TrQ Tryz.prog 117 #[.pointer m,.agg #[x14,x15,x16,.slice A3 n3 c9,x17,x18,x19,x20,x21]] H3 (.bool b5) ∧((!b5)=true→Rel2 b3 (i64.wrap (x13+1)) H3 ∧mu2 b3 (i64.wrap (x13+1)) H3<mu2 b3 x13 H3) ∧((!b5)=false→Tr Tryz.prog 118 #[.pointer m,x13] H3 fun v3 H'3 =>∃(x22:Int),v3=.int .i64 x22 ∧∃(a17:Addr),((x22==2)=true→m=some a17) ∧∃(b6:Bool),((x22==2)=true→At H'3 ((a17.add 2).add 25) [.bool b6]) ∧
 ((x22==2&&!b6)=true→∃(a18:Addr),m=some a18 ∧∃(a19:Addr),m=some a19 ∧(∃(A4:Option Addr),∃(n4 c10:Nat),At H'3 ((a18.add 2).add 21) [.slice A4 n4 c10] ∧((0:Int)≤x13 ∧x13≤(↑c10:Int) ∧(0:Int)≤x13 ∧x13≤x13) ∧∃(A5:Option Addr) (n5 c11:Nat),At H'3 ((a19.add 2).add 21) [.slice A5 n5 c11] ∧((0:Int)≤i64.wrap (x13+1) ∧i64.wrap (x13+1)≤(↑n5:Int)) ∧
 appS 153 9 88 H'3 (if x13.toNat=(0:Nat) then A4 else Option.map (fun (x:Addr)=>x.add ((0:Nat)*9)) A4) (x13.toNat-(0:Nat)) (x13.toNat-(0:Nat)) (if c11=(i64.wrap (x13+1)).toNat then A5 else Option.map (fun (x:Addr)=>x.add ((i64.wrap (x13+1)).toNat*9)) A5) (n5-(i64.wrap (x13+1)).toNat) fun (A':Option Addr) (n' c':Nat) (H'4:Heap) =>∃(a20:Addr),m=some a20 ∧StL H'4 ((a20.add 2).add 21) [.slice A' n' c'] fun H17=>Rel2 true (i64.wrap (i64.wrap (x13-1)+1)) H17 ∧mu2 true (i64.wrap (i64.wrap (x13-1)+1)) H17<mu2 b3 x13 H3) ∧∃(A6:Option Addr) (n6 c13:Nat),
 At H'3 ((a19.add 2).add 21) [.slice A6 n6 c13] ∧((0:Int)≤i64.wrap (x13+1) ∧i64.wrap (x13+1)≤(↑n6:Int)) ∧∃(A7:Option Addr) (n7 c14:Nat),At H'3 ((a18.add 2).add 21) [.slice A7 n7 c14] ∧((0:Int)≤x13 ∧x13≤(↑c14:Int) ∧(0:Int)≤x13 ∧x13≤x13) ∧
 appS 153 9 88 H'3 (if x13.toNat=(0:Nat) then A7 else Option.map (fun (x:Addr)=>x.add ((0:Nat)*9)) A7) (x13.toNat-(0:Nat)) (x13.toNat-(0:Nat)) (if c13=(i64.wrap (x13+1)).toNat then A6 else Option.map (fun (x:Addr)=>x.add ((i64.wrap (x13+1)).toNat*9)) A6) (n6-(i64.wrap (x13+1)).toNat) fun (A'1:Option Addr) (n'1 c'1:Nat) (H'5:Heap) =>∃(a21:Addr),m=some a21 ∧StL H'5 ((a21.add 2).add 21) [.slice A'1 n'1 c'1] fun H18=>Rel2 true (i64.wrap (i64.wrap (x13-1)+1)) H18 ∧mu2 true (i64.wrap (i64.wrap (x13-1)+1)) H18<mu2 b3 x13 H3) ∧
 ((x22==2&&!b6)=false→Rel2 true (i64.wrap (x13+1)) H'3 ∧mu2 true (i64.wrap (x13+1)) H'3<mu2 b3 x13 H3)))) ∧(decide (x13<(↑n1:Int))=false→((!b3)=true→K (.tuple #[]) H3) ∧((!b3)=false→Rel1 H3 ∧mu1 H3<mu1 H2)))) ∧(b1=false→∃(Rel3:Int→Heap→Prop) (mu3:Int→Heap→Nat),Rel3 (0:Int) H16 ∧∀(x23:Int) (H4:Heap),Rel3 x23 H4→(decide (x23<(↑n:Int))=true→∃(a22:Addr),InB A a22 x23 n ∧∃(x24 x25 x26 x27 x28 x29 x30 x31 x32:Int),At H4 (a22.add (x23.toNat*9)) [x24,x25,x26,x27,x28,x29,x30,x31,x32] ∧∃(a23:Addr),m=some a23 ∧∃(b7:Bool),
 At H4 ((a23.add 2).add 25) [.bool b7] ∧((!b7)=true→Tr Tryz.prog 116 #[.pointer m,.agg #[x24,x25,x26,x27,x28,x29,x30,x31,x32]] H4 fun v4 H'6=>v4=.tuple #[] ∧Rel3 (i64.wrap (x23+1)) H'6 ∧mu3 (i64.wrap (x23+1)) H'6<mu3 x23 H4) ∧((!b7)=false→Rel3 (i64.wrap (x23+1)) H4 ∧mu3 (i64.wrap (x23+1)) H4<mu3 x23 H4)) ∧(decide (x23<(↑n:Int))=false→∃(Rel4:Heap→Prop) (mu4:Heap→Nat),Rel4 H4 ∧∀(H5:Heap),Rel4 H5→∃(Rel5:Bool→Int→Heap→Prop) (mu5:Bool→Int→Heap→Nat),Rel5 false (0:Int) H5 ∧∀(b8:Bool) (x33:Int) (H6:Heap),Rel5 b8 x33 H6→∃(a24:Addr),m=some a24 ∧
 ∃(A8:Option Addr) (n8 c16:Nat),At H6 ((a24.add 2).add 21) [.slice A8 n8 c16] ∧(decide (x33<(↑n8:Int))=true→∃(a25:Addr),m=some a25 ∧∃(b9:Bool),At H6 ((a25.add 2).add 25) [.bool b9] ∧(b9=true→K (.tuple #[]) H6) ∧(b9=false→∃(a26:Addr),m=some a26 ∧∃(A9:Option Addr) (n9 c17:Nat),At H6 ((a26.add 2).add 21) [.slice A9 n9 c17] ∧∃(a27:Addr),InB A9 a27 x33 n9 ∧∃(x34 x35 x36:Int) (A10:Option Addr) (n10 c18:Nat) (x37 x38 x39 x40 x41:Int),At H6 (a27.add (x33.toNat*9)) [x34,x35,x36,.slice A10 n10 c18,x37,x38,x39,x40,x41] ∧∃(b10:Bool),
 TrQ Tryz.prog 117 #[.pointer m,.agg #[x34,x35,x36,.slice A10 n10 c18,x37,x38,x39,x40,x41]] H6 (.bool b10) ∧((!b10)=true→Rel5 b8 (i64.wrap (x33+1)) H6 ∧mu5 b8 (i64.wrap (x33+1)) H6<mu5 b8 x33 H6) ∧((!b10)=false→Tr Tryz.prog 118 #[.pointer m,x33] H6 fun v6 H'8 =>∃(x42:Int),v6=.int .i64 x42 ∧∃(a28:Addr),((x42==2)=true→m=some a28) ∧∃(b11:Bool),((x42==2)=true→At H'8 ((a28.add 2).add 25) [.bool b11]) ∧((x42==2&&!b11)=true→∃(a29:Addr),m=some a29 ∧∃(a30:Addr),m=some a30 ∧(∃(A11:Option Addr),∃(n11 c19:Nat),
 At H'8 ((a29.add 2).add 21) [.slice A11 n11 c19] ∧((0:Int)≤x33 ∧x33≤(↑c19:Int) ∧(0:Int)≤x33 ∧x33≤x33) ∧∃(A12:Option Addr) (n12 c20:Nat),At H'8 ((a30.add 2).add 21) [.slice A12 n12 c20] ∧((0:Int)≤i64.wrap (x33+1) ∧i64.wrap (x33+1)≤(↑n12:Int)) ∧
 appS 153 9 88 H'8 (if x33.toNat=(0:Nat) then A11 else Option.map (fun (x:Addr)=>x.add ((0:Nat)*9)) A11) (x33.toNat-(0:Nat)) (x33.toNat-(0:Nat)) (if c20=(i64.wrap (x33+1)).toNat then A12 else Option.map (fun (x:Addr)=>x.add ((i64.wrap (x33+1)).toNat*9)) A12) (n12-(i64.wrap (x33+1)).toNat) fun (A'2:Option Addr) (n'2 c'2:Nat) (H'9:Heap) =>∃(a31:Addr),m=some a31 ∧StL H'9 ((a31.add 2).add 21) [.slice A'2 n'2 c'2] fun H19=>Rel5 true (i64.wrap (i64.wrap (x33-1)+1)) H19 ∧mu5 true (i64.wrap (i64.wrap (x33-1)+1)) H19<mu5 b8 x33 H6) ∧∃(A13:Option Addr) (n13 c22:Nat),
 At H'8 ((a30.add 2).add 21) [.slice A13 n13 c22] ∧((0:Int)≤i64.wrap (x33+1) ∧i64.wrap (x33+1)≤(↑n13:Int)) ∧∃(A14:Option Addr) (n14 c23:Nat),At H'8 ((a29.add 2).add 21) [.slice A14 n14 c23] ∧((0:Int)≤x33 ∧x33≤(↑c23:Int) ∧(0:Int)≤x33 ∧x33≤x33) ∧
 appS 153 9 88 H'8 (if x33.toNat=(0:Nat) then A14 else Option.map (fun (x:Addr)=>x.add ((0:Nat)*9)) A14) (x33.toNat-(0:Nat)) (x33.toNat-(0:Nat)) (if c22=(i64.wrap (x33+1)).toNat then A13 else Option.map (fun (x:Addr)=>x.add ((i64.wrap (x33+1)).toNat*9)) A13) (n13-(i64.wrap (x33+1)).toNat) fun (A'3:Option Addr) (n'3 c'3:Nat) (H'10:Heap) =>∃(a32:Addr),m=some a32 ∧StL H'10 ((a32.add 2).add 21) [.slice A'3 n'3 c'3] fun H110=>Rel5 true (i64.wrap (i64.wrap (x33-1)+1)) H110 ∧mu5 true (i64.wrap (i64.wrap (x33-1)+1)) H110<mu5 b8 x33 H6) ∧
 ((x42==2&&!b11)=false→Rel5 true (i64.wrap (x33+1)) H'8 ∧mu5 true (i64.wrap (x33+1)) H'8<mu5 b8 x33 H6)))) ∧(decide (x33<(↑n8:Int))=false→((!b8)=true→K (.tuple #[]) H6) ∧((!b8)=false→Rel4 H6 ∧mu4 H6<mu4 H5))))) ∧∃(x43:Int),At H1 (a2.add 30) [x43] ∧∃(x44:Int),At H1 (a1.add 30) [x44] ∧∀b12,H1 b12=none→∀H111,H111=H1.upd b12 (.cells #[(i64.wrap (x44+1)),now,(2:Int),x43,(0:Int),(0:Int),(0:Int),(0:Int),(0:Int)] 47)→∃(a33:Addr),m=some a33 ∧StL H111 (a33.add 32) [.slice (some (b12:Addr)) (1:Nat) (1:Nat)] fun H112 =>∃(a34:Addr),m=some a34 ∧
 StL H112 ((a34.add 2).add 20) [now] fun H113 =>∃(a35:Addr),m=some a35 ∧∃(x45:Int),At H113 (a35.add 30) [x45] ∧∃(a36:Addr),m=some a36 ∧StL H113 (a36.add 30) [(i64.wrap (x45+1))] fun H114 =>∃(a37:Addr),m=some a37 ∧∃(b13:Bool),At H114 (a37.add 29) [.bool b13] ∧∃(a38:Addr),m=some a38 ∧∃(A15:Option Addr) (n15 c28:Nat),At H114 (a38.add 28) [.slice A15 n15 c28] ∧∃(a39:Addr),m=some a39 ∧StL H114 (a39.add 29) [.bool false] fun H115 =>∃(a40:Addr),m=some a40 ∧
 StL H115 (a40.add 28) [.slice none 0 0] fun H116=>(b13=true→Tr Tryz.prog 115 #[.pointer m,(0:Int)] H116 fun v7 H'11=>v7=.tuple #[] ∧∃(Rel6:Int→Heap→Prop) (mu6:Int→Heap→Nat),Rel6 (0:Int) H'11 ∧∀(x46:Int) (H7:Heap),Rel6 x46 H7→(decide (x46<(↑n15:Int))=true→∃(a41:Addr),InB A15 a41 x46 n15 ∧∃(x47 x48 x49 x50 x51 x52 x53 x54 x55:Int),At H7 (a41.add (x46.toNat*9)) [x47,x48,x49,x50,x51,x52,x53,x54,x55] ∧∃(a42:Addr),m=some a42 ∧∃(b14:Bool),At H7 ((a42.add 2).add 25) [.bool b14] ∧
 ((!b14)=true→Tr Tryz.prog 116 #[.pointer m,.agg #[x47,x48,x49,x50,x51,x52,x53,x54,x55]] H7 fun v8 H'12=>v8=.tuple #[] ∧Rel6 (i64.wrap (x46+1)) H'12 ∧mu6 (i64.wrap (x46+1)) H'12<mu6 x46 H7) ∧((!b14)=false→Rel6 (i64.wrap (x46+1)) H7 ∧mu6 (i64.wrap (x46+1)) H7<mu6 x46 H7)) ∧(decide (x46<(↑n15:Int))=false→∃(Rel7:Heap→Prop) (mu7:Heap→Nat),Rel7 H7 ∧∀(H8:Heap),Rel7 H8→∃(Rel8:Bool→Int→Heap→Prop) (mu8:Bool→Int→Heap→Nat),Rel8 false (0:Int) H8 ∧∀(b15:Bool) (x56:Int) (H9:Heap),Rel8 b15 x56 H9→∃(a43:Addr),m=some a43 ∧
 ∃(A16:Option Addr) (n16 c31:Nat),At H9 ((a43.add 2).add 21) [.slice A16 n16 c31] ∧(decide (x56<(↑n16:Int))=true→∃(a44:Addr),m=some a44 ∧∃(b16:Bool),At H9 ((a44.add 2).add 25) [.bool b16] ∧(b16=true→K (.tuple #[]) H9) ∧(b16=false→∃(a45:Addr),m=some a45 ∧∃(A17:Option Addr) (n17 c32:Nat),At H9 ((a45.add 2).add 21) [.slice A17 n17 c32] ∧∃(a46:Addr),InB A17 a46 x56 n17 ∧∃(x57 x58 x59:Int) (A18:Option Addr) (n18 c33:Nat) (x60 x61 x62 x63 x64:Int),At H9 (a46.add (x56.toNat*9)) [x57,x58,x59,.slice A18 n18 c33,x60,x61,x62,x63,x64] ∧∃(b17:Bool),
 TrQ Tryz.prog 117 #[.pointer m,.agg #[x57,x58,x59,.slice A18 n18 c33,x60,x61,x62,x63,x64]] H9 (.bool b17) ∧((!b17)=true→Rel8 b15 (i64.wrap (x56+1)) H9 ∧mu8 b15 (i64.wrap (x56+1)) H9<mu8 b15 x56 H9) ∧((!b17)=false→Tr Tryz.prog 118 #[.pointer m,x56] H9 fun v10 H'14 =>∃(x65:Int),v10=.int .i64 x65 ∧∃(a47:Addr),((x65==2)=true→m=some a47) ∧∃(b18:Bool),((x65==2)=true→At H'14 ((a47.add 2).add 25) [.bool b18]) ∧((x65==2&&!b18)=true→∃(a48:Addr),m=some a48 ∧∃(a49:Addr),m=some a49 ∧(∃(A19:Option Addr),∃(n19 c34:Nat),
 At H'14 ((a48.add 2).add 21) [.slice A19 n19 c34] ∧((0:Int)≤x56 ∧x56≤(↑c34:Int) ∧(0:Int)≤x56 ∧x56≤x56) ∧∃(A20:Option Addr) (n20 c35:Nat),At H'14 ((a49.add 2).add 21) [.slice A20 n20 c35] ∧((0:Int)≤i64.wrap (x56+1) ∧i64.wrap (x56+1)≤(↑n20:Int)) ∧
 appS 153 9 88 H'14 (if x56.toNat=(0:Nat) then A19 else Option.map (fun (x:Addr)=>x.add ((0:Nat)*9)) A19) (x56.toNat-(0:Nat)) (x56.toNat-(0:Nat)) (if c35=(i64.wrap (x56+1)).toNat then A20 else Option.map (fun (x:Addr)=>x.add ((i64.wrap (x56+1)).toNat*9)) A20) (n20-(i64.wrap (x56+1)).toNat) fun (A'4:Option Addr) (n'4 c'4:Nat) (H'15:Heap) =>∃(a50:Addr),m=some a50 ∧StL H'15 ((a50.add 2).add 21) [.slice A'4 n'4 c'4] fun H117=>Rel8 true (i64.wrap (i64.wrap (x56-1)+1)) H117 ∧mu8 true (i64.wrap (i64.wrap (x56-1)+1)) H117<mu8 b15 x56 H9) ∧
 ∃(A21:Option Addr) (n21 c37:Nat),At H'14 ((a49.add 2).add 21) [.slice A21 n21 c37] ∧((0:Int)≤i64.wrap (x56+1) ∧i64.wrap (x56+1)≤(↑n21:Int)) ∧∃(A22:Option Addr) (n22 c38:Nat),At H'14 ((a48.add 2).add 21) [.slice A22 n22 c38] ∧((0:Int)≤x56 ∧x56≤(↑c38:Int) ∧(0:Int)≤x56 ∧x56≤x56) ∧
 appS 153 9 88 H'14 (if x56.toNat=(0:Nat) then A22 else Option.map (fun (x:Addr)=>x.add ((0:Nat)*9)) A22) (x56.toNat-(0:Nat)) (x56.toNat-(0:Nat)) (if c37=(i64.wrap (x56+1)).toNat then A21 else Option.map (fun (x:Addr)=>x.add ((i64.wrap (x56+1)).toNat*9)) A21) (n21-(i64.wrap (x56+1)).toNat) fun (A'5:Option Addr) (n'5 c'5:Nat) (H'16:Heap) =>∃(a51:Addr),m=some a51 ∧StL H'16 ((a51.add 2).add 21) [.slice A'5 n'5 c'5] fun H118=>Rel8 true (i64.wrap (i64.wrap (x56-1)+1)) H118 ∧mu8 true (i64.wrap (i64.wrap (x56-1)+1)) H118<mu8 b15 x56 H9) ∧
 ((x65==2&&!b18)=false→Rel8 true (i64.wrap (x56+1)) H'14 ∧mu8 true (i64.wrap (x56+1)) H'14<mu8 b15 x56 H9)))) ∧(decide (x56<(↑n16:Int))=false→((!b15)=true→K (.tuple #[]) H9) ∧((!b15)=false→Rel7 H9 ∧mu7 H9<mu7 H8)))) ∧(b13=false→∃(Rel9:Int→Heap→Prop) (mu9:Int→Heap→Nat),Rel9 (0:Int) H116 ∧∀(x66:Int) (H10:Heap),Rel9 x66 H10→(decide (x66<(↑n15:Int))=true→∃(a52:Addr),InB A15 a52 x66 n15 ∧∃(x67 x68 x69 x70 x71 x72 x73 x74 x75:Int),At H10 (a52.add (x66.toNat*9)) [x67,x68,x69,x70,x71,x72,x73,x74,x75] ∧∃(a53:Addr),m=some a53 ∧∃(b19:Bool),
 At H10 ((a53.add 2).add 25) [.bool b19] ∧((!b19)=true→Tr Tryz.prog 116 #[.pointer m,.agg #[x67,x68,x69,x70,x71,x72,x73,x74,x75]] H10 fun v11 H'17=>v11=.tuple #[] ∧Rel9 (i64.wrap (x66+1)) H'17 ∧mu9 (i64.wrap (x66+1)) H'17<mu9 x66 H10) ∧((!b19)=false→Rel9 (i64.wrap (x66+1)) H10 ∧mu9 (i64.wrap (x66+1)) H10<mu9 x66 H10)) ∧(decide (x66<(↑n15:Int))=false→∃(Rel10:Heap→Prop) (mu10:Heap→Nat),Rel10 H10 ∧∀(H11:Heap),Rel10 H11→∃(Rel11:Bool→Int→Heap→Prop) (mu11:Bool→Int→Heap→Nat),Rel11 false (0:Int) H11 ∧
 ∀(b20:Bool) (x76:Int) (H12:Heap),Rel11 b20 x76 H12→∃(a54:Addr),m=some a54 ∧∃(A23:Option Addr) (n23 c40:Nat),At H12 ((a54.add 2).add 21) [.slice A23 n23 c40] ∧(decide (x76<(↑n23:Int))=true→∃(a55:Addr),m=some a55 ∧∃(b21:Bool),At H12 ((a55.add 2).add 25) [.bool b21] ∧(b21=true→K (.tuple #[]) H12) ∧(b21=false→∃(a56:Addr),m=some a56 ∧∃(A24:Option Addr) (n24 c41:Nat),At H12 ((a56.add 2).add 21) [.slice A24 n24 c41] ∧∃(a57:Addr),InB A24 a57 x76 n24 ∧∃(x77 x78 x79:Int) (A25:Option Addr) (n25 c42:Nat) (x80 x81 x82 x83 x84:Int),
 At H12 (a57.add (x76.toNat*9)) [x77,x78,x79,.slice A25 n25 c42,x80,x81,x82,x83,x84] ∧∃(b22:Bool),TrQ Tryz.prog 117 #[.pointer m,.agg #[x77,x78,x79,.slice A25 n25 c42,x80,x81,x82,x83,x84]] H12 (.bool b22) ∧((!b22)=true→Rel11 b20 (i64.wrap (x76+1)) H12 ∧mu11 b20 (i64.wrap (x76+1)) H12<mu11 b20 x76 H12) ∧((!b22)=false→Tr Tryz.prog 118 #[.pointer m,x76] H12 fun v13 H'19 =>∃(x85:Int),v13=.int .i64 x85 ∧∃(a58:Addr),((x85==2)=true→m=some a58) ∧∃(b23:Bool),((x85==2)=true→At H'19 ((a58.add 2).add 25) [.bool b23]) ∧((x85==2&&!b23)=true→∃(a59:Addr),
 m=some a59 ∧∃(a60:Addr),m=some a60 ∧(∃(A26:Option Addr),∃(n26 c43:Nat),At H'19 ((a59.add 2).add 21) [.slice A26 n26 c43] ∧((0:Int)≤x76 ∧x76≤(↑c43:Int) ∧(0:Int)≤x76 ∧x76≤x76) ∧∃(A27:Option Addr) (n27 c44:Nat),At H'19 ((a60.add 2).add 21) [.slice A27 n27 c44] ∧((0:Int)≤i64.wrap (x76+1) ∧i64.wrap (x76+1)≤(↑n27:Int)) ∧
 appS 153 9 88 H'19 (if x76.toNat=(0:Nat) then A26 else Option.map (fun (x:Addr)=>x.add ((0:Nat)*9)) A26) (x76.toNat-(0:Nat)) (x76.toNat-(0:Nat)) (if c44=(i64.wrap (x76+1)).toNat then A27 else Option.map (fun (x:Addr)=>x.add ((i64.wrap (x76+1)).toNat*9)) A27) (n27-(i64.wrap (x76+1)).toNat) fun (A'6:Option Addr) (n'6 c'6:Nat) (H'20:Heap) =>∃(a61:Addr),m=some a61 ∧StL H'20 ((a61.add 2).add 21) [.slice A'6 n'6 c'6] fun H119=>Rel11 true (i64.wrap (i64.wrap (x76-1)+1)) H119 ∧mu11 true (i64.wrap (i64.wrap (x76-1)+1)) H119<mu11 b20 x76 H12) ∧
 ∃(A28:Option Addr) (n28 c46:Nat),At H'19 ((a60.add 2).add 21) [.slice A28 n28 c46] ∧((0:Int)≤i64.wrap (x76+1) ∧i64.wrap (x76+1)≤(↑n28:Int)) ∧∃(A29:Option Addr) (n29 c47:Nat),At H'19 ((a59.add 2).add 21) [.slice A29 n29 c47] ∧((0:Int)≤x76 ∧x76≤(↑c47:Int) ∧(0:Int)≤x76 ∧x76≤x76) ∧
 appS 153 9 88 H'19 (if x76.toNat=(0:Nat) then A29 else Option.map (fun (x:Addr)=>x.add ((0:Nat)*9)) A29) (x76.toNat-(0:Nat)) (x76.toNat-(0:Nat)) (if c46=(i64.wrap (x76+1)).toNat then A28 else Option.map (fun (x:Addr)=>x.add ((i64.wrap (x76+1)).toNat*9)) A28) (n28-(i64.wrap (x76+1)).toNat) fun (A'7:Option Addr) (n'7 c'7:Nat) (H'21:Heap) =>∃(a62:Addr),m=some a62 ∧StL H'21 ((a62.add 2).add 21) [.slice A'7 n'7 c'7] fun H120=>Rel11 true (i64.wrap (i64.wrap (x76-1)+1)) H120 ∧mu11 true (i64.wrap (i64.wrap (x76-1)+1)) H120<mu11 b20 x76 H12) ∧
 ((x85==2&&!b23)=false→Rel11 true (i64.wrap (x76+1)) H'19 ∧mu11 true (i64.wrap (x76+1)) H'19<mu11 b20 x76 H12)))) ∧(decide (x76<(↑n23:Int))=false→((!b20)=true→K (.tuple #[]) H12) ∧((!b20)=false→Rel10 H12 ∧mu10 H12<mu10 H11))))

theorem v68 {m:Option Addr} {now:Int} {H:Heap} {K:Value→Heap→Prop} (h:F68 m now H K):Tr Tryz.prog 68 #[.pointer m,.int .i64 now] H K :=
 tr_of_eq (C:=c68) Tryz.func68 (by kernel_rfl) h
noncomputable def c64:Cx:={ P:=Tryz.prog,res:=[],pub:=[59],loops:=[],quiet:=[69,109,111],draws:=[⟨12,[4,6,13,17],[],true,true⟩,⟨16,[5],[],false,true⟩,⟨18,[3,6],[],false,true⟩,⟨21,[3,6],[],false,true⟩,⟨23,[3,6],[],false,true⟩,⟨27,[3,6,8],[],false,true⟩],asm:=true }
def F64 (m:Option Addr) (eId eTime eKind eA eB eC eD eE eF:Int) (H:Heap) (K:Value→Heap→Prop):Prop:=(m.isNone=true→K (.int .i64 42) H) ∧
 (m.isNone=false→∃(a:Addr),m=some a ∧∃(b:Bool),At H ((a.add 2).add 25) [.bool b] ∧(b=true→K (.int .i64 46) H) ∧(b=false→∃(b1:Bool),TrQ Tryz.prog 109 #[.agg #[eId,eTime,eKind,eA,eB,eC,eD,eE,eF]] H (.bool b1) ∧∃(a1:Addr),((!!b1)=true→m=some a1) ∧∃(x:Int),((!!b1)=true→At H (a1.add 30) [x]) ∧∃(b2:Bool),((!(!b1||eId != i64.wrap (x+1)))=true→Tr Tryz.prog 69 #[.agg #[eId,eTime,eKind,eA,eB,eC,eD,eE,eF]] H fun v1 H'1=>v1=.bool b2 ∧Ax.Sub H H'1) ∧∃(a2:Addr),((!(!b1||eId != i64.wrap (x+1)||!b2))=true→m=some a2) ∧∃(x1:Int),
 ((!(!b1||eId != i64.wrap (x+1)||!b2))=true→At H (a2.add 30) [x1]) ∧((!b1||eId != i64.wrap (x+1)||!b2||!(eKind==1)==(x1==0))=true→K (.int .i64 54) H) ∧((!b1||eId != i64.wrap (x+1)||!b2||!(eKind==1)==(x1==0))=false→∃(a3:Addr),m=some a3 ∧∃(x2:Int),At H (a3.add 30) [x2] ∧∃(a4:Addr),m=some a4 ∧StL H (a4.add 30) [(i64.wrap (x2+1))] fun H1=>((eKind==1)=true→∀b3,H1 b3=none→∀H11,H11=H1.upd b3 (.cells #[(0:Int),(0:Int),(0:Int),.slice none 0 0,eB,(-1:Int),(0:Int),(-1:Int),(-1:Int)] 153)→∃(a5:Addr),m=some a5 ∧
 StL H11 ((a5.add 2).add 21) [.slice (some (b3:Addr)) (1:Nat) (1:Nat)] fun H12=>K (.int .i64 0) H12) ∧((eKind==1)=false→((eKind==19)=true→∃(Hs:Heap),Ax.Sub Hs H1 ∧∃(a6:Addr),m=some a6 ∧∃(a7:Addr),m=some a7 ∧∃(A:Option Addr) (n c2:Nat),At Hs ((a6.add 2).add 24) [.slice A n c2] ∧(∃(A1:Option Addr),∃(n1 c3:Nat),At H1 ((a7.add 2).add 24) [.slice A1 n1 c3] ∧Ax.Sub Hs H1 ∧∃(a8:Addr),InB A1 a8 eA n1 ∧(∃(A2:Option Addr),∃(n2 c4:Nat),At H1 (a8.add (eA.toNat*1)) [.slice A2 n2 c4] ∧Ax.Sub Hs H1 ∧Ax.Sub Hs H1 ∧appC 2 1 8 H1 A2 n2 c4 [eB] 1 fun A' n' c' H'2=>Ax.Sub Hs H'2 ∧
 ∃(a9:Addr),InB A a9 eA n ∧StL H'2 (a9.add (eA.toNat*1)) [.slice A' n' c'] fun H13=>Ax.Sub Hs H13 ∧K (.int .i64 0) H13) ∧Ax.Sub Hs H1 ∧∃(A3:Option Addr) (n3 c6:Nat),At H1 (a8.add (eA.toNat*1)) [.slice A3 n3 c6] ∧Ax.Sub Hs H1 ∧appC 2 1 8 H1 A3 n3 c6 [eB] 1 fun A'1 n'1 c'1 H'3=>Ax.Sub Hs H'3 ∧∃(a10:Addr),InB A a10 eA n ∧StL H'3 (a10.add (eA.toNat*1)) [.slice A'1 n'1 c'1] fun H14=>Ax.Sub Hs H14 ∧K (.int .i64 0) H14) ∧Ax.Sub Hs H1 ∧∃(A4:Option Addr) (n4 c8:Nat),At H1 ((a7.add 2).add 24) [.slice A4 n4 c8] ∧Ax.Sub Hs H1 ∧∃(a11:Addr),InB A4 a11 eA n4 ∧∃(A5:Option Addr) (n5 c9:Nat),
 At H1 (a11.add (eA.toNat*1)) [.slice A5 n5 c9] ∧Ax.Sub Hs H1 ∧appC 2 1 8 H1 A5 n5 c9 [eB] 1 fun A'2 n'2 c'2 H'4=>Ax.Sub Hs H'4 ∧∃(a12:Addr),InB A a12 eA n ∧StL H'4 (a12.add (eA.toNat*1)) [.slice A'2 n'2 c'2] fun H15=>Ax.Sub Hs H15 ∧K (.int .i64 0) H15) ∧((eKind==19)=false→((eKind==20)=true→∃(a13:Addr),m=some a13 ∧StL H1 (a13.add 29) [.bool true] fun H16=>K (.int .i64 0) H16) ∧((eKind==20)=false→((eKind==21)=true→∃(a14:Addr),m=some a14 ∧(∃(A6:Option Addr),∃(n6 c12:Nat),At H1 (a14.add 28) [.slice A6 n6 c12] ∧
 appC 47 9 72 H1 A6 n6 c12 [eId,eTime,eKind,eA,eB,eC,eD,eE,eF] 1 fun (A'3:Option Addr) (n'3 c'3:Nat) (H'5:Heap) =>∃(a15:Addr),m=some a15 ∧StL H'5 (a15.add 28) [.slice A'3 n'3 c'3] fun H17=>K (.int .i64 0) H17) ∧∃(A7:Option Addr) (n7 c14:Nat),At H1 (a14.add 28) [.slice A7 n7 c14] ∧appC 47 9 72 H1 A7 n7 c14 [eId,eTime,eKind,eA,eB,eC,eD,eE,eF] 1 fun (A'4:Option Addr) (n'4 c'4:Nat) (H'6:Heap) =>∃(a16:Addr),m=some a16 ∧StL H'6 (a16.add 28) [.slice A'4 n'4 c'4] fun H18=>K (.int .i64 0) H18) ∧((eKind==21)=false→((eKind==22)=true→∃(x3:Int),
 TrQ Tryz.prog 111 #[.pointer m,eA] H1 (.int .i64 x3) ∧Tr Tryz.prog 110 #[.pointer m,x3,eB,(0:Int)] H1 fun v3 H'8=>v3=.tuple #[] ∧K (.int .i64 0) H'8) ∧((eKind==22)=false→((eKind==23)=true→∃(x4:Int),TrQ Tryz.prog 111 #[.pointer m,eA] H1 (.int .i64 x4) ∧Tr Tryz.prog 110 #[.pointer m,x4,eB,(1:Int)] H1 fun v5 H'10=>v5=.tuple #[] ∧K (.int .i64 0) H'10) ∧((eKind==23)=false→((eKind==27)=true→∃(x5:Int),TrQ Tryz.prog 111 #[.pointer m,eA] H1 (.int .i64 x5) ∧Tr Tryz.prog 110 #[.pointer m,x5,eB,(1:Int)] H1 fun v7 H'12=>v7=.tuple #[] ∧K (.int .i64 0) H'12) ∧
 ((eKind==27)=false→((eKind==24)=true→∃(x6:Int),TrQ Tryz.prog 111 #[.pointer m,eA] H1 (.int .i64 x6) ∧Tr Tryz.prog 110 #[.pointer m,x6,eB,(2:Int)] H1 fun v9 H'14=>v9=.tuple #[] ∧K (.int .i64 0) H'14) ∧((eKind==24)=false→((eKind==25)=true→∃(x7:Int),TrQ Tryz.prog 111 #[.pointer m,eA] H1 (.int .i64 x7) ∧Tr Tryz.prog 110 #[.pointer m,x7,(0:Int),(0:Int)] H1 fun v11 H'16=>v11=.tuple #[] ∧K (.int .i64 0) H'16) ∧((eKind==25)=false→((eKind==28)=true→∃(x8:Int),TrQ Tryz.prog 111 #[.pointer m,eA] H1 (.int .i64 x8) ∧
 Tr Tryz.prog 110 #[.pointer m,x8,eB,eC] H1 fun v13 H'18=>v13=.tuple #[] ∧K (.int .i64 0) H'18) ∧((eKind==28)=false→((eKind==16)=true→∃(a17:Addr),m=some a17 ∧StL H1 ((a17.add 2).add 25) [.bool true] fun H19=>K (.int .i64 0) H19) ∧((eKind==16)=false→((eKind==30)=true→∃(a18:Addr),m=some a18 ∧StL H1 ((a18.add 2).add 25) [.bool true] fun H110=>K (.int .i64 0) H110) ∧((eKind==30)=false→((eKind==31)=true→∃(a19:Addr),m=some a19 ∧StL H1 ((a19.add 2).add 25) [.bool true] fun H111=>K (.int .i64 0) H111) ∧
 ((eKind==31)=false→K (.int .i64 0) H1))))))))))))))))

theorem v64 {m:Option Addr} {eId eTime eKind eA eB eC eD eE eF:Int} {H:Heap} {K:Value→Heap→Prop} (h:F64 m eId eTime eKind eA eB eC eD eE eF H K):Tr Tryz.prog 64 #[.pointer m,.agg #[.int .i64 eId,.int .i64 eTime,.int .i64 eKind,.int .i64 eA,.int .i64 eB,.int .i64 eC,.int .i64 eD,.int .i64 eE,.int .i64 eF]] H K :=
 tr_of_eq (C:=c64) Tryz.func64 (by kernel_rfl) h
theorem t196 (n:Int) (H:Heap):Tr Tryz.prog 196 #[.int .u64 n] H fun v H'=>v=.int .u64 (mix64 n)∧Sub H H':=by
 apply v196; unfold F196
 exact ⟨by decide,by decide,by decide,rfl,Sub.refl _⟩
theorem clamp_eq (x:Int):(if (1048576:Int)<if (0:Int)>x then (0:Int) else x then (1048576:Int) else if (0:Int)>x then (0:Int) else x)=clampM x:=by
 unfold clampM
 split<;>split at*<;> omega
section
variable {G H:Heap} {m:Nat} {pf po:SlH} {sl:Nat→SlH} {F:Heap} {ex:Value} {st:List SlH} {s:VS}
theorem VMX.wrVar (h:VMX G H m pf po sl F ex st s) {k:Nat} (hk:k<16) {x:Int} {Q:Heap→Prop} (q:∀H',VMX G H' m pf po sl F ex st { s with vars:=s.vars.set k x }→Q H'):Wr H ((⟨m,0,none⟩:Addr).add (2+k)) (.int .i64 x) Q:=by
 refine h.wr (k:=2+k) (by omega) { s with vars:=s.vars.set k x } ?_ rfl rfl rfl rfl rfl rfl rfl (by simp [h.vars]) h.attrs q
 unfold mCells
 rw [←cellsV_set h.vars hk]
 simp only [List.append_assoc]
 rw [List.set_append_right _ _ (by simp),List.set_append_left _ _ (by rw [cellsV_len]; simp; omega)]
 have:2+k - [pf.v,po.v].length=k:=by simp
 rw [this]
theorem VMX.wrAttr (h:VMX G H m pf po sl F ex st s) {k:Nat} (hk:k<4) {x:Int} {Q:Heap→Prop} (q:∀H',VMX G H' m pf po sl F ex st { s with attrs:=s.attrs.set k x }→Q H'):Wr H ((⟨m,0,none⟩:Addr).add (18+k)) (.int .i64 x) Q:=by
 refine h.wr (k:=18+k) (by omega) { s with attrs:=s.attrs.set k x } ?_ rfl rfl rfl rfl rfl rfl rfl h.vars (by simp [h.attrs]) q
 unfold mCells
 rw [←cellsV_set h.attrs hk]
 simp only [List.append_assoc]
 rw [List.set_append_right _ _ (by simp; omega),List.set_append_right _ _ (by rw [cellsV_len]; simp; omega),List.set_append_left _ _ (by rw [cellsV_len,cellsV_len]; simp; omega)]
 have:18+k - [pf.v,po.v].length-(cellsV 16 s.vars).length=k:=by rw [cellsV_len]; simp; omega
 rw [this]
end
def TailP (m rb:Nat) (op a v:Int) (H:Heap) (Z:Prop) (K:Heap→Prop):Prop :=
 ((op==16)=true→∃a17:Addr,some (⟨m,0,none⟩:Addr)=some a17∧(0≤a∧a<((16:Nat):Int))∧Wr H (((a17.add 2).add 0).add (a.toNat*1)) (.int .i64 v) K)∧((op==16)=false →
 ((op==20)=true→Tr Tryz.prog 197 #[.pointer (some ⟨rb,0,none⟩),(evM 3 a v 0).val] H fun x H'=>x=.tuple #[]∧K H')∧((op==20)=false →
 ((op==21)=true→∃a18:Addr,some (⟨m,0,none⟩:Addr)=some a18∧∃n:Int,At H ((a18.add 2).add 20) [.int .i64 n] ∧
  Tr Tryz.prog 197 #[.pointer (some ⟨rb,0,none⟩),(evM 4 (IntKind.i64.wrap (n+if (1048576:Int)<if (0:Int)>v then (0:Int) else v then (1048576:Int) else if (0:Int)>v then (0:Int) else v)) 0 0).val] H fun x H'=>x=.tuple #[]∧K H')∧((op==21)=false →
 ((op==22)=true→Tr Tryz.prog 197 #[.pointer (some ⟨rb,0,none⟩),(evM 5 a v 0).val] H fun x H'=>x=.tuple #[]∧K H')∧((op==22)=false →
 ((op==33)=true→Tr Tryz.prog 141 #[.pointer (some ⟨m,0,none⟩),(evM 10 a v 0).val] H fun x H'=>∃(i:Int) (b:Bool),x=.tuple #[.int .i64 i,.bool b] ∧
  (b=true→∃a19:Addr,some (⟨m,0,none⟩:Addr)=some a19∧(0≤a∧a<((4:Nat):Int))∧Wr H' (((a19.add 2).add 16).add (a.toNat*1)) (.int .i64 v) K)∧(b=false→K H'))∧((op==33)=false →
 ((op==34)=true→Z)∧((op==34)=false→K H))))))
structure CmdOk (r:Rn):Prop where
 stack:r.t.stack.length≤1000
 par:ScpOk r.s.scopes
 scope:r.t.scope<r.s.scopes.length
 c0:0≤r.s.count
 c1:r.s.count≤100000
 made:r.s.made.length≤100000
 futs:r.s.futures.length≤1000000
section
variable {p:Prg} {G0 H0 G H:Heap} {m rb tb:Nat} {q:SlH} {pf po:SlH} {sl:Nat→SlH} {F:Heap} {ex:Value} {st:List SlH} {r:Rn}
theorem RX.tailP (h : RX p G0 H0 G H m rb tb q pf po sl F ex st r) (ok : CmdOk r) (op a v ev : Int) (h16 : op=16→0≤a∧a<16) (h33 : op=33→0≤a∧a<4) {Z : Prop} (hz : op=34→Z) {K : Heap→Prop}
  (k:∀H',RZ p G0 m rb tb pf po ex (r.command op a ev v) H'→K H'):TailP m rb op a v H Z K:=by
 have nf:∀{k:Int},(op==k)=false→¬op=k:=fun e e2=>by subst e2; simp at e
 have yf:∀{k:Int},(op==k)=true→op=k:=fun e=>by simpa using e
 have op_:∀(e:Ev),r.command op a ev v=r.opens e→Tr Tryz.prog 197 #[.pointer (some ⟨rb,0,none⟩),e.val] H fun x H'=>x=.tuple #[]∧K H':=fun e he =>
  (t197 h ok.stack ok.par ok.scope ok.c0 ok.c1 ok.made ok.futs e).mono fun x H' ⟨e1,z⟩=>⟨e1,k H' (by rw [he]; exact z)⟩
 refine ⟨fun e=>⟨_,rfl,h16 (yf e),?_⟩,fun e16=>⟨fun e=>op_ _ ?_,fun e20=>⟨fun e=>⟨_,rfl,_,h.vm.c22,?_⟩,fun e21=>⟨fun e=>op_ _ ?_,fun e22=>⟨fun e=>?_,fun e33=>⟨fun e=>hz (yf e),fun e=>k H ?_⟩⟩⟩⟩⟩⟩
 ·have ha:=h16 (yf e)
  have hcmd:r.command op a ev v=r.vs { r.s with vars:=r.s.vars.set a.toNat v }:=by unfold Rn.command; rw [if_pos (yf e)]
  rw [add2,add2,Nat.mul_one]
  exact h.vm.wrVar (k:=a.toNat) (by omega) fun H' v'=>k H' (by rw [hcmd]; exact (h.setVs v').z)
 ·unfold Rn.command; rw [if_neg (nf e16),if_pos (yf e)]
 ·rw [clamp_eq]
  refine op_ _ ?_
  unfold Rn.command; rw [if_neg (nf e16),if_neg (nf e20),if_pos (yf e)]
 ·unfold Rn.command; rw [if_neg (nf e16),if_neg (nf e20),if_neg (nf e21),if_pos (yf e)]
 ·have ha:=h33 (yf e)
  have hcmd:r.command op a ev v=(if (r.s.emit (evM 10 a v 0)).1.2=true then r.vs { (r.s.emit (evM 10 a v 0)).2 with attrs:=(r.s.emit (evM 10 a v 0)).2.attrs.set a.toNat v } else r.vs (r.s.emit (evM 10 a v 0)).2):=by
   unfold Rn.command; rw [if_neg (nf e16),if_neg (nf e20),if_neg (nf e21),if_neg (nf e22),if_pos (yf e)]
  refine (t141 h.vm (evM 10 a v 0) ok.c0 ok.c1 ok.made).mono fun x H1 ⟨hx,sl1,v1⟩=>⟨_,_,hx,fun eb=>⟨_,rfl,ha,?_⟩,fun eb=>k H1 ?_⟩
  ·rw [add2,add2,Nat.mul_one]
   exact v1.wrAttr (k:=a.toNat) (by omega) fun H' v'=>k H' (by rw [hcmd,if_pos eb]; exact (h.setVs v').z)
  ·rw [hcmd,if_neg (by rw [eb]; simp)]; exact (h.setVs v1).z
 ·have : r.command op a ev v=r := by
   unfold Rn.command; rw [if_neg (nf e16),if_neg (nf e20),if_neg (nf e21),if_neg (nf e22),if_neg (nf e33),if_neg (nf e)]
  rw [this]; exact h.z
end
theorem emit0_made (s:VS) (e:Ev) (h:(s.emit0 e).1.2=true):∃w,(s.emit0 e).2.made=s.made++[w]:=by
 unfold VS.emit0 at h ⊢
 split at h
 ·exact ⟨_,rfl⟩
 ·cases h
 ·split at h
  ·rename_i hm; simp only [hm,if_true]; exact ⟨_,rfl⟩
  ·cases h
theorem emit_made (s:VS) (e:Ev) (h:(s.emit e).1.2=true):∃w,(s.emit e).2.made=s.made++[w]:=by
 unfold VS.emit at h ⊢
 split at h
 ·cases h
 ·rename_i hm; rw [if_neg hm]; exact emit0_made _ _ h
theorem CmdOk.take {r:Rn} (ok:CmdOk r):CmdOk r.take.2:=by
 have hs:=take_s r
 have:=take_len r
 exact ⟨Nat.le_trans this ok.stack,by rw [hs]; exact ok.par,by rw [hs,take_scope]; exact ok.scope,by rw [hs]; exact ok.c0,by rw [hs]; exact ok.c1,by rw [hs]; exact ok.made,by rw [hs]; exact ok.futs⟩
section
variable {G H:Heap} {m:Nat} {pf po:SlH} {sl:Nat→SlH} {F:Heap} {ex:Value} {st:List SlH} {s:VS}
theorem VMX.c33 (h:VMX G H m pf po sl F ex st s):At H ((⟨m,0,none⟩:Addr).add 33) [.int .u64 s.draws]:=h.cell rfl
theorem VMX.row (h:VMX G H m pf po sl F ex st s) {i:Nat} {w:Ev} (hw:s.made[i]?=some w):∃a,(sl 5).A=some a∧At H (a.add (i*9)) w.cells :=
 src_elem (cells:=Ev.cells) (sz:=9) (fun _=>rfl) (by decide) (h.ok 5 (by decide)).src i w hw
end
section
variable {p:Prg} {G0 H0 G H:Heap} {m rb tb:Nat} {q:SlH} {pf po:SlH} {sl:Nat→SlH} {F:Heap} {ex:Value} {st:List SlH} {r:Rn}
theorem RX.draws (h : RX p G0 H0 G H m rb tb q pf po sl F ex st r) (ok : CmdOk r) {K : Value → Heap → Prop}
    (k:∀H',RZ p G0 m rb tb pf po ex (r.commands 19 0) H'→K (.tuple #[]) H') (hn:¬(r.t.stack.length:Int)=32) :
    Wr H ((⟨m,0,none⟩:Addr).add 33) (.int .u64 (IntKind.u64.wrap (r.s.draws+1))) fun H11=>Tr Tryz.prog 141 #[.pointer (some ⟨m,0,none⟩),(evM 11 (IntKind.i64.wrap (mix64 r.s.draws)) 0 0).val] H11 fun v3 H1=>∃(x3:Int) (b:Bool),v3=.tuple #[.int .i64 x3,.bool b] ∧
      (b=true→∃(A:Option Addr) (n c:Nat),At H1 ((⟨m,0,none⟩:Addr).add 32) [.slice A n c]∧∃a9:Addr,(A=some a9∧(0:Int)≤IntKind.i64.wrap ((n:Int)-1)∧IntKind.i64.wrap ((n:Int)-1)<(n:Int))∧∃x4:Int,At H1 ((a9.add ((IntKind.i64.wrap ((n:Int)-1)).toNat*9)).add 3) [.int .i64 x4] ∧
        ∀b1:Nat,H1 b1=none→∀H12,H12=H1.upd b1 (.cells #[.int .i64 x4] 2 (0,0))→Tr Tryz.prog 174 #[.pointer (some ⟨rb,0,none⟩),.slice (some ⟨b1,0,none⟩) 1 1] H12 fun v4 H2=>v4=.tuple #[]∧K (.tuple #[]) H2)∧(b=false→K (.tuple #[]) H1):=by
  have hcmd : r.commands 19 0 = (let s1 : VS := { r.s with draws := IntKind.u64.wrap (r.s.draws + 1) }
     let q:=s1.emit (evM 11 (IntKind.i64.wrap (mix64 r.s.draws)) 0 0)
     if q.1.2=true then (r.vs q.2).leave [((q.2.made.getLast?).map Ev.a).getD 0] else r.vs q.2):=by
    unfold Rn.commands; rw [if_pos rfl,if_neg (by simpa using hn)]
  simp only at hcmd
  refine h.vm.wr (k:=33) (by decide) { r.s with draws:=IntKind.u64.wrap (r.s.draws+1) } rfl rfl rfl rfl rfl rfl rfl rfl h.vm.vars h.vm.attrs fun H1 v1=>?_
  refine (t141 v1 (evM 11 (IntKind.i64.wrap (mix64 r.s.draws)) 0 0) ok.c0 ok.c1 ok.made).mono fun x H2 ⟨hx,sl2,v2⟩=>⟨_,_,hx,fun eb=>?_,fun eb=>k H2 ?_⟩
  · obtain ⟨w,hw⟩:=emit_made _ _ eb
    have hlen:=v2.madeLen
    have hl2:(sl2 5).n=r.s.made.length+1:=by rw [hlen,hw]; simp
    have hm:=ok.made
    have hwr:IntKind.i64.wrap (((sl2 5).n:Int)-1)=((sl2 5).n:Int)-1:=wrapi (by omega) (by omega)
    have ht:(((sl2 5).n:Int)-1).toNat=r.s.made.length:=by omega
    have hget:(({ r.s with draws:=IntKind.u64.wrap (r.s.draws+1) }:VS).emit (evM 11 (IntKind.i64.wrap (mix64 r.s.draws)) 0 0)).2.made[r.s.made.length]?=some w:=by rw [hw]; simp
    obtain ⟨a,ha,hat⟩:=v2.row hget
    refine ⟨_,_,_,v2.c32,a,⟨ha,by rw [hwr]; omega,by rw [hwr]; omega⟩,w.a,by rw [hwr,ht]; exact at_one 3 hat rfl,fun b1 hb1 H12 e12=>?_⟩
    refine (h.setVs v2).leaves [w.a] (by show r.t.stack.length+1≤_; have:=ok.stack; omega) hb1 e12 fun G' F' q' H' h'=>k H' ?_
    rw [hcmd,if_pos eb,hw]
    simp only [List.getLast?_append,List.getLast?_singleton,Option.some_or,Option.map_some,Option.getD_some]
    exact h'.z
  · rw [hcmd,if_neg (by rw [eb]; simp)]; exact (h.setVs v2).z
end
section
variable {p:Prg} {G0 H0 G H:Heap} {m rb tb:Nat} {q:SlH} {pf po:SlH} {sl:Nat→SlH} {F:Heap} {ex:Value} {st:List SlH} {r:Rn}
theorem told_other {op:Int} (h:op≠34) (r:Rn):r.told op=(0,r):=by unfold Rn.told; rw [if_neg h]
theorem commands_other {op a:Int} (h19:op≠19) (h:op≠34) (r:Rn):r.commands op a=if r.take.2.fault=true then r.take.2 else r.take.2.command op a 0 r.take.1:=by
 unfold Rn.commands; rw [if_neg h19,told_other h]; rfl
theorem t190 (h : RX p G0 H0 G H m rb tb q pf po sl F ex st r) (ok : CmdOk r) (hev : ∀(i : Nat) (f : Fut), r.s.futures[i]?=some f→0≤f.event) (op a : Int) (h16 : op=16→0≤a∧a<16) (h33 : op=33→0≤a∧a<4) :
  Tr Tryz.prog 190 #[.pointer (some ⟨rb,0,none⟩),.agg #[.int .i64 op,.int .i64 a]] H fun v H'=>v=.tuple #[]∧RZ p G0 m rb tb pf po ex (r.commands op a) H':=by
 have hst:=ok.stack
 apply v190; unfold F190
 refine ⟨_,rfl,_,h.r0_,fun e=>⟨_,rfl,_,h.r1,_,rfl,_,_,_,h.t3,fun en=>⟨_,rfl,?_⟩,fun en=>?_⟩,fun e=>⟨fun e34=>?_,fun e34=>?_⟩⟩
 ·have e:op=19:=by simpa using e
  subst e
  rw [h.len] at en
  refine h.setF (b:=true) fun G' F' H' h'=>⟨rfl,?_⟩
  have:r.commands 19 a=r.fail:=by unfold Rn.commands; rw [if_pos rfl,if_pos en]
  rw [this]; exact h'.z
 ·have e:op=19:=by simpa using e
  subst e
  rw [h.len] at en
  have key:=h.draws ok (K:=fun v H'=>v=.tuple #[]∧RZ p G0 m rb tb pf po ex (r.commands 19 a) H') (fun H' z=>⟨rfl,z⟩) (by simpa using en)
  obtain ⟨c2,T1,k1,k2,k3,k4⟩:=key
  refine ⟨_,rfl,_,h.vm.c33,_,t196 _ _,_,rfl,_,h.vm.c33,_,rfl,c2,T1,k1,k2,k3,fun H11 e11=>(k4 H11 e11).mono fun x H2 ⟨x3,b,hx,kt,kf⟩=>⟨x3,b,hx,fun eb=>?_,kf⟩⟩
  obtain ⟨A,n,c,g1,a9,g2,x4,g3,g4⟩:=kt eb
  exact ⟨_,rfl,_,rfl,⟨A,n,c,g1,A,n,c,g1,a9,g2,x4,g3,g4⟩,A,n,c,g1,A,n,c,g1,a9,g2,x4,g3,g4⟩
 ·have e34:op=34:=by simpa using e34
  subst e34
  have ta:=t194 h (by omega) 1 (by omega)
  rcases asked_cases r 1 with hx|⟨k,hx,hk0,hk1⟩
  ·have hcmd : r.commands 34 a=(r.asked 1).2.fail := by
    unfold Rn.commands Rn.told
    rw [if_neg (by decide),if_pos rfl,hx]
    rfl
   rw [hx] at ta hcmd
   refine ta.mono fun v H1 ⟨hv,G1,F1,q1,h1⟩=>⟨-1,hv,?_⟩
   refine ⟨⟨0,0,none⟩,fun e=>absurd e (by simp),none,0,0,fun e=>absurd e (by simp),⟨0,0,none⟩,fun e=>absurd e (by simp),0,fun e=>absurd e (by simp),⟨0,0,none⟩,fun e=>absurd e (by simp),none,0,0,fun e=>absurd e (by simp),⟨0,0,none⟩,fun e=>absurd e (by simp),0,fun e=>absurd e (by simp),
    fun _=>⟨_,rfl,?_⟩,fun e=>absurd e (by simp)⟩
   exact h1.setF (b:=true) fun G' F' H' h'=>⟨rfl,by rw [hcmd]; exact h'.z⟩
  ·obtain ⟨f,hf⟩:=get_some (l:=r.s.futures) (i:=k.toNat) (by omega)
   have he0:=hev _ _ hf
   have hlow:decide (k<0)=false:=decide_eq_false (by omega)
   have htold:r.told 34=if (f.kind != 5||f.event==0)=true then (-1,r.fail) else (f.event,r):=by
    unfold Rn.told
    rw [if_pos rfl,hx]
    simp only
    rw [if_neg (by rw [hlow]; simp),hf]
   rw [hx] at ta
   refine ta.mono fun v H1 ⟨hv,G1,F1,q1,h1⟩=>⟨k,hv,?_⟩
   have h1:RX p G0 H0 G1 H1 m rb tb q1 pf po sl F1 ex st r:=h1
   obtain ⟨a1,ha1,hat1⟩:=h1.vm.fut hf
   have bd:(0:Int)≤k∧k<((sl 1).n:Int):=⟨hk0,by rw [h1.vm.futLen]; exact hk1⟩
   refine ⟨_,fun _=>rfl,_,_,_,fun _=>h1.vm.c24,a1,fun _=>⟨ha1,bd⟩,f.kind,fun _=>at_one 0 hat1 rfl,_,fun _=>rfl,_,_,_,fun _=>h1.vm.c24,a1,fun _=>⟨ha1,bd⟩,f.event,fun _=>at_one 1 hat1 rfl,fun e=>⟨_,rfl,?_⟩,fun e=>?_⟩
   ·rw [hlow,Bool.false_or] at e
    have hcmd:r.commands 34 a=r.fail:=by
     have ht2:r.told 34=(-1,r.fail):=by rw [htold,if_pos e]
     unfold Rn.commands
     rw [if_neg (by decide),ht2]
     rfl
    exact h1.setF (b:=true) fun G' F' H' h'=>⟨rfl,by rw [hcmd]; exact h'.z⟩
   ·rw [hlow,Bool.false_or] at e
    have hcmd:r.commands 34 a=if r.take.2.fault=true then r.take.2 else r.take.2.command 34 a f.event r.take.1:=by
     have ht2:r.told 34=(f.event,r):=by rw [htold,if_neg (by rw [e]; simp)]
     have hl:decide (f.event<0)=false:=decide_eq_false (by omega)
     unfold Rn.commands
     rw [if_neg (by decide),ht2]
     show (if decide (f.event<0)=true then r else if r.take.2.fault=true then r.take.2 else r.take.2.command 34 a f.event r.take.1)=_
     rw [hl]; rfl
    refine h1.takes (by omega) fun G2 F2 q2 H2 h2=>⟨_,rfl,_,rfl,_,h2.r2,fun e1=>⟨rfl,?_⟩,fun e1=>?_⟩
    ·rw [hcmd,if_pos e1]; exact h2.z
    ·refine h2.tailP ok.take 34 a r.take.1 f.event h16 h33 (fun _=>?_) (K:=fun H'=>Value.tuple #[]=.tuple #[]∧RZ p G0 m rb tb pf po ex (r.commands 34 a) H') fun H' z=>⟨rfl,by rw [hcmd,if_neg (by rw [e1]; simp)]; exact z⟩
     have hb2:=take_len r
     refine h2.takes (by omega) fun G3 F3 q3 H3 h3=>⟨_,rfl,?_⟩
     have hs3:r.take.2.take.2.s=r.s:=(take_s _).trans (take_s _)
     obtain ⟨a3,ha3,hat3⟩:=h3.vm.fut (i:=k.toNat) (f:=f) (by rw [hs3]; exact hf)
     refine ⟨_,rfl,_,_,_,h3.vm.c24,a3,⟨ha3,hk0,by rw [h3.vm.futLen,hs3]; exact hk1⟩,f.event,at_one 1 hat3 rfl,?_⟩
     refine h3.emits (evM 9 f.event a r.take.1) (by rw [hs3]; exact ok.c0) (by rw [hs3]; exact ok.c1) (by rw [hs3]; exact ok.made) fun H' z=>⟨rfl,?_⟩
     rw [hcmd,if_neg (by rw [e1]; simp)]
     have:r.take.2.command 34 a f.event r.take.1=r.take.2.take.2.vs (r.take.2.take.2.s.emit (evM 9 f.event a r.take.1)).2:=by
      rw [take_s]; rfl
     rw [this]; exact z
 ·have n19:op≠19:=fun e2=>by subst e2; simp at e
  have n34:op≠34:=fun e2=>by subst e2; simp at e34
  have hcmd:=commands_other (a:=a) n19 n34 r
  refine h.takes (by omega) fun G2 F2 q2 H2 h2=>⟨_,rfl,_,rfl,_,h2.r2,fun e1=>⟨rfl,?_⟩,fun e1=>?_⟩
  ·rw [hcmd,if_pos e1]; exact h2.z
  ·exact h2.tailP ok.take op a r.take.1 0 h16 h33 (fun e2=>absurd e2 n34) (K:=fun H'=>Value.tuple #[]=.tuple #[]∧RZ p G0 m rb tb pf po ex (r.commands op a) H') fun H' z=>⟨rfl,by rw [hcmd,if_neg (by rw [e1]; simp)]; exact z⟩
end
set_option linter.unusedVariables false
open IntKind
noncomputable def c56:Cx:={ P:=Tryz.prog,res:=[],pub:=[],loops:=[],quiet:=[],asm:=true }
def F56 (m:Option Addr) (now draw:Int) (H:Heap) (K:Value→Heap→Prop):Prop:=((m.isNone||decide (now<0)||decide (now>1099511627776))=true →
 ∃(a:Addr),((!m.isNone)=true→m=some a) ∧∃(b:Bool),((!m.isNone)=true→At H ((a.add 2).add 25) [.bool b]) ∧((!m.isNone&&b)=true→K (.tuple #[.slice none 0 0,(46:Int)]) H) ∧((!m.isNone&&b)=false→K (.tuple #[.slice none 0 0,(42:Int)]) H)) ∧((m.isNone||decide (now<0)||decide (now>1099511627776))=false→∃(a1:Addr),m=some a1 ∧∃(b1:Bool),At H ((a1.add 2).add 25) [.bool b1] ∧(b1=true→K (.tuple #[.slice none 0 0,(46:Int)]) H) ∧(b1=false→∃(a2:Addr),m=some a2 ∧∃(x:Int),At H (a2.add 30) [x] ∧((x==0)=true→K (.tuple #[.slice none 0 0,(54:Int)]) H) ∧
 ((x==0)=false→∃(a3:Addr),m=some a3 ∧∃(x1:Int),At H (a3.add 30) [x1] ∧(decide (x1>254)=true→K (.tuple #[.slice none 0 0,(49:Int)]) H) ∧(decide (x1>254)=false→∃(a4:Addr),m=some a4 ∧StL H (a4.add 33) [.int .u64 (u64.wrap draw)] fun H1 =>∃(a5:Addr),m=some a5 ∧StL H1 (a5.add 34) [.nilFunc] fun H11=>Tr Tryz.prog 68 #[.pointer m,now] H11 fun v H'=>v=.tuple #[] ∧∃(a6:Addr),m=some a6 ∧∃(A:Option Addr) (n c2:Nat),At H' (a6.add 32) [.slice A n c2] ∧appS 47 9 72 H' none (0:Nat) (0:Nat) A n fun A' n' c' H'1=>K (.tuple #[.slice A' n' c',(0:Int)]) H'1))))

theorem v56 {m:Option Addr} {now draw:Int} {H:Heap} {K:Value→Heap→Prop} (h:F56 m now draw H K):Tr Tryz.prog 56 #[.pointer m,.int .i64 now,.int .i64 draw] H K :=
 tr_of_eq (C:=c56) Tryz.func56 (by kernel_rfl) h
noncomputable def c25:Cx:={ P:=Tryz.prog,res:=[],pub:=[],loops:=[],quiet:=[],asm:=true }
def F25 (m:Option Addr) (H:Heap) (K:Value→Heap→Prop):Prop:=(m.isNone=true→K (.tuple #[(0:Int),.bool false]) H) ∧
 (m.isNone=false→∃(a:Addr),m=some a ∧∃(x:Int),At H (a.add 30) [x] ∧∃(a1:Addr),m=some a1 ∧∃(b:Bool),At H ((a1.add 2).add 25) [.bool b] ∧K (.tuple #[x,.bool b]) H)

theorem v25 {m:Option Addr} {H:Heap} {K:Value→Heap→Prop} (h:F25 m H K):Tr Tryz.prog 25 #[.pointer m] H K :=
 tr_of_eq (C:=c25) Tryz.func25 (by kernel_rfl) h
noncomputable def c24:Cx:={ P:=Tryz.prog,res:=[],pub:=[],loops:=[⟨6,[(23,.int .i64)],[5,24,25,26,27,28,29,30,31,32,33,34,35,36,37,38,39,40,41,42],[(1,21,.sl)]⟩,⟨15,[(63,.int .i64)],[7,64,65,66,67,68,69,70,71,72,73,74],[(1,24,.sl)]⟩],quiet:=[],draws:=[⟨17,[],[1],false,true⟩],asm:=true }
def F24 (m:Option Addr) (H:Heap) (K:Value→Heap→Prop):Prop:=(m.isNone=true→K (.agg #[(0:Int),(0:Int),(0:Int),(0:Int),(0:Int),(0:Int),(0:Int),(0:Int),(0:Int),(0:Int),(0:Int),(0:Int),(0:Int),(0:Int),(0:Int),(0:Int),(0:Int),(0:Int),(0:Int),(0:Int),(0:Int),.slice none 0 0,.slice none 0 0,.slice none 0 0,.slice none 0 0,.bool false]) H) ∧
 (m.isNone=false→∃(a:Addr),m=some a ∧∃(x x1 x2 x3 x4 x5 x6 x7 x8 x9 x10 x11 x12 x13 x14 x15 x16 x17 x18 x19 x20:Int) (A:Option Addr) (n c:Nat) (A1:Option Addr) (n1 c1:Nat) (A2:Option Addr) (n2 c2:Nat) (A3:Option Addr) (n3 c3:Nat) (b:Bool),At H (a.add 2) [x,x1,x2,x3,x4,x5,x6,x7,x8,x9,x10,x11,x12,x13,x14,x15,x16,x17,x18,x19,x20,.slice A n c,.slice A1 n1 c1,.slice A2 n2 c2,.slice A3 n3 c3,.bool b] ∧∃(a1:Addr),m=some a1 ∧∃(A4:Option Addr) (n4 c4:Nat),At H ((a1.add 2).add 21) [.slice A4 n4 c4] ∧
 ∃(Rel:Int→Option Addr→Nat→Nat→Heap→Prop) (mu:Int→Option Addr→Nat→Nat→Heap→Nat),Rel (0:Int) none (0:Nat) (0:Nat) H ∧∀(x21:Int) (A5:Option Addr) (n5 c5:Nat) (H1:Heap),Rel x21 A5 n5 c5 H1→(decide (x21<(↑n4:Int))=true→∃(a2:Addr),InB A4 a2 x21 n4 ∧∃(x22 x23 x24:Int) (A6:Option Addr) (n6 c6:Nat) (x25 x26 x27 x28 x29:Int),At H1 (a2.add (x21.toNat*9)) [x22,x23,x24,.slice A6 n6 c6,x25,x26,x27,x28,x29] ∧∃(a3:Addr),m=some a3 ∧∃(b1:Bool),At H1 ((a3.add 2).add 25) [.bool b1] ∧(b1=true→∃(a4:Addr),m=some a4 ∧∃(A7:Option Addr) (n7 c7:Nat),
 At H1 ((a4.add 2).add 22) [.slice A7 n7 c7] ∧appS 81 6 48 H1 none (0:Nat) (0:Nat) A7 n7 fun (A':Option Addr) (n' c':Nat) (H':Heap) =>∃(a5:Addr),m=some a5 ∧∃(A8:Option Addr) (n8 c8:Nat),At H' ((a5.add 2).add 23) [.slice A8 n8 c8] ∧appS 199 2 16 H' none (0:Nat) (0:Nat) A8 n8 fun (A'1:Option Addr) (n'1 c'1:Nat) (H'1:Heap) =>∃(a6:Addr),m=some a6 ∧∃(A9:Option Addr) (n9 c9:Nat),At H'1 ((a6.add 2).add 24) [.slice A9 n9 c9] ∧∃(Rel1:Int→Option Addr→Nat→Nat→Heap→Prop) (mu1:Int→Option Addr→Nat→Nat→Heap→Nat),Rel1 (0:Int) none (0:Nat) (0:Nat) H'1 ∧
 ∀(x30:Int) (A10:Option Addr) (n10 c10:Nat) (H2:Heap),Rel1 x30 A10 n10 c10 H2→(decide (x30<(↑n9:Int))=true→∃(a7:Addr),InB A9 a7 x30 n9 ∧∃(A11:Option Addr) (n11 c11:Nat),At H2 (a7.add (x30.toNat*1)) [.slice A11 n11 c11] ∧(appS 2 1 8 H2 none (0:Nat) (0:Nat) A11 n11 fun A'2 n'2 c'2 H'2=>appC 134 1 24 H'2 A10 n10 c10 [.slice A'2 n'2 c'2] 1 fun A'3 n'3 c'3 H'3=>Rel1 (i64.wrap (x30+1)) A'3 n'3 c'3 H'3 ∧mu1 (i64.wrap (x30+1)) A'3 n'3 c'3 H'3<mu1 x30 A10 n10 c10 H2) ∧
 appS 2 1 8 H2 none (0:Nat) (0:Nat) A11 n11 fun A'4 n'4 c'4 H'4=>(appC 134 1 24 H'4 A10 n10 c10 [.slice A'4 n'4 c'4] 1 fun A'5 n'5 c'5 H'5=>Rel1 (i64.wrap (x30+1)) A'5 n'5 c'5 H'5 ∧mu1 (i64.wrap (x30+1)) A'5 n'5 c'5 H'5<mu1 x30 A10 n10 c10 H2) ∧appC 134 1 24 H'4 A10 n10 c10 [.slice A'4 n'4 c'4] 1 fun A'6 n'6 c'6 H'6=>Rel1 (i64.wrap (x30+1)) A'6 n'6 c'6 H'6 ∧mu1 (i64.wrap (x30+1)) A'6 n'6 c'6 H'6<mu1 x30 A10 n10 c10 H2) ∧
 (decide (x30<(↑n9:Int))=false→K (.agg #[x,x1,x2,x3,x4,x5,x6,x7,x8,x9,x10,x11,x12,x13,x14,x15,x16,x17,x18,x19,x20,.slice A5 n5 c5,.slice A' n' c',.slice A'1 n'1 c'1,.slice A10 n10 c10,.bool b]) H2)) ∧(b1=false→appS 2 1 8 H1 none (0:Nat) (0:Nat) A6 n6 fun A'7 n'7 c'7 H'7=>appC 153 9 88 H'7 A5 n5 c5 [x22,x23,x24,.slice A'7 n'7 c'7,x25,x26,x27,x28,x29] 1 fun A'8 n'8 c'8 H'8=>Rel (i64.wrap (x21+1)) A'8 n'8 c'8 H'8 ∧mu (i64.wrap (x21+1)) A'8 n'8 c'8 H'8<mu x21 A5 n5 c5 H1)) ∧(decide (x21<(↑n4:Int))=false→∃(a8:Addr),m=some a8 ∧∃(A12:Option Addr) (n12 c12:Nat),
 At H1 ((a8.add 2).add 22) [.slice A12 n12 c12] ∧appS 81 6 48 H1 none (0:Nat) (0:Nat) A12 n12 fun (A'9:Option Addr) (n'9 c'9:Nat) (H'9:Heap) =>∃(a9:Addr),m=some a9 ∧∃(A13:Option Addr) (n13 c13:Nat),At H'9 ((a9.add 2).add 23) [.slice A13 n13 c13] ∧appS 199 2 16 H'9 none (0:Nat) (0:Nat) A13 n13 fun (A'10:Option Addr) (n'10 c'10:Nat) (H'10:Heap) =>∃(a10:Addr),m=some a10 ∧∃(A14:Option Addr) (n14 c14:Nat),At H'10 ((a10.add 2).add 24) [.slice A14 n14 c14] ∧∃(Rel2:Int→Option Addr→Nat→Nat→Heap→Prop) (mu2:Int→Option Addr→Nat→Nat→Heap→Nat),
 Rel2 (0:Int) none (0:Nat) (0:Nat) H'10 ∧∀(x31:Int) (A15:Option Addr) (n15 c15:Nat) (H3:Heap),Rel2 x31 A15 n15 c15 H3→(decide (x31<(↑n14:Int))=true→∃(a11:Addr),InB A14 a11 x31 n14 ∧∃(A16:Option Addr) (n16 c16:Nat),At H3 (a11.add (x31.toNat*1)) [.slice A16 n16 c16] ∧(appS 2 1 8 H3 none (0:Nat) (0:Nat) A16 n16 fun A'11 n'11 c'11 H'11=>appC 134 1 24 H'11 A15 n15 c15 [.slice A'11 n'11 c'11] 1 fun A'12 n'12 c'12 H'12=>Rel2 (i64.wrap (x31+1)) A'12 n'12 c'12 H'12 ∧mu2 (i64.wrap (x31+1)) A'12 n'12 c'12 H'12<mu2 x31 A15 n15 c15 H3) ∧
 appS 2 1 8 H3 none (0:Nat) (0:Nat) A16 n16 fun A'13 n'13 c'13 H'13=>(appC 134 1 24 H'13 A15 n15 c15 [.slice A'13 n'13 c'13] 1 fun A'14 n'14 c'14 H'14=>Rel2 (i64.wrap (x31+1)) A'14 n'14 c'14 H'14 ∧mu2 (i64.wrap (x31+1)) A'14 n'14 c'14 H'14<mu2 x31 A15 n15 c15 H3) ∧appC 134 1 24 H'13 A15 n15 c15 [.slice A'13 n'13 c'13] 1 fun A'15 n'15 c'15 H'15=>Rel2 (i64.wrap (x31+1)) A'15 n'15 c'15 H'15 ∧mu2 (i64.wrap (x31+1)) A'15 n'15 c'15 H'15<mu2 x31 A15 n15 c15 H3) ∧
 (decide (x31<(↑n14:Int))=false→K (.agg #[x,x1,x2,x3,x4,x5,x6,x7,x8,x9,x10,x11,x12,x13,x14,x15,x16,x17,x18,x19,x20,.slice A5 n5 c5,.slice A'9 n'9 c'9,.slice A'10 n'10 c'10,.slice A15 n15 c15,.bool b]) H3)))

theorem v24 {m:Option Addr} {H:Heap} {K:Value→Heap→Prop} (h:F24 m H K):Tr Tryz.prog 24 #[.pointer m] H K :=
 tr_of_eq (C:=c24) Tryz.func24 (by kernel_rfl) h
noncomputable def c63:Cx:={ P:=Tryz.prog,res:=[],pub:=[20,23],loops:=[],quiet:=[107],asm:=true }
def F63 (pFuncsA:Option Addr) (pFuncsn pFuncsc:Nat) (pOptsA:Option Addr) (pOptsn pOptsc:Nat) (H:Heap) (K:Value→Heap→Prop):Prop :=
 ∃(x x1 x2:Int),TrQ Tryz.prog 107 #[.agg #[.slice pFuncsA pFuncsn pFuncsc,.slice pOptsA pOptsn pOptsc]] H (.tuple #[x,x1,x2]) ∧((x != 0)=true→K (.tuple #[.pointer none,x]) H) ∧((x != 0)=false→Tr Tryz.prog 108 #[.agg #[.slice pFuncsA pFuncsn pFuncsc,.slice pOptsA pOptsn pOptsc]] H fun v1 H'1 =>∃(A:Option Addr) (n c:Nat) (A1:Option Addr) (n1 c1:Nat),v1=.agg #[.slice A n c,.slice A1 n1 c1] ∧
 ∀b,H'1 b=none→∀H1,H1=H'1.upd b (.cells #[.slice A n c,.slice A1 n1 c1,.int .i64 0,.int .i64 0,.int .i64 0,.int .i64 0,.int .i64 0,.int .i64 0,.int .i64 0,.int .i64 0,.int .i64 0,.int .i64 0,.int .i64 0,.int .i64 0,.int .i64 0,.int .i64 0,.int .i64 0,.int .i64 0,.int .i64 0,.int .i64 0,.int .i64 0,.int .i64 0,.int .i64 0,.slice none 0 0,.slice none 0 0,.slice none 0 0,.slice none 0 0,.bool false,.slice none 0 0,.bool false,.int .i64 0,.int .i64 0,.slice none 0 0,.int .u64 0,.nilFunc,.bool false] 149)→∀b1,H1 b1=none→∀H11,H11=H1.upd b1 (.cells #[(-1:Int),.bool false] 199) →
 ∃(a:Addr),some (b:Addr)=some a ∧StL H11 ((a.add 2).add 23) [.slice (some (b1:Addr)) (1:Nat) (1:Nat)] fun H12=>Sm Tryz.prog (Instr.makeSlice (73:Nat) (.int .i64 8) (.int .i64 8)) H12 fun v2 H'2 =>∃(A2:Option Addr) (n2 c3:Nat),v2=.slice A2 n2 c3 ∧∃(a1:Addr),some (b:Addr)=some a1 ∧StL H'2 ((a1.add 2).add 24) [.slice A2 n2 c3] fun H13=>K (.tuple #[.pointer (some (b:Addr)),(0:Int)]) H13)

theorem v63 {pFuncsA:Option Addr} {pFuncsn pFuncsc:Nat} {pOptsA:Option Addr} {pOptsn pOptsc:Nat} {H:Heap} {K:Value→Heap→Prop} (h:F63 pFuncsA pFuncsn pFuncsc pOptsA pOptsn pOptsc H K):Tr Tryz.prog 63 #[.agg #[.slice pFuncsA pFuncsn pFuncsc,.slice pOptsA pOptsn pOptsc]] H K :=
 tr_of_eq (C:=c63) Tryz.func63 (by kernel_rfl) h
noncomputable def c108:Cx:={ P:=Tryz.prog,res:=[],pub:=[],loops:=[⟨3,[(13,.int .i64)],[5,14,15,16,17,18,19,20,21,22,23,24,25,26,27],[(2,0,.sl)]⟩],quiet:=[],asm:=true }
def F108 (pFuncsA:Option Addr) (pFuncsn pFuncsc:Nat) (pOptsA:Option Addr) (pOptsn pOptsc:Nat) (H:Heap) (K:Value→Heap→Prop):Prop:=appS 128 11 88 H none (0:Nat) (0:Nat) pOptsA pOptsn fun (A':Option Addr) (n' c':Nat) (H':Heap) =>
 ∃(Rel:Int→Option Addr→Nat→Nat→Heap→Prop) (mu:Int→Option Addr→Nat→Nat→Heap→Nat),Rel (0:Int) none (0:Nat) (0:Nat) H' ∧∀(x:Int) (A:Option Addr) (n c:Nat) (H1:Heap),Rel x A n c H1→(decide (x<(↑pFuncsn:Int))=true→∃(a:Addr),InB pFuncsA a x pFuncsn ∧∃(x1 x2:Int) (A1:Option Addr) (n1 c1:Nat),At H1 (a.add (x.toNat*3)) [x1,x2,.slice A1 n1 c1] ∧appS 179 2 16 H1 none (0:Nat) (0:Nat) A1 n1 fun A'1 n'1 c'1 H'1=>appC 132 3 40 H'1 A n c [x1,x2,.slice A'1 n'1 c'1] 1 fun A'2 n'2 c'2 H'2=>Rel (i64.wrap (x+1)) A'2 n'2 c'2 H'2 ∧
 mu (i64.wrap (x+1)) A'2 n'2 c'2 H'2<mu x A n c H1) ∧(decide (x<(↑pFuncsn:Int))=false→K (.agg #[.slice A n c,.slice A' n' c']) H1)

theorem v108 {pFuncsA:Option Addr} {pFuncsn pFuncsc:Nat} {pOptsA:Option Addr} {pOptsn pOptsc:Nat} {H:Heap} {K:Value→Heap→Prop} (h:F108 pFuncsA pFuncsn pFuncsc pOptsA pOptsn pOptsc H K):Tr Tryz.prog 108 #[.agg #[.slice pFuncsA pFuncsn pFuncsc,.slice pOptsA pOptsn pOptsc]] H K :=
 tr_of_eq (C:=c108) Tryz.func108 (by kernel_rfl) h
theorem find_found {p:Prg} {kind name:Int} (h:¬p.find kind name<0):∃(i:Nat) (f:Fnc),p.find kind name=i∧p.funcs[i]?=some f∧f.kind=kind∧f.name=name:=by
 rw [find_eq] at h ⊢
 cases hs:scan p.funcs.length (p.hit kind name) with
 | none=>rw [hs] at h; simp at h
 | some r =>
  obtain ⟨j,hj,e⟩:=scan_ex hs
  unfold Prg.hit at e
  split at e
  ·rename_i g hg
   split at e
   ·rename_i hb
    cases e
    simp at hb
    exact ⟨j,g,rfl,hg,hb.1,hb.2⟩
   ·cases e
  ·cases e
section
variable {p:Prg} {G H:Heap} {m:Nat} {pf po:SlH} {sl:Nat→SlH} {F:Heap} {ex:Value} {st:List SlH} {s:VS}
theorem VMX.c01 (h:VMX G H m pf po sl F ex st s):At H (⟨m,0,none⟩:Addr) [pf.v,po.v]:=by
 have:At H (⟨m,0,none⟩:Addr) (mCells pf po sl ex s):=⟨⟨_,_,_,h.hm,rfl,fun j v hv=>by simpa using hv⟩⟩
 exact at_take 2 this
theorem VMX.c27 (h:VMX G H m pf po sl F ex st s):At H ((⟨m,0,none⟩:Addr).add 27) [.bool s.over]:=h.cell rfl
theorem t25 (h:VMX G H m pf po sl F ex st s):Tr Tryz.prog 25 #[.pointer (some ⟨m,0,none⟩)] H fun v H'=>v=.tuple #[.int .i64 s.count,.bool s.over]∧Sub H H':=by
 apply v25; unfold F25
 exact ⟨fun e=>absurd e (by simp),fun _=>⟨_,rfl,_,h.c30,_,rfl,_,h.c27,rfl,Sub.refl _⟩⟩
end
end Go.Proofs.YtkofafcgcnciaaaGreatDoor
set_option maxRecDepth 100000
namespace Go.Ax
theorem SlOk.tail1 {H:Heap} {A:Option Addr} {n c:Nat} {x:Int} {l:List Int} (k:SlOk H ⟨A,n,c⟩ 1 (intsC (x::l))):SlOk H ⟨if c=Int.toNat 1 then A else Option.map (fun y:Addr=>y.add (Int.toNat 1*1)) A,n-Int.toNat 1,c-Int.toNat 1⟩ 1 (intsC l):=by
 have hl:=k.len
 have hc:=k.cap
 simp only [intsC,List.map_cons,List.length_cons,List.length_map,Nat.mul_one] at hl
 simp only at hc
 have t1:Int.toNat 1=1:=rfl
 rw [t1]
 refine ⟨by simp only [intsC,List.length_map,Nat.mul_one]; omega,by show n-1≤c-1; omega,?_⟩
 rcases k.at_ with ⟨a1,a2,a3⟩|⟨b,off,cur,T,a1,a2,a3,a4⟩
 ·simp only at a2; omega
 ·simp only at a1 a3
  subst a1
  right
  by_cases h1:c=1
  ·subst h1
   have hn:l=[]:=List.length_eq_zero_iff.1 (by omega)
   subst hn
   exact ⟨b,off,cur,T,by rw [if_pos rfl],a2,by show off+(1-1)*1≤cur.size; omega,fun j v hv=>by simp [intsC] at hv⟩
  ·refine ⟨b,off+1,cur,T,by rw [if_neg h1]; rfl,a2,by show off+1+(c-1)*1≤cur.size; omega,fun j v hv=>?_⟩
   have:=a4 (j+1) v (by simpa [intsC] using hv)
   rw [←this]; congr 1; omega
end Go.Ax
namespace Go.Proofs.YtkofafcgcnciaaaGreatDoor
open Go.Ax
section
variable {G H:Heap} {m:Nat} {pf po:SlH} {sl:Nat→SlH} {F:Heap} {ex:Value} {st:List SlH} {s:VS}
theorem VMX.setSig (h : VMX G H m pf po sl F ex st s) {k : Nat} (hk : k<8) {hn : SlH} {l : List Int} (r : Ready F H m sl ex (6+k) hn (intsC l)) {a : Addr} (ha : (sl 3).A=some a)
  {Q:Heap→Prop} (q:∀H',VMX G H' m pf po (setH sl (6+k) hn) F ex st { s with signals:=s.signals.set k l }→Q H'):Wr H (a.add (k*1)) hn.v Q:=by
 have ok:=h.ok 3 (by decide)
 have hlen:=ok.len
 have hsz3:szC 3=1:=rfl
 have hc3:contC sl st s 3=(List.range 8).map (fun i=>(sl (6+i)).v):=rfl
 rcases ok.at_ with ⟨a1,_⟩|⟨b,off,cur,T,a1,a2,a3,a4⟩
 ·rw [a1] at ha; cases ha
 ·rw [a1] at ha; cases ha
  rw [Nat.mul_one]
  have b0:((⟨b,off,none⟩:Addr).add k).block=b:=by unfold Addr.add; split<;>rfl
  have o0:((⟨b,off,none⟩:Addr).add k).off=off+k:=by unfold Addr.add; split<;>simp_all
  have s0:((⟨b,off,none⟩:Addr).add k).spot=none:=by unfold Addr.add; split<;>rfl
  have hn8:=h.sigLen
  have hcap:=ok.cap
  rw [hsz3] at a3
  have hsz:off+k+[hn.v].length≤cur.size:=by show off+k+1≤_; omega
  have hblk:(sl 3).blk=some b:=by unfold SlH.blk; rw [a1]; rfl
  have fr:=h.free_own (by decide:3<14) hblk
  unfold Wr
  rw [b0,o0,s0]
  refine ⟨cur,T,a2,rfl,hsz,fun H1 e=>q H1 ?_⟩
  subst e
  have hb3:∀b',hn.blk=some b'→b'≠b:=fun b' hb' e=>by
   subst e
   have:=(r.free b' hb').sl 3 (by decide) hblk
   omega
  have get:∀c',setH sl (6+k) hn c'=if c'=6+k then hn else sl c':=fun _=>rfl
  refine ⟨h.gf,⟨fun i o ho=>?_⟩,h.fm,?_,fun c' hc' b' hb'=>?_,fun c1 c2 b' hc1 hc2 h1 h2=>?_,fun c' hc'=>?_,h.stl,h.stk,h.vars,h.attrs,by show (s.signals.set k l).length=8; rw [List.length_set]; exact h.sigs,⟨h.exp.none_,fun l2 hl2=>?_⟩⟩
  ·rw [Heap.upd_other (fun e=>by subst e; rw [fr.f] at ho; cases ho)]; exact h.fh.sub _ _ ho
  ·rw [Heap.upd_other (fun e=>fr.m e.symm)]
   have:mCells pf po (setH sl (6+k) hn) ex { s with signals:=s.signals.set k l }=mCells pf po sl ex s:=by
    unfold mCells
    simp only [get]
    rw [if_neg (by omega),if_neg (by omega),if_neg (by omega),if_neg (by omega),if_neg (by omega),if_neg (by omega)]
   rw [this]; exact h.hm
  ·rw [get] at hb'
   split at hb'
   ·exact ⟨(r.free b' hb').f,(r.free b' hb').m⟩
   ·exact h.own c' hc' b' hb'
  ·rw [get] at h1 h2
   split at h1
   ·rename_i q1
    split at h2
    ·rename_i q2; rw [q1,q2]
    ·rw [q1]; exact ((r.free b' h1).sl c2 hc2 h2).symm
   ·split at h2
    ·rename_i q2; rw [q2]; exact (r.free b' h2).sl c1 hc1 h1
    ·exact h.inj c1 c2 b' hc1 hc2 h1 h2
  ·by_cases h6:c'=6+k
   ·subst h6
    have e1:contC (setH sl (6+k) hn) st { s with signals:=s.signals.set k l } (6+k)=intsC l:=by
     unfold contC
     rw [if_neg (by omega),if_neg (by omega),if_neg (by omega),if_neg (by omega),if_neg (by omega),if_neg (by omega)]
     have e6:6+k-6=k:=by omega
     rw [e6]
     show intsC ((s.signals.set k l)[k]?.getD [])=_
     rw [List.getElem?_set_self (by rw [h.sigs]; exact hk)]; rfl
    rw [e1,get,if_pos rfl]
    exact r.ok.mono fun b' hb'=>Heap.upd_other (hb3 b' hb')
   ·rw [get,if_neg h6]
    by_cases h3:c'=3
    ·subst h3
     have e3:contC (setH sl (6+k) hn) st { s with signals:=s.signals.set k l } 3=(contC sl st s 3).set k hn.v:=by
      show (List.range 8).map (fun i=>(setH sl (6+k) hn (6+i)).v)=((List.range 8).map (fun i=>(sl (6+i)).v)).set k hn.v
      apply List.ext_getElem?
      intro i
      rw [List.getElem?_set,List.getElem?_map,List.getElem?_map]
      by_cases hi:i<8
      ·rw [List.getElem?_range hi]
       by_cases hki:k=i
       ·subst hki; simp [get,hk]
       ·rw [if_neg hki]; simp only [Option.map_some,get]; rw [if_neg (by omega)]
      ·rw [List.getElem?_eq_none (by simpa using hi)]
       rw [if_neg (by omega)]; rfl
     rw [e3]
     refine ⟨by rw [List.length_set]; exact hlen,ok.cap,.inr ⟨b,off,_,T,a1,Heap.upd_same,by rw [splice_size hsz,hsz3]; exact a3,fun j u hu=>?_⟩⟩
     rw [splice_get hsz]
     rw [List.getElem?_set] at hu
     by_cases hj:k=j
     ·subst hj
      rw [if_pos rfl] at hu
      split at hu
      ·rw [if_neg (by omega),if_pos (by show off+k<off+k+1; omega)]
       have:off+k-(off+k)=0:=by omega
       rw [this]; exact hu
      ·cases hu
     ·rw [if_neg hj] at hu
      have:=a4 j u hu
      by_cases hlt:off+j<off+k
      ·rw [if_pos hlt]; exact this
      ·rw [if_neg hlt,if_neg (by show ¬off+j<off+k+1; omega)]; exact this
    ·have e4 : contC (setH sl (6+k) hn) st { s with signals := s.signals.set k l } c'=contC sl st s c' := by
      unfold contC
      by_cases hlow:c'<6
      ·have:c'=0∨c'=1∨c'=2∨c'=4∨c'=5:=by omega
       rcases this with rfl|rfl|rfl|rfl|rfl<;>rfl
      ·rw [if_neg (by omega),if_neg (by omega),if_neg (by omega),if_neg (by omega),if_neg (by omega),if_neg (by omega),if_neg (by omega),if_neg (by omega),if_neg (by omega),if_neg (by omega),if_neg (by omega),if_neg (by omega)]
       show intsC ((s.signals.set k l)[c'-6]?.getD [])=_
       rw [List.getElem?_set_ne (by omega)]
     rw [e4]
     exact (h.ok c' hc').mono fun b' hb'=>Heap.upd_other fun e=>by subst e; exact h3 (fr.sl c' hc' hb')
  ·obtain ⟨xb,A,n,c2,T2,q1,q2,q3,q4,q5,q6,q7⟩:=h.exp.some_ l2 hl2
   refine ⟨xb,A,n,c2,T2,q1,by rw [Heap.upd_other (fr.x xb q1)]; exact q2,q3,q4,fun c' hc' hb'=>?_,q6,q7⟩
   rw [get] at hb'
   split at hb'
   ·exact (r.free xb hb').x xb q1 rfl
   ·exact q5 c' hc' hb'
end
section
variable {G H:Heap} {m:Nat} {pf po:SlH} {sl:Nat→SlH} {F:Heap} {ex:Value} {st:List SlH} {s:VS}
def ThrP (m bytes:Nat) (t:Thr) (H:Heap) (Q:Heap→Prop):Prop :=
 ∃(A:Option Addr) (n c:Nat),At H (((⟨m,0,none⟩:Addr).add 2).add 21) [.slice A n c]∧appC 153 9 bytes H A n c (thrC (t,⟨none,0,0⟩)) 1 fun A' n' c' H4 =>
  ∃a9:Addr,some (⟨m,0,none⟩:Addr)=some a9∧Wr H4 ((a9.add 2).add 21) (.slice A' n' c') Q
theorem VMX.addThr (h:VMX G H m pf po sl F ex st s) (t:Thr) (ht:t.stack=[]) {bytes:Nat} (hby:bytes≤1000) (hl:s.threads.length≤1000) {Q:Heap→Prop} (q:∀H' sl',VMX G H' m pf po sl' F ex (st++[⟨none,0,0⟩]) (s.thread t)→Q H'):ThrP m bytes t H Q:=by
 have hn:=h.thrLen
 have hmul:((sl 0).n+1)*bytes≤140737488355328:=Nat.le_trans (Nat.mul_le_mul (show (sl 0).n+1≤1001 by omega) hby) (by decide)
 refine ⟨_,_,_,h.c23,h.app (c:=0) (by decide) (new:=thrC (t,⟨none,0,0⟩)) (k:=1) rfl rfl hmul (by omega) fun A' c' H4 h4 r=>⟨_,rfl,?_⟩⟩
 have hs6:∀k,setH sl 0 ⟨A',(sl 0).n+1,c'⟩ (6+k)=sl (6+k):=fun k=>if_neg (by omega)
 refine h4.wrSl (c:=0) (by decide) r (k:=23) (by decide) (s.thread t) (st++[⟨none,0,0⟩]) rfl ?_ (fun c2 hc2 hne=>?_) rfl h.vars h.attrs h.sigs ?_ (fun j u z hu hz=>?_) fun H13 h13=>q _ _ h13
 ·show ((s.threads++[t]).zip (st++[⟨none,0,0⟩])).flatMap thrC=(s.threads.zip st).flatMap thrC++thrC (t,⟨none,0,0⟩)
  rw [List.zip_append h.stl.symm,List.flatMap_append]; simp
 ·simp only [contC,hs6,if_neg hne]
  rfl
 ·show (st++[_]).length=(s.threads++[t]).length
  rw [List.length_append,List.length_append,h.stl]; rfl
 ·have hu:(s.threads++[t])[j]?=some u:=hu
  by_cases hj:j<s.threads.length
  ·rw [List.getElem?_append_left hj] at hu
   rw [List.getElem?_append_left (by rw [h.stl]; exact hj)] at hz
   exact h.stk j u z hu hz
  ·have hlt:=get_lt hu
   rw [List.length_append] at hlt
   have hj2:j=s.threads.length:=by simp at hlt; omega
   subst hj2
   rw [List.getElem?_append_right (Nat.le_refl _),Nat.sub_self] at hu
   rw [←h.stl,List.getElem?_append_right (Nat.le_refl _),Nat.sub_self] at hz
   simp at hu hz
   subst hu; subst hz
   rw [ht]; exact HasL.nil _ _
def ScpP (m bytes:Nat) (f:Scp) (H:Heap) (Q:Heap→Prop):Prop :=
 ∃(A:Option Addr) (n c:Nat),At H (((⟨m,0,none⟩:Addr).add 2).add 23) [.slice A n c]∧appC 199 2 bytes H A n c (scpC f) 1 fun A' n' c' H4 =>
  ∃a9:Addr,some (⟨m,0,none⟩:Addr)=some a9∧Wr H4 ((a9.add 2).add 23) (.slice A' n' c') Q
theorem VMX.addScp (h:VMX G H m pf po sl F ex st s) (f:Scp) {bytes:Nat} (hby:bytes≤1000) (hl:s.scopes.length≤1000) {Q:Heap→Prop} (q:∀H' sl',VMX G H' m pf po sl' F ex st { s with scopes:=s.scopes++[f] }→Q H'):ScpP m bytes f H Q:=by
 have hn:=h.scpLen
 have hmul:((sl 2).n+1)*bytes≤140737488355328:=Nat.le_trans (Nat.mul_le_mul (show (sl 2).n+1≤1001 by omega) hby) (by decide)
 refine ⟨_,_,_,h.c25,h.app (c:=2) (by decide) (new:=scpC f) (k:=1) rfl rfl hmul (by omega) fun A' c' H4 h4 r=>⟨_,rfl,?_⟩⟩
 have hs6:∀k,setH sl 2 ⟨A',(sl 2).n+1,c'⟩ (6+k)=sl (6+k):=fun k=>if_neg (by omega)
 refine h4.wrSl (c:=2) (by decide) r (k:=25) (by decide) { s with scopes:=s.scopes++[f] } st rfl ?_ (fun c2 hc2 hne=>?_) rfl h.vars h.attrs h.sigs h.stl h.stk fun H13 h13=>q _ _ h13
 ·show (s.scopes++[f]).flatMap scpC=s.scopes.flatMap scpC++scpC f
  rw [List.flatMap_append]; simp
 ·simp only [contC,hs6,if_neg hne]
end
section
variable {G H:Heap} {m:Nat} {pf po:SlH} {sl:Nat→SlH} {F:Heap} {ex:Value} {st:List SlH} {s:VS}
theorem VMX.sigOk (h:VMX G H m pf po sl F ex st s) {k:Nat} (hk:k<8):SlOk H (sl (6+k)) 1 (intsC (s.signals[k]?.getD [])):=by
 have ok:=h.ok (6+k) (by omega)
 have z:szC (6+k)=1:=by unfold szC; rw [if_neg (by omega),if_neg (by omega),if_neg (by omega),if_neg (by omega),if_neg (by omega),if_neg (by omega)]
 have e:contC sl st s (6+k)=intsC (s.signals[k]?.getD []):=by
  unfold contC
  rw [if_neg (by omega),if_neg (by omega),if_neg (by omega),if_neg (by omega),if_neg (by omega),if_neg (by omega)]
  have:6+k-6=k:=by omega
  rw [this]
 rw [z,e] at ok; exact ok
def _root_.Go.Ax.SlH.next (h:SlH):SlH:=⟨if h.c=Int.toNat 1 then h.A else Option.map (fun y:Addr=>y.add (Int.toNat 1*1)) h.A,h.n-Int.toNat 1,h.c-Int.toNat 1⟩
theorem _root_.Go.Ax.SlH.next_blk (h:SlH):h.next.blk=h.blk:=by
 unfold SlH.next SlH.blk
 simp only
 split
 ·rfl
 ·cases h.A with
  | none=>rfl
  | some a=>simp only [Option.map_some]; congr 1
theorem VMX.sigNext (h:VMX G H m pf po sl F ex st s) {k:Nat} (hk:k<8) {x:Int} {l:List Int} (e:s.signals[k]?.getD []=x::l):Ready F H m sl ex (6+k) (sl (6+k)).next (intsC l):=by
 have ok:=h.sigOk hk
 rw [e] at ok
 refine ⟨?_,fun b hb=>h.free_own (by omega) (by rw [SlH.next_blk] at hb; exact hb)⟩
 have z:szC (6+k)=1:=by unfold szC; rw [if_neg (by omega),if_neg (by omega),if_neg (by omega),if_neg (by omega),if_neg (by omega),if_neg (by omega)]
 rw [z]
 exact SlOk.tail1 (A:=(sl (6+k)).A) (n:=(sl (6+k)).n) (c:=(sl (6+k)).c) ok
end
section
variable {p:Prg} {G0 H0 G H:Heap} {m rb tb:Nat} {q:SlH} {pf po:SlH} {sl:Nat→SlH} {F:Heap} {ex:Value} {st:List SlH} {r:Rn}
theorem RX.waits (h : RX p G0 H0 G H m rb tb q pf po sl F ex st r) (hb : r.t.stack.length≤1000) (hpc : 0≤r.t.pc∧r.t.pc≤1000) {a : Int} (ha : 0≤a∧a<8) {K : Value→Heap→Prop} (k : ∀H', RZ p G0 m rb tb pf po ex (r.waitS a).2 H'→K (.int .i64 (r.waitS a).1) H') :
  ∃(A:Option Addr) (n c:Nat),At H (((⟨m,0,none⟩:Addr).add 2).add 24) [.slice A n c]∧∃a2:Addr,(A=some a2∧(0:Int)≤a∧a<(n:Int))∧∃(A1:Option Addr) (n1 c1:Nat),At H (a2.add (a.toNat*1)) [.slice A1 n1 c1] ∧
   (((n1:Int)==0)=true→∃a3:Addr,some (⟨rb,0,none⟩:Addr)=some a3∧∃v3:Option Addr,At H (a3.add 1) [.pointer v3]∧∃a4:Addr,v3=some a4∧Wr H (a4.add 8) (.int .i64 a) fun H1=>K (.int .i64 1) H1) ∧
   (((n1:Int)==0)=false→∃a5:Addr,(A1=some a5∧(0:Int)≤0∧(0:Int)<(n1:Int))∧∃x2:Int,At H (a5.add (Int.toNat 0*1)) [.int .i64 x2]∧∀b:Nat,H b=none→∀H11,H11=H.upd b (.cells #[.int .i64 x2] 2 (0,0)) →
    Tr Tryz.prog 174 #[.pointer (some ⟨rb,0,none⟩),.slice (some ⟨b,0,none⟩) 1 1] H11 fun v4 H2=>v4=.tuple #[]∧∃a6:Addr,some (⟨rb,0,none⟩:Addr)=some a6∧∃b1:Bool,At H2 (a6.add 2) [.bool b1] ∧
     ((!b1)=true→∃a7:Addr,some (⟨m,0,none⟩:Addr)=some a7∧((0:Int)≤1∧(1:Int)≤(n1:Int))∧∃(A2:Option Addr) (n2 c3:Nat),At H2 ((a7.add 2).add 24) [.slice A2 n2 c3]∧∃a8:Addr,(A2=some a8∧(0:Int)≤a∧a<(n2:Int)) ∧
      Wr H2 (a8.add (a.toNat*1)) (.slice (if c1=Int.toNat 1 then A1 else Option.map (fun y:Addr=>y.add (Int.toNat 1*1)) A1) (n1-Int.toNat 1) (c1-Int.toNat 1)) fun H12=>∃a9:Addr,some (⟨rb,0,none⟩:Addr)=some a9∧∃v5:Option Addr,At H12 (a9.add 1) [.pointer v5]∧∃a10:Addr,v5=some a10 ∧
       ∃x3:Int,At H12 (a10.add 1) [.int .i64 x3]∧∃a11:Addr,v5=some a11∧Wr H12 (a11.add 1) (.int .i64 (IntKind.i64.wrap (x3+1))) fun H13=>K (.int .i64 0) H13) ∧
     ((!b1)=false→∃a12:Addr,some (⟨rb,0,none⟩:Addr)=some a12∧∃v6:Option Addr,At H2 (a12.add 1) [.pointer v6]∧∃a13:Addr,v6=some a13∧∃x4:Int,At H2 (a13.add 1) [.int .i64 x4]∧∃a14:Addr,v6=some a14∧Wr H2 (a14.add 1) (.int .i64 (IntKind.i64.wrap (x4+1))) fun H14=>K (.int .i64 0) H14)):=by
 have hk:a.toNat<8:=by omega
 have hw:IntKind.i64.wrap (r.t.pc+1)=r.t.pc+1:=wrapi (by omega) (by omega)
 obtain ⟨a2,ha2,hat2⟩:=h.vm.sig hk
 have hn:=h.vm.sigN hk
 have hl3:=h.vm.sigLen
 refine ⟨_,_,_,h.vm.c26,a2,⟨ha2,ha.1,by rw [hl3]; omega⟩,_,_,_,hat2,fun e=>⟨_,rfl,_,h.r1,_,rfl,?_⟩,fun e=>?_⟩
 ·have hz:((sl (6+a.toNat)).n:Int)=0:=by simpa using e
  have he:r.s.signals[a.toNat]?.getD []=[]:=List.length_eq_zero_iff.1 (by omega)
  have hwt:r.waitS a=(1,{ r with t:={ r.t with signal:=a } }):=by unfold Rn.waitS; rw [he]
  rw [hwt] at k
  exact h.setT (i:=8) (by decide) { r.t with signal:=a } q rfl h.sq h.oq fun G' F' H' h'=>k H' h'.z
 ·have e0:((sl (6+a.toNat)).n:Int)≠0:=by simpa using e
  obtain ⟨x,l,hxl⟩:∃x l,r.s.signals[a.toNat]?.getD []=x::l:=by
   cases hh:r.s.signals[a.toNat]?.getD [] with
   | nil=>rw [hh] at hn; simp at hn; omega
   | cons x l=>exact ⟨x,l,rfl⟩
  have ok:=h.vm.sigOk hk
  rw [hxl] at ok
  obtain ⟨a5,ha5,hat5⟩:∃a5,(sl (6+a.toNat)).A=some a5∧At H (a5.add (Int.toNat 0*1)) [.int .i64 x]:=by
   rcases ok.src with e1|⟨a5,h5,hat⟩
   ·simp [intsC] at e1
   ·exact ⟨a5,h5,at_one 0 hat rfl⟩
  have hwt:r.waitS a=if (r.leave [x]).fault=true then (0,(r.leave [x]).pc (r.t.pc+1)) else (0,((r.leave [x]).vs { r.s with signals:=r.s.signals.set a.toNat l }).pc (r.t.pc+1)):=by unfold Rn.waitS; rw [hxl]
  refine ⟨a5,⟨ha5,by decide,by omega⟩,x,hat5,fun b hb H11 e11=>?_⟩
  refine h.leaves [x] (by simp; omega) hb e11 fun G1 F1 q1 H1 h1=>⟨_,rfl,_,h1.r2,fun ef=>?_,fun ef=>?_⟩
  ·have ef:(r.leave [x]).fault=false:=by simpa using ef
   rw [hwt,if_neg (by rw [ef]; simp)] at k
   refine ⟨_,rfl,⟨by decide,by omega⟩,_,_,_,h1.vm.c26,a2,⟨ha2,ha.1,by rw [hl3]; omega⟩,?_⟩
   refine h1.vm.setSig hk (h1.vm.sigNext hk hxl) ha2 fun H2 v2=>?_
   have h2:=h1.setVs v2
   refine ⟨_,rfl,_,h2.r1,_,rfl,r.t.pc,h2.t1,_,rfl,?_⟩
   rw [hw]
   exact h2.setPc fun G' F' H' h'=>k H' h'.z
  ·have ef:(r.leave [x]).fault=true:=by simpa using ef
   rw [hwt,if_pos ef] at k
   refine ⟨_,rfl,_,h1.r1,_,rfl,r.t.pc,h1.t1,_,rfl,?_⟩
   rw [hw]
   exact h1.setPc fun G' F' H' h'=>k H' h'.z
end
theorem t69 (e:Ev) (H:Heap):Tr Tryz.prog 69 #[e.val] H fun v H'=>v=.bool (outsideM e)∧Sub H H':=by
 apply v69; unfold F69 outsideM
 exact ⟨fun h=>⟨by rw [if_pos h],Sub.refl _⟩,fun h=>⟨by rw [if_neg (by rw [h]; simp)],Sub.refl _⟩⟩
end Go.Proofs.YtkofafcgcnciaaaGreatDoor
set_option maxRecDepth 100000
namespace Go.Proofs.YtkofafcgcnciaaaGreatDoor
open Go.Ax Go.RowKit
def mkKey (k a:Int):Value:=.agg #[.int .i64 k,.int .i64 a]
structure Marks (es:Array MapEntry) (S:List (Int×Int)):Prop where
 keys:∀e∈es.toList,∃k a,e.key=mkKey k a∧e.val=.bool true
 mem:∀k a,(∃e∈es.toList,e.key=mkKey k a)↔(k,a)∈S
theorem mkKey_inj {k a k' a':Int} (h:mkKey k a=mkKey k' a'):k=k'∧a=a':=by
 unfold mkKey at h
 injection h with h
 injection h with h
 simp at h
 exact h
theorem run_check (w:World) (em:Bool) (k a:Int):(Instr.checkKey em 10000 218 (mkKey k a)).run Tryz.prog w=.ok () w:=by
 cases em<;>kernel_rfl
theorem run_eq (w:World) (k a k' a':Int):(Op.equal 218 (mkKey k a) (mkKey k' a')).run Tryz.prog w=.ok (k==k'&&(a==a'&&true)) w:=by
 have h:eqAgg Tryz.prog 218 #[.int .i64 k,.int .i64 a] #[.int .i64 k',.int .i64 a']=some (k==k'&&(a==a'&&true)):=by kernel_rfl
 exact (eqAgg_sound h).2 w
theorem run_findAsk (w : World) (k a : Int) : ∀(l : List MapEntry) (i : Nat), (∀e∈l, ∃k a, e.key=mkKey k a∧e.val=.bool true) →
  ((∃e∈l,e.key=mkKey k a)∧∃j e,(Instr.findAsking 218 (mkKey k a) l i).run Tryz.prog w=.ok (some (i+j,.bool true)) w∧l[j]?=some e∧e.key=mkKey k a) ∨
  ((¬∃e∈l,e.key=mkKey k a)∧(Instr.findAsking 218 (mkKey k a) l i).run Tryz.prog w=.ok none w)
 | [],i,_=>.inr ⟨by simp,by simp [Instr.findAsking]⟩
 | e::l,i,h=>by
  obtain ⟨k',a',hk,hv⟩:=h e (List.mem_cons_self ..)
  simp only [Instr.findAsking,Sem.run_bind,hk,run_eq,Result.andThen_ok]
  by_cases heq:k=k'∧a=a'
  ·obtain ⟨rfl,rfl⟩:=heq
   left
   refine ⟨⟨e,List.mem_cons_self ..,hk⟩,0,e,?_,rfl,hk⟩
   simp [hv]
  ·have hf : (k==k'&&(a==a'&&true))=false := by
    cases hb:(k==k'&&(a==a'&&true)) with
    | false=>rfl
    | true=>simp at hb; exact absurd hb heq
   rw [hf]
   rcases run_findAsk w k a l (i+1) fun x hx=>h x (List.mem_cons_of_mem _ hx) with ⟨⟨x,hx,hxk⟩,j,e',h1,h2,h3⟩|⟨h1,h2⟩
   ·left
    refine ⟨⟨x,List.mem_cons_of_mem _ hx,hxk⟩,j+1,e',?_,by simpa using h2,h3⟩
    simp only [Bool.false_eq_true,if_false]
    rw [h1]; congr 3; omega
   ·right
    refine ⟨?_,by simpa using h2⟩
    rintro ⟨x,hx,hxk⟩
    rcases List.mem_cons.1 hx with rfl|hx
    ·rw [hk] at hxk
     obtain ⟨e1,e2⟩:=mkKey_inj hxk
     exact heq ⟨e1.symm,e2.symm⟩
    ·exact h1 ⟨x,hx,hxk⟩
theorem run_find (w : World) (k a : Int) (l : List MapEntry) (h : ∀e∈l, ∃k a, e.key=mkKey k a∧e.val=.bool true) :
  ((∃e∈l,e.key=mkKey k a)∧∃j e,(Instr.findKey 218 (mkKey k a) l).run Tryz.prog w=.ok (some (j,.bool true)) w∧l[j]?=some e∧e.key=mkKey k a) ∨
  ((¬∃e∈l,e.key=mkKey k a)∧(Instr.findKey 218 (mkKey k a) l).run Tryz.prog w=.ok none w):=by
 have hu:Tryz.prog.underlying 218=some (.struct (Tryz.prog.fieldsOf 218)):=by kernel_rfl
 unfold Instr.findKey
 simp only [Sem.run_bind,run_underlying hu,Result.andThen_ok]
 cases l with
 | nil=>right; simp [Instr.findNow]
 | cons e l =>
  have hn:Instr.findNow (.struct (Tryz.prog.fieldsOf 218)) (mkKey k a) (e::l) 0=none:=by simp [Instr.findNow,Instr.sameNow]
  rw [hn]
  have:=run_findAsk w k a (e::l) 0 h
  simpa using this
theorem sm_lookup {H : Heap} {b : Nat} {es : Array MapEntry} {cl : Nat} {S : List (Int×Int)} (hb : H b=some (.map es cl)) (m : Marks es S) (k a : Int) :
  Sm Tryz.prog (Instr.lookup 175 (.map (some b)) (mkKey k a) false) H (fun v H'=>v=.bool (decide ((k,a)∈S))∧H'=H):=by
 refine ⟨fun w hw=>?_⟩
 have hu:Tryz.prog.underlying 175=some (.map 218 4):=Tryz.underlying175
 have hz:(zeroValue 4).run Tryz.prog w=.ok (.bool false) w:=by kernel_rfl
 have hg:(getObj b).run Tryz.prog w=.ok (.map es cl) w:=MapKept.run_getObj_map (hw _ _ hb)
 refine ⟨_,H,w,?_,Keeps.refl hw,rfl,rfl⟩
 unfold Instr.lookup
 simp only [Sem.run_bind,run_underlying hu,Result.andThen_ok,hg,Sem.run_pure,run_check]
 rcases run_find w k a es.toList m.keys with ⟨h1,j,e,h2,h3,h4⟩|⟨h1,h2⟩
 ·rw [h2]
  have:(k,a)∈S:=(m.mem k a).1 h1
  simp [this]
 ·rw [h2]
  have:(k,a) ∉ S:=fun hm=>h1 ((m.mem k a).2 hm)
  simp [this,hz]
theorem same_key (k a:Int):Instr.sameBits 10000 (mkKey k a) (mkKey k a)=true:=by
 have:Instr.sameBits 10000 (mkKey k a) (mkKey k a)=((k==k)&&((a==a)&&true)):=by kernel_rfl
 rw [this]; simp
theorem sm_update {H : Heap} {b : Nat} {es : Array MapEntry} {cl : Nat} {S : List (Int×Int)} (hb : H b=some (.map es cl)) (m : Marks es S) (k a : Int) :
  Sm Tryz.prog (updU (Instr.mapUpdate 175 (.map (some b)) (mkKey k a) (.bool true))) H (fun _ H'=>∃es' cl',Marks es' ((k,a)::S)∧H'=H.upd b (.map es' cl')):=by
 refine ⟨fun w hw=>?_⟩
 have hu:Tryz.prog.underlying 175=some (.map 218 4):=Tryz.underlying175
 have hwb:=hw _ _ hb
 have hlt:=heap_lt hwb
 have hg:(getObj b).run Tryz.prog w=.ok (.map es cl) w:=MapKept.run_getObj_map hwb
 have put:∀(o:Obj),(setObj b o).run Tryz.prog w=.ok () { w with heap:=w.heap.setIfInBounds b o }:=fun o=>MapKept.run_setObj_map o hwb
 have keeps:∀o:Obj,Keeps H w (H.upd b o) { w with heap:=w.heap.setIfInBounds b o }:=fun o=>by
  refine ⟨fun i o' e=>?_,fun i hi e=>?_,by simp,rfl,rfl,rfl⟩
  ·by_cases hi:i=b
   ·subst hi; rw [Heap.upd_same] at e; cases e; simp [hlt]
   ·rw [Heap.upd_other hi] at e
    have:=hw i o' e
    simp [Ne.symm hi,this]
  ·have hne:i≠b:=fun e'=>by subst e'; rw [hb] at e; cases e
   exact ⟨by simp [Ne.symm hne],by rw [Heap.upd_other hne]; exact e⟩
 rcases run_find w k a es.toList m.keys with ⟨h1,j,e,h2,h3,h4⟩|⟨h1,h2⟩
 ·have h3':es[j]?=some e:=by simpa using h3
  refine ⟨undef,_,_,?_,keeps (.map (es.modify j fun e=>{ e with key:=mkKey k a,val:=.bool true }) cl),_,cl,?_,rfl⟩
  ·unfold updU Instr.mapUpdate
   simp only [Sem.run_bind,run_underlying hu,Result.andThen_ok,hg,run_check,h2]
   have hk:(Instr.keyThatStays (((es[j]?).map (·.key)).getD (mkKey k a)) (mkKey k a)).run Tryz.prog w=.ok (mkKey k a) w:=by
    rw [h3']
    simp [Instr.keyThatStays,h4,same_key]
   rw [hk]
   simp [put]
  ·have hlist:(es.modify j fun e=>{ e with key:=mkKey k a,val:=.bool true }).toList=es.toList.modify j fun e=>{ e with key:=mkKey k a,val:=.bool true }:=by simp
   have hin:∀x,x∈(es.modify j fun e=>{ e with key:=mkKey k a,val:=.bool true }).toList→(∃y∈es.toList,y.key=x.key)∧x.val=.bool true:=by
    intro x hx
    rw [hlist] at hx
    obtain ⟨i,hi⟩:=List.mem_iff_getElem?.1 hx
    rw [List.getElem?_modify] at hi
    by_cases hij:j=i
    ·subst hij
     rw [h3] at hi
     simp at hi
     subst hi
     exact ⟨⟨e,List.mem_of_getElem? h3,h4⟩,rfl⟩
    ·simp [hij] at hi
     have hm:x∈es.toList:=by
      refine List.mem_iff_getElem?.2 ⟨i,?_⟩
      simpa using hi
     obtain ⟨_,_,_,hv⟩:=m.keys x hm
     exact ⟨⟨x,hm,rfl⟩,hv⟩
   have hout:∀y∈es.toList,∃x∈(es.modify j fun e=>{ e with key:=mkKey k a,val:=.bool true }).toList,x.key=y.key:=by
    intro y hy
    obtain ⟨i,hi⟩:=List.mem_iff_getElem?.1 hy
    by_cases hij:j=i
    ·subst hij
     rw [h3] at hi; cases hi
     refine ⟨{ e with key:=mkKey k a,val:=.bool true },?_,h4.symm⟩
     rw [hlist]
     refine List.mem_iff_getElem?.2 ⟨j,?_⟩
     rw [List.getElem?_modify,h3]; simp
    ·refine ⟨y,?_,rfl⟩
     rw [hlist]
     refine List.mem_iff_getElem?.2 ⟨i,?_⟩
     rw [List.getElem?_modify,hi]; simp [hij]
   refine ⟨fun x hx=>?_,fun k' a'=>?_⟩
   ·obtain ⟨⟨y,hy,hyk⟩,hv⟩:=hin x hx
    obtain ⟨k2,a2,h5,_⟩:=m.keys y hy
    exact ⟨k2,a2,hyk▸h5,hv⟩
   ·constructor
    ·rintro ⟨x,hx,hxk⟩
     obtain ⟨⟨y,hy,hyk⟩,_⟩:=hin x hx
     exact List.mem_cons_of_mem _ ((m.mem k' a').1 ⟨y,hy,hyk.trans hxk⟩)
    ·intro hm
     have:(k',a')∈S:=by
      rcases List.mem_cons.1 hm with e'|e'
      ·cases e'; exact (m.mem k a).1 h1
      ·exact e'
     obtain ⟨y,hy,hyk⟩:=(m.mem k' a').2 this
     obtain ⟨x,hx,hxk⟩:=hout y hy
     exact ⟨x,hx,hxk.trans hyk⟩
 ·refine ⟨undef,_,_,?_,keeps (.map (es.push { key:=mkKey k a,val:=.bool true,born:=cl }) (cl+1)),_,cl+1,?_,rfl⟩
  ·unfold updU Instr.mapUpdate
   simp only [Sem.run_bind,run_underlying hu,Result.andThen_ok,hg,run_check,h2]
   simp [put]
  ·refine ⟨fun x hx=>?_,fun k' a'=>?_⟩
   ·simp at hx
    rcases hx with hx|rfl
    ·exact m.keys x (by simpa using hx)
    ·exact ⟨k,a,rfl,rfl⟩
   ·simp only [Array.toList_push,List.mem_append,List.mem_cons,List.not_mem_nil,or_false]
    constructor
    ·rintro ⟨x,hx|rfl,hxk⟩
     ·exact .inr ((m.mem k' a').1 ⟨x,hx,hxk⟩)
     ·obtain ⟨rfl,rfl⟩:=mkKey_inj hxk
      exact .inl rfl
    ·rintro (e|hm)
     ·cases e; exact ⟨_,.inr rfl,rfl⟩
     ·obtain ⟨x,hx,hxk⟩:=(m.mem k' a').2 hm
      exact ⟨x,.inl hx,hxk⟩
theorem Marks.nil:Marks #[] []:=⟨fun e h=>by simp at h,fun k a=>by simp⟩
set_option linter.unusedVariables false
open IntKind
noncomputable def c36:Cx:={ P:=Tryz.prog,res:=[],pub:=[],loops:=[],quiet:=[],asm:=true }
def F36 (hA:Option Addr) (hn hc:Nat) (H:Heap) (K:Value→Heap→Prop):Prop:=Tr Tryz.prog 84 #[.slice hA hn hc] H fun v H' =>
 ∃(v1:Option Addr) (x:Int),v=.tuple #[.pointer v1,x] ∧(decide (x<(↑hn:Int))=true→K (.tuple #[(52:Int),x]) H') ∧(decide (x<(↑hn:Int))=false→K (.tuple #[(0:Int),(0:Int)]) H')

theorem v36 {hA:Option Addr} {hn hc:Nat} {H:Heap} {K:Value→Heap→Prop} (h:F36 hA hn hc H K):Tr Tryz.prog 36 #[.slice hA hn hc] H K :=
 tr_of_eq (C:=c36) Tryz.func36 (by kernel_rfl) h
noncomputable def c84:Cx:={ P:=Tryz.prog,res:=[],pub:=[9],loops:=[⟨3,[(12,.int .i64)],[2,3,5,6,13,14,15,16,17,18,19,20,21,22,23,24,25,26,27,28,29,30,31,32,33,34,35,36,37,38,39,40,41,42,43,44,45,46,47,48],[]⟩],quiet:=[53,128],draws:=[⟨7,[5],[],false,true⟩,⟨8,[5,7],[],false,true⟩],asm:=true }
def F84 (hA:Option Addr) (hn hc:Nat) (H:Heap) (K:Value→Heap→Prop):Prop:=∀(b:Nat),H b=none→∀(H1:Heap),H1=H.upd b (Obj.map #[] 0)→∀b1,H1 b1=none→∀H11,H11=H1.upd b1 (.cells #[.slice none 0 0,.map (some b),.bool false] 177) →
 ∃(Rel:Int→Heap→Prop) (mu:Int→Heap→Nat),Rel (0:Int) H11 ∧∀(x:Int) (H1:Heap),Rel x H1→(decide (x<(↑hn:Int))=true→∃(a:Addr),InB hA a x hn ∧∃(x1 x2 x3 x4 x5 x6 x7 x8 x9:Int),At H1 (a.add (x.toNat*9)) [x1,x2,x3,x4,x5,x6,x7,x8,x9] ∧∃(b2:Bool),TrQ Tryz.prog 128 #[.pointer (some (b1:Addr)),.agg #[x1,x2,x3,x4,x5,x6,x7,x8,x9]] H1 (.bool b2) ∧((!b2)=true→K (.tuple #[.pointer (some (b1:Addr)),x]) H1) ∧((!b2)=false→∃(a1:Addr),some (b1:Addr)=some a1 ∧(∃(A:Option Addr),∃(n c:Nat),At H1 (a1.add 0) [.slice A n c] ∧
 appC 47 9 72 H1 A n c [x1,x2,x3,x4,x5,x6,x7,x8,x9] 1 fun (A':Option Addr) (n' c':Nat) (H'1:Heap) =>∃(a2:Addr),some (b1:Addr)=some a2 ∧StL H'1 (a2.add 0) [.slice A' n' c'] fun H12 =>∃(a3:Addr),some (b1:Addr)=some a3 ∧∃(v1:Option Nat),At H12 (a3.add 1) [.map v1] ∧Sm Tryz.prog (updU (Instr.mapUpdate (175:Nat) (.map v1) (.agg #[x3,x4]) (.bool true))) H12 fun v2 H'2 =>∃(b3:Bool),TrQ Tryz.prog 53 #[x3] H'2 (.bool b3) ∧∃(a4:Addr),some (b1:Addr)=some a4 ∧StL H'2 (a4.add 2) [.bool b3] fun H13=>Rel (i64.wrap (x+1)) H13 ∧mu (i64.wrap (x+1)) H13<mu x H1) ∧∃(A1:Option Addr) (n1 c3:Nat),
 At H1 (a1.add 0) [.slice A1 n1 c3] ∧appC 47 9 72 H1 A1 n1 c3 [x1,x2,x3,x4,x5,x6,x7,x8,x9] 1 fun (A'1:Option Addr) (n'1 c'1:Nat) (H'4:Heap) =>∃(a5:Addr),some (b1:Addr)=some a5 ∧StL H'4 (a5.add 0) [.slice A'1 n'1 c'1] fun H14 =>∃(a6:Addr),some (b1:Addr)=some a6 ∧∃(v4:Option Nat),At H14 (a6.add 1) [.map v4] ∧Sm Tryz.prog (updU (Instr.mapUpdate (175:Nat) (.map v4) (.agg #[x3,x4]) (.bool true))) H14 fun v5 H'5 =>∃(b4:Bool),TrQ Tryz.prog 53 #[x3] H'5 (.bool b4) ∧∃(a7:Addr),some (b1:Addr)=some a7 ∧StL H'5 (a7.add 2) [.bool b4] fun H15=>Rel (i64.wrap (x+1)) H15 ∧
 mu (i64.wrap (x+1)) H15<mu x H1)) ∧(decide (x<(↑hn:Int))=false→K (.tuple #[.pointer (some (b1:Addr)),.int .i64 (↑hn:Int)]) H1)

theorem v84 {hA:Option Addr} {hn hc:Nat} {H:Heap} {K:Value→Heap→Prop} (h:F84 hA hn hc H K):Tr Tryz.prog 84 #[.slice hA hn hc] H K :=
 tr_of_eq (C:=c84) Tryz.func84 (by kernel_rfl) h
noncomputable def c128:Cx:={ P:=Tryz.prog,res:=[],pub:=[],loops:=[],quiet:=[89,109,154],asm:=true }
def F128 (b:Option Addr) (eId eTime eKind eA eB eC eD eE eF:Int) (H:Heap) (K:Value→Heap→Prop):Prop :=
 ∃(a:Addr),b=some a ∧∃(A:Option Addr) (n c:Nat),At H (a.add 0) [.slice A n c] ∧∃(b1:Bool),TrQ Tryz.prog 109 #[.agg #[eId,eTime,eKind,eA,eB,eC,eD,eE,eF]] H (.bool b1) ∧∃(a1:Addr),((!(!b1||eId != i64.wrap ((↑n:Int)+1)))=true→b=some a1) ∧∃(b2:Bool),((!(!b1||eId != i64.wrap ((↑n:Int)+1)))=true→At H (a1.add 2) [.bool b2]) ∧((!b1||eId != i64.wrap ((↑n:Int)+1)||b2||!(eKind==1)==((↑n:Int)==0))=true→K (.bool false) H) ∧((!b1||eId != i64.wrap ((↑n:Int)+1)||b2||!(eKind==1)==((↑n:Int)==0))=false→(((↑n:Int)==0)=true→K (.bool true) H) ∧
 (((↑n:Int)==0)=false→∃(a2:Addr),b=some a2 ∧∃(A1:Option Addr) (n1 c1:Nat),At H (a2.add 0) [.slice A1 n1 c1] ∧∃(a3:Addr),InB A1 a3 (i64.wrap ((↑n:Int)-1)) n1 ∧∃(x x1 x2 x3 x4 x5 x6 x7 x8:Int),At H (a3.add ((i64.wrap ((↑n:Int)-1)).toNat*9)) [x,x1,x2,x3,x4,x5,x6,x7,x8] ∧((decide (eTime<x1)||eKind==2&&eA != (↑n:Int))=true→K (.bool false) H) ∧((decide (eTime<x1)||eKind==2&&eA != (↑n:Int))=false→∃(b3:Bool),TrQ Tryz.prog 89 #[eKind] H (.bool b3) ∧((b3&&!(eKind==16&&eA==(-4)))=true→∃(b4:Bool),
 ((x2 != 2)=true→Tr Tryz.prog 89 #[x2] H fun v2 H'2=>v2=.bool b4 ∧Ax.Sub H H'2) ∧((x2 != 2&&!b4||eTime != x1)=true→K (.bool false) H) ∧((x2 != 2&&!b4||eTime != x1)=false→∃(b5:Bool),TrQ Tryz.prog 154 #[.pointer b,.agg #[eId,eTime,eKind,eA,eB,eC,eD,eE,eF]] H (.bool b5) ∧K (.bool b5) H)) ∧((b3&&!(eKind==16&&eA==(-4)))=false→∃(b6:Bool),TrQ Tryz.prog 154 #[.pointer b,.agg #[eId,eTime,eKind,eA,eB,eC,eD,eE,eF]] H (.bool b6) ∧K (.bool b6) H))))

theorem v128 {b:Option Addr} {eId eTime eKind eA eB eC eD eE eF:Int} {H:Heap} {K:Value→Heap→Prop} (h:F128 b eId eTime eKind eA eB eC eD eE eF H K):Tr Tryz.prog 128 #[.pointer b,.agg #[.int .i64 eId,.int .i64 eTime,.int .i64 eKind,.int .i64 eA,.int .i64 eB,.int .i64 eC,.int .i64 eD,.int .i64 eE,.int .i64 eF]] H K :=
 tr_of_eq (C:=c128) Tryz.func128 (by kernel_rfl) h
noncomputable def c154:Cx:={ P:=Tryz.prog,res:=[],pub:=[20,33,46,75,88,96,109,128,142,155,163],loops:=[],quiet:=[85,180],draws:=[⟨10,[2,7,13,17,19,23],[],true,true⟩],asm:=true }
def F154 (b:Option Addr) (eId eTime eKind eA eB eC eD eE eF:Int) (H:Heap) (K:Value→Heap→Prop):Prop:=((eKind==6)=true →
 ∃(b1:Bool),TrQ Tryz.prog 180 #[.pointer b,eA,(3:Int)] H (.bool b1) ∧(b1=true→∀b2,H b2=none→∀H1,H1=H.upd b2 (.cells #[(6:Int),(22:Int),(23:Int),(24:Int)] 3)→∃(b3:Bool),TrQ Tryz.prog 85 #[.pointer b,eA,.slice (some (b2:Addr)) (4:Nat) (4:Nat)] H1 (.bool b3) ∧K (.bool b3) H1) ∧(b1=false→K (.bool false) H)) ∧((eKind==6)=false→((eKind==22)=true→∃(b4:Bool),TrQ Tryz.prog 180 #[.pointer b,eA,(3:Int)] H (.bool b4) ∧(b4=true→∀b5,H b5=none→∀H11,H11=H.upd b5 (.cells #[(6:Int),(22:Int),(23:Int),(24:Int)] 3)→∃(b6:Bool),
 TrQ Tryz.prog 85 #[.pointer b,eA,.slice (some (b5:Addr)) (4:Nat) (4:Nat)] H11 (.bool b6) ∧K (.bool b6) H11) ∧(b4=false→K (.bool false) H)) ∧((eKind==22)=false→((eKind==23)=true→∃(b7:Bool),TrQ Tryz.prog 180 #[.pointer b,eA,(3:Int)] H (.bool b7) ∧(b7=true→∀b8,H b8=none→∀H12,H12=H.upd b8 (.cells #[(6:Int),(22:Int),(23:Int),(24:Int)] 3)→∃(b9:Bool),TrQ Tryz.prog 85 #[.pointer b,eA,.slice (some (b8:Addr)) (4:Nat) (4:Nat)] H12 (.bool b9) ∧K (.bool b9) H12) ∧(b7=false→K (.bool false) H)) ∧((eKind==23)=false→((eKind==24)=true→∃(b10:Bool),
 TrQ Tryz.prog 180 #[.pointer b,eA,(3:Int)] H (.bool b10) ∧(b10=true→∀b11,H b11=none→∀H13,H13=H.upd b11 (.cells #[(6:Int),(22:Int),(23:Int),(24:Int)] 3)→∃(b12:Bool),TrQ Tryz.prog 85 #[.pointer b,eA,.slice (some (b11:Addr)) (4:Nat) (4:Nat)] H13 (.bool b12) ∧K (.bool b12) H13) ∧(b10=false→K (.bool false) H)) ∧((eKind==24)=false→((eKind==7)=true→∃(b13:Bool),TrQ Tryz.prog 180 #[.pointer b,eA,(4:Int)] H (.bool b13) ∧(b13=true→∀b14,H b14=none→∀H14,H14=H.upd b14 (.cells #[(7:Int),(25:Int)] 3)→∃(b15:Bool),
 TrQ Tryz.prog 85 #[.pointer b,eA,.slice (some (b14:Addr)) (2:Nat) (2:Nat)] H14 (.bool b15) ∧K (.bool b15) H14) ∧(b13=false→K (.bool false) H)) ∧((eKind==7)=false→((eKind==25)=true→∃(Hs:Heap),Ax.Sub Hs H ∧∃(b16:Bool),TrQ Tryz.prog 180 #[.pointer b,eA,(4:Int)] H (.bool b16) ∧Ax.Sub Hs H ∧(Ax.Sub Hs H ∧(b16=true→∀b17,H b17=none→∀H15,H15=H.upd b17 (.cells #[(7:Int),(25:Int)] 3)→Ax.Sub Hs H15 ∧∃(b18:Bool),TrQ Tryz.prog 85 #[.pointer b,eA,.slice (some (b17:Addr)) (2:Nat) (2:Nat)] H15 (.bool b18) ∧∃(a:Addr),(b18=true→b=some a) ∧∃(A:Option Addr) (n c:Nat),
 (b18=true→At H15 (a.add 0) [.slice A n c]) ∧∃(a1:Addr),(b18=true→A=some a1 ∧(0:Int)≤i64.wrap (eA-1) ∧i64.wrap (eA-1)<(↑n:Int)) ∧∃(x:Int),(b18=true→At H15 ((a1.add ((i64.wrap (eA-1)).toNat*9)).add 3) [x]) ∧K (.bool (b18&&decide (eTime≥x))) H15) ∧(b16=false→Ax.Sub Hs H ∧K (.bool false) H)) ∧(b16=true→∀b19,H b19=none→∀H16,H16=H.upd b19 (.cells #[(7:Int),(25:Int)] 3)→Ax.Sub Hs H16 ∧∃(b20:Bool),TrQ Tryz.prog 85 #[.pointer b,eA,.slice (some (b19:Addr)) (2:Nat) (2:Nat)] H16 (.bool b20) ∧∃(a2:Addr),(b20=true→b=some a2) ∧
 ∃(A1:Option Addr) (n1 c1:Nat),(b20=true→At H16 (a2.add 0) [.slice A1 n1 c1]) ∧∃(a3:Addr),(b20=true→A1=some a3 ∧(0:Int)≤i64.wrap (eA-1) ∧i64.wrap (eA-1)<(↑n1:Int)) ∧∃(x1:Int),(b20=true→At H16 ((a3.add ((i64.wrap (eA-1)).toNat*9)).add 3) [x1]) ∧K (.bool (b20&&decide (eTime≥x1))) H16) ∧(b16=false→Ax.Sub Hs H ∧K (.bool false) H)) ∧((eKind==25)=false→((eKind==26)=true→∃(b21:Bool),TrQ Tryz.prog 180 #[.pointer b,eA,(5:Int)] H (.bool b21) ∧(b21=true→∀b22,H b22=none→∀H17,H17=H.upd b22 (.cells #[(26:Int),(27:Int)] 3)→∃(b23:Bool),
 TrQ Tryz.prog 85 #[.pointer b,eA,.slice (some (b22:Addr)) (2:Nat) (2:Nat)] H17 (.bool b23) ∧K (.bool b23) H17) ∧(b21=false→K (.bool false) H)) ∧((eKind==26)=false→((eKind==27)=true→∃(b24:Bool),TrQ Tryz.prog 180 #[.pointer b,eA,(5:Int)] H (.bool b24) ∧(b24=true→∀b25,H b25=none→∀H18,H18=H.upd b25 (.cells #[(26:Int),(27:Int)] 3)→∃(b26:Bool),TrQ Tryz.prog 85 #[.pointer b,eA,.slice (some (b25:Addr)) (2:Nat) (2:Nat)] H18 (.bool b26) ∧K (.bool b26) H18) ∧(b24=false→K (.bool false) H)) ∧((eKind==27)=false→((eKind==28)=true→∃(b27:Bool),
 TrQ Tryz.prog 180 #[.pointer b,eA,(5:Int)] H (.bool b27) ∧(b27=true→∀b28,H b28=none→∀H19,H19=H.upd b28 (.cells #[(26:Int)] 3)→∃(b29:Bool),TrQ Tryz.prog 85 #[.pointer b,eA,.slice (some (b28:Addr)) (1:Nat) (1:Nat)] H19 (.bool b29) ∧((!b29)=true→∀b30,H19 b30=none→∀H110,H110=H19.upd b30 (.cells #[(28:Int)] 3)→∃(b31:Bool),TrQ Tryz.prog 85 #[.pointer b,eA,.slice (some (b30:Addr)) (1:Nat) (1:Nat)] H110 (.bool b31) ∧K (.bool b31) H110) ∧((!b29)=false→K (.bool false) H19)) ∧(b27=false→K (.bool false) H)) ∧((eKind==28)=false→((eKind==8)=true →
 ∃(b32:Bool),TrQ Tryz.prog 180 #[.pointer b,eA,(5:Int)] H (.bool b32) ∧(b32=true→∀b33,H b33=none→∀H111,H111=H.upd b33 (.cells #[(8:Int),(27:Int),(28:Int)] 3)→∃(b34:Bool),TrQ Tryz.prog 85 #[.pointer b,eA,.slice (some (b33:Addr)) (3:Nat) (3:Nat)] H111 (.bool b34) ∧K (.bool b34) H111) ∧(b32=false→K (.bool false) H)) ∧((eKind==8)=false→((eKind==9)=true→∃(b35:Bool),TrQ Tryz.prog 180 #[.pointer b,eA,(5:Int)] H (.bool b35) ∧K (.bool b35) H) ∧((eKind==9)=false→((eKind==29)=true→∃(b36:Bool),TrQ Tryz.prog 180 #[.pointer b,eA,(9:Int)] H (.bool b36) ∧
 (b36=true→∀b37,H b37=none→∀H112,H112=H.upd b37 (.cells #[(29:Int)] 3)→∃(b38:Bool),TrQ Tryz.prog 85 #[.pointer b,eA,.slice (some (b37:Addr)) (1:Nat) (1:Nat)] H112 (.bool b38) ∧K (.bool b38) H112) ∧(b36=false→K (.bool false) H)) ∧((eKind==29)=false→((eKind==12)=true→∃(b39:Bool),TrQ Tryz.prog 180 #[.pointer b,eA,(21:Int)] H (.bool b39) ∧(b39=true→∀b40,H b40=none→∀H113,H113=H.upd b40 (.cells #[(12:Int),(13:Int)] 3)→∃(b41:Bool),TrQ Tryz.prog 85 #[.pointer b,eA,.slice (some (b40:Addr)) (2:Nat) (2:Nat)] H113 (.bool b41) ∧K (.bool b41) H113) ∧
 (b39=false→K (.bool false) H)) ∧((eKind==12)=false→((eKind==13)=true→∃(b42:Bool),TrQ Tryz.prog 180 #[.pointer b,eA,(21:Int)] H (.bool b42) ∧(b42=true→∀b43,H b43=none→∀H114,H114=H.upd b43 (.cells #[(12:Int),(13:Int)] 3)→∃(b44:Bool),TrQ Tryz.prog 85 #[.pointer b,eA,.slice (some (b43:Addr)) (2:Nat) (2:Nat)] H114 (.bool b44) ∧K (.bool b44) H114) ∧(b42=false→K (.bool false) H)) ∧((eKind==13)=false→((eKind==14)=true→∃(b45:Bool),TrQ Tryz.prog 180 #[.pointer b,eA,(21:Int)] H (.bool b45) ∧
 (b45=true→∀b46,H b46=none→∀H115,H115=H.upd b46 (.cells #[(12:Int)] 3)→∃(b47:Bool),TrQ Tryz.prog 85 #[.pointer b,eA,.slice (some (b46:Addr)) (1:Nat) (1:Nat)] H115 (.bool b47) ∧((!b47)=true→∀b48,H115 b48=none→∀H116,H116=H115.upd b48 (.cells #[(14:Int)] 3)→∃(b49:Bool),TrQ Tryz.prog 85 #[.pointer b,eA,.slice (some (b48:Addr)) (1:Nat) (1:Nat)] H116 (.bool b49) ∧K (.bool b49) H116) ∧((!b47)=false→K (.bool false) H115)) ∧(b45=false→K (.bool false) H)) ∧((eKind==14)=false→K (.bool true) H)))))))))))))))

theorem v154 {b:Option Addr} {eId eTime eKind eA eB eC eD eE eF:Int} {H:Heap} {K:Value→Heap→Prop} (h:F154 b eId eTime eKind eA eB eC eD eE eF H K):Tr Tryz.prog 154 #[.pointer b,.agg #[.int .i64 eId,.int .i64 eTime,.int .i64 eKind,.int .i64 eA,.int .i64 eB,.int .i64 eC,.int .i64 eD,.int .i64 eE,.int .i64 eF]] H K :=
 tr_of_eq (C:=c154) Tryz.func154 (by kernel_rfl) h
noncomputable def c180:Cx:={ P:=Tryz.prog,res:=[],pub:=[],loops:=[],quiet:=[],asm:=true }
def F180 (b:Option Addr) (id kind:Int) (H:Heap) (K:Value→Heap→Prop):Prop :=
 ∃(a:Addr),(decide (id≥1)=true→b=some a) ∧∃(A:Option Addr) (n c:Nat),(decide (id≥1)=true→At H (a.add 0) [.slice A n c]) ∧∃(a1:Addr),((decide (id≥1)&&decide (id≤(↑n:Int)))=true→b=some a1) ∧∃(A1:Option Addr) (n1 c1:Nat),((decide (id≥1)&&decide (id≤(↑n:Int)))=true→At H (a1.add 0) [.slice A1 n1 c1]) ∧∃(a2:Addr),((decide (id≥1)&&decide (id≤(↑n:Int)))=true→A1=some a2 ∧(0:Int)≤i64.wrap (id-1) ∧i64.wrap (id-1)<(↑n1:Int)) ∧∃(x:Int),
 ((decide (id≥1)&&decide (id≤(↑n:Int)))=true→At H ((a2.add ((i64.wrap (id-1)).toNat*9)).add 2) [x]) ∧K (.bool (decide (id≥1)&&decide (id≤(↑n:Int))&&x==kind)) H

theorem v180 {b:Option Addr} {id kind:Int} {H:Heap} {K:Value→Heap→Prop} (h:F180 b id kind H K):Tr Tryz.prog 180 #[.pointer b,.int .i64 id,.int .i64 kind] H K :=
 tr_of_eq (C:=c180) Tryz.func180 (by kernel_rfl) h
noncomputable def c85:Cx:={ P:=Tryz.prog,res:=[],pub:=[],loops:=[⟨2,[(11,.int .i64)],[6,8,12,13,14,15,16,17,18,19,20,21,22,23],[]⟩],quiet:=[],asm:=true }
def F85 (b:Option Addr) (id:Int) (kindsA:Option Addr) (kindsn kindsc:Nat) (H:Heap) (K:Value→Heap→Prop):Prop :=
 ∃(Rel:Int→Heap→Prop) (mu:Int→Heap→Nat),Rel (0:Int) H ∧∀(x:Int) (H1:Heap),Rel x H1→(decide (x<(↑kindsn:Int))=true→∃(a:Addr),InB kindsA a x kindsn ∧∃(x1:Int),At H1 (a.add (x.toNat*1)) [x1] ∧∃(a1:Addr),b=some a1 ∧∃(v:Option Nat),At H1 (a1.add 1) [.map v] ∧Sm Tryz.prog (Instr.lookup (175:Nat) (.map v) (.agg #[x1,id]) false) H1 fun v1 H' =>∃(b1:Bool),v1=.bool b1 ∧(b1=true→K (.bool false) H') ∧(b1=false→Rel (i64.wrap (x+1)) H' ∧mu (i64.wrap (x+1)) H'<mu x H1)) ∧(decide (x<(↑kindsn:Int))=false→K (.bool true) H1)

theorem v85 {b:Option Addr} {id:Int} {kindsA:Option Addr} {kindsn kindsc:Nat} {H:Heap} {K:Value→Heap→Prop} (h:F85 b id kindsA kindsn kindsc H K):Tr Tryz.prog 85 #[.pointer b,.int .i64 id,.slice kindsA kindsn kindsc] H K :=
 tr_of_eq (C:=c85) Tryz.func85 (by kernel_rfl) h
noncomputable def c88:Cx:={ P:=Tryz.prog,res:=[],pub:=[],loops:=[],quiet:=[130],asm:=true }
def F88 (sA:Option Addr) (sn sc:Nat) (v:Int) (H:Heap) (K:Value→Heap→Prop):Prop :=
 ∃(x:Int),TrQ Tryz.prog 130 #[.slice sA sn sc,v] H (.int .i64 x) ∧K (.bool (decide (x≥0))) H

theorem v88 {sA:Option Addr} {sn sc:Nat} {v:Int} {H:Heap} {K:Value→Heap→Prop} (h:F88 sA sn sc v H K):Tr Tryz.prog 88 #[.slice sA sn sc,.int .i64 v] H K :=
 tr_of_eq (C:=c88) Tryz.func88 (by kernel_rfl) h
noncomputable def c130:Cx:={ P:=Tryz.prog,res:=[],pub:=[],loops:=[⟨2,[(8,.int .i64)],[4,5,9,10,11,12,13,14,15,16,17,18],[]⟩],quiet:=[],asm:=true }
def F130 (sA:Option Addr) (sn sc:Nat) (v:Int) (H:Heap) (K:Value→Heap→Prop):Prop :=
 ∃(Rel:Int→Heap→Prop) (mu:Int→Heap→Nat),Rel (0:Int) H ∧∀(x:Int) (H1:Heap),Rel x H1→(decide (x<(↑sn:Int))=true→∃(a:Addr),InB sA a x sn ∧∃(x1:Int),At H1 (a.add (x.toNat*1)) [x1] ∧((v==x1)=true→K (.int .i64 x) H1) ∧((v==x1)=false→Rel (i64.wrap (x+1)) H1 ∧mu (i64.wrap (x+1)) H1<mu x H1)) ∧(decide (x<(↑sn:Int))=false→K (.int .i64 (-1)) H1)

theorem v130 {sA:Option Addr} {sn sc:Nat} {v:Int} {H:Heap} {K:Value→Heap→Prop} (h:F130 sA sn sc v H K):Tr Tryz.prog 130 #[.slice sA sn sc,.int .i64 v] H K :=
 tr_of_eq (C:=c130) Tryz.func130 (by kernel_rfl) h
noncomputable def c42:Cx:={ P:=Tryz.prog,res:=[],pub:=[2,3],loops:=[],quiet:=[],asm:=true }
def F42 (lA:Option Addr) (ln lc:Nat) (kindsA:Option Addr) (kindsn kindsc:Nat) (H:Heap) (K:Value→Heap→Prop):Prop:=∀b,H b=none→∀H1,H1=H.upd b (.cells #[.slice lA ln lc] 27)→∀b1,H1 b1=none→∀H11,H11=H1.upd b1 (.cells #[.slice kindsA kindsn kindsc] 101)→K (.func (Fn.func (87:Nat)) #[] #[.pointer (some (b:Addr)),.pointer (some (b1:Addr))]) H11

theorem v42 {lA:Option Addr} {ln lc:Nat} {kindsA:Option Addr} {kindsn kindsc:Nat} {H:Heap} {K:Value→Heap→Prop} (h:F42 lA ln lc kindsA kindsn kindsc H K):Tr Tryz.prog 42 #[.slice lA ln lc,.slice kindsA kindsn kindsc] H K :=
 tr_of_eq (C:=c42) Tryz.func42 (by kernel_rfl) h
def isP (pre:List Ev) (id kind:Int):Bool:=decide (id≥1)&&decide (id≤pre.length)&&(match pre[(id-1).toNat]? with|some x=>x.kind==kind|none=>false)
def anyP (pre:List Ev) (id:Int) (ks:List Int):Bool:=pre.any fun x=>ks.contains x.kind&&x.a==id
def atTime (pre:List Ev) (e:Ev):Bool:=match pre[(e.a-1).toNat]? with|some x=>decide (e.time≥x.a)|none=>false
def namesP (pre:List Ev) (e:Ev):Bool :=
 if e.kind=6∨e.kind=22∨e.kind=23∨e.kind=24 then isP pre e.a 3&&!anyP pre e.a [6,22,23,24]
 else if e.kind=7 then isP pre e.a 4&&!anyP pre e.a [7,25]
 else if e.kind=25 then isP pre e.a 4&&!anyP pre e.a [7,25]&&atTime pre e
 else if e.kind=26∨e.kind=27 then isP pre e.a 5&&!anyP pre e.a [26,27]
 else if e.kind=28 then isP pre e.a 5&&anyP pre e.a [26]&&!anyP pre e.a [28]
 else if e.kind=8 then isP pre e.a 5&&!anyP pre e.a [8,27,28]
 else if e.kind=9 then isP pre e.a 5
 else if e.kind=29 then isP pre e.a 9&&!anyP pre e.a [29]
 else if e.kind=12∨e.kind=13 then isP pre e.a 21&&!anyP pre e.a [12,13]
 else if e.kind=14 then isP pre e.a 21&&anyP pre e.a [12]&&!anyP pre e.a [14]
 else true
def lastP (pre:List Ev):Ev:=(pre.getLast?).getD Ev.zero
def mayP (pre:List Ev) (e:Ev):Bool :=
 if (!validM e||e.id != pre.length+1||e.kind==1&&((pre.length:Int) != 0)||e.kind != 1&&((pre.length:Int)==0))=true then false
 else if pre=[] then true
 else if (decide (e.time<(lastP pre).time)||closeM (lastP pre).kind||e.kind==2&&e.a != pre.length)=true then false
 else if (cmdM e.kind&&!(e.kind==16&&e.a==-4)&&((lastP pre).kind != 2&&!cmdM (lastP pre).kind||e.time != (lastP pre).time))=true then false
 else namesP pre e
def standG:List Ev→List Ev→Nat
 | _,[]=>0
 | pre,x::l=>if mayP pre x=true then standG (pre++[x]) l+1 else 0
def stand (h:List Ev):Nat:=standG [] h
theorem standG_spec : ∀(l pre : List Ev) (k : Nat), (∀j, j<k→∀x, l[j]?=some x→mayP (pre++l.take j) x=true)→k≤l.length →
  (∀x,l[k]?=some x→mayP (pre++l.take k) x=false)→standG pre l=k
 | [],pre,k,_,hk,_=>by simp at hk; subst hk; rfl
 | x::l,pre,0,_,_,h=>by
  have:=h x rfl
  simp at this
  unfold standG; rw [if_neg (by rw [this]; simp)]
 | x::l,pre,k+1,h1,hk,h=>by
  have h0:=h1 0 (by omega) x rfl
  simp at h0
  unfold standG; rw [if_pos h0]
  rw [standG_spec l (pre++[x]) k (fun j hj y hy=>by have:=h1 (j+1) (by omega) y (by simpa using hy); simpa using this) (by simpa using hk) (fun y hy=>by have:=h y (by simpa using hy); simpa using this)]
theorem stand_spec {h:List Ev} {k:Nat} (h1:∀j,j<k→∀x,h[j]?=some x→mayP (h.take j) x=true) (hk:k≤h.length) (h2:∀x,h[k]?=some x→mayP (h.take k) x=false):stand h=k :=
 standG_spec h [] k (by simpa using h1) hk (by simpa using h2)
structure HasI (H:Heap) (A:Option Addr) (n:Nat) (l:List Int):Prop where
 len:n=l.length
 at_:∀i x,l[i]?=some x→∃a,A=some a∧At H (a.add (i*1)) [.int .i64 x]
theorem hasI_new {H:Heap} {b:Nat} {T:TypeId} (l:List Int):HasI (H.upd b (.cells (l.map (Value.int .i64)).toArray T)) (some ⟨b,0,none⟩) l.length l :=
 ⟨rfl,fun i x e=>⟨_,rfl,at_new1 (by simp [e])⟩⟩
def hasM (ks:List Int) (k:Int):Bool:=ks.contains k||((ks.length:Int)==0)
theorem anyP_snoc (pre:List Ev) (x:Ev) (id:Int) (ks:List Int):anyP (pre++[x]) id ks=(anyP pre id ks||(ks.contains x.kind&&x.a==id)):=by unfold anyP; simp
theorem take_snoc {α:Type} {l:List α} {m:Nat} {x:α} (h:l[m]?=some x):l.take (m+1)=l.take m++[x]:=by rw [List.take_add_one,h]; rfl
theorem anyP_take {l:List Ev} {id:Int} {ks:List Int} {m k:Nat} (hm:m≤k) (h:anyP (l.take m) id ks=true):anyP (l.take k) id ks=true:=by
 unfold anyP at h ⊢
 rw [List.any_eq_true] at h ⊢
 obtain ⟨x,hx,hq⟩:=h
 refine ⟨x,?_,hq⟩
 have:l.take m=(l.take k).take m:=by rw [List.take_take,Nat.min_eq_left hm]
 rw [this] at hx
 exact List.mem_of_mem_take hx
structure ThrOk (p:Prg) (s:VS) (t:Thr):Prop where
 fn:∃f,p.funcs[t.func.toNat]?=some f∧t.pc<f.ops.length
 f0:0≤t.func
 pc0:0≤t.pc
 stack:t.stack.length≤32
 scope:0≤t.scope∧t.scope<s.scopes.length
 future:-1≤t.future∧t.future<s.futures.length
 update:0≤t.update
 waits:t.waits<s.futures.length
 signal:t.signal<8
structure Inv (p:Prg) (s:VS):Prop where
 scp:ScpOk s.scopes
 scn:0<s.scopes.length
 sc32:s.scopes.length≤32
 t16:s.threads.length≤16
 thr:∀t∈s.threads,ThrOk p s t
 futs:∀f∈s.futures,0≤f.event∧0≤f.scope∧f.scope<s.scopes.length
 fuel:0≤s.fuel∧s.fuel≤1000
 many:(s.futures.length:Int)+s.fuel≤1000*s.count
 c0:0≤s.count∧s.count≤256
 c3:∀l,s.expect=some l→s.count+l.length≤256
 made:(s.made.length:Int)≤s.count
 sig:∀l∈s.signals,(l.length:Int)≤s.count
 sg8:s.signals.length=8
 upd:(s.updates.length:Int)≤s.count
 updI:∀u∈s.updates,0≤u.id
 v16:s.vars.length=16
 a4:s.attrs.length=4
def Room (s:VS):Prop:=s.expect=none→s.over=false→s.count≤255
inductive FStep (p:Prg) (b:Bool):VS→VS→Prop
 | emit (s:VS) (e:Ev) (ho:s.over=false) (hc:cmdM e.kind=true):FStep p b s (s.emit e).2
 | fails (s:VS) (c:Int) (ho:s.over=false):FStep p b s (s.fails c)
 | done (s:VS) (i v k:Int):FStep p b s (s.setDone i v k)
 | fut (s:VS) (f:Fut) (h0:0≤f.event) (h1:0≤f.scope∧f.scope<s.scopes.length) (hm:(s.futures.length:Int)+s.fuel+1≤1000*s.count) (hd:f.done=true∨f.kind=0∨s.cancelled f.scope=false):FStep p b s (s.fut f)
 | scp (s:VS) (i:Int) (h1:0≤i∧i<s.scopes.length) (h2:s.scopes.length<32):FStep p b s { s with scopes:=s.scopes++[⟨i,false⟩] }
 | mark (s:VS) (i:Int):FStep p b s (s.mark i)
 | thr (s:VS) (t:Thr) (ht:ThrOk p s t) (h:s.threads.length<16):FStep p b s (s.thread t)
 | set (s:VS) (i:Nat) (t:Thr) (hb:b=true) (ht:ThrOk p s t):FStep p b s { s with threads:=s.threads.set i t }
 | erase (s:VS) (i:Nat) (hb:b=true):FStep p b s { s with threads:=s.threads.eraseIdx i }
 | vars (s:VS) (k:Nat) (v:Int):FStep p b s { s with vars:=s.vars.set k v }
 | attrs (s:VS) (k:Nat) (v:Int):FStep p b s { s with attrs:=s.attrs.set k v }
 | draws (s:VS) (v:Int):FStep p b s { s with draws:=v }
 | fuel (s:VS) (n:Int) (hb:b=true) (h:0≤n∧n≤s.fuel):FStep p b s { s with fuel:=n }
 | sig (s:VS) (k:Nat) (x:Int) (l:List Int) (h:s.signals[k]?.getD []=x::l):FStep p b s { s with signals:=s.signals.set k l }
def attG (l:List Ev):List Int:=l.foldl (fun A e=>if e.kind=10 then A.set e.a.toNat e.b else A) [0,0,0,0]
structure CV (h:List Ev) (s:VS):Prop where
 att:s.attrs=attG (h++s.made)
 cov:s.over=false→∀x∈h++s.made,(x.kind=3∨x.kind=4)→∃f∈s.futures,f.event=x.id∧f.kind=x.kind
 don:s.over=false→∀f∈s.futures,f.event≠0→f.done=true→(f.kind=3→anyP (h++s.made) f.event [6,22,23,24]=true)∧(f.kind=4→anyP (h++s.made) f.event [7,25]=true)
 thf:∀t∈s.threads,0≤t.future→∃f,s.futures[t.future.toNat]?=some f∧f.kind≠3∧f.kind≠4
def Cv (s s':VS):Prop:=∀h,CV h s→CV h s'
theorem Cv.nice {s s':VS} (e1:s'.attrs=s.attrs) (e2:s'.made=s.made) (e3:s'.futures=s.futures) (e4:s'.over=s.over) (e5:s'.threads=s.threads):Cv s s':=fun h c=>⟨by rw [e1,e2]; exact c.att,by rw [e2,e3,e4]; exact c.cov,by rw [e2,e3,e4]; exact c.don,by rw [e3,e5]; exact c.thf⟩
inductive FSteps (p:Prg) (b:Bool):VS→VS→Prop
 | refl (s:VS):FSteps p b s s
 | tail {x y z:VS}:FSteps p b x y→FStep p b y z→Cv y z→FSteps p b x z
 | two {x w y z:VS}:FSteps p b x w→FStep p b w y→FStep p b y z→Cv w z→FSteps p b x z
theorem FSteps.trans {p:Prg} {b:Bool} {x y z:VS} (h:FSteps p b x y) (k:FSteps p b y z):FSteps p b x z:=by
 induction k with
 | refl=>exact h
 | tail _ q c ih=>exact .tail ih q c
 | two _ q1 q2 c ih=>exact .two ih q1 q2 c
theorem FSteps.cv {p:Prg} {b:Bool} {x y:VS} (h:FSteps p b x y):Cv x y:=by
 induction h with
 | refl=>exact fun _ c=>c
 | tail _ _ c ih=>exact fun h k=>c h (ih h k)
 | two _ _ _ c ih=>exact fun h k=>c h (ih h k)
theorem FStep.one {p:Prg} {b:Bool} {x y:VS} (h:FStep p b x y) (c:Cv x y):FSteps p b x y:=.tail (.refl _) h c
theorem FStep.and {p:Prg} {b:Bool} {x y z:VS} (h:FStep p b x y) (k:FStep p b y z) (c:Cv x z):FSteps p b x z:=.two (.refl _) h k c
theorem FStep.lift {p:Prg} {x y:VS} (h:FStep p false x y):FStep p true x y:=by
 cases h with
 | emit e ho hc=>exact .emit _ e ho hc
 | fails c ho=>exact .fails _ c ho
 | done i v k=>exact .done _ i v k
 | fut f h0 h1 hm hd=>exact .fut _ f h0 h1 hm hd
 | scp i h1 h2=>exact .scp _ i h1 h2
 | mark i=>exact .mark _ i
 | thr t ht h=>exact .thr _ t ht h
 | set i t hb ht=>cases hb
 | erase i hb=>cases hb
 | vars k v=>exact .vars _ k v
 | attrs k v=>exact .attrs _ k v
 | draws v=>exact .draws _ v
 | fuel n hb h=>cases hb
 | sig k x l h=>exact .sig _ k x l h
theorem FSteps.lift {p:Prg} {x y:VS} (h:FSteps p false x y):FSteps p true x y:=by
 induction h with
 | refl=>exact .refl _
 | tail _ q c ih=>exact .tail ih q.lift c
 | two _ q1 q2 c ih=>exact .two ih q1.lift q2.lift c
theorem matches_kind {e w:Ev} (h:matchesM e w=true):w.kind=e.kind:=by
 unfold matchesM Ev.beqM at h
 simp only [Bool.and_eq_true,beq_iff_eq] at h
 have:=h.2.2.1
 split at this
 ·exact this.symm
 ·split at this
  ·exact this.symm
  ·exact this.symm
inductive Emits (s:VS) (e:Ev):(Int×Bool)×VS→Prop
 | live (hx:s.expect=none):Emits s e ((e.id,true),s.push e)
 | none (hx:s.expect=some []):Emits s e ((0,false),s.drifts)
 | other (w:Ev) (l:List Ev) (hx:s.expect=some (w::l)):Emits s e ((0,false),({ s with expect:=some l }:VS).drifts)
 | same (w:Ev) (l:List Ev) (hx:s.expect=some (w::l)) (hm:matchesM e w=true):Emits s e ((w.id,true),({ s with expect:=some l }:VS).push w)
theorem emits (s:VS) (e:Ev):Emits s e (s.emit0 e):=by
 unfold VS.emit0
 split
 ·rename_i h; exact .live h
 ·rename_i h; exact .none h
 ·rename_i w l h
  split
  ·rename_i hm; exact .same w l h hm
  ·exact .other w l h
structure Keep (s s':VS):Prop where
 vars:s'.vars=s.vars
 attrs:s'.attrs=s.attrs
 now:s'.now=s.now
 threads:s'.threads=s.threads
 futures:s'.futures=s.futures
 scopes:s'.scopes=s.scopes
 signals:s'.signals=s.signals
 updates:s'.updates=s.updates
 cancel:s'.cancel=s.cancel
 fuel:s'.fuel=s.fuel
 draws:s'.draws=s.draws
theorem keep0 (s:VS) (e:Ev):Keep s (s.emit0 e).2:=by
 have k:=emits s e
 generalize s.emit0 e=q at k ⊢
 cases k<;>exact ⟨rfl,rfl,rfl,rfl,rfl,rfl,rfl,rfl,rfl,rfl,rfl⟩
theorem keepF (s:VS) (c:Int):Keep s (s.fails c):=keep0 s _
theorem keepE (s:VS) (e:Ev):Keep s (s.emit e).2:=by
 unfold VS.emit; split
 ·exact keepF s _
 ·exact keep0 s _
structure Cnt (s s':VS):Prop where
 c0:s.count≤s'.count∧s'.count≤256
 c3:∀l,s'.expect=some l→s'.count+l.length≤256
 made:(s'.made.length:Int)-s'.count=s.made.length-s.count
 room:Room s'
theorem cnt0 {s:VS} {e:Ev} (hk:s.expect=none→closeM e.kind=false→s.count+1≠256) (ho:s.over=false) (h0:s.count≤256) (h3:∀l,s.expect=some l→s.count+l.length≤256) (hr:Room s):Cnt s (s.emit0 e).2:=by
 have k:=emits s e
 generalize s.emit0 e=q at k ⊢
 cases k with
 | live hx =>
  have h1:=hr hx ho
  refine ⟨⟨by show s.count≤s.count+1; omega,by show s.count+1≤256; omega⟩,fun l hl=>?_,?_,fun _ hov=>?_⟩
  ·have:s.expect=some l:=hl
   rw [hx] at this; cases this
  ·show ((s.made++[e]).length:Int)-(s.count+1)=_
   rw [List.length_append,List.length_singleton]; omega
  ·show s.count+1≤255
   have:closeM e.kind=false:=by
    cases hc:closeM e.kind with
    | false=>rfl
    | true=>exact absurd hov (by show ¬(if closeM e.kind=true then true else s.over)=false; rw [if_pos hc]; simp)
   have:=hk hx this
   omega
 | none hx =>
  exact ⟨⟨Int.le_refl _,h0⟩,h3,rfl,fun hn=>by rw [show s.drifts.expect=s.expect from rfl,hx] at hn; cases hn⟩
 | other w l hx =>
  refine ⟨⟨Int.le_refl _,h0⟩,fun l' hl=>?_,rfl,fun hn=>by cases hn⟩
  have:some l=some l':=hl
  cases this
  have:=h3 _ hx
  rw [List.length_cons] at this
  show s.count+_≤256
  omega
 | same w l hx hm =>
  have:=h3 _ hx
  rw [List.length_cons] at this
  refine ⟨⟨by show s.count≤s.count+1; omega,by show s.count+1≤256; omega⟩,fun l' hl=>?_,?_,fun hn=>by cases hn⟩
  ·have e:some l=some l':=hl
   cases e
   show s.count+1+_≤256; omega
  ·show ((s.made++[w]).length:Int)-(s.count+1)=_
   rw [List.length_append,List.length_singleton]; omega
theorem cntF {s:VS} (c:Int) (ho:s.over=false) (h0:s.count≤256) (h3:∀l,s.expect=some l→s.count+l.length≤256) (hr:Room s):Cnt s (s.fails c):=cnt0 (fun _ h=>by cases h) ho h0 h3 hr
theorem cntE {s:VS} (e:Ev) (ho:s.over=false) (h0:s.count≤256) (h3:∀l,s.expect=some l→s.count+l.length≤256) (hr:Room s):Cnt s (s.emit e).2:=by
 unfold VS.emit; split
 ·exact cntF _ ho h0 h3 hr
 ·rename_i h
  refine cnt0 (fun _ hc he=>h ?_) ho h0 h3 hr
  have hc:closeM e.kind=false:=hc
  rw [hc]; simpa using he
theorem over0 (s:VS) (e:Ev) (h:(s.emit0 e).1.2=false):(s.emit0 e).2.over=true:=by
 have k:=emits s e
 generalize s.emit0 e=q at h k
 cases k with
 | live=>cases h
 | none=>rfl
 | other=>rfl
 | same=>cases h
theorem overF (s:VS) (c:Int):(s.fails c).over=true:=by
 unfold VS.fails
 have k:=emits s (s.stamp (evM 16 c 0 0))
 generalize s.emit0 (s.stamp (evM 16 c 0 0))=q at k
 cases k with
 | live=>rfl
 | none=>rfl
 | other=>rfl
 | same w l hx hm =>
  have:w.kind=16:=matches_kind hm
  show (if closeM w.kind=true then true else s.over)=true
  rw [this]; rfl
theorem overE (s:VS) (e:Ev) (h:(s.emit e).1.2=false):(s.emit e).2.over=true:=by
 unfold VS.emit at h ⊢
 split
 ·exact overF s _
 ·rename_i hx; rw [if_neg hx] at h; exact over0 _ _ h
theorem goes0 (s:VS) (e:Ev) (h:(s.emit0 e).1.2=true):(s.emit0 e).2.over=if closeM e.kind=true then true else s.over:=by
 have k:=emits s e
 generalize s.emit0 e=q at h k
 cases k with
 | live=>rfl
 | none=>cases h
 | other=>cases h
 | same w l hx hm =>
  show (if closeM w.kind=true then true else s.over)=_
  rw [matches_kind hm]
theorem goesE (s:VS) (e:Ev) (h:(s.emit e).1.2=true):(s.emit e).2.over=if closeM e.kind=true then true else s.over:=by
 unfold VS.emit at h ⊢
 split
 ·rename_i hx; rw [if_pos hx] at h; cases h
 ·rename_i hx; rw [if_neg hx] at h; exact goes0 s (s.stamp e) h
theorem id0 (s:VS) (e:Ev) (h:(s.emit0 e).1.2=true):(s.emit0 e).1.1=e.id:=by
 have k:=emits s e
 generalize s.emit0 e=q at h k
 cases k with
 | live=>rfl
 | none=>cases h
 | other=>cases h
 | same w l hx hm =>
  unfold matchesM Ev.beqM at hm
  simp only [Bool.and_eq_true,beq_iff_eq] at hm
  have:=hm.1
  show w.id=e.id
  rw [←this]
  split
  ·rfl
  ·split<;>rfl
theorem idE (s:VS) (e:Ev) (h:(s.emit e).1.2=true):(s.emit e).1.1=s.count+1:=by
 unfold VS.emit at h ⊢
 split
 ·rename_i hx; rw [if_pos hx] at h; cases h
 ·rename_i hx; rw [if_neg hx] at h; exact id0 s (s.stamp e) h
inductive RowR (s:VS) (e:Ev):(Int×Bool)×VS→Prop
 | yes (q:(Int×Bool)×VS) (x:Ev) (ok:q.1.2=true) (hm:q.2.made=s.made++[x]) (hk:x.kind=e.kind) (hid:x.id=q.1.1) (ha:e.kind≠11→x.a=e.a) (hb:e.kind≠11→e.kind≠18→x.b=e.b):RowR s e q
 | no (q:(Int×Bool)×VS) (ok:q.1.2=false) (ho:q.2.over=true) (hm:q.2.made=s.made∨∃x,q.2.made=s.made++[x]∧x.kind=16):RowR s e q
theorem row0 (s:VS) (e:Ev):RowR s e (s.emit0 e):=by
 have k:=emits s e
 generalize s.emit0 e=q at k
 cases k with
 | live hx=>exact .yes _ e rfl rfl rfl rfl (fun _=>rfl) (fun _ _=>rfl)
 | none hx=>exact .no _ rfl rfl (.inl rfl)
 | other w l hx=>exact .no _ rfl rfl (.inl rfl)
 | same w l hx hm =>
  have hk:=matches_kind hm
  refine .yes _ w rfl rfl hk rfl (fun h=>?_) (fun h h2=>?_)
  ·unfold matchesM Ev.beqM at hm
   rw [if_neg h] at hm
   simp only [Bool.and_eq_true,beq_iff_eq] at hm
   have:=hm.2.2.2.1
   split at this<;>exact this.symm
  ·unfold matchesM Ev.beqM at hm
   rw [if_neg h,if_neg h2] at hm
   simp only [Bool.and_eq_true,beq_iff_eq] at hm
   exact hm.2.2.2.2.1.symm
theorem failRow (s:VS) (c:Int):(s.fails c).made=s.made∨∃x,(s.fails c).made=s.made++[x]∧x.kind=16:=by
 have k:=row0 s (s.stamp (evM 16 c 0 0))
 unfold VS.fails
 generalize s.emit0 (s.stamp (evM 16 c 0 0))=q at k
 cases k with
 | yes x ok hm hk _ _ _=>exact .inr ⟨x,hm,hk⟩
 | no ok ho hm=>exact hm
theorem rowE (s:VS) (e:Ev):RowR s e (s.emit e):=by
 unfold VS.emit; split
 ·exact .no _ rfl (overF s _) (failRow s _)
 ·have k:=row0 s (s.stamp e)
  generalize s.emit0 (s.stamp e)=q at k
  cases k with
  | yes x ok hm hk hid ha hb=>exact .yes _ x ok hm hk hid ha hb
  | no ok ho hm=>exact .no _ ok ho hm
theorem attG_snoc (l:List Ev) (x:Ev):attG (l++[x])=if x.kind=10 then (attG l).set x.a.toNat x.b else attG l:=by unfold attG; rw [List.foldl_append]; rfl
theorem anyG_snoc {l:List Ev} {id:Int} {ks:List Int} (a:anyP l id ks=true) (x:Ev):anyP (l++[x]) id ks=true:=by unfold anyP at a ⊢; rw [List.any_append,a]; rfl
theorem CV.row {h:List Ev} {s s':VS} (c:CV h s) {x:Ev} (hm:s'.made=s.made++[x]) (ea:s'.attrs=s.attrs) (ef:s'.futures=s.futures) (et:s'.threads=s.threads) (eo:s'.over=false→s.over=false) (h10:x.kind≠10) (hk:s'.over=false→x.kind≠3∧x.kind≠4):CV h s':=by
 have eh:h++s'.made=(h++s.made)++[x]:=by rw [hm,List.append_assoc]
 refine ⟨by rw [eh,attG_snoc,if_neg h10,ea]; exact c.att,fun o y hy hk'=>?_,fun o f hf h0 hd=>?_,by rw [ef,et]; exact c.thf⟩
 ·rw [eh] at hy
  rw [ef]
  rcases List.mem_append.1 hy with hy|hy
  ·exact c.cov (eo o) y hy hk'
  ·rw [List.mem_singleton] at hy
   subst hy
   rcases hk' with k|k
   ·exact absurd k (hk o).1
   ·exact absurd k (hk o).2
 ·rw [ef] at hf
  have:=c.don (eo o) f hf h0 hd
  rw [eh]
  exact ⟨fun k=>anyG_snoc (this.1 k) x,fun k=>anyG_snoc (this.2 k) x⟩
theorem CV.thf_app {h:List Ev} {s:VS} (c:CV h s) {t:Thr} (ht:t∈s.threads) (h0:0≤t.future) (g:Fut):∃f,(s.futures++[g])[t.future.toNat]?=some f∧f.kind≠3∧f.kind≠4:=by
 obtain ⟨f,hf,q⟩:=c.thf t ht h0
 exact ⟨f,by rw [List.getElem?_append_left (get_lt hf)]; exact hf,q⟩
theorem CV.shut {h:List Ev} {s s':VS} (c:CV h s) (hm:s'.made=s.made∨∃x,s'.made=s.made++[x]∧x.kind=16) (ea:s'.attrs=s.attrs) (ef:s'.futures=s.futures) (et:s'.threads=s.threads) (ho:s'.over=true):CV h s':=by
 refine ⟨?_,fun o=>(by rw [ho] at o; cases o),fun o=>(by rw [ho] at o; cases o),by rw [ef,et]; exact c.thf⟩
 rcases hm with hm|⟨x,hm,hk⟩
 ·rw [hm,ea]; exact c.att
 ·rw [hm,←List.append_assoc,attG_snoc,if_neg (by omega),ea]; exact c.att
theorem Cv.fails (s:VS) (c:Int):Cv s (s.fails c):=fun _ k=>k.shut (failRow s c) (keepF s c).attrs (keepF s c).futures (keepF s c).threads (overF s c)
theorem Cv.emitN {s:VS} {e:Ev} (hn:(s.emit e).1.2=false):Cv s (s.emit e).2:=fun _ k=>by
 have r:=rowE s e
 have kp:=keepE s e
 generalize s.emit e=q at r hn kp
 cases r with
 | yes x ok=>rw [ok] at hn; cases hn
 | no ok ho hm=>exact k.shut hm kp.attrs kp.futures kp.threads ho
theorem Cv.emit {s:VS} {e:Ev} (ho:s.over=false) (h3:e.kind≠3) (h4:e.kind≠4) (h10:e.kind≠10):Cv s (s.emit e).2:=fun _ k=>by
 have r:=rowE s e
 have kp:=keepE s e
 generalize s.emit e=q at r kp
 cases r with
 | yes x ok hm hk _ _ _=>exact k.row hm kp.attrs kp.futures kp.threads (fun _=>ho) (by omega) (fun _=>by omega)
 | no ok ho hm=>exact k.shut hm kp.attrs kp.futures kp.threads ho
theorem Cv.fut {s:VS} {f:Fut} (hd:f.done=true→f.event=0):Cv s (s.fut f):=fun h k=>by
 refine ⟨k.att,fun o x hx hk=>?_,fun o g hg h0 hd'=>?_,fun t ht h0=>k.thf_app ht h0 f⟩
 ·obtain ⟨g,hg,q⟩:=k.cov o x hx hk
  exact ⟨g,List.mem_append_left _ hg,q⟩
 ·rcases List.mem_append.1 (show g∈s.futures++[f] from hg) with hg|hg
  ·exact k.don o g hg h0 hd'
  ·rw [List.mem_singleton] at hg
   subst hg
   exact absurd (hd hd') h0
theorem Cv.opens {s:VS} {e:Ev} (ho:s.over=false) (hok:(s.emit e).1.2=true) (h10:e.kind≠10) {f:Fut} (h1:f.event=(s.emit e).1.1) (h2:f.kind=e.kind) (h3:f.done=false):Cv s ((s.emit e).2.fut f):=fun h k=>by
 have r:=rowE s e
 have kp:=keepE s e
 have a1:=kp.attrs
 have a2:=kp.futures
 have a3:=kp.threads
 generalize s.emit e=q at r a1 a2 a3 hok h1
 cases r with
 | no ok ho hm=>rw [ok] at hok; cases hok
 | yes x ok hm hk hid _ _ =>
  have eh:h++(q.2.fut f).made=(h++s.made)++[x]:=by show h++q.2.made=_; rw [hm,List.append_assoc]
  refine ⟨?_,fun o y hy hk'=>?_,fun o g hg h0 hd=>?_,fun t ht h0=>by
   show ∃g,(q.2.futures++[f])[t.future.toNat]?=some g∧_
   have ht:t∈q.2.threads:=ht
   rw [a3] at ht
   rw [a2]; exact k.thf_app ht h0 f⟩
  ·rw [eh,attG_snoc,if_neg (by omega)]
   show q.2.attrs=_
   rw [a1]; exact k.att
  ·rw [eh] at hy
   show ∃g∈q.2.futures++[f],_
   rw [a2]
   rcases List.mem_append.1 hy with hy|hy
   ·obtain ⟨g,hg,z⟩:=k.cov ho y hy hk'
    exact ⟨g,List.mem_append_left _ hg,z⟩
   ·rw [List.mem_singleton] at hy
    subst hy
    exact ⟨f,List.mem_append_right _ (List.mem_singleton.2 rfl),by rw [h1,hid],by rw [h2,hk]⟩
  ·have hg:g∈q.2.futures++[f]:=hg
   rw [a2] at hg
   rw [eh]
   rcases List.mem_append.1 hg with hg|hg
   ·have:=k.don ho g hg h0 hd
    exact ⟨fun z=>anyG_snoc (this.1 z) x,fun z=>anyG_snoc (this.2 z) x⟩
   ·rw [List.mem_singleton] at hg
    subst hg
    rw [h3] at hd; cases hd
theorem Cv.attr {s:VS} (a v:Int) (ho:s.over=false) (hok:(s.emit (evM 10 a v 0)).1.2=true):Cv s { (s.emit (evM 10 a v 0)).2 with attrs:=(s.emit (evM 10 a v 0)).2.attrs.set a.toNat v }:=fun h k=>by
 have r:=rowE s (evM 10 a v 0)
 have kp:=keepE s (evM 10 a v 0)
 have a1:=kp.attrs
 have a2:=kp.futures
 have a3:=kp.threads
 generalize s.emit (evM 10 a v 0)=q at r a1 a2 a3 hok
 cases r with
 | no ok ho hm=>rw [ok] at hok; cases hok
 | yes x ok hm hk hid ha hb =>
  have ha:x.a=a:=ha (by show (10:Int)≠11; decide)
  have hb:x.b=v:=hb (by show (10:Int)≠11; decide) (by show (10:Int)≠18; decide)
  have hk:x.kind=10:=hk
  have eh:h++q.2.made=(h++s.made)++[x]:=by rw [hm,List.append_assoc]
  refine ⟨?_,fun o y hy hk'=>?_,fun o g hg h0 hd=>?_,by show ∀t∈q.2.threads,_→∃f,q.2.futures[_]?=_∧_; rw [a2,a3]; exact k.thf⟩
  ·show q.2.attrs.set a.toNat v=attG (h++q.2.made)
   rw [eh,attG_snoc,if_pos hk,ha,hb,a1,k.att]
  ·have hy:y∈h++q.2.made:=hy
   rw [eh] at hy
   show ∃g∈q.2.futures,_
   rw [a2]
   rcases List.mem_append.1 hy with hy|hy
   ·exact k.cov ho y hy hk'
   ·rw [List.mem_singleton] at hy
    subst hy
    omega
  ·have hg:g∈q.2.futures:=hg
   rw [a2] at hg
   show (_→anyP (h++q.2.made) _ _=true)∧(_→anyP (h++q.2.made) _ _=true)
   rw [eh]
   have:=k.don ho g hg h0 hd
   exact ⟨fun z=>anyG_snoc (this.1 z) x,fun z=>anyG_snoc (this.2 z) x⟩
theorem setDone_cases (s:VS) (i v k:Int):s.setDone i v k=s∨∃f,s.futures[i.toNat]?=some f∧0≤i∧f.done=false∧s.setDone i v k={ s with futures:=s.futures.set i.toNat (f.end_ v k) }:=by
 unfold VS.setDone
 split
 ·rename_i f hf
  split
  ·rename_i h
   right
   simp at h
   exact ⟨f,hf,h.1,h.2,rfl⟩
  ·exact .inl rfl
 ·exact .inl rfl
theorem mark_cases (s:VS) (i:Int):s.mark i=s∨∃c,s.scopes[i.toNat]?=some c∧s.mark i={ s with scopes:=s.scopes.set i.toNat { c with cancelled:=true } }:=by
 unfold VS.mark
 split
 ·rename_i c hc; exact .inr ⟨c,hc,rfl⟩
 ·exact .inl rfl
theorem Cv.mark (s:VS) (i:Int):Cv s (s.mark i):=by
 rcases mark_cases s i with e|⟨c,-,e⟩<;>rw [e]
 ·exact fun _ h=>h
 ·exact Cv.nice rfl rfl rfl rfl rfl
theorem CV.done {h:List Ev} {s:VS} (c:CV h s) (i v k:Int) (hd:s.over=false→∀f,s.futures[i.toNat]?=some f→(f.kind=3→anyP (h++s.made) f.event [6,22,23,24]=true)∧(f.kind=4→anyP (h++s.made) f.event [7,25]=true)):CV h (s.setDone i v k):=by
 rcases setDone_cases s i v k with e|⟨f0,hf0,h0,hd0,e⟩
 ·rw [e]; exact c
 ·rw [e]
  have at_:∀(j:Nat) (g:Fut),s.futures[j]?=some g→∃g',(s.futures.set i.toNat (f0.end_ v k))[j]?=some g'∧g'.event=g.event∧g'.kind=g.kind:=fun j g hj=>by
   by_cases hij:i.toNat=j
   ·subst hij
    rw [hf0] at hj; cases hj
    exact ⟨f0.end_ v k,by rw [List.getElem?_set,if_pos rfl,if_pos (get_lt hf0)],rfl,rfl⟩
   ·exact ⟨g,by rw [List.getElem?_set,if_neg hij]; exact hj,rfl,rfl⟩
  refine ⟨c.att,fun o x hx hk=>?_,fun o g hg hn hdn=>?_,fun t ht h0=>?_⟩
  ·obtain ⟨g,hg,q1,q2⟩:=c.cov o x hx hk
   obtain ⟨j,hj⟩:=List.getElem?_of_mem hg
   obtain ⟨g',r1,r2,r3⟩:=at_ j g hj
   exact ⟨g',List.mem_of_getElem? r1,r2.trans q1,r3.trans q2⟩
  ·have hg:g∈s.futures.set i.toNat (f0.end_ v k):=hg
   rcases List.mem_or_eq_of_mem_set hg with hg|hg
   ·exact c.don o g hg hn hdn
   ·subst hg
    exact hd o f0 hf0
  ·obtain ⟨g,q1,q2⟩:=c.thf t ht h0
   obtain ⟨g',r1,r2,r3⟩:=at_ _ g q1
   exact ⟨g',r1,by rw [r3]; exact q2⟩
theorem Cv.done {s:VS} {t:Thr} (ht:t∈s.threads) (h0:0≤t.future) (v k:Int):Cv s (s.setDone t.future v k):=fun h c=>c.done _ _ _ fun _ f hf=>by
 obtain ⟨g,q1,q2,q3⟩:=c.thf t ht h0
 rw [q1] at hf; cases hf
 exact ⟨fun z=>absurd z q2,fun z=>absurd z q3⟩
theorem Cv.thr {s:VS} {t:Thr} (hc:0≤t.future→∃f,s.futures[t.future.toNat]?=some f∧f.kind≠3∧f.kind≠4):Cv s (s.thread t):=fun h c=>by
 refine ⟨c.att,c.cov,c.don,fun u hu h0=>?_⟩
 rcases List.mem_append.1 (show u∈s.threads++[t] from hu) with hu|hu
 ·exact c.thf u hu h0
 ·rw [List.mem_singleton] at hu
  subst hu; exact hc h0
theorem Cv.set {s:VS} {i:Nat} {t t':Thr} (ht:t∈s.threads) (e:t'.future=t.future):Cv s { s with threads:=s.threads.set i t' }:=fun h c=>by
 refine ⟨c.att,c.cov,c.don,fun u hu h0=>?_⟩
 rcases List.mem_or_eq_of_mem_set (show u∈s.threads.set i t' from hu) with hu|hu
 ·exact c.thf u hu h0
 ·subst hu
  rw [e] at h0 ⊢
  exact c.thf t ht h0
theorem Cv.erase (s:VS) (i:Nat):Cv s { s with threads:=s.threads.eraseIdx i }:=fun h c=>⟨c.att,c.cov,c.don,fun u hu h0=>c.thf u (List.mem_of_mem_eraseIdx hu) h0⟩
theorem ThrOk.mono {p:Prg} {s s':VS} {t:Thr} (h:ThrOk p s t) (h1:s.scopes.length≤s'.scopes.length) (h2:s.futures.length≤s'.futures.length):ThrOk p s' t :=
 ⟨h.fn,h.f0,h.pc0,h.stack,⟨h.scope.1,by have:=h.scope.2; omega⟩,⟨h.future.1,by have:=h.future.2; omega⟩,h.update,by have:=h.waits; omega,h.signal⟩
theorem Inv.keep {p:Prg} {s s':VS} (h:Inv p s) (k:Keep s s') (n:Cnt s s'):Inv p s'∧Room s':=by
 have hc:=n.c0
 refine ⟨⟨by rw [k.scopes]; exact h.scp,by rw [k.scopes]; exact h.scn,by rw [k.scopes]; exact h.sc32,by rw [k.threads]; exact h.t16,fun t ht=>?_,by rw [k.futures,k.scopes]; exact h.futs,by rw [k.fuel]; exact h.fuel,?_,⟨by have:=h.c0.1; omega,hc.2⟩,n.c3,?_,fun l hl=>?_,by rw [k.signals]; exact h.sg8,?_,by rw [k.updates]; exact h.updI,by rw [k.vars]; exact h.v16,by rw [k.attrs]; exact h.a4⟩,n.room⟩
 ·rw [k.threads] at ht
  exact (h.thr t ht).mono (by rw [k.scopes]; exact Nat.le_refl _) (by rw [k.futures]; exact Nat.le_refl _)
 ·rw [k.futures,k.fuel]; have:=h.many; omega
 ·have:=n.made; have:=h.made; omega
 ·rw [k.signals] at hl; have:=h.sig l hl; omega
 ·rw [k.updates]; have:=h.upd; omega
theorem ScpOk.set {l:List Scp} (h:ScpOk l) {i:Nat} {c d:Scp} (hc:l[i]?=some c) (e:d.parent=c.parent):ScpOk (l.set i d):=fun j x hx=>by
 rw [List.getElem?_set] at hx
 split at hx
 ·rename_i hij
  split at hx
  ·cases hx; subst hij; rw [e]; exact h _ _ hc
  ·cases hx
 ·exact h j x hx
theorem ScpOk.snoc {l:List Scp} (h:ScpOk l) {c:Scp} (hc:c.parent<l.length):ScpOk (l++[c]):=fun j x hx=>by
 rcases Nat.lt_or_ge j l.length with hj|hj
 ·rw [List.getElem?_append_left hj] at hx; exact h j x hx
 ·have hlt:=get_lt hx
  rw [List.length_append,List.length_singleton] at hlt
  have:j=l.length:=by omega
  subst this
  rw [List.getElem?_append_right (Nat.le_refl _),Nat.sub_self] at hx
  cases hx; exact hc
theorem mem_set {α:Type} {l:List α} {i:Nat} {x y:α} (h:y∈l.set i x):y∈l∨y=x:=List.mem_or_eq_of_mem_set h
theorem FStep.inv {p:Prg} {b:Bool} {s s':VS} (q:FStep p b s s') (h:Inv p s) (r:Room s):Inv p s'∧Room s':=by
 cases q with
 | emit e ho hc=>exact h.keep (keepE s e) (cntE e ho h.c0.2 h.c3 r)
 | fails c ho=>exact h.keep (keepF s c) (cntF c ho h.c0.2 h.c3 r)
 | done i v k =>
  rcases setDone_cases s i v k with e|⟨f,hf,h0,hd,e⟩
  ·rw [e]; exact ⟨h,r⟩
  ·rw [e]
   have hl:(s.futures.set i.toNat (f.end_ v k)).length=s.futures.length:=List.length_set
   refine ⟨⟨h.scp,h.scn,h.sc32,h.t16,fun t ht=>(h.thr t ht).mono (Nat.le_refl _) (by show _≤(s.futures.set _ _).length; rw [hl]; exact Nat.le_refl _),fun g hg=>?_,h.fuel,by show ((s.futures.set i.toNat (f.end_ v k)).length:Int)+_≤_; rw [hl]; exact h.many,h.c0,h.c3,h.made,h.sig,h.sg8,h.upd,h.updI,h.v16,h.a4⟩,r⟩
   rcases mem_set hg with hg|hg
   ·exact h.futs g hg
   ·subst hg; exact h.futs f (List.mem_of_getElem? hf)
 | fut f h0 h1 hm hd =>
  refine ⟨⟨h.scp,h.scn,h.sc32,h.t16,fun t ht=>(h.thr t ht).mono (Nat.le_refl _) (by show _≤(s.futures++[f]).length; simp),fun g hg=>?_,h.fuel,by show ((s.futures++[f]).length:Int)+s.fuel≤_; rw [List.length_append,List.length_singleton]; show _≤1000*s.count; omega,h.c0,h.c3,h.made,h.sig,h.sg8,h.upd,h.updI,h.v16,h.a4⟩,r⟩
  rcases List.mem_append.1 hg with hg|hg
  ·exact h.futs g hg
  ·rw [List.mem_singleton] at hg; subst hg; exact ⟨h0,h1⟩
 | scp i h1 h2 =>
  have hl:(s.scopes++[(⟨i,false⟩:Scp)]).length=s.scopes.length+1:=by simp
  exact ⟨⟨h.scp.snoc h1.2,by show 0<(s.scopes++[(⟨i,false⟩:Scp)]).length; omega,by show (s.scopes++[(⟨i,false⟩:Scp)]).length≤32; omega,h.t16,fun t ht=>(h.thr t ht).mono (by show _≤(s.scopes++[(⟨i,false⟩:Scp)]).length; omega) (Nat.le_refl _),fun g hg=>⟨(h.futs g hg).1,(h.futs g hg).2.1,by have:=(h.futs g hg).2.2; show _<((s.scopes++[(⟨i,false⟩:Scp)]).length:Int); omega⟩,h.fuel,h.many,h.c0,h.c3,h.made,h.sig,h.sg8,h.upd,h.updI,h.v16,h.a4⟩,r⟩
 | mark i =>
  rcases mark_cases s i with e|⟨c,hc,e⟩
  ·rw [e]; exact ⟨h,r⟩
  ·rw [e]
   have hl:(s.scopes.set i.toNat { c with cancelled:=true }).length=s.scopes.length:=List.length_set
   exact ⟨⟨h.scp.set hc rfl,by show 0<(s.scopes.set i.toNat { c with cancelled:=true }).length; rw [hl]; exact h.scn,by show (s.scopes.set i.toNat { c with cancelled:=true }).length≤32; rw [hl]; exact h.sc32,h.t16,fun t ht=>(h.thr t ht).mono (by show _≤(s.scopes.set i.toNat { c with cancelled:=true }).length; omega) (Nat.le_refl _),fun g hg=>⟨(h.futs g hg).1,(h.futs g hg).2.1,by have:=(h.futs g hg).2.2; show _<((s.scopes.set i.toNat { c with cancelled:=true }).length:Int); omega⟩,h.fuel,h.many,h.c0,h.c3,h.made,h.sig,h.sg8,h.upd,h.updI,h.v16,h.a4⟩,r⟩
 | thr t ht hlt =>
  refine ⟨⟨h.scp,h.scn,h.sc32,by show (s.threads++[t]).length≤16; simp; omega,fun u hu=>?_,h.futs,h.fuel,h.many,h.c0,h.c3,h.made,h.sig,h.sg8,h.upd,h.updI,h.v16,h.a4⟩,r⟩
  rcases List.mem_append.1 hu with hu|hu
  ·exact (h.thr u hu).mono (Nat.le_refl _) (Nat.le_refl _)
  ·rw [List.mem_singleton] at hu; subst hu; exact ht.mono (Nat.le_refl _) (Nat.le_refl _)
 | set i t hb ht =>
  refine ⟨⟨h.scp,h.scn,h.sc32,by show (s.threads.set i t).length≤16; rw [List.length_set]; exact h.t16,fun u hu=>?_,h.futs,h.fuel,h.many,h.c0,h.c3,h.made,h.sig,h.sg8,h.upd,h.updI,h.v16,h.a4⟩,r⟩
  rcases mem_set hu with hu|hu
  ·exact (h.thr u hu).mono (Nat.le_refl _) (Nat.le_refl _)
  ·subst hu; exact ht.mono (Nat.le_refl _) (Nat.le_refl _)
 | erase i hb =>
  refine ⟨⟨h.scp,h.scn,h.sc32,?_,fun u hu=>(h.thr u ?_).mono (Nat.le_refl _) (Nat.le_refl _),h.futs,h.fuel,h.many,h.c0,h.c3,h.made,h.sig,h.sg8,h.upd,h.updI,h.v16,h.a4⟩,r⟩
  ·have:=List.length_eraseIdx_le s.threads i
   exact Nat.le_trans this h.t16
  ·exact List.mem_of_mem_eraseIdx hu
 | vars k v=>exact ⟨⟨h.scp,h.scn,h.sc32,h.t16,fun t ht=>(h.thr t ht).mono (Nat.le_refl _) (Nat.le_refl _),h.futs,h.fuel,h.many,h.c0,h.c3,h.made,h.sig,h.sg8,h.upd,h.updI,by show (s.vars.set k v).length=16; rw [List.length_set]; exact h.v16,h.a4⟩,r⟩
 | attrs k v=>exact ⟨⟨h.scp,h.scn,h.sc32,h.t16,fun t ht=>(h.thr t ht).mono (Nat.le_refl _) (Nat.le_refl _),h.futs,h.fuel,h.many,h.c0,h.c3,h.made,h.sig,h.sg8,h.upd,h.updI,h.v16,by show (s.attrs.set k v).length=4; rw [List.length_set]; exact h.a4⟩,r⟩
 | draws v=>exact ⟨⟨h.scp,h.scn,h.sc32,h.t16,fun t ht=>(h.thr t ht).mono (Nat.le_refl _) (Nat.le_refl _),h.futs,h.fuel,h.many,h.c0,h.c3,h.made,h.sig,h.sg8,h.upd,h.updI,h.v16,h.a4⟩,r⟩
 | fuel n hb hn=>exact ⟨⟨h.scp,h.scn,h.sc32,h.t16,fun t ht=>(h.thr t ht).mono (Nat.le_refl _) (Nat.le_refl _),h.futs,⟨hn.1,by have:=h.fuel.2; show n≤1000; omega⟩,by have:=h.many; show (s.futures.length:Int)+n≤_; show _≤1000*s.count; omega,h.c0,h.c3,h.made,h.sig,h.sg8,h.upd,h.updI,h.v16,h.a4⟩,r⟩
 | sig k x l hk =>
  refine ⟨⟨h.scp,h.scn,h.sc32,h.t16,fun t ht=>(h.thr t ht).mono (Nat.le_refl _) (Nat.le_refl _),h.futs,h.fuel,h.many,h.c0,h.c3,h.made,fun z hz=>?_,by show (s.signals.set k l).length=8; rw [List.length_set]; exact h.sg8,h.upd,h.updI,h.v16,h.a4⟩,r⟩
  rcases mem_set hz with hz|hz
  ·exact h.sig z hz
  ·subst hz
   cases e:s.signals[k]? with
   | none=>rw [e] at hk; cases hk
   | some y =>
    rw [e] at hk
    have:y=x::z:=hk
    subst this
    have:=h.sig _ (List.mem_of_getElem? e)
    rw [List.length_cons] at this
    show (z.length:Int)≤s.count
    omega
theorem FSteps.inv {p:Prg} {b:Bool} {s s':VS} (q:FSteps p b s s') (h:Inv p s) (r:Room s):Inv p s'∧Room s':=by
 induction q with
 | refl=>exact ⟨h,r⟩
 | tail _ k _ ih=>exact k.inv ih.1 ih.2
 | two _ k1 k2 _ ih=>have:=k1.inv ih.1 ih.2; exact k2.inv this.1 this.2
structure Ext (s s':VS):Prop where
 futs:∀(i:Nat) (f:Fut),s.futures[i]?=some f→∃f',s'.futures[i]?=some f'∧f'.kind=f.kind∧f'.event=f.event∧f'.scope=f.scope∧(f.done=true→f'=f)
 scps:∀(i:Nat) (c:Scp),s.scopes[i]?=some c→∃c',s'.scopes[i]?=some c'∧c'.parent=c.parent∧(c.cancelled=true→c'.cancelled=true)
 sigs:∀k:Nat,∃l,s.signals[k]?.getD []=l++s'.signals[k]?.getD []
theorem Ext.refl (s:VS):Ext s s:=⟨fun _ f h=>⟨f,h,rfl,rfl,rfl,fun _=>rfl⟩,fun _ c h=>⟨c,h,rfl,id⟩,fun _=>⟨[],rfl⟩⟩
theorem Ext.trans {a b c:VS} (h:Ext a b) (k:Ext b c):Ext a c:=by
 refine ⟨fun i f hf=>?_,fun i x hx=>?_,fun n=>?_⟩
 ·obtain ⟨g,h1,h2,h3,h4,h5⟩:=h.futs i f hf
  obtain ⟨g2,k1,k2,k3,k4,k5⟩:=k.futs i g h1
  exact ⟨g2,k1,k2.trans h2,k3.trans h3,k4.trans h4,fun e=>by have:=h5 e; subst this; exact k5 e⟩
 ·obtain ⟨g,h1,h2,h3⟩:=h.scps i x hx
  obtain ⟨g2,k1,k2,k3⟩:=k.scps i g h1
  exact ⟨g2,k1,k2.trans h2,fun e=>k3 (h3 e)⟩
 ·obtain ⟨l,hl⟩:=h.sigs n
  obtain ⟨l2,hl2⟩:=k.sigs n
  exact ⟨l++l2,by rw [hl,hl2,List.append_assoc]⟩
theorem Ext.same {s s':VS} (h1:s'.futures=s.futures) (h2:s'.scopes=s.scopes) (h3:s'.signals=s.signals):Ext s s' :=
 ⟨fun i f h=>⟨f,by rw [h1]; exact h,rfl,rfl,rfl,fun _=>rfl⟩,fun i c h=>⟨c,by rw [h2]; exact h,rfl,id⟩,fun k=>⟨[],by rw [h3]; rfl⟩⟩
theorem Ext.keep {s s':VS} (k:Keep s s'):Ext s s':=.same k.futures k.scopes k.signals
theorem Ext.done (s:VS) (i v k:Int):Ext s (s.setDone i v k):=by
 rcases setDone_cases s i v k with e|⟨f,hf,h0,hd,e⟩
 ·rw [e]; exact .refl s
 ·rw [e]
  refine ⟨fun j g hg=>?_,fun i c h=>⟨c,h,rfl,id⟩,fun _=>⟨[],rfl⟩⟩
  show ∃f',(s.futures.set i.toNat (f.end_ v k))[j]?=some f'∧_
  rw [List.getElem?_set]
  by_cases hj:i.toNat=j
  ·subst hj
   rw [hf] at hg; cases hg
   rw [if_pos rfl,if_pos (get_lt hf)]
   exact ⟨_,rfl,rfl,rfl,rfl,fun q=>by rw [hd] at q; cases q⟩
  ·rw [if_neg hj]; exact ⟨g,hg,rfl,rfl,rfl,fun _=>rfl⟩
theorem FStep.ext {p:Prg} {b:Bool} {s s':VS} (q:FStep p b s s'):Ext s s':=by
 cases q with
 | emit e ho hc=>exact .keep (keepE s e)
 | fails c ho=>exact .keep (keepF s c)
 | done i v k=>exact .done s i v k
 | fut f h0 h1 hm hd =>
  refine ⟨fun j g hg=>⟨g,?_,rfl,rfl,rfl,fun _=>rfl⟩,fun i c h=>⟨c,h,rfl,id⟩,fun _=>⟨[],rfl⟩⟩
  show (s.futures++[f])[j]?=_
  rw [List.getElem?_append_left (get_lt hg)]; exact hg
 | scp i h1 h2 =>
  refine ⟨fun j g hg=>⟨g,hg,rfl,rfl,rfl,fun _=>rfl⟩,fun j c h=>⟨c,?_,rfl,id⟩,fun _=>⟨[],rfl⟩⟩
  show (s.scopes++[(⟨i,false⟩:Scp)])[j]?=_
  rw [List.getElem?_append_left (get_lt h)]; exact h
 | mark i =>
  rcases mark_cases s i with e|⟨c,hc,e⟩
  ·rw [e]; exact .refl s
  ·rw [e]
   refine ⟨fun j g hg=>⟨g,hg,rfl,rfl,rfl,fun _=>rfl⟩,fun j d hd=>?_,fun _=>⟨[],rfl⟩⟩
   show ∃c',(s.scopes.set i.toNat { c with cancelled:=true })[j]?=some c'∧_
   rw [List.getElem?_set]
   by_cases hj:i.toNat=j
   ·subst hj
    rw [hc] at hd; cases hd
    rw [if_pos rfl,if_pos (get_lt hc)]
    exact ⟨_,rfl,rfl,fun _=>rfl⟩
   ·rw [if_neg hj]; exact ⟨d,hd,rfl,id⟩
 | thr=>exact .same rfl rfl rfl
 | set=>exact .same rfl rfl rfl
 | erase=>exact .same rfl rfl rfl
 | vars=>exact .same rfl rfl rfl
 | attrs=>exact .same rfl rfl rfl
 | draws=>exact .same rfl rfl rfl
 | fuel=>exact .same rfl rfl rfl
 | sig k x l hk =>
  refine ⟨fun j g hg=>⟨g,hg,rfl,rfl,rfl,fun _=>rfl⟩,fun j c h=>⟨c,h,rfl,id⟩,fun n=>?_⟩
  show ∃y,s.signals[n]?.getD []=y++(s.signals.set k l)[n]?.getD []
  rw [List.getElem?_set]
  by_cases hn:k=n
  ·subst hn
   rw [if_pos rfl,hk]
   split
   ·exact ⟨[x],rfl⟩
   ·exact ⟨x::l,by simp⟩
  ·rw [if_neg hn]; exact ⟨[],rfl⟩
theorem FSteps.ext {p:Prg} {b:Bool} {s s':VS} (q:FSteps p b s s'):Ext s s':=by
 induction q with
 | refl=>exact .refl _
 | tail _ k _ ih=>exact ih.trans k.ext
 | two _ k1 k2 _ ih=>exact (ih.trans k1.ext).trans k2.ext
structure Stay (s s':VS):Prop where
 now:s'.now=s.now
 updates:s'.updates=s.updates
 cancel:s'.cancel=s.cancel
theorem FStep.stay {p:Prg} {b:Bool} {s s':VS} (q:FStep p b s s'):Stay s s':=by
 cases q with
 | emit e ho hc=>exact ⟨(keepE s e).now,(keepE s e).updates,(keepE s e).cancel⟩
 | fails c ho=>exact ⟨(keepF s c).now,(keepF s c).updates,(keepF s c).cancel⟩
 | done i v k=>rcases setDone_cases s i v k with e|⟨f,_,_,_,e⟩<;>rw [e]<;>exact ⟨rfl,rfl,rfl⟩
 | mark i=>rcases mark_cases s i with e|⟨c,hc,e⟩<;>rw [e]<;>exact ⟨rfl,rfl,rfl⟩
 | _=>exact ⟨rfl,rfl,rfl⟩
theorem FSteps.stay {p:Prg} {b:Bool} {s s':VS} (q:FSteps p b s s'):Stay s s':=by
 induction q with
 | refl=>exact ⟨rfl,rfl,rfl⟩
 | tail _ k _ ih=>exact ⟨k.stay.now.trans ih.now,k.stay.updates.trans ih.updates,k.stay.cancel.trans ih.cancel⟩
 | two _ k1 k2 _ ih=>exact ⟨(k2.stay.now.trans k1.stay.now).trans ih.now,(k2.stay.updates.trans k1.stay.updates).trans ih.updates,(k2.stay.cancel.trans k1.stay.cancel).trans ih.cancel⟩
theorem FStep.threads {p:Prg} {s s':VS} (q:FStep p false s s'):∃l,s'.threads=s.threads++l:=by
 cases q with
 | emit e ho hc=>exact ⟨[],by rw [(keepE s e).threads]; simp⟩
 | fails c ho=>exact ⟨[],by rw [(keepF s c).threads]; simp⟩
 | done i v k=>rcases setDone_cases s i v k with e|⟨f,_,_,_,e⟩<;>rw [e]<;>exact ⟨[],by simp⟩
 | mark i=>rcases mark_cases s i with e|⟨c,hc,e⟩<;>rw [e]<;>exact ⟨[],by simp⟩
 | thr t _ _=>exact ⟨[t],rfl⟩
 | set i t hb ht=>cases hb
 | erase i hb=>cases hb
 | fuel n hb hn=>cases hb
 | _=>exact ⟨[],(List.append_nil _).symm⟩
theorem FSteps.threads {p:Prg} {s s':VS} (q:FSteps p false s s'):∃l,s'.threads=s.threads++l:=by
 induction q with
 | refl=>exact ⟨[],by simp⟩
 | tail _ k _ ih =>
  obtain ⟨l,hl⟩:=ih
  obtain ⟨l2,hl2⟩:=k.threads
  exact ⟨l++l2,by rw [hl2,hl,List.append_assoc]⟩
 | two _ k1 k2 _ ih =>
  obtain ⟨l,hl⟩:=ih
  obtain ⟨l1,hl1⟩:=k1.threads
  obtain ⟨l2,hl2⟩:=k2.threads
  exact ⟨l++(l1++l2),by rw [hl2,hl1,hl,List.append_assoc,List.append_assoc]⟩
theorem FStep.fuel_eq {p:Prg} {s s':VS} (q:FStep p false s s'):s'.fuel=s.fuel:=by
 cases q with
 | emit e ho hc=>exact (keepE s e).fuel
 | fails c ho=>exact (keepF s c).fuel
 | done i v k=>rcases setDone_cases s i v k with e|⟨f,_,_,_,e⟩<;>rw [e]
 | mark i=>rcases mark_cases s i with e|⟨c,hc,e⟩<;>rw [e]
 | set i t hb ht=>cases hb
 | erase i hb=>cases hb
 | fuel n hb hn=>cases hb
 | _=>rfl
theorem FSteps.fuel_eq {p:Prg} {s s':VS} (q:FSteps p false s s'):s'.fuel=s.fuel:=by
 induction q with
 | refl=>rfl
 | tail _ k _ ih=>exact k.fuel_eq.trans ih
 | two _ k1 k2 _ ih=>exact (k2.fuel_eq.trans k1.fuel_eq).trans ih
section
variable {G0 F0 G H:Heap} {m:Nat} {pf po:SlH} {sl:Nat→SlH} {F:Heap} {ex:Value} {st:List SlH} {s:VS}
structure Side (G0 F0 G F:Heap) (q:SlH) (sz:Nat) (cs:List Value):Prop where
 g:Sub G0 G
 f:Sub F0 F
 gf:Sub G0 F0
 d:Sub (dif F0 G0) (dif F G)
 sl:SlOk G q sz cs
 free:∀b,q.blk=some b→F0 b=none
theorem Side.nil {G F:Heap} (gf:Sub G F) (sz:Nat):Side G F G F ⟨none,0,0⟩ sz []:=⟨Sub.refl _,Sub.refl _,gf,Sub.refl _,⟨by simp,Nat.le_refl _,.inl ⟨rfl,rfl,rfl⟩⟩,fun b hb=>by cases hb⟩
theorem VMX.side (h : VMX G H m pf po sl F ex st s) {q : SlH} {sz : Nat} {cs : List Value} (d : Side G0 F0 G F q sz cs) {e : TypeId} {bytes : Nat} {new : List Value} {k : Nat} (hk : new.length=k*sz) (h1 : allOne new=true) (hb : (q.n+k)*bytes≤140737488355328) (hl : q.n+k≤9223372036854775807)
  {K:Option Addr→Nat→Nat→Heap→Prop} (r:∀A' c' G' F' H',VMX G' H' m pf po sl F' ex st s→Side G0 F0 G' F' ⟨A',q.n+k,c'⟩ sz (cs++new)→K A' (q.n+k) c' H') :
  appC e sz bytes H q.A q.n q.c new k K:=by
 have ok:=d.sl
 have gh:Sub G H:=h.gf.trans h.fh
 have hs:=ok.len
 refine ⟨⟨cs,(ok.sub gh).src,ok.len,hk,h1,hb,hl,fun hcap=>?_,fun hcap b cap rest hbn hle hr=>?_⟩⟩
 ·rcases ok.at_ with ⟨a1,a2,a3⟩|⟨b,off,cur,T,a1,a2,a3,a4⟩
  ·left
   have k0:k=0:=by omega
   subst k0
   have hn:new=[]:=List.length_eq_zero_iff.1 (by omega)
   subst hn
   refine ⟨rfl,r _ _ _ _ _ h ⟨d.g,d.f,d.gf,d.d,⟨by rw [List.append_nil]; exact hs,hcap,.inl ⟨a1,by show q.n+0=0; omega,a3⟩⟩,fun b hb=>?_⟩⟩
   unfold SlH.blk at hb; simp only at hb; rw [a1] at hb; cases hb
  ·right
   have hblk:q.blk=some b:=by unfold SlH.blk; rw [a1]; rfl
   have hF0:=d.free b hblk
   have hG0:=none_below d.gf hF0
   have hsz:(off+q.n*sz)+new.length≤cur.size:=by
    have:(q.n+k)*sz≤q.c*sz:=Nat.mul_le_mul_right _ hcap
    rw [Nat.add_mul] at this
    omega
   have old:∀j v,cs[j]?=some v→(splice cur (off+q.n*sz) new)[off+j]?=some v:=fun j v hv=>by
    rw [splice_get hsz,if_pos (by have:=get_lt hv; omega)]; exact a4 j v hv
   refine ⟨⟨b,off,none⟩,cur,T,a1,rfl,gh.sub _ _ a2,hsz,r _ _ _ _ _ (h.turn a2 _) ⟨base_upd d.g hG0 _,base_upd d.f hF0 _,d.gf,d.d.trans (dif_turn a2 _),⟨?_,hcap,.inr ⟨b,off,_,T,a1,Heap.upd_same,by rw [splice_size hsz]; exact a3,fun j v hv=>?_⟩⟩,fun b' hb'=>?_⟩⟩
   ·rw [List.length_append,hs,hk,Nat.add_mul]
   ·by_cases hj:j<q.n*sz
    ·rw [List.getElem?_append_left (by omega)] at hv
     exact old j v hv
    ·have hlt:=get_lt hv
     rw [List.length_append] at hlt
     rw [List.getElem?_append_right (by omega),hs] at hv
     rw [splice_get hsz,if_neg (by omega),if_pos (by omega)]
     rw [←hv]; congr 1; omega
   ·unfold SlH.blk at hb'; simp only at hb'; rw [a1] at hb'; cases hb'
    exact hF0
 ·have hG:=none_below gh hbn
  have hF:=none_below h.fh hbn
  have hF0:=none_below d.f hF
  have hG0:=none_below d.gf hF0
  refine r _ _ _ _ _ (h.ext hbn (.cells ⟨cs++new++rest⟩ e (0,0))) ⟨base_upd d.g hG0 _,base_upd d.f hF0 _,d.gf,d.d.trans (dif_ext hF _),⟨by rw [List.length_append,hs,hk,Nat.add_mul],hle,.inr ⟨b,0,_,e,rfl,Heap.upd_same,?_,fun j v hv=>?_⟩⟩,fun b' hb'=>?_⟩
  ·simp only [List.size_toArray,List.length_append,hs,hk,hr]
   rw [←Nat.add_mul,←Nat.add_mul]
   have:q.n+k+(cap-(q.n+k))=cap:=by omega
   rw [this]; simp
  ·have hj:=get_lt hv
   simp only [List.getElem?_toArray,Nat.zero_add]
   rw [List.getElem?_append_left hj]; exact hv
  ·unfold SlH.blk at hb'; simp only at hb'; cases hb'
   exact hF0
theorem VMX.unside (h:VMX G H m pf po sl F ex st s) {q:SlH} {sz:Nat} {cs:List Value} (d:Side G0 F0 G F q sz cs):VMX G0 H m pf po sl F ex st s:=h.weaken d.g
theorem dif_more {F F' G:Heap} (h:Sub F F'):Sub (dif F G) (dif F' G):=⟨fun i o k=>by
 unfold dif at k ⊢
 split at k
 ·cases k
 ·rename_i e; rw [if_neg e]; exact h.sub i o k⟩
end
theorem _root_.Go.Ax.Sm.mono {P:Program} {s:Sem Value} {H:Heap} {K K':Value→Heap→Prop} (h:Sm P s H K) (k:∀v H',K v H'→K' v H'):Sm P s H K' :=
 ⟨fun w hw=>let ⟨v,H',w',a,b,c⟩:=h.run w hw; ⟨v,H',w',a,b,k v H' c⟩⟩
def entI (k v:Int) (n:Nat):MapEntry:={ key:=.int .i64 k,val:=.int .i64 v,born:=n }
theorem sm_updI {H : Heap} {b : Nat} {es : Array MapEntry} {cl : Nat} (hb : H b=some (.map es cl)) (k v : Int) (hn : ∀d, Instr.findNow (.int d) (.int .i64 k) es.toList 0=some none) :
  Sm Tryz.prog (updU (Instr.mapUpdate 224 (.map (some b)) (.int .i64 k) (.int .i64 v))) H (fun _ H'=>H'=H.upd b (.map (es.push (entI k v cl)) (cl+1))):=by
 refine ⟨fun w hw=>?_⟩
 have hu:Tryz.prog.underlying 224=some (.map 3 3):=by kernel_rfl
 have hi:Tryz.prog.underlying 3=some (.int .i64):=by kernel_rfl
 have hwb:=hw _ _ hb
 have hlt:=heap_lt hwb
 have hg:(getObj b).run Tryz.prog w=.ok (.map es cl) w:=MapKept.run_getObj_map hwb
 have put:∀(o:Obj),(setObj b o).run Tryz.prog w=.ok () { w with heap:=w.heap.setIfInBounds b o }:=fun o=>MapKept.run_setObj_map o hwb
 have hc:∀em,(Instr.checkKey em 10000 3 (.int .i64 k)).run Tryz.prog w=.ok () w:=fun em=>by cases em<;>kernel_rfl
 have hf:(Instr.findKey 3 (.int .i64 k) es.toList).run Tryz.prog w=.ok none w:=MapKept.run_findKey hi (hn _)
 refine ⟨undef,H.upd b (.map (es.push (entI k v cl)) (cl+1)),{ w with heap:=w.heap.setIfInBounds b (.map (es.push (entI k v cl)) (cl+1)) },?_,?_,rfl⟩
 ·unfold updU Instr.mapUpdate
  simp only [Sem.run_bind,run_underlying hu,Result.andThen_ok,hg,hc,hf]
  simp [put,entI]
 ·refine ⟨fun i o' e=>?_,fun i hi e=>?_,by simp,rfl,rfl,rfl⟩
  ·by_cases hi:i=b
   ·subst hi; rw [Heap.upd_same] at e; cases e; simp [hlt]
   ·rw [Heap.upd_other hi] at e
    have:=hw i o' e
    simp [Ne.symm hi,this]
  ·have hne:i≠b:=fun e'=>by subst e'; rw [hb] at e; cases e
   exact ⟨by simp [Ne.symm hne],by rw [Heap.upd_other hne]; exact e⟩
theorem sm_lookI {H : Heap} {b : Nat} {es : Array MapEntry} {cl : Nat} (hb : H b=some (.map es cl)) (k r : Int) (hn : ∀d, Instr.findNow (.int d) (.int .i64 k) es.toList 0=some none∧r=0∨∃i, Instr.findNow (.int d) (.int .i64 k) es.toList 0=some (some (i, .int .i64 r))) :
  Sm Tryz.prog (Instr.lookup 224 (.map (some b)) (.int .i64 k) false) H (fun v H'=>v=.int .i64 r∧H'=H):=by
 refine ⟨fun w hw=>?_⟩
 have hu:Tryz.prog.underlying 224=some (.map 3 3):=by kernel_rfl
 have hi:Tryz.prog.underlying 3=some (.int .i64):=by kernel_rfl
 have hz:(zeroValue 3).run Tryz.prog w=.ok (.int .i64 0) w:=by kernel_rfl
 have hc:∀em,(Instr.checkKey em 10000 3 (.int .i64 k)).run Tryz.prog w=.ok () w:=fun em=>by cases em<;>kernel_rfl
 have hg:(getObj b).run Tryz.prog w=.ok (.map es cl) w:=MapKept.run_getObj_map (hw _ _ hb)
 refine ⟨_,H,w,?_,Keeps.refl hw,rfl,rfl⟩
 unfold Instr.lookup
 simp only [Sem.run_bind,run_underlying hu,Result.andThen_ok,hg,Sem.run_pure,hc]
 rcases hn .i64 with ⟨h,rfl⟩|⟨i,h⟩
 ·rw [MapKept.run_findKey hi h]; simp [hz]
 ·rw [MapKept.run_findKey hi h]; simp
def undoEs:Array MapEntry:=((#[].push (entI 3 6 0)).push (entI 4 7 1)).push (entI 5 8 2)
theorem undo_find (k:Int) (d:IntKind):Instr.findNow (.int d) (.int .i64 k) undoEs.toList 0=some none∧undoK k=0∨∃i,Instr.findNow (.int d) (.int .i64 k) undoEs.toList 0=some (some (i,.int .i64 (undoK k))):=by
 have h:undoEs.toList=[entI 3 6 0,entI 4 7 1,entI 5 8 2]:=rfl
 rw [h]
 have s:∀j:Int,Instr.sameNow (.int d) (.int .i64 k) (.int .i64 j)=some (k==j):=fun _=>rfl
 unfold undoK
 by_cases h3:k=3
 ·right; subst h3; exact ⟨0,rfl⟩
 ·by_cases h4:k=4
  ·right; subst h4; exact ⟨1,rfl⟩
  ·by_cases h5:k=5
   ·right; subst h5; exact ⟨2,rfl⟩
   ·left
    have e3:(k==3)=false:=by simpa using h3
    have e4:(k==4)=false:=by simpa using h4
    have e5:(k==5)=false:=by simpa using h5
    refine ⟨?_,by rw [if_neg h3,if_neg h4,if_neg h5]⟩
    simp only [Instr.findNow,entI,s,e3,e4,e5]
theorem sm_undo {H : Heap} {b : Nat} (hb : H b=none) {H1 : Heap} (e : H1=H.upd b (.map #[] 0)) (k : Int) {K : Value→Heap→Prop} (q : ∀H', Sub H H'→K (.int .i64 (undoK k)) H') :
  Sm Tryz.prog (updU (Instr.mapUpdate 224 (.map (some b)) (.int .i64 3) (.int .i64 6))) H1 fun _ H'3 =>
  Sm Tryz.prog (updU (Instr.mapUpdate 224 (.map (some b)) (.int .i64 4) (.int .i64 7))) H'3 fun _ H'4 =>
  Sm Tryz.prog (updU (Instr.mapUpdate 224 (.map (some b)) (.int .i64 5) (.int .i64 8))) H'4 fun _ H'5 =>
  Sm Tryz.prog (Instr.lookup 224 (.map (some b)) (.int .i64 k) false) H'5 K:=by
 subst e
 refine (sm_updI Heap.upd_same 3 6 fun d=>rfl).mono fun _ H3 e3=>?_
 subst e3
 refine (sm_updI Heap.upd_same 4 7 fun d=>rfl).mono fun _ H4 e4=>?_
 subst e4
 refine (sm_updI Heap.upd_same 5 8 fun d=>rfl).mono fun _ H5 e5=>?_
 subst e5
 refine (sm_lookI (es:=undoEs) (cl:=3) Heap.upd_same k (undoK k) (undo_find k)).mono fun v H6 e6=>?_
 obtain ⟨e6,e7⟩:=e6
 subst e6; subst e7
 refine q _ ⟨fun i o h=>?_⟩
 have hne:i≠b:=fun e=>by subst e; rw [hb] at h; cases h
 rw [Heap.upd_other hne,Heap.upd_other hne,Heap.upd_other hne,Heap.upd_other hne]; exact h
def undoS (s:VS) (i:Nat) (f:Fut):VS:=if (f.kind != 5)=true then (s.emit (evM (undoK f.kind) f.event 0 0)).2.setDone i 0 3 else (s.emit (evM (undoK f.kind) f.event 0 0)).2
theorem undoK_cases (k:Int):undoK k=0∨(undoK k=6∧k=3)∨(undoK k=7∧k=4)∨(undoK k=8∧k=5):=by
 unfold undoK
 by_cases h3:k=3
 ·rw [if_pos h3]; exact .inr (.inl ⟨rfl,h3⟩)
 ·rw [if_neg h3]
  by_cases h4:k=4
  ·rw [if_pos h4]; exact .inr (.inr (.inl ⟨rfl,h4⟩))
  ·rw [if_neg h4]
   by_cases h5:k=5
   ·rw [if_pos h5]; exact .inr (.inr (.inr ⟨rfl,h5⟩))
   ·rw [if_neg h5]; exact .inl rfl
theorem undoK_cmd {k:Int} (h:undoK k≠0):cmdM (undoK k)=true∧closeM (undoK k)=false:=by
 rcases undoK_cases k with e|⟨e,-⟩|⟨e,-⟩|⟨e,-⟩
 ·exact absurd e h
 all_goals rw [e]; exact ⟨rfl,rfl⟩
theorem setDone_over (s:VS) (i v k:Int):(s.setDone i v k).over=s.over:=by
 rcases setDone_cases s i v k with e|⟨f,-,-,-,e⟩<;>rw [e]
theorem setDone_len (s:VS) (i v k:Int):(s.setDone i v k).futures.length=s.futures.length:=by
 rcases setDone_cases s i v k with e|⟨f,-,-,-,e⟩<;>rw [e]
 exact List.length_set
theorem undoS_len (s:VS) (i:Nat) (f:Fut):(undoS s i f).futures.length=s.futures.length:=by
 unfold undoS
 split
 ·rw [setDone_len,(keepE s _).futures]
 ·rw [(keepE s _).futures]
theorem undoS_over {s:VS} {i:Nat} {f:Fut} (ho:s.over=false) (hk:undoK f.kind≠0) (hok:(s.emit (evM (undoK f.kind) f.event 0 0)).1.2=true):(undoS s i f).over=false:=by
 have h:=goesE s _ hok
 have hc:closeM (evM (undoK f.kind) f.event 0 0).kind=false:=(undoK_cmd hk).2
 rw [hc,if_neg (by simp)] at h
 unfold undoS
 split
 ·rw [setDone_over,h]; exact ho
 ·rw [h]; exact ho
theorem undoK_plain {k:Int} (h:undoK k≠0):undoK k≠3∧undoK k≠4∧undoK k≠10∧undoK k≠11:=by
 rcases undoK_cases k with e|⟨e,-⟩|⟨e,-⟩|⟨e,-⟩
 ·exact absurd e h
 all_goals rw [e]; decide
theorem Cv.undo {s:VS} {i:Nat} {f:Fut} (hf:s.futures[i]?=some f) (ho:s.over=false) (hk:undoK f.kind≠0) (hok:(s.emit (evM (undoK f.kind) f.event 0 0)).1.2=true):Cv s ((s.emit (evM (undoK f.kind) f.event 0 0)).2.setDone i 0 3):=fun h c=>by
 have pl:=undoK_plain hk
 refine (Cv.emit ho pl.1 pl.2.1 pl.2.2.1 h c).done _ _ _ fun _ g hg=>?_
 have r:=rowE s (evM (undoK f.kind) f.event 0 0)
 have kp:=(keepE s (evM (undoK f.kind) f.event 0 0)).futures
 rw [kp] at hg
 have hg:s.futures[i]?=some g:=hg
 rw [hf] at hg; cases hg
 generalize s.emit (evM (undoK f.kind) f.event 0 0)=q at r hok
 cases r with
 | no ok ho hm=>rw [ok] at hok; cases hok
 | yes x ok hm hkx hid ha hb =>
  have ha:x.a=f.event:=ha pl.2.2.2
  have hkx:x.kind=undoK f.kind:=hkx
  have any:∀ks:List Int,ks.contains x.kind=true→anyP (h++q.2.made) f.event ks=true:=fun ks hks=>by
   unfold anyP
   rw [hm,←List.append_assoc,List.any_append,List.any_cons,hks,ha]
   simp
  refine ⟨fun z=>any _ ?_,fun z=>any _ ?_⟩
  ·rw [hkx,z]; rfl
  ·rw [hkx,z]; rfl
theorem undoS_steps {p:Prg} {b:Bool} {s:VS} (i:Nat) {f:Fut} (hf:s.futures[i]?=some f) (ho:s.over=false) (hk:undoK f.kind≠0) (hok:(s.emit (evM (undoK f.kind) f.event 0 0)).1.2=true):FSteps p b s (undoS s i f):=by
 have h:=FStep.emit (p:=p) (b:=b) s (evM (undoK f.kind) f.event 0 0) ho (undoK_cmd hk).1
 have pl:=undoK_plain hk
 unfold undoS
 split
 ·exact h.and (.done _ _ _ _) (Cv.undo hf ho hk hok)
 ·exact h.one (Cv.emit ho pl.1 pl.2.1 pl.2.2.1)
theorem undoAll_cons {i : Nat} {l : List Nat} {s : VS} {f : Fut} (hf : s.futures[i]?=some f) : undoAll (i::l) s=if (!s.cancelled f.scope)=true then undoAll l s else if undoK f.kind=0 then undoAll l s else
  if (!(s.emit (evM (undoK f.kind) f.event 0 0)).1.2)=true then (s.emit (evM (undoK f.kind) f.event 0 0)).2 else undoAll l (undoS s i f):=by
 rw [undoAll,hf]; rfl
theorem undoAll_steps {p:Prg} {b:Bool}:∀(l:List Nat) (s:VS),s.over=false→FSteps p b s (undoAll l s)
 | [],s,_=>.refl s
 | i::l,s,ho=>by
  cases hf:s.futures[i]? with
  | none=>rw [undoAll,hf]; exact undoAll_steps l s ho
  | some f =>
   rw [undoAll_cons hf]
   split
   ·exact undoAll_steps l s ho
   ·split
    ·exact undoAll_steps l s ho
    ·rename_i hk
     split
     ·exact (FStep.emit (p:=p) (b:=b) s (evM (undoK f.kind) f.event 0 0) ho (undoK_cmd hk).1).one (Cv.emit ho (undoK_plain hk).1 (undoK_plain hk).2.1 (undoK_plain hk).2.2.1)
     ·rename_i hok
      exact (undoS_steps i hf ho hk (by simpa using hok)).trans (undoAll_steps l _ (undoS_over ho hk (by simpa using hok)))
theorem mark_over (s:VS) (i:Int):(s.mark i).over=s.over:=by
 rcases mark_cases s i with e|⟨c,-,e⟩<;>rw [e]
theorem mark_futs (s:VS) (i:Int):(s.mark i).futures=s.futures:=by
 rcases mark_cases s i with e|⟨c,-,e⟩<;>rw [e]
theorem cancels_steps {p:Prg} {b:Bool} {s:VS} (i:Int) (ho:s.over=false):FSteps p b s (s.cancels i):=by
 unfold VS.cancels
 split
 ·split
  ·exact .refl s
  ·exact ((FStep.mark s i).one (Cv.mark s i)).trans (undoAll_steps _ _ (by rw [mark_over]; exact ho))
 ·exact .refl s
section
variable {G H:Heap} {m:Nat} {pf po:SlH} {sl:Nat→SlH} {F:Heap} {ex:Value} {st:List SlH} {s:VS}
theorem VMX.wrScp (h : VMX G H m pf po sl F ex st s) {i : Nat} {f g : Scp} (hf : s.scopes[i]?=some f) {a : Addr} (ha : (sl 2).A=some a) {j : Nat} (hj : j<2) {v : Value} (e : (scpC f).set j v=scpC g)
  {Q:Heap→Prop} (q:∀H',VMX G H' m pf po sl F ex st { s with scopes:=s.scopes.set i g }→Q H'):Wr H ((a.add (i*2)).add j) v Q:=by
 have hi:=get_lt hf
 have hcl:(contC sl st s 2).length=s.scopes.length*2:=flat_size (cells:=scpC) (sz:=2) (fun _=>rfl) _
 rw [add_add]
 refine h.put (c:=2) (by decide) ha (k:=i*2+j) (by rw [hcl]; omega) { s with scopes:=s.scopes.set i g } (flat_set (cells:=scpC) (sz:=2) (fun _=>rfl) s.scopes i f g j v hf hj e).symm (fun c' _ hne=>?_) rfl rfl rfl h.vars h.attrs h.sigs q
 unfold contC; rw [if_neg hne,if_neg hne]
def hitsTo (s:VS) (k:Nat):List Nat:=(List.range k).filter s.hitAt
theorem hitsTo_succ (s:VS) (k:Nat):hitsTo s (k+1)=hitsTo s k++if s.hitAt k=true then [k] else []:=by
 unfold hitsTo
 rw [List.range_succ,List.filter_append]
 congr 1
 rw [List.filter_cons]
 split<;>simp
def natC (l:List Nat):List Value:=intsC (l.map Int.ofNat)
structure RHit (G F:Heap) (m:Nat) (pf po:SlH) (sl:Nat→SlH) (ex:Value) (st:List SlH) (s:VS) (A:Option Addr) (n c:Nat) (x:Int) (H1:Heap):Prop where
 out:∃(k:Nat) (G1 F1:Heap),x=k∧k≤s.futures.length∧VMX G1 H1 m pf po sl F1 ex st s∧Side G F G1 F1 ⟨A,n,c⟩ 1 (natC (hitsTo s k))
structure RUndo (p:Prg) (G1 F1:Heap) (m:Nat) (pf po:SlH) (ex:Value) (st:List SlH) (l:List Nat) (s0:VS) (x:Int) (H1:Heap):Prop where
 out:∃(k:Nat) (sl:Nat→SlH) (s:VS),x=k∧k≤l.length∧VMX G1 H1 m pf po sl F1 ex st s∧Inv p s∧Room s∧s.over=false∧s.futures.length=s0.futures.length∧undoAll (l.drop k) s=undoAll l s0
theorem natC_at {H:Heap} {h:SlH} {l:List Nat} (k:SlOk H h 1 (natC l)) {i j:Nat} (hi:l[i]?=some j):∃a,h.A=some a∧At H (a.add (i*1)) [.int .i64 (j:Int)]:=by
 rcases k.src with e|⟨a,h5,hat⟩
 ·have:=congrArg List.length e
  unfold natC intsC at this
  simp at this
  subst this; cases hi
 ·refine ⟨a,h5,?_⟩
  rw [Nat.mul_one]
  exact at_one i hat (by unfold natC intsC; rw [List.getElem?_map,List.getElem?_map,hi]; rfl)
theorem t115 {p : Prg} (h : VMX G H m pf po sl F ex st s) (iv : Inv p s) (rm : Room s) (ho : s.over=false) (i : Int) (hi : 0≤i∧i<s.scopes.length) :
  Tr Tryz.prog 115 #[.pointer (some ⟨m,0,none⟩),.int .i64 i] H fun v H'=>v=.tuple #[]∧∃sl' F',Sub F F'∧VMX G H' m pf po sl' F' ex st (s.cancels i):=by
 have hl:=h.scpLen
 have hfl:=h.futLen
 have hmany:=iv.many
 have hc0:=iv.c0
 have hfu:=iv.fuel
 obtain ⟨c,hc⟩:=get_some (l:=s.scopes) (i:=i.toNat) (by omega)
 obtain ⟨a,ha,hat⟩:=h.scp hc
 have hdef:s.cancels i=if c.cancelled=true then s else undoAll s.hits (s.mark i):=by unfold VS.cancels; rw [hc]
 apply v115; unfold F115
 refine ⟨_,rfl,_,_,_,h.c25,a,⟨ha,hi.1,by omega⟩,c.cancelled,at_one 1 hat rfl,fun e=>⟨rfl,sl,F,Sub.refl _,by rw [hdef,if_pos e]; exact h⟩,fun e=>⟨_,rfl,_,_,_,h.c24,?_⟩⟩
 rw [if_neg (by rw [e]; simp)] at hdef
 rw [hdef]
 refine ⟨RHit G F m pf po sl ex st s,fun _ _ _ x _=>((s.futures.length:Int)-x).toNat,⟨0,G,F,rfl,Nat.zero_le _,h,Side.nil h.gf 1⟩,fun A2 n2 c2 x H1 r=>?_⟩
 obtain ⟨k,G1,F1,rfl,hk,h1,sd⟩:=r.out
 have hlen:=sd.sl.len
 have hle:(hitsTo s k).length≤k:=by
  unfold hitsTo; exact Nat.le_trans (List.length_filter_le _ _) (by rw [List.length_range]; exact Nat.le_refl _)
 simp only [natC,intsC,List.length_map,Nat.mul_one] at hlen
 refine ⟨fun hlt=>?_,fun hge=>?_⟩
 ·have hlt:(k:Int)<(sl 1).n:=of_decide_eq_true hlt
  obtain ⟨f,hf⟩:=get_some (l:=s.futures) (i:=k) (by omega)
  obtain ⟨a3,ha3,hat3⟩:=h1.fut hf
  have hw:IntKind.i64.wrap ((k:Int)+1)=((k+1:Nat):Int):=by rw [wrapi (by omega) (by omega)]; rfl
  have hsc:=iv.futs f (List.mem_of_getElem? hf)
  rw [hw]
  have hh:s.hitAt k=(!f.done&&!s.cancelled f.scope):=by unfold VS.hitAt; rw [hf]
  have dec:((s.futures.length:Int)-((k+1:Nat):Int)).toNat<((s.futures.length:Int)-(k:Int)).toNat:=by omega
  refine ⟨a3,⟨ha3,by omega,hlt⟩,_,_,_,_,_,_,hat3,s.cancelled f.scope,fun _=>t140 h1 iv.scp _ hsc.2.2,fun e2=>?_,fun e2=>⟨⟨k+1,G1,F1,rfl,by omega,h1,?_⟩,dec⟩⟩
  ·refine h1.side sd (new:=[.int .i64 (k:Int)]) (k:=1) rfl rfl (by show (n2+1)*8≤_; omega) (by show n2+1≤_; omega) fun A' c' G' F' H' h2 sd2=>⟨⟨k+1,G',F',rfl,by omega,h2,?_⟩,dec⟩
   have:natC (hitsTo s (k+1))=natC (hitsTo s k)++[.int .i64 (k:Int)]:=by
    rw [hitsTo_succ,if_pos (by rw [hh]; exact e2)]; unfold natC intsC; simp
   rw [this]; exact sd2
  ·have:hitsTo s (k+1)=hitsTo s k:=by rw [hitsTo_succ,if_neg (by rw [hh,e2]; simp),List.append_nil]
   rw [this]; exact sd
 ·have hge:¬(k:Int)<(sl 1).n:=of_decide_eq_false hge
  have hkl:k=s.futures.length:=by omega
  subst hkl
  have hhits:hitsTo s s.futures.length=s.hits:=rfl
  rw [hhits] at hlen sd hle
  obtain ⟨a5,ha5,hat5⟩:=h1.scp hc
  have hmk:s.mark i={ s with scopes:=s.scopes.set i.toNat { c with cancelled:=true } }:=by unfold VS.mark; rw [hc]
  refine ⟨_,rfl,_,_,_,h1.c25,a5,⟨ha5,hi.1,by omega⟩,?_⟩
  refine h1.wrScp (g:={ c with cancelled:=true }) hc ha5 (j:=1) (by decide) rfl fun H2 h2=>?_
  rw [←hmk] at h2
  have im:=(FStep.mark (p:=p) (b:=false) s i).inv iv rm
  have hol:=mark_over s i
  have hml:(s.mark i).futures.length=s.futures.length:=by rw [mark_futs]
  refine ⟨RUndo p G1 F1 m pf po ex st s.hits (s.mark i),fun x _=>((s.hits.length:Int)-x).toNat,⟨0,sl,s.mark i,rfl,Nat.zero_le _,h2,im.1,im.2,by rw [hol]; exact ho,rfl,rfl⟩,fun x H3 r3=>?_⟩
  obtain ⟨k,sl3,s3,rfl,hk3,h3,iv3,rm3,ho3,hl3,hu⟩:=r3.out
  have hn2:(n2:Int)=s.hits.length:=by omega
  refine ⟨fun hlt=>?_,fun hge=>?_⟩
  ·have hlt:(k:Int)<(n2:Int):=of_decide_eq_true hlt
   obtain ⟨j,hj⟩:=get_some (l:=s.hits) (i:=k) (by omega)
   have hjlt:j<s.futures.length:=by
    have:=List.mem_of_getElem? hj
    unfold VS.hits at this
    rw [List.mem_filter,List.mem_range] at this
    exact this.1
   obtain ⟨a6,ha6,hat6⟩:=natC_at (sd.sl.sub (h3.gf.trans h3.fh)) hj
   obtain ⟨f,hf⟩:=get_some (l:=s3.futures) (i:=j) (by omega)
   obtain ⟨a8,ha8,hat8⟩:=h3.fut (i:=j) hf
   have hsc:=iv3.futs f (List.mem_of_getElem? hf)
   have hw:IntKind.i64.wrap ((k:Int)+1)=((k+1:Nat):Int):=by rw [wrapi (by omega) (by omega)]; rfl
   have dec:((s.hits.length:Int)-((k+1:Nat):Int)).toNat<((s.hits.length:Int)-(k:Int)).toNat:=by omega
   have hdrop:s.hits.drop k=j::s.hits.drop (k+1):=(List.drop_eq_getElem_cons (get_lt hj)).trans (by rw [List.getElem?_eq_getElem (get_lt hj)] at hj; injection hj with hj; rw [hj])
   have hcons:=undoAll_cons (l:=s.hits.drop (k+1)) hf
   rw [←hdrop,hu] at hcons
   have hf3:=h3.futLen
   rw [hw]
   refine ⟨a6,⟨ha6,by omega,hlt⟩,(j:Int),hat6,_,rfl,_,_,_,h3.c24,a8,⟨ha8,by omega,by omega⟩,_,_,_,_,_,_,hat8,s3.cancelled f.scope,t140 h3 iv3.scp _ hsc.2.2,fun e2=>⟨⟨k+1,sl3,s3,rfl,by omega,h3,iv3,rm3,ho3,hl3,?_⟩,dec⟩,fun e2 b5 hb5 H11 e11=>?_⟩
   ·rw [hcons,if_pos e2]
   ·rw [if_neg (by rw [e2]; simp)] at hcons
    refine sm_undo hb5 e11 f.kind fun H6 sub6=>⟨_,rfl,fun e3=>⟨⟨k+1,sl3,s3,rfl,by omega,h3.grow sub6,iv3,rm3,ho3,hl3,?_⟩,dec⟩,fun e3=>?_⟩
    ·rw [hcons,if_pos (by simpa using e3)]
    ·have hk0:undoK f.kind≠0:=by simpa using e3
     rw [if_neg hk0] at hcons
     have hm3:=iv3.made
     have hc3:=iv3.c0
     refine (t141 (h3.grow sub6) (evM (undoK f.kind) f.event 0 0) hc3.1 (by omega) (by omega)).mono fun v H7 ⟨hv,sl7,h7⟩=>⟨_,_,hv,fun e4=>⟨rfl,sl7,F1,sd.f,?_⟩,fun e4=>?_⟩
     ·rw [hcons,if_pos e4]
      exact h7.unside sd
     ·rw [if_neg (by rw [e4]; simp)] at hcons
      have hok:(s3.emit (evM (undoK f.kind) f.event 0 0)).1.2=true:=by simpa using e4
      have iv4:=(undoS_steps (p:=p) (b:=false) j hf ho3 hk0 hok).inv iv3 rm3
      have ho4:=undoS_over (i:=j) ho3 hk0 hok
      have hl4:=undoS_len s3 j f
      refine ⟨fun e5=>?_,fun e5=>⟨⟨k+1,sl7,undoS s3 j f,rfl,by omega,?_,iv4.1,iv4.2,ho4,by omega,hcons.symm⟩,dec⟩⟩
      ·refine (t110 h7 (j:Int) 0 3 (by rw [(keepE s3 _).futures]; omega)).mono fun v H8 ⟨hv8,h8⟩=>⟨hv8,⟨k+1,sl7,undoS s3 j f,rfl,by omega,?_,iv4.1,iv4.2,ho4,by omega,hcons.symm⟩,dec⟩
       unfold undoS; rw [if_pos e5]; exact h8
      ·unfold undoS; rw [if_neg (by rw [e5]; simp)]; exact h7
  ·have hge:¬(k:Int)<(n2:Int):=of_decide_eq_false hge
   have:s.hits.drop k=[]:=List.drop_eq_nil_of_le (by omega)
   rw [this] at hu
   exact ⟨rfl,sl3,F1,sd.f,by rw [←hu]; exact h3.unside sd⟩
end
structure RnOk (p:Prg) (r:Rn):Prop where
 inv:Inv p r.s
 room:Room r.s
 ho:r.s.over=false
 thr:ThrOk p r.s r.t
theorem take_t (r:Rn):r.take.2.t={ r.t with stack:=r.t.stack.dropLast }:=by
 unfold Rn.take
 cases h:r.t.stack.getLast? with
 | none =>
  have:r.t.stack=[]:=List.getLast?_eq_none_iff.1 h
  show r.t=_
  rw [this]
  show r.t={ r.t with stack:=[] }
  rw [←this]
 | some v=>rfl
theorem ThrOk.stk {p:Prg} {s:VS} {t:Thr} (h:ThrOk p s t) {l:List Int} (hl:l.length≤32):ThrOk p s { t with stack:=l } :=
 ⟨h.fn,h.f0,h.pc0,hl,h.scope,h.future,h.update,h.waits,h.signal⟩
theorem RnOk.take {p:Prg} {r:Rn} (h:RnOk p r):RnOk p r.take.2:=by
 have hs:=take_s r
 refine ⟨by rw [hs]; exact h.inv,by rw [hs]; exact h.room,by rw [hs]; exact h.ho,?_⟩
 rw [hs,take_t]
 exact h.thr.stk (by rw [List.length_dropLast]; have:=h.thr.stack; omega)
theorem RnOk.cmd {p:Prg} {r:Rn} (h:RnOk p r):CmdOk r:=by
 have h1:=h.inv.c0
 have h2:=h.inv.made
 have h3:=h.inv.many
 have h4:=h.inv.fuel
 exact ⟨by have:=h.thr.stack; omega,h.inv.scp,h.thr.scope.2,h1.1,by omega,by omega,by omega⟩
section
variable {p:Prg} {G0 H0 G H:Heap} {m rb tb:Nat} {q:SlH} {pf po:SlH} {sl:Nat→SlH} {F:Heap} {ex:Value} {st:List SlH} {r:Rn}
theorem RX.setVsF (h:RX p G0 H0 G H m rb tb q pf po sl F ex st r) {H' F':Heap} {sl':Nat→SlH} {st':List SlH} {s':VS} (v:VMX G H' m pf po sl' F' ex st' s') (k:Sub F F'):RX p G0 G0 G H' m rb tb q pf po sl' F' ex st' (r.vs s') :=
 ⟨v,h.pr.sub (dif_more k),h.base,h.base.trans (v.gf.trans v.fh),Sub.refl _,h.gr,h.gt,none_below h.g0h h.r0,none_below h.g0h h.t0,h.ne,h.sq,fun b hb=>⟨none_below h.g0h (h.oq b hb).1,(h.oq b hb).2⟩⟩
theorem RX.four (h : RX p G0 H0 G H m rb tb q pf po sl F ex st r) {L : Option Addr→Nat→Nat→Prop} {App : Int→Option Addr→Nat→Nat→Prop} (k : ∃A n c, L A n c∧App r.t.scope A n c) :
  ∃a9:Addr,some (⟨rb,0,none⟩:Addr)=some a9∧(∃(A:Option Addr) (n c:Nat),L A n c∧∃v:Option Addr,At H (a9.add 1) [.pointer v]∧∃a10:Addr,v=some a10∧∃x:Int,At H (a10.add 2) [.int .i64 x]∧App x A n c) ∧
   ∃v6:Option Addr,At H (a9.add 1) [.pointer v6]∧∃a12:Addr,v6=some a12∧(∃(A:Option Addr) (n c:Nat),L A n c∧∃x:Int,At H (a12.add 2) [.int .i64 x]∧App x A n c) ∧
    ∃x4:Int,At H (a12.add 2) [.int .i64 x4]∧(∃(A:Option Addr) (n c:Nat),L A n c∧App x4 A n c)∧∃(A:Option Addr) (n c:Nat),L A n c∧App x4 A n c:=by
 obtain ⟨A,n,c,k1,k2⟩:=k
 exact ⟨_,rfl,⟨A,n,c,k1,_,h.r1,_,rfl,_,h.t2,k2⟩,_,h.r1,_,rfl,⟨A,n,c,k1,_,h.t2,k2⟩,_,h.t2,⟨A,n,c,k1,k2⟩,A,n,c,k1,k2⟩
theorem t189 (h : RX p G0 H0 G H m rb tb q pf po sl F ex st r) (ok : RnOk p r) (op a : Int) :
    Tr Tryz.prog 189 #[.pointer (some ⟨rb,0,none⟩),.agg #[.int .i64 op,.int .i64 a]] H fun v H'=>v=.tuple #[]∧RZ p G0 m rb tb pf po ex (r.threads op a) H':=by
  have nf:∀{k:Int},(op==k)=false→¬op=k:=fun e e2=>by subst e2; simp at e
  have yf:∀{k:Int},(op==k)=true→op=k:=fun e=>by simpa using e
  have cm:=ok.cmd
  have hst:=ok.thr.stack
  have hs:=take_s r
  have hb2:=take_len r
  have ht16:=ok.inv.t16
  have hsc32:=ok.inv.sc32
  have hfu:=cm.futs
  have hstack:=cm.stack
  apply v189; unfold F189
  refine ⟨_,rfl,_,h.r0_,fun e27=>?_,fun e27=>⟨fun e29=>?_,fun e29=>⟨fun e30=>?_,fun e30=>⟨fun e31=>?_,fun e31=>?_⟩⟩⟩⟩
  · have hdef : r.threads op a = (if r.take.2.fault = true then r.take.2 else
       if decide ((r.s.threads.length:Int)≥16)=true then r.take.2.vs (r.s.fails (-3)) else
       (r.take.2.leave [(r.s.futures.length:Int)]).vs ((r.s.fut ⟨0,0,r.t.scope,false,0,0⟩).thread (Thr.new a r.t.scope r.take.1 (r.s.futures.length:Int) 0))):=by
      unfold Rn.threads; rw [if_pos (yf e27)]
    refine h.takes (by omega) fun G1 F1 q1 H1 h1=>⟨_,rfl,_,rfl,_,h1.r2,fun e1=>⟨rfl,?_⟩,fun e1=>⟨_,rfl,_,_,_,h1.vm.c23,fun e2=>?_,fun e2=>⟨_,rfl,_,_,_,h1.vm.c24,_,rfl,?_⟩⟩⟩
    · rw [hdef,if_pos e1]; exact h1.z
    · rw [h1.vm.thrLen,hs] at e2
      refine (t142 h1.vm (-3) (by rw [hs]; exact cm.c0) (by rw [hs]; exact cm.c1) (by rw [hs]; exact cm.made)).mono fun v H2 ⟨hv,sl2,v2⟩=>⟨hv,rfl,?_⟩
      rw [hdef,if_neg (by rw [e1]; simp),if_pos e2]
      rw [hs] at v2
      exact (h1.setVs v2).z
    · rw [h1.vm.thrLen,hs] at e2
      rw [h1.vm.futLen,hs]
      rw [if_neg (by rw [e1]; simp),if_neg (by rw [e2]; simp)] at hdef
      refine h1.four ?_
      refine h1.vm.addFut ⟨0,0,r.take.2.t.scope,false,0,0⟩ (by rw [hs]; exact hfu) fun H2 sl2 v2=>?_
      rw [hs] at v2
      have h2:=h1.setVs v2
      refine ⟨_,rfl,h2.four ?_⟩
      have hsc:=take_scope r
      refine h2.vm.addThr (Thr.new a r.take.2.t.scope r.take.1 (r.s.futures.length:Int) 0) rfl (by decide) (by show r.s.threads.length≤1000; omega) fun H3 sl3 v3=>?_
      intro b hb H4 e4
      have h3:=h2.setVs v3
      refine h3.leaves [(r.s.futures.length:Int)] (by show r.take.2.t.stack.length+1≤_; omega) hb e4 fun G' F' q' H' h'=>⟨rfl,?_⟩
      rw [hdef]
      have:=h'.z
      rw [hsc] at this
      exact this
  · have hdef : r.threads op a = (if ((r.t.stack.length : Int) == 32) = true then r.fail else
       if decide ((r.s.scopes.length:Int)≥32)=true then r.vs (r.s.fails (-3)) else
       (r.leave [(r.s.scopes.length:Int)]).vs { r.s with scopes:=r.s.scopes++[⟨r.t.scope,false⟩] }):=by
      unfold Rn.threads; rw [if_neg (nf e27),if_pos (yf e29)]
    refine ⟨_,rfl,_,h.r1,_,rfl,_,_,_,h.t3,fun e1=>⟨_,rfl,?_⟩,fun e1=>⟨_,rfl,_,_,_,h.vm.c25,fun e2=>?_,fun e2=>⟨_,rfl,_,_,_,h.vm.c25,fun b hb H1 eh=>?_⟩⟩⟩
    · rw [h.len] at e1
      refine h.setF (b:=true) fun G' F' H' h'=>⟨rfl,?_⟩
      rw [hdef,if_pos e1]; exact h'.z
    · rw [h.len] at e1
      rw [h.vm.scpLen] at e2
      refine (t142 h.vm (-3) cm.c0 cm.c1 cm.made).mono fun v H2 ⟨hv,sl2,v2⟩=>⟨hv,rfl,?_⟩
      rw [hdef,if_neg (by rw [e1]; simp),if_pos e2]
      exact (h.setVs v2).z
    · rw [h.len] at e1
      rw [h.vm.scpLen] at e2 eh
      rw [if_neg (by rw [e1]; simp),if_neg (by rw [e2]; simp)] at hdef
      refine h.leaves [(r.s.scopes.length:Int)] (by simp; omega) hb eh fun G1 F1 q1 H2 h1=>⟨_,rfl,h1.four ?_⟩
      refine h1.vm.addScp ⟨r.t.scope,false⟩ (by decide) (by show r.s.scopes.length≤1000; omega) fun H3 sl3 v3=>⟨rfl,?_⟩
      rw [hdef]; exact (h1.setVs v3).z
  · have hdef : r.threads op a = (if r.scope.2.fault = true then r.scope.2 else { r.scope.2 with t := { r.scope.2.t with scope := r.scope.1 } }) := by
      unfold Rn.threads; rw [if_neg (nf e27),if_neg (nf e29),if_pos (yf e30)]
    rw [hdef]
    refine (t195 h (by omega)).mono fun v H1 ⟨hv,G1,F1,q1,h1⟩=>⟨_,hv,_,rfl,_,h1.r2,fun e1=>⟨_,rfl,_,h1.r1,_,rfl,?_⟩,fun e1=>⟨rfl,?_⟩⟩
    · have e1:r.scope.2.fault=false:=by simpa using e1
      rw [if_neg (by rw [e1]; simp)]
      exact h1.setT (i:=2) (by decide) { r.scope.2.t with scope:=r.scope.1 } q1 rfl h1.sq h1.oq fun G' F' H' h'=>⟨rfl,h'.z⟩
    · have e1:r.scope.2.fault=true:=by simpa using e1
      rw [if_pos e1]; exact h1.z
  · have hdef : r.threads op a = (if r.scope.2.fault = true then r.scope.2 else r.scope.2.vs (r.s.cancels r.scope.1)) := by
      unfold Rn.threads; rw [if_neg (nf e27),if_neg (nf e29),if_neg (nf e30),if_pos (yf e31)]
    rw [hdef]
    refine (t195 h (by omega)).mono fun v H1 ⟨hv,G1,F1,q1,h1⟩=>⟨_,hv,_,rfl,_,h1.r2,fun e1=>?_,fun e1=>⟨rfl,?_⟩⟩
    · have e1:r.scope.2.fault=false:=by simpa using e1
      rw [if_neg (by rw [e1]; simp)]
      have hss:r.scope.2.s=r.s:=by unfold Rn.scope; split<;>exact hs
      have hb:0≤r.scope.1∧r.scope.1<r.s.scopes.length:=by
        unfold Rn.scope at e1 ⊢
        simp only at e1 ⊢
        split at e1
        · cases e1
        · rename_i hx
          simp at hx
          rw [hs] at hx
          omega
      have v1:=h1.vm
      rw [hss] at v1
      refine (t115 v1 ok.inv ok.room ok.ho r.scope.1 hb).mono fun v H2 ⟨hv2,sl2,F2,k2,v2⟩=>⟨hv2,rfl,(h1.setVsF v2 k2).z⟩
    · have e1:r.scope.2.fault=true:=by simpa using e1
      rw [if_pos e1]; exact h1.z
  · have hdef : r.threads op a = r.leave [truthM (r.s.cancelled r.t.scope)] := by
      unfold Rn.threads; rw [if_neg (nf e27),if_neg (nf e29),if_neg (nf e30),if_neg (nf e31)]
    rw [hdef]
    refine ⟨_,rfl,_,h.r1,_,rfl,_,h.t2,_,t140 h.vm ok.inv.scp _ ok.thr.scope.2,_,t175 _ _,fun b hb H1 eh=>?_⟩
    exact h.leaves [truthM (r.s.cancelled r.t.scope)] (by simp; omega) hb eh fun G' F' q' H' h'=>⟨rfl,h'.z⟩
end
structure OpOk (p:Prg) (op a:Int):Prop where
 o15:op=15→0≤a∧a<16
 o16:op=16→0≤a∧a<16
 o20:op=20→0≤a∧a<8
 o22:op=22→0≤a∧a<8
 o25:op=25→0≤a∧a<8
 o26:op=26→0≤a∧a<8
 o27:op=27→∃f,p.funcs[a.toNat]?=some f∧0≤a∧0<f.ops.length∧f.kind=1
 o33:op=33→0≤a∧a<4
 o34:op=34→0≤a∧a<8
theorem scope_pc (r:Rn):r.scope.2.t.pc=r.t.pc:=by
 unfold Rn.scope; split<;>exact take_pc r
theorem threads_pc (r:Rn) (op a:Int):(r.threads op a).t.pc=r.t.pc:=by
 have c:∀{P:Prop} [Decidable P] {x y:Rn},x.t.pc=r.t.pc→y.t.pc=r.t.pc→(if P then x else y).t.pc=r.t.pc:=fun h1 h2=>by split; exact h1; exact h2
 unfold Rn.threads
 exact c (c (take_pc r) (c (take_pc r) (take_pc r))) (c (c rfl (c rfl rfl)) (c (c (scope_pc r) (scope_pc r)) (c (c (scope_pc r) (scope_pc r)) rfl)))
theorem opens_pc (r:Rn) (e:Ev):(r.opens e).t.pc=r.t.pc:=by
 unfold Rn.opens; split
 ·rfl
 ·split<;>rfl
theorem asked_pc (r:Rn) (d:Nat):(r.asked d).2.t.pc=r.t.pc:=by
 rcases asked_cases r d with e|⟨v,e,-⟩<;>rw [e]
theorem told_pc (r:Rn) (op:Int):(r.told op).2.t.pc=r.t.pc:=by
 unfold Rn.told
 split
 ·split
  ·split
   ·exact asked_pc r 1
   ·rfl
  ·exact asked_pc r 1
 ·rfl
theorem command_pc (r:Rn) (op a ev v:Int):(r.command op a ev v).t.pc=r.t.pc:=by
 have c:∀{P:Prop} [Decidable P] {x y:Rn},x.t.pc=r.t.pc→y.t.pc=r.t.pc→(if P then x else y).t.pc=r.t.pc:=fun h1 h2=>by split; exact h1; exact h2
 unfold Rn.command
 exact c rfl (c (opens_pc r _) (c (opens_pc r _) (c (opens_pc r _) (c (c rfl rfl) (c (take_pc r) rfl)))))
theorem commands_pc (r:Rn) (op a:Int):(r.commands op a).t.pc=r.t.pc:=by
 have c:∀{P:Prop} [Decidable P] {x y:Rn},x.t.pc=r.t.pc→y.t.pc=r.t.pc→(if P then x else y).t.pc=r.t.pc:=fun h1 h2=>by split; exact h1; exact h2
 unfold Rn.commands
 exact c (c rfl (c rfl rfl)) (c (told_pc r op) (c (take_pc r) ((command_pc _ _ _ _ _).trans (take_pc r))))
section
variable {p:Prg} {G0 H0 G H:Heap} {m rb tb:Nat} {q:SlH} {pf po:SlH} {sl:Nat→SlH} {F:Heap} {ex:Value} {st:List SlH} {r:Rn}
def IncP (rb:Nat) (H:Heap) (Q:Heap→Prop):Prop :=
 ∃a:Addr,some (⟨rb,0,none⟩:Addr)=some a∧∃v:Option Addr,At H (a.add 1) [.pointer v]∧∃b:Addr,v=some b∧∃x:Int,At H (b.add 1) [.int .i64 x]∧∃c:Addr,v=some c∧Wr H (c.add 1) (.int .i64 (IntKind.i64.wrap (x+1))) Q
theorem RZ.inc (z:RZ p G0 m rb tb pf po ex r H) (hpc:0≤r.t.pc∧r.t.pc≤1000) {Q:Heap→Prop} (k:∀H',RZ p G0 m rb tb pf po ex (r.pc (r.t.pc+1)) H'→Q H'):IncP rb H Q:=by
 obtain ⟨G,F,q,sl,st,h⟩:=z.out
 have hw:IntKind.i64.wrap (r.t.pc+1)=r.t.pc+1:=wrapi (by omega) (by omega)
 refine ⟨_,rfl,_,h.r1,_,rfl,r.t.pc,h.t1,_,rfl,?_⟩
 rw [hw]
 exact h.setPc fun G' F' H' h'=>k H' h'.z
theorem t168 (h : RX p G0 H0 G H m rb tb q pf po sl F ex st r) (ok : RnOk p r) (hpc : r.t.pc≤1000) (op a : Int) (oo : OpOk p op a) :
  Tr Tryz.prog 168 #[.pointer (some ⟨rb,0,none⟩),.agg #[.int .i64 op,.int .i64 a]] H fun v H'=>v=.int .i64 (r.does op a).1∧RZ p G0 m rb tb pf po ex (r.does op a).2 H':=by
 have cm:=ok.cmd
 have hst:=ok.thr.stack
 have hpc0:=ok.thr.pc0
 have nf:∀{k:Int},(op==k)=false→¬op=k:=fun e e2=>by subst e2; simp at e
 have yf:∀{k:Int},(op==k)=true→op=k:=fun e=>by simpa using e
 have thr : (op==27||op==29||op==30||op==31||op==32)=true→op≠23→op≠24→op≠25→op≠36→op≠37→op≠35→op≠28 →
   Tr Tryz.prog 189 #[.pointer (some ⟨rb,0,none⟩),.agg #[.int .i64 op,.int .i64 a]] H fun v H'=>v=.tuple #[]∧IncP rb H' fun H''=>Value.int .i64 0=.int .i64 (r.does op a).1∧RZ p G0 m rb tb pf po ex (r.does op a).2 H'':=by
  intro e n23 n24 n25 n36 n37 n35 n28
  have hd:r.does op a=(0,(r.threads op a).pc ((r.threads op a).t.pc+1)):=by
   unfold Rn.does
   rw [if_neg (by simp [n23,n24]),if_neg n25,if_neg (by simp [n36,n37,n35]),if_neg n28,if_pos e]
  rw [hd]
  have hpcT:=threads_pc r op a
  refine (t189 h ok op a).mono fun v H1 ⟨hv,z⟩=>⟨hv,z.inc (by rw [hpcT]; exact ⟨hpc0,hpc⟩) fun H' z'=>⟨rfl,z'⟩⟩
 apply v168; unfold F168
 refine ⟨_,rfl,_,h.r0_,fun e23=>?_,fun e23=>⟨fun e24=>?_,fun e24=>⟨fun e25=>?_,fun e25=>⟨fun e36=>?_,fun e36=>⟨fun e37=>?_,fun e37=>⟨fun e35=>?_,fun e35=>⟨fun e28=>?_,fun e28=>⟨fun e27=>?_,fun e27=>⟨fun e29=>?_,fun e29=>⟨fun e30=>?_,fun e30=>⟨fun e31=>?_,fun e31=>⟨fun e32=>?_,fun e32=>?_⟩⟩⟩⟩⟩⟩⟩⟩⟩⟩⟩⟩
 ·have hd:r.does op a=r.awaits op:=by unfold Rn.does; rw [if_pos (by rw [e23]; rfl)]
  rw [hd]
  exact (t187 h (by omega) ⟨hpc0,hpc⟩ op a).mono fun v H1 ⟨hv,z⟩=>⟨_,hv,rfl,z⟩
 ·have hd:r.does op a=r.awaits op:=by unfold Rn.does; rw [if_pos (by rw [e24]; simp)]
  rw [hd]
  exact (t187 h (by omega) ⟨hpc0,hpc⟩ op a).mono fun v H1 ⟨hv,z⟩=>⟨_,hv,rfl,z⟩
 ·have hd:r.does op a=r.waitS a:=by unfold Rn.does; rw [if_neg (by rw [e23,e24]; simp),if_pos (yf e25)]
  rw [hd]
  exact ⟨_,rfl,h.waits (by omega) ⟨hpc0,hpc⟩ (oo.o25 (yf e25)) (K:=fun v H'=>v=.int .i64 (r.waitS a).1∧RZ p G0 m rb tb pf po ex (r.waitS a).2 H') fun H' z=>⟨rfl,z⟩⟩
 ·have hd:r.does op a=r.ends op:=by unfold Rn.does; rw [if_neg (by rw [e23,e24]; simp),if_neg (nf e25),if_pos (by rw [e36]; rfl)]
  rw [hd]
  exact (t188 h (by omega) ok.inv.scp ok.inv.scn ok.thr.future.2 cm.c0 cm.c1 cm.made op a).mono fun v H1 ⟨hv,z⟩=>⟨_,hv,rfl,z⟩
 ·have hd:r.does op a=r.ends op:=by unfold Rn.does; rw [if_neg (by rw [e23,e24]; simp),if_neg (nf e25),if_pos (by rw [e37]; simp)]
  rw [hd]
  exact (t188 h (by omega) ok.inv.scp ok.inv.scn ok.thr.future.2 cm.c0 cm.c1 cm.made op a).mono fun v H1 ⟨hv,z⟩=>⟨_,hv,rfl,z⟩
 ·have hd:r.does op a=r.ends op:=by unfold Rn.does; rw [if_neg (by rw [e23,e24]; simp),if_neg (nf e25),if_pos (by rw [e35]; simp)]
  rw [hd]
  exact (t188 h (by omega) ok.inv.scp ok.inv.scn ok.thr.future.2 cm.c0 cm.c1 cm.made op a).mono fun v H1 ⟨hv,z⟩=>⟨_,hv,rfl,z⟩
 ·have hd:r.does op a=(1,r.pc (r.t.pc+1)):=by unfold Rn.does; rw [if_neg (by rw [e23,e24]; simp),if_neg (nf e25),if_neg (by rw [e36,e37,e35]; simp),if_pos (yf e28)]
  rw [hd]
  exact h.z.inc ⟨hpc0,hpc⟩ (Q:=fun H'=>Value.int .i64 1=.int .i64 1∧RZ p G0 m rb tb pf po ex (r.pc (r.t.pc+1)) H') fun H' z=>⟨rfl,z⟩
 ·exact thr (by rw [e27]; rfl) (nf e23) (nf e24) (nf e25) (nf e36) (nf e37) (nf e35) (nf e28)
 ·exact thr (by rw [e29]; simp) (nf e23) (nf e24) (nf e25) (nf e36) (nf e37) (nf e35) (nf e28)
 ·exact thr (by rw [e30]; simp) (nf e23) (nf e24) (nf e25) (nf e36) (nf e37) (nf e35) (nf e28)
 ·exact thr (by rw [e31]; simp) (nf e23) (nf e24) (nf e25) (nf e36) (nf e37) (nf e35) (nf e28)
 ·exact thr (by rw [e32]; simp) (nf e23) (nf e24) (nf e25) (nf e36) (nf e37) (nf e35) (nf e28)
 ·have hd : r.does op a=(0, (r.commands op a).pc ((r.commands op a).t.pc+1)) := by
   unfold Rn.does
   rw [if_neg (by rw [e23,e24]; simp),if_neg (nf e25),if_neg (by rw [e36,e37,e35]; simp),if_neg (nf e28),if_neg (by rw [e27,e29,e30,e31,e32]; simp)]
  rw [hd]
  have hpcT:=commands_pc r op a
  exact (t190 h cm (fun i f hf=>(ok.inv.futs f (List.mem_of_getElem? hf)).1) op a oo.o16 oo.o33).mono fun v H1 ⟨hv,z⟩=>⟨hv,z.inc (by rw [hpcT]; exact ⟨hpc0,hpc⟩) (Q:=fun H'=>Value.int .i64 0=.int .i64 0∧RZ p G0 m rb tb pf po ex ((r.commands op a).pc ((r.commands op a).t.pc+1)) H') fun H' z'=>⟨rfl,z'⟩⟩
end
theorem opOk {p:Prg} (ok:Okp p) {i k:Nat} {f:Fnc} {c a:Int} (hf:p.funcs[i]?=some f) (ho:f.ops[k]?=some (c,a)):OpOk p c a:=by
 have hr:=right_facts (ok.right i f k c a hf ho)
 have n3:=ok.n3
 refine ⟨fun e=>?_,fun e=>?_,fun e=>?_,fun e=>?_,fun e=>?_,fun e=>?_,fun e=>?_,fun e=>?_,fun e=>?_⟩
 ·subst e; exact hr.most rfl 16 rfl
 ·subst e; exact hr.most rfl 16 rfl
 ·subst e; have:=hr.most rfl p.opts.length rfl; omega
 ·subst e; exact hr.most rfl 8 rfl
 ·subst e; exact hr.most rfl 8 rfl
 ·subst e; exact hr.most rfl 8 rfl
 ·subst e
  have h1:=hr.most rfl p.funcs.length rfl
  have h2:=hr.go rfl
  obtain ⟨g,hg⟩:=get_some (l:=p.funcs) (i:=a.toNat) (by omega)
  refine ⟨g,hg,h1.1,by have:=(ok.len hg).1; omega,?_⟩
  unfold Prg.kindAt at h2; rw [hg] at h2; exact h2
 ·subst e; exact hr.most rfl 4 rfl
 ·subst e; exact hr.most rfl 8 rfl
theorem next_of {p:Prg} {i k:Nat} {f:Fnc} {c a:Int} (hr:Right p i f k c a) (h13:c≠13) (h35:c≠35) (h36:c≠36) (h37:c≠37):(k:Int)+1<f.ops.length:=by
 rcases hr.last with h|h|h|h|h
 ·omega
 ·exact absurd h h13
 ·exact absurd h h35
 ·exact absurd h h36
 ·exact absurd h h37
theorem ThrOk.at_ {p:Prg} {s:VS} {t:Thr} (h:ThrOk p s t) {n:Int} (h0:0≤n) (h1:∃f,p.funcs[t.func.toNat]?=some f∧n<f.ops.length):ThrOk p s { t with pc:=n } :=
 ⟨h1,h.f0,h0,h.stack,h.scope,h.future,h.update,h.waits,h.signal⟩
structure RnIn (p:Prg) (r:Rn):Prop extends RnOk p r where
 own:∃t∈r.s.threads,t.future=r.t.future
 slack:(r.s.futures.length:Int)+r.s.fuel+1≤1000*r.s.count
structure After (p:Prg) (r r':Rn):Prop where
 steps:FSteps p false r.s r'.s
 fault:r'.fault=true→r'.s.over=false
 thr:r'.fault=false→ThrOk p r'.s r'.t
theorem RnIn.take {p:Prg} {r:Rn} (h:RnIn p r):RnIn p r.take.2:=⟨h.toRnOk.take,by rw [take_s,take_t]; exact h.own,by rw [take_s]; exact h.slack⟩
theorem RnIn.self {p:Prg} {r r':Rn} (h:RnIn p r) (e:r'.s=r.s) (ht:r'.fault=false→ThrOk p r.s r'.t):After p r r' :=
 ⟨by rw [e]; exact .refl _,fun _=>by rw [e]; exact h.ho,fun f=>by rw [e]; exact ht f⟩
theorem After.from {p:Prg} {r r1 r':Rn} (h:After p r1 r') (e:r1.s=r.s):After p r r':=⟨by rw [←e]; exact h.steps,h.fault,h.thr⟩
theorem FSteps.len {p:Prg} {b:Bool} {s s':VS} (q:FSteps p b s s'):s.scopes.length≤s'.scopes.length∧s.futures.length≤s'.futures.length:=by
 have e:=q.ext
 refine ⟨?_,?_⟩
 ·rcases Nat.eq_zero_or_pos s.scopes.length with h|h
  ·omega
  ·obtain ⟨c,hc⟩:=get_some (l:=s.scopes) (i:=s.scopes.length-1) (by omega)
   obtain ⟨c',hc',-⟩:=e.scps _ _ hc
   have:=get_lt hc'; omega
 ·rcases Nat.eq_zero_or_pos s.futures.length with h|h
  ·omega
  ·obtain ⟨c,hc⟩:=get_some (l:=s.futures) (i:=s.futures.length-1) (by omega)
   obtain ⟨c',hc',-⟩:=e.futs _ _ hc
   have:=get_lt hc'; omega
theorem After.vs {p:Prg} {r r':Rn} {s':VS} (st:FSteps p false r.s s') (hf:r'.fault=true→s'.over=false) (ht:r'.fault=false→ThrOk p r.s r'.t) (e:r'.s=s'):After p r r' :=
 ⟨by rw [e]; exact st,fun f=>by rw [e]; exact hf f,fun f=>by rw [e]; exact (ht f).mono st.len.1 st.len.2⟩
theorem leave_thr {p:Prg} {r:Rn} (h:ThrOk p r.s r.t) (l:List Int) (hf:(r.leave l).fault=false):ThrOk p r.s (r.leave l).t:=h.stk (leave_ok r l hf)
theorem take_nofault {r:Rn} (h:r.fault=false):r.take.2.fault=r.t.stack.isEmpty:=by
 unfold Rn.take
 cases hs:r.t.stack.getLast? with
 | none=>rw [List.getLast?_eq_none_iff.1 hs]; rfl
 | some v =>
  cases hl:r.t.stack with
  | nil=>rw [hl] at hs; cases hs
  | cons x l=>exact h
theorem keepE_canc {s s':VS} (h:s'.scopes=s.scopes) (i:Int):s'.cancelled i=s.cancelled i:=by
 have:∀(n:Nat) (i:Int),s'.cancG n i=s.cancG n i:=by
  intro n
  induction n with
  | zero=>intro i; rfl
  | succ n ih=>intro i; unfold VS.cancG; rw [h]; simp only [ih]
 unfold VS.cancelled; rw [h]; exact this _ _
theorem opens_after {p:Prg} {r:Rn} (h:RnIn p r) (hn:r.fault=false) (e:Ev) (hk:cmdM e.kind=true) (hc:closeM e.kind=false) (h10:e.kind≠10):After p r (r.opens e):=by
 unfold Rn.opens
 split
 ·rename_i hcan
  exact .vs ((FStep.fut (p:=p) (b:=false) r.s _ (Int.le_refl _) h.thr.scope h.slack (.inl rfl)).one (Cv.fut fun _=>rfl)) (fun _=>h.ho) (leave_thr h.thr _) rfl
 ·rename_i hcan
  split
  ·rename_i hno
   refine .vs ((FStep.emit (p:=p) (b:=false) r.s e h.ho hk).one (Cv.emitN (by simpa using hno))) (fun f=>?_) (fun _=>h.thr) rfl
   have:r.fault=true:=f
   rw [hn] at this; cases this
  ·rename_i hok
   have hok:(r.s.emit e).1.2=true:=by simpa using hok
   have hov:(r.s.emit e).2.over=false:=by rw [goesE _ _ hok,hc,if_neg (by simp)]; exact h.ho
   have kp:=keepE r.s e
   have hid:=idE r.s e hok
   have hc0:=h.inv.c0.1
   have cn:=cntE e h.ho h.inv.c0.2 h.inv.c3 h.room
   refine .vs ((FStep.emit (p:=p) (b:=false) r.s e h.ho hk).and (.fut _ ⟨e.kind,(r.s.emit e).1.1,r.t.scope,false,0,0⟩ (by show 0≤(r.s.emit e).1.1; rw [hid]; omega) (by rw [kp.scopes]; exact h.thr.scope) (by rw [kp.futures,kp.fuel]; have:=h.slack; have:=cn.c0.1; omega) (.inr (.inr (by rw [keepE_canc kp.scopes]; simpa using hcan)))) (Cv.opens h.ho hok h10 rfl rfl rfl)) (fun _=>hov) (leave_thr h.thr _) rfl
theorem waits_thr {p:Prg} {s:VS} {t:Thr} (h:ThrOk p s t) {k:Int} (hk:k<s.futures.length):ThrOk p s { t with waits:=k }:=⟨h.fn,h.f0,h.pc0,h.stack,h.scope,h.future,h.update,hk,h.signal⟩
theorem signal_thr {p:Prg} {s:VS} {t:Thr} (h:ThrOk p s t) {k:Int} (hk:k<8):ThrOk p s { t with signal:=k }:=⟨h.fn,h.f0,h.pc0,h.stack,h.scope,h.future,h.update,h.waits,hk⟩
theorem scope_thr {p:Prg} {s:VS} {t:Thr} (h:ThrOk p s t) {k:Int} (hk:0≤k∧k<s.scopes.length):ThrOk p s { t with scope:=k }:=⟨h.fn,h.f0,h.pc0,h.stack,hk,h.future,h.update,h.waits,h.signal⟩
theorem scope_s (r:Rn):r.scope.2.s=r.s:=by unfold Rn.scope; split<;>exact take_s r
theorem scope_t (r:Rn):r.scope.2.t=r.take.2.t:=by unfold Rn.scope; split<;>rfl
theorem scope_ok {r:Rn} (h:r.scope.2.fault=false):0≤r.scope.1∧r.scope.1<r.s.scopes.length:=by
 unfold Rn.scope at h ⊢
 simp only at h ⊢
 split at h
 ·cases h
 ·rename_i hx
  simp at hx
  rw [take_s] at hx
  omega
theorem threads_after {p:Prg} {r:Rn} (h:RnIn p r) (hn:r.fault=false) (op a:Int) (oo:OpOk p op a):After p r (r.threads op a):=by
 have ht:=h.take
 have hs:=take_s r
 unfold Rn.threads
 split
 ·rename_i e27
  obtain ⟨g,hg,ha0,hgl,-⟩:=oo.o27 e27
  split
  ·exact h.self hs (fun _=>by rw [←hs]; exact ht.thr)
  ·rename_i hf
   split
   ·exact .vs ((FStep.fails (p:=p) (b:=false) r.s (-3) h.ho).one (Cv.fails _ _)) (fun f=>absurd f hf) (fun _=>by rw [←hs]; exact ht.thr) rfl
   ·rename_i h16
    simp at h16
    have st1:=(FStep.fut (p:=p) (b:=false) r.s ⟨0,0,r.t.scope,false,0,0⟩ (Int.le_refl _) h.thr.scope h.slack (.inr (.inl rfl))).one (Cv.fut fun e=>by cases e)
    refine .vs (st1.tail (.thr _ (Thr.new a r.t.scope r.take.1 (r.s.futures.length:Int) 0) ?_ (by show r.s.threads.length<16; omega)) (Cv.thr fun _=>⟨⟨0,0,r.t.scope,false,0,0⟩,by show (r.s.futures++[_])[((r.s.futures.length:Int)).toNat]?=_; rw [Int.toNat_natCast,List.getElem?_append_right (Nat.le_refl _),Nat.sub_self]; rfl,by show (0:Int)≠3; decide,by show (0:Int)≠4; decide⟩)) (fun _=>h.ho) (fun f=>?_) rfl
    ·refine ⟨⟨g,hg,by show (0:Int)<g.ops.length; omega⟩,ha0,Int.le_refl _,Nat.zero_le _,h.thr.scope,⟨by show -1≤(r.s.futures.length:Int); omega,?_⟩,Int.le_refl _,by show (-1:Int)<_; omega,by show (-1:Int)<8; decide⟩
     show (r.s.futures.length:Int)<((r.s.futures++[_]).length:Nat)
     rw [List.length_append,List.length_singleton]; omega
    ·have:=leave_thr (r:=r.take.2) ht.thr _ f
     rw [hs] at this; exact this
 ·split
  ·split
   ·exact h.self rfl (fun f=>by cases f)
   ·rename_i h32
    split
    ·exact .vs ((FStep.fails (p:=p) (b:=false) r.s (-3) h.ho).one (Cv.fails _ _)) (fun f=>absurd (show r.fault=true from f) (by rw [hn]; simp)) (fun _=>h.thr) rfl
    ·rename_i hs32
     simp at hs32
     exact .vs ((FStep.scp (p:=p) (b:=false) r.s r.t.scope h.thr.scope (by omega)).one (Cv.nice rfl rfl rfl rfl rfl)) (fun _=>h.ho) (leave_thr h.thr _) rfl
  ·split
   ·split
    ·rename_i hf
     exact h.self (scope_s r) (fun f=>absurd hf (by rw [f]; simp))
    ·rename_i hf
     have hf:r.scope.2.fault=false:=by simpa using hf
     refine h.self (scope_s r) (fun _=>scope_thr ?_ (scope_ok hf))
     rw [scope_t,←hs]; exact ht.thr
   ·split
    ·split
     ·rename_i hf
      exact h.self (scope_s r) (fun f=>absurd hf (by rw [f]; simp))
     ·rename_i hf
      refine .vs (cancels_steps r.scope.1 h.ho) (fun f=>absurd f hf) (fun _=>?_) rfl
      show ThrOk p r.s r.scope.2.t
      rw [scope_t,←hs]; exact ht.thr
    ·exact h.self rfl (leave_thr h.thr _)
theorem fault_take {r:Rn} (hf:¬r.take.2.fault=true):r.take.2.fault=false:=by simpa using hf
theorem command_after {p:Prg} {r:Rn} (h:RnIn p r) (hn:r.fault=false) (op a ev v:Int) (h2:op=34→r.t.stack≠[]):After p r (r.command op a ev v):=by
 unfold Rn.command
 split
 ·exact .vs ((FStep.vars (p:=p) (b:=false) r.s _ _).one (Cv.nice rfl rfl rfl rfl rfl)) (fun _=>h.ho) (fun _=>h.thr) rfl
 ·split
  ·exact opens_after h hn _ rfl rfl (of_decide_eq_false rfl)
  ·split
   ·exact opens_after h hn _ rfl rfl (of_decide_eq_false rfl)
   ·split
    ·exact opens_after h hn _ rfl rfl (of_decide_eq_false rfl)
    ·split
     ·have st:=FStep.emit (p:=p) (b:=false) r.s (evM 10 a v 0) h.ho rfl
      split
      ·rename_i hok
       exact .vs (st.and (.attrs _ _ _) (Cv.attr a v h.ho hok)) (fun f=>absurd (show r.fault=true from f) (by rw [hn]; simp)) (fun _=>h.thr) rfl
      ·rename_i hno
       exact .vs (st.one (Cv.emitN (by simpa using hno))) (fun f=>absurd (show r.fault=true from f) (by rw [hn]; simp)) (fun _=>h.thr) rfl
     ·split
      ·rename_i e34
       have hs:=take_s r
       refine .vs ((FStep.emit (p:=p) (b:=false) r.s (evM 9 ev a v) h.ho rfl).one (Cv.emit h.ho (by show (9:Int)≠3; decide) (by show (9:Int)≠4; decide) (by show (9:Int)≠10; decide))) (fun f=>?_) (fun _=>by rw [←hs]; exact h.take.thr) rfl
       have f:r.take.2.fault=true:=f
       rw [take_nofault hn] at f
       exact absurd (List.isEmpty_iff.1 f) (h2 e34)
      ·exact h.self rfl (fun _=>h.thr)
theorem told_cases (r:Rn) (op:Int):((r.told op).1<0∧(r.told op).2.fault=true∧(r.told op).2.s=r.s)∨(op≠34∧r.told op=(0,r))∨(op=34∧(∃f∈r.s.futures,f.kind=5∧f.event≠0∧r.told op=(f.event,r))∧2≤r.t.stack.length):=by
 unfold Rn.told
 by_cases h:op=34
 ·rw [if_pos h]
  rcases asked_cases r 1 with e|⟨v,e,h0,h1⟩
  ·rw [e]; exact .inl ⟨by show (-1:Int)<0; decide,rfl,rfl⟩
  ·rw [e]
   simp only
   rw [if_neg (by rw [decide_eq_true_iff]; omega)]
   obtain ⟨f,hf⟩:=get_some (l:=r.s.futures) (i:=v.toNat) (by omega)
   rw [hf]
   simp only
   split
   ·exact .inl ⟨by show (-1:Int)<0; decide,rfl,rfl⟩
   ·rename_i hx
    simp at hx
    refine .inr (.inr ⟨h,⟨f,List.mem_of_getElem? hf,hx.1,hx.2,rfl⟩,?_⟩)
    unfold Rn.asked at e
    split at e
    ·rename_i w hw
     have:=get_lt hw
     rw [List.length_reverse] at this
     omega
    ·have:=congrArg Prod.fst e
     simp only at this
     omega
 ·rw [if_neg h]; exact .inr (.inl ⟨h,rfl⟩)
theorem commands_after {p:Prg} {r:Rn} (h:RnIn p r) (hn:r.fault=false) (op a:Int):After p r (r.commands op a):=by
 have hs:=take_s r
 have nof:¬r.fault=true:=by rw [hn]; simp
 unfold Rn.commands
 split
 ·split
  ·exact h.self rfl (fun f=>by cases f)
  ·rename_i h32
   have st1:=(FStep.draws (p:=p) (b:=false) r.s (IntKind.u64.wrap (r.s.draws+1))).one (Cv.nice rfl rfl rfl rfl rfl)
   have st2:=st1.tail (.emit _ (evM 11 (IntKind.i64.wrap (mix64 r.s.draws)) 0 0) h.ho rfl) (Cv.emit h.ho (by show (11:Int)≠3; decide) (by show (11:Int)≠4; decide) (by show (11:Int)≠10; decide))
   simp only
   split
   ·rename_i hok
    refine .vs st2 (fun _=>?_) (leave_thr h.thr _) rfl
    have:=goesE _ _ hok
    rw [show closeM (evM 11 (IntKind.i64.wrap (mix64 r.s.draws)) 0 0).kind=false from rfl,if_neg (by simp)] at this
    rw [this]; exact h.ho
   ·exact .vs st2 (fun f=>absurd f nof) (fun _=>h.thr) rfl
 ·rcases told_cases r op with ⟨h1,h2,h3⟩|⟨h1,h2⟩|⟨h1,⟨f,hf,hk,he,h2⟩,h3⟩
  ·rw [if_pos (by rw [decide_eq_true_iff]; exact h1)]
   exact h.self h3 (fun f=>absurd h2 (by rw [f]; simp))
  ·rw [h2]
   rw [if_neg (by show ¬decide ((0:Int)<0)=true; decide)]
   split
   ·rename_i hf
    exact h.self hs (fun f=>absurd hf (by rw [f]; simp))
   ·rename_i hf
    exact (command_after h.take (fault_take hf) op a _ _ (fun e=>absurd e h1)).from hs
  ·rw [h2]
   have hev:=(h.inv.futs f hf).1
   rw [if_neg (by rw [decide_eq_true_iff]; show ¬f.event<0; omega)]
   split
   ·rename_i hf
    exact h.self hs (fun f=>absurd hf (by rw [f]; simp))
   ·rename_i hf
    refine (command_after h.take (fault_take hf) op a _ _ (fun _ e=>?_)).from hs
    rw [take_t] at e
    have:r.t.stack.dropLast.length=0:=by rw [show r.t.stack.dropLast=[] from e]; rfl
    rw [List.length_dropLast] at this
    omega
theorem emit_after {p:Prg} {r:Rn} (h:RnIn p r) (hf:¬r.take.2.fault=true) (e:Ev) (hk:cmdM e.kind=true) (hn:e.kind≠3∧e.kind≠4∧e.kind≠10):After p r (r.take.2.vs (r.s.emit e).2) :=
 .vs ((FStep.emit (p:=p) (b:=false) r.s e h.ho hk).one (Cv.emit h.ho hn.1 hn.2.1 hn.2.2)) (fun f=>absurd f hf) (fun _=>by rw [←take_s r]; exact h.take.thr) rfl
theorem ends_after {p:Prg} {r:Rn} (h:RnIn p r) (op:Int):After p r (r.ends op).2:=by
 have hs:=take_s r
 unfold Rn.ends
 split
 ·rename_i hf
  exact h.self hs (fun f=>absurd hf (by rw [f]; simp))
 ·rename_i hf
  simp only
  split
  ·exact emit_after h hf _ rfl ⟨of_decide_eq_false rfl,of_decide_eq_false rfl,of_decide_eq_false rfl⟩
  ·split
   ·exact emit_after h hf _ rfl ⟨of_decide_eq_false rfl,of_decide_eq_false rfl,of_decide_eq_false rfl⟩
   ·split
    ·rename_i hfu
     obtain ⟨t0,ht0,e0⟩:=h.own
     have hfu:=of_decide_eq_true hfu
     exact .vs ((FStep.done (p:=p) (b:=false) r.s _ _ _).one (by rw [←e0]; exact Cv.done ht0 (by rw [e0]; exact hfu) _ _)) (fun f=>absurd f hf) (fun _=>by rw [←hs]; exact h.take.thr) rfl
    ·split
     ·exact emit_after h hf _ rfl ⟨of_decide_eq_false rfl,of_decide_eq_false rfl,of_decide_eq_false rfl⟩
     ·split
      ·exact emit_after h hf _ rfl ⟨of_decide_eq_false rfl,of_decide_eq_false rfl,of_decide_eq_false rfl⟩
      ·exact emit_after h hf _ rfl ⟨of_decide_eq_false rfl,of_decide_eq_false rfl,of_decide_eq_false rfl⟩
theorem pc_after {p:Prg} {r r':Rn} (h:After p r r') (ht:r'.t.func=r.t.func) {n:Int} (h0:0≤n) (h1:∃f,p.funcs[r.t.func.toNat]?=some f∧n<f.ops.length):After p r (r'.pc n) :=
 ⟨h.steps,h.fault,fun f=>(h.thr f).at_ h0 (by rw [ht]; exact h1)⟩
end Go.Proofs.YtkofafcgcnciaaaGreatDoor
