/- Texts that the claims share: MB, MD, N8, NW, NX, KP, N9. -/
import Derived.Test.YtpljngaejaehcaaGreatDoorMK9
import Derived.Test.YtpljngaejaehcaaGreatDoorMF2
import Derived.Test.YtpljngaejaehcaaGreatDoorMF4
import Derived.Test.YtpljngaejaehcaaGreatDoorMK4
import Derived.Test.YtpljngaejaehcaaGreatDoorMK6
import Derived.Test.YtpljngaejaehcaaGreatDoorMK8
import Derived.Test.YtpljngaejaehcaaGreatDoorMK1
set_option maxHeartbeats 12800000
set_option maxRecDepth 100000
set_option linter.unusedVariables false
set_option linter.unusedSimpArgs false
namespace Go.Proofs.YtpljngaejaehcaaGreatDoor
open Go.RowKit Go.WideShapes Fl
theorem QP {w:World} {g:Nat} {k:UInt8} {c z:Int} (h:w.heap[g]? = some (.cells #[.int .u8 z,.int .i64 c] 79 (0,0))) (hz:z=(k.toNat:Int)):Ac B4 w 0 (svS ⟨some ⟨g,0,none⟩,1,1⟩) [⟨k,c⟩]:=by
 subst hz;exact De DA h rfl (Nat.zero_le _) rfl (show (1:Nat)≤1000000 by decide)
theorem SY {w:World} {x y:SV} {s t:Slt} (h:Ac B4 w 0 (svS x) s) (h2:Ac B4 w 0 (svS y) t):∀ (k:Nat) (u:SV) (v:Slt),[x,y][k]? = some u→[s,t][k]? = some v→Ac B4 w 0 (svS u) v:=fun k u v h3 h4=>by
 rcases k with _ | _ | k
 · cases h3;cases h4;exact h
 · cases h3;cases h4;exact h2
 · simp at h3
theorem SZ:Be 300 [[⟨97,0⟩],[⟨98,0⟩]]:=by unfold Be;decide
theorem Sa:MS [[⟨97,0⟩],[⟨98,0⟩]]:=by unfold MS;decide
theorem Sb:Be 300 [[⟨97,3⟩,⟨98,0⟩]]:=by unfold Be;decide
theorem Sc:MS [[⟨97,3⟩,⟨98,0⟩]]:=by unfold MS;decide
theorem Sd:validB [[⟨97,0⟩],[⟨98,0⟩]]=true:=by decide
theorem Se:validB [[⟨97,3⟩,⟨98,0⟩]]=true:=by decide
theorem T9:validB [[]]=false:=by decide
theorem RW:validB []=true:=by decide
theorem RX (w:World):Dg w none 0 []:=⟨fun k hk=>absurd hk (Nat.not_lt_zero _),⟨(fun b h=>by cases h),fun _=>rfl⟩,A5 _,by decide,(fun s hs=>by cases hs),(fun s hs=>by cases hs)⟩
theorem Mj (w:World) (hT:Tab w):Calls Tryz.prog 10 #[] w fun e w'=>e=.returned (.bool true)∧Ext w w':=by
 have HT:=A0 hT;clear hT
 go_enter Tryz.func10,Tryz.ntmps10
 go_wp2_with fail
 refine (Mi w).mono ?_;rintro e w1 ⟨gR,gW,gC,rfl,hS,hM,kE⟩;obtain ⟨aR,kr⟩:∃ aR,(some ⟨gR,0,none⟩:Option Addr)=aR:=⟨_,rfl⟩
 obtain ⟨aW,ki⟩:∃ aW,(some ⟨gW,0,none⟩:Option Addr)=aW:=⟨_,rfl⟩
 obtain ⟨aC,kh⟩:∃ aC,(some ⟨gC,0,none⟩:Option Addr)=aC:=⟨_,rfl⟩
 rw [kr] at hS ⊢;rw [ki,kh] at hM;rw [ki,kh];clear kr ki kh
 go_upto_region 2 with fail
 obtain ⟨w2,kB,j6,b1,b2,kR⟩:=F7 w1 (.cells #[.int .i64 1,.int .u8 1,.slice aR 3 3] 33) (.cells #[.slice aW 3 3,.slice aC 3 3,.slice none 0 0,.int .i64 0] 39);rw [kB];obtain ⟨gs,ky⟩:∃ gs,w1.heap.size=gs:=⟨_,rfl⟩
 rw [ky] at b1 b2 ⊢;have HS:Hid (∀ W,Ext w2 W→FX W exS aR 3):=fun W hx=>(hS.go j6).go hx;have HM:Hid (∀ W,Ext w2 W→Ht W aW aC none 3 3 0 JI [0,0,0] [] 0):=fun W hx=>(hM.go j6).go hx;have kq:Hid (Ext w w2):=Ext.trans kE j6;have j8:Hid (∀ W,Ext w2 W→Tab W):=fun W hx=>HT.out.go (Ext.trans kq.out hx);have jt:=A0 (Aq b1);have ju:=A0 (Aq b2);clear kB j6 b1 b2 ky hS hM kE HT kR
 go_upto_region 3 with fail
 obtain ⟨w3,kC,kF,b1,b2,kS⟩:=F7 w2 (.cells #[.int .u8 97,.int .i64 0] 79) (.cells #[.int .u8 98,.int .i64 0] 79);rw [kC];obtain ⟨ga,kx⟩:∃ ga,w2.heap.size=ga:=⟨_,rfl⟩
 rw [kx] at b1 b2 ⊢;have j9:=A0 kF;have kK:=A0 b1;have kL:=A0 b2;clear kC kF b1 b2 kS kx;obtain ⟨d0,d1,d2⟩:=Bo (jt.out w3 j9.out);obtain ⟨m0,m1,m2,m3⟩:=Ax (ju.out w3 j9.out)
 go_wp2_with fail
 obtain ⟨w4,j3⟩:∃ w4,w3.alloc (.cells #[.slice (some ⟨ga,0,none⟩) 1 1,.slice (some ⟨ga+1,0,none⟩) 1 1] 81)=w4:=⟨_,rfl⟩
 rw [j3];have jo:Hid (Ext w3 w4):=by show Ext _ _;rw [← j3];exact (Below.refl _ _).alloc (A5 _) _
 have j1:Hid (Ext w2 w4):=Ext.trans j9.out jo.out;have ji:Dg w4 (some ⟨w3.heap.size,0,none⟩) 2 [[⟨97,0⟩],[⟨98,0⟩]]:=(Dg.of (Ke (Ls:=[⟨some ⟨ga,0,none⟩,1,1⟩,⟨some ⟨ga+1,0,none⟩,1,1⟩]) (g:=w3.heap.size) (n:=2) (by rw [← j3];exact heap_alloc_new _ _) rfl rfl (by decide) rfl
  (SY (QP (Aq kK.out w4 jo.out) rfl) (QP (Aq kL.out w4 jo.out) rfl))) (by decide) SZ Sa).1
 clear d0 d1 d2 m0 m1 m2 m3;clear j3;refine (Iy (HS.out w4 j1.out) (HM.out w4 j1.out) (j8.out w4 j1.out) ji Sd (by decide)).mono ?_;rw [St];rintro e w5 ⟨v5,rfl,kj,kG⟩;obtain ⟨a5,c5,kl, -, -⟩:=kj.form;subst kl;have kM:=A0 (Ac.edgs kj).1;have kQ:Hid (Ext w2 w5):=Ext.trans j1.out kG;clear kj kG ji
 go_upto_region 4 with fail
 obtain ⟨w6,j4⟩:∃ w6,w5.alloc (.cells #[.int .i64 2,.slice a5 3 c5] 45)=w6:=⟨_,rfl⟩
 rw [j4];have jL:Hid (Ext w5 w6):=by show Ext _ _;rw [← j4];exact (Below.refl _ _).alloc (A5 _) _
 have b1:w6.heap[w5.heap.size]? = some (.cells #[.int .i64 2,.slice a5 3 c5] 45 (0,0)):=by rw [← j4];exact heap_alloc_new _ _
 obtain ⟨g5,kv⟩:∃ g5,w5.heap.size=g5:=⟨_,rfl⟩
 rw [kv] at b1 ⊢;have kI:=A0 (Aq b1);have j2:Hid (Ext w2 w6):=Ext.trans kQ.out jL.out;clear j4 b1 kv;obtain ⟨d0,d1,d2⟩:=Bo (jt.out w6 j2.out);obtain ⟨m0,m1,m2,m3⟩:=Ax (ju.out w6 j2.out)
 go_wp2_with fail
 obtain ⟨w7,kD,kn,b1,b2,kT⟩:=F7 w6 (.cells #[.int .u8 97,.int .i64 3,.int .u8 98,.int .i64 0] 79) (.cells #[.slice (some ⟨w6.heap.size,0,none⟩) 2 2] 81);rw [kD];have kb:Hid (Ext w2 w7):=Ext.trans j2.out kn;have Jx:=A0 kn;have ji:Dg w7 (some ⟨w6.heap.size+1,0,none⟩) 1 [[⟨97,3⟩,⟨98,0⟩]]:=(Dg.of (Ke (Ls:=[⟨some ⟨w6.heap.size,0,none⟩,2,2⟩]) (n:=1) b2 rfl rfl (by decide) rfl
  (QC (De DA b1 rfl (Nat.zero_le _) rfl (show (2:Nat)≤1000000 by decide)))) (by decide) Sb Sc).1
 clear d0 d1 d2 m0 m1 m2 m3;clear kD kn b1 b2 kT;refine (Iy (HS.out w7 kb.out) (HM.out w7 kb.out) (j8.out w7 kb.out) ji Se (by decide)).mono ?_;rw [Su];rintro e w8 ⟨v8,rfl,kk,kH⟩;obtain ⟨a8,c8,km, -, -⟩:=kk.form;subst km;have kN:=A0 (Ac.edgs kk).1;have ka:Hid (Ext w6 w8):=Ext.trans Jx.out kH;clear kk kH ji
 go_upto_region 5 with fail
 obtain ⟨w9,j5⟩:∃ w9,w8.alloc (.cells #[.int .i64 1,.slice a8 2 c8] 45)=w9:=⟨_,rfl⟩
 rw [j5];have jM:Hid (Ext w8 w9):=by show Ext _ _;rw [← j5];exact (Below.refl _ _).alloc (A5 _) _
 have b1:w9.heap[w8.heap.size]? = some (.cells #[.int .i64 1,.slice a8 2 c8] 45 (0,0)):=by rw [← j5];exact heap_alloc_new _ _
 obtain ⟨g7,kw⟩:∃ g7,w8.heap.size=g7:=⟨_,rfl⟩
 rw [kw] at b1 ⊢;have kJ:=A0 (Aq b1);have jm:Hid (Ext w6 w9):=Ext.trans ka.out jM.out;have jn:Hid (Ext w2 w9):=Ext.trans j2.out jm.out;clear j5 b1 kw;obtain ⟨d0,d1,d2⟩:=Bo (jt.out w9 jn.out);obtain ⟨m0,m1,m2,m3⟩:=Ax (ju.out w9 jn.out)
 go_wp2_with fail
 clear d0 d1 d2 m0 m1 m2 m3;refine Oh.mono ?_;rintro e w10 ⟨rfl,jT⟩;have kc:Hid (Ext w9 w10):=jT;clear jT
 go_upto_region 6 with fail
 obtain ⟨w11,jp⟩:∃ w11,w10.alloc (.cells #[.int .i64 0,.slice none 0 0] 45)=w11:=⟨_,rfl⟩
 rw [jp];have jG:Hid (Ext w10 w11):=by show Ext _ _;rw [← jp];exact (Below.refl _ _).alloc (A5 _) _
 have jC:Hid (Ext w9 w11):=Ext.trans kc.out jG.out;have jk:Hid (Ext w2 w11):=Ext.trans jn.out jC.out;clear jp;obtain ⟨d0,d1,d2⟩:=Bo (jt.out w11 jk.out);obtain ⟨m0,m1,m2,m3⟩:=Ax (ju.out w11 jk.out)
 go_wp2_with fail
 clear d0 d1 d2 m0 m1 m2 m3;refine (QN (HS.out w11 jk.out)).mono ?_;rintro e w12 ⟨rfl,jU⟩;have kd:Hid (Ext w9 w12):=Ext.trans jC.out jU;clear jU
 go_upto_region 7 with fail
 obtain ⟨w13,jq⟩:∃ w13,w12.alloc (.cells #[.int .i64 0,.slice none 0 0] 45)=w13:=⟨_,rfl⟩
 rw [jq];have jH:Hid (Ext w12 w13):=by show Ext _ _;rw [← jq];exact (Below.refl _ _).alloc (A5 _) _
 have jD:Hid (Ext w9 w13):=Ext.trans kd.out jH.out;have jx:Hid (Ext w2 w13):=Ext.trans jn.out jD.out;clear jq;obtain ⟨d0,d1,d2⟩:=Bo (jt.out w13 jx.out);obtain ⟨m0,m1,m2,m3⟩:=Ax (ju.out w13 jx.out)
 go_wp2_with fail
 obtain ⟨w14,jR,jV,b1,b2,ko⟩:=F7 w13 (.cells #[] 79) (.cells #[.slice (some ⟨w13.heap.size,0,none⟩) 0 0] 81);rw [jR];have jE:Hid (Ext w9 w14):=Ext.trans jD.out jV;have jy:Hid (Ext w2 w14):=Ext.trans jn.out jE.out;have ji:CK w14 (some ⟨w13.heap.size+1,0,none⟩) [[]]:=(Ke (L:=[[]]) (Ls:=[⟨some ⟨w13.heap.size,0,none⟩,0,0⟩]) (n:=1) b2 rfl rfl (by decide) rfl (QC (Ac.empty B4 b1 (Nat.zero_le _)))).slotS.1;clear d0 d1 d2 m0 m1 m2 m3;clear jR jV b1 b2 ko;refine (RV (HS.out w14 jy.out) (HM.out w14 jy.out) ji (by decide) T9).mono ?_;rintro e w15 ⟨rfl,jW⟩;have ke:Hid (Ext w9 w15):=Ext.trans jE.out jW;clear jW ji
 go_upto_region 8 with fail
 obtain ⟨w16,jr⟩:∃ w16,w15.alloc (.cells #[.int .i64 0,.slice none 0 0] 45)=w16:=⟨_,rfl⟩
 rw [jr];have jI:Hid (Ext w15 w16):=by show Ext _ _;rw [← jr];exact (Below.refl _ _).alloc (A5 _) _
 have jF:Hid (Ext w9 w16):=Ext.trans ke.out jI.out;have je:Hid (Ext w2 w16):=Ext.trans jn.out jF.out;clear jr;obtain ⟨d0,d1,d2⟩:=Bo (jt.out w16 je.out);obtain ⟨m0,m1,m2,m3⟩:=Ax (ju.out w16 je.out)
 go_wp2_with fail
 clear d0 d1 d2 m0 m1 m2 m3;refine (Iy (HS.out w16 je.out) (HM.out w16 je.out) (j8.out w16 je.out) (RX w16) RW (by decide)).mono ?_;rw [S7];rintro e w17 ⟨v17,rfl,jP,jX⟩;obtain ⟨a17,c17,jQ, -, -⟩:=jP.form;subst jQ;have kf:Hid (Ext w9 w17):=Ext.trans jF.out jX;clear jP jX
 go_upto_region 9 with fail
 obtain ⟨w18,jg⟩:∃ w18,w17.alloc (.cells #[.int .i64 0,.slice a17 0 c17] 45)=w18:=⟨_,rfl⟩
 rw [jg];have jJ:Hid (Ext w17 w18):=by show Ext _ _;rw [← jg];exact (Below.refl _ _).alloc (A5 _) _
 have b1:w18.heap[w17.heap.size]? = some (.cells #[.int .i64 0,.slice a17 0 c17] 45 (0,0)):=by rw [← jg];exact heap_alloc_new _ _
 obtain ⟨g15,jN⟩:∃ g15,w17.heap.size=g15:=⟨_,rfl⟩
 rw [jN] at b1 ⊢;have j7:=A0 (Aq b1);have kg:Hid (Ext w9 w18):=Ext.trans kf.out jJ.out;clear jg b1 jN
 go_upto_region 10 with fail
 obtain ⟨w19,jS,js,b1,b2,kp⟩:=F7 w18 (.cells #[.int .i64 0,.int .i64 1,.int .i64 1,.int .i64 0,.int .i64 0,.int .i64 2,.int .i64 0,.int .i64 2,.int .i64 1,.int .i64 2,.int .i64 2,.int .i64 1] 62) (.cells #[.int .i64 2,.slice (some ⟨w18.heap.size,0,none⟩) 3 3] 45);rw [jS];have jv:Hid (Bq w19 (some ⟨w18.heap.size,0,none⟩) Cj):=(Ac.edgs (De CX (B:=0) (n:=3) b1 rfl (Nat.zero_le _) rfl (by decide))).1;obtain ⟨aq,ks⟩:∃ aq,(some ⟨w18.heap.size,0,none⟩:Option Addr)=aq:=⟨_,rfl⟩
 rw [ks] at b2 jv ⊢;obtain ⟨g17,jO⟩:∃ g17,w18.heap.size+1=g17:=⟨_,rfl⟩
 rw [jO] at b2 ⊢;have jw:=A0 (Aq b2);have jf:Hid (Ext w9 w19):=Ext.trans kg.out js;have jl:=A0 js;clear jS js b1 b2 kp ks jO;obtain ⟨x0,x1⟩:=B3 (kI.out w19 (Ext.trans jm.out jf.out));obtain ⟨y0,y1⟩:=B3 (jw.out w19 (Ext.refl _))
 go_wp2_with fail
 clear x0 x1 y0 y1;have jj:=esame_any [(0,1,1,0),(0,2,0,2),(1,2,2,1)] Cj 2 2 a5 aq c5 3 w19 (kM.out.go (Ext.trans jL.out (Ext.trans jm.out jf.out))) jv.out (by decide) (by decide);refine jj.mono ?_;clear jj;rintro e w20 ⟨rfl,jY⟩;have jz:Hid (Ext w19 w20):=jY;clear jY;rw [show decide ((2:Int)=2∧[(0,1,1,0),(0,2,0,2),(1,2,2,1)]=Cj)=true by decide];obtain ⟨x0,x1⟩:=B3 (kJ.out w20 (Ext.trans jf.out jz.out))
 go_wp2_with fail
 clear x0 x1;obtain ⟨w21,jh⟩:∃ w21,w20.alloc (.cells #[.int .i64 0,.int .i64 1,.int .i64 1,.int .i64 3,.int .i64 0,.int .i64 1,.int .i64 2,.int .i64 1] 62)=w21:=⟨_,rfl⟩
 rw [jh];have jK:Hid (Ext w20 w21):=by show Ext _ _;rw [← jh];exact (Below.refl _ _).alloc (A5 _) _
 have jA:Hid (Ext w19 w21):=Ext.trans jz.out jK.out;have ku:Bq w21 (some ⟨w20.heap.size,0,none⟩) [(0,1,1,3),(0,1,2,1)]:=(Ac.edgs (De CX (B:=0) (n:=2) (by rw [← jh];exact heap_alloc_new _ _) rfl (Nat.zero_le _) rfl (by decide))).1;have jj:=esame_any [(0,1,1,3),(0,1,2,1)] [(0,1,1,3),(0,1,2,1)] 1 1 a8 (some ⟨w20.heap.size,0,none⟩) c8 2 w21 (kN.out.go (Ext.trans jM.out (Ext.trans jf.out jA.out))) ku (by decide) (by decide);clear jh ku;refine jj.mono ?_;clear jj;rintro e w22 ⟨rfl,jZ⟩;have jB:Hid (Ext w19 w22):=Ext.trans jA.out jZ;clear jZ;rw [show decide ((1:Int)=1∧[((0,1,1,3):Edg),(0,1,2,1)]=[(0,1,1,3),(0,1,2,1)])=true by decide];obtain ⟨x0,x1⟩:=B3 (j7.out w22 (Ext.trans jl.out jB.out))
 go_wp2_with fail
 clear x0 x1;have jj:=esame_any [] [] 0 0 a17 none c17 0 w22 (Bq.nil _ _) (Bq.nil _ _) (by decide) (by decide);refine jj.mono ?_;clear jj;rintro e w23 ⟨rfl,j0⟩;have jd:Hid (Ext w19 w23):=Ext.trans jB.out j0;clear j0;rw [show decide ((0:Int)=0∧([]:List Edg)=[])=true by decide]
 go_upto_region 12 with fail
 refine Ak (by kernel_rfl) (Vs [vq (.bool true),vq (.bool true),vq (.bool true),vq (.bool true),vq (.bool true),vq (.agg #[.int .i64 2,.slice aq 3 3]),vq (.bool true),vq (.bool true),vq (.bool true),vq (.agg #[.int .i64 0,.slice none 0 0]),vq (.bool true),vq (.bool true),vq (.bool true),vq (.agg #[.int .i64 1,.slice none 0 0]),vq (.bool false),vq (.bool true),vq (.bool true),vq (.bool true),vq (.agg #[.int .i64 2,.slice aq 3 3]),vq (.bool true),vq (.bool true),vq (.bool true),vq (.agg #[.int .i64 41,.slice none 0 0]),vq (.bool false),vq (.bool true),vq (.bool true),vq (.bool true),vq (.agg #[.int .i64 2,.slice aq 3 3]),GrV 3 Cj,vq (.agg #[.int .i64 2,.slice aq 3 3]),GrV 3 Cj,vq (.bool true),vq (.bool true),vq (.bool true)]) (fun W=>Ext w23 W) 149 (by kernel_rfl) rfl ?hVx ?hSx ?hS (As ?hop) ?hfin
 case hop =>
  refine ⟨?_,?_,?_,?_,?_,?_,?k6,?_,?_,?_,?k10,?_,?_,?_,?k14,?_,?_,?_,?_,?k19,?_,?_,?_,?k23,?_,?_,?_,?_,?k28,?_,?k30,?k31,?_,?_,trivial⟩
  all_goals
   intro A W jc hS ja jb;obtain ⟨y0,y1⟩:=B3 (jw.out W (Ext.trans jd.out hS));have h18:A.tmps.getD 18 undef=.bool true:=jb 18 (by kernel_rfl);have h19:A.tmps.getD 19 undef=.bool true:=jb 19 (by kernel_rfl);have h17:A.tmps.getD 17 undef=.pointer (some ⟨g17,0,none⟩):=jb 17 (by kernel_rfl);clear jb;simp [Aa,Region.binds,Vs,vq] at ja
  case k6 =>
   refine Ad (j:=4) (d:=120) (b:=true) rfl (by kernel_rfl) (by simp only [ja]) rfl (.inr ⟨20,#[.agg #[.int .i64 2,.slice aq 3 3]],W,by (clear jc hS;simp [go_sem,Act.eval, *]),?_⟩);refine (lreach_any 2 Cj aq 3 W (jv.out.go (Ext.trans jd.out hS)) (by decide) NW).mono ?_;rintro e w' ⟨he,hx⟩;rw [T3] at he;exact ⟨_,he,rfl,hx⟩
  case k10 =>
   refine Ad (j:=8) (d:=124) (b:=true) rfl (by kernel_rfl) (by simp only [ja]) rfl (.inr ⟨20,#[.agg #[.int .i64 0,.slice none 0 0]],W,by (clear jc hS;simp [go_sem,Act.eval, *]),?_⟩);refine (lreach_any 0 [] none 0 W (Bq.nil _ _) (by decide) (NX 0 (by decide) (by decide))).mono ?_;rintro e w' ⟨he,hx⟩;rw [T5] at he;exact ⟨_,he,rfl,hx⟩
  case k14 =>
   refine Ad (j:=12) (d:=128) (b:=true) rfl (by kernel_rfl) (by simp only [ja]) rfl (.inr ⟨20,#[.agg #[.int .i64 1,.slice none 0 0]],W,by (clear jc hS;simp [go_sem,Act.eval, *]),?_⟩);refine (lreach_any 1 [] none 0 W (Bq.nil _ _) (by decide) (NX 1 (by decide) (by decide))).mono ?_;rintro e w' ⟨he,hx⟩;rw [T7] at he;exact ⟨_,he,rfl,hx⟩
  case k19 =>
   refine Ad (j:=17) (d:=133) (b:=true) rfl (by kernel_rfl) (by simp only [ja]) rfl (.inr ⟨22,#[.agg #[.int .i64 2,.slice aq 3 3]],W,by (clear jc hS;simp [go_sem,Act.eval, *]),?_⟩);refine (lval_any 2 Cj aq 3 W (jv.out.go (Ext.trans jd.out hS)) (by decide)).mono ?_;rintro e w' ⟨he,hx⟩;rw [T8] at he;exact ⟨_,he,rfl,hx⟩
  case k23 =>
   refine Ad (j:=21) (d:=137) (b:=true) rfl (by kernel_rfl) (by simp only [ja]) rfl (.inr ⟨22,#[.agg #[.int .i64 41,.slice none 0 0]],W,by (clear jc hS;simp [go_sem,Act.eval, *]),?_⟩);refine (lval_any 41 [] none 0 W (Bq.nil _ _) (by decide)).mono ?_;rintro e w' ⟨he,hx⟩;rw [SW] at he;exact ⟨_,he,rfl,hx⟩
  case k28 =>
   refine Ad (j:=26) (d:=142) (b:=true) rfl (by kernel_rfl) (by simp only [ja]) rfl (.inr ⟨18,#[.agg #[.int .i64 2,.slice aq 3 3]],W,by (clear jc hS;simp [go_sem,Act.eval, *]),?_⟩);refine (Md 2 Cj aq 3 W (jv.out.go (Ext.trans jd.out hS)) (by decide) (by decide) (by decide)).mono ?_;rintro e w' hp;obtain ⟨v,rfl,hv,hx⟩:=QO hp;exact ⟨_,rfl,hv,hx⟩
  case k30 =>
   refine Ad (j:=26) (d:=142) (b:=true) rfl (by kernel_rfl) (by simp only [ja]) rfl (.inr ⟨19,#[.agg #[.int .i64 2,.slice aq 3 3]],W,by (clear jc hS;simp [go_sem,Act.eval, *]),?_⟩);refine (Me 2 Cj aq 3 W (jv.out.go (Ext.trans jd.out hS)) (by decide) (by decide) (by decide)).mono ?_;rintro e w' hp;obtain ⟨v,rfl,hv,hx⟩:=QO hp;exact ⟨_,rfl,hv,hx⟩
  case k31 =>
   obtain ⟨⟨p1,q1,hv1,kz⟩,⟨p2,q2,hv2,kA⟩,ja⟩:=ja;have kO:=A0 kz;have kP:=A0 kA;clear kz kA;refine Ad (j:=26) (d:=142) (b:=true) rfl (by kernel_rfl) (by simp only [ja]) rfl (.inr ⟨17,#[.agg #[.int .i64 3,.slice p1 3 q1],.agg #[.int .i64 3,.slice p2 3 q2]],W,by (clear jc hS;simp [go_sem,Act.eval, *];rfl),?_⟩);refine (gsame_any Cj Cj 3 3 p1 p2 q1 q2 W kO.out kP.out (by decide) (by decide)).mono ?_;rintro e w' ⟨he,hx⟩;rw [show decide ((3:Int)=3∧Cj=Cj)=true by decide] at he;exact ⟨_,he,rfl,hx⟩
  all_goals first
   | (refine AZ rfl (.inl ⟨_,W,?_,rfl,Ext.refl _⟩);clear jc hS;simp [go_sem,Act.eval, *];done)
   | (refine Ad (j:=1) (d:=117) (b:=true) rfl (by kernel_rfl) (by simp only [ja]) rfl (.inl ⟨_,W,?_,rfl,Ext.refl _⟩);clear jc hS;simp [go_sem,Act.eval, *];done)
   | (refine Ad (j:=4) (d:=120) (b:=true) rfl (by kernel_rfl) (by simp only [ja]) rfl (.inl ⟨_,W,?_,rfl,Ext.refl _⟩);clear jc hS;simp [go_sem,Act.eval, *];done)
   | (refine Ad (j:=8) (d:=124) (b:=true) rfl (by kernel_rfl) (by simp only [ja]) rfl (.inl ⟨_,W,?_,rfl,Ext.refl _⟩);clear jc hS;simp [go_sem,Act.eval, *];done)
   | (refine Ad (j:=12) (d:=128) (b:=true) rfl (by kernel_rfl) (by simp only [ja]) rfl (.inl ⟨_,W,?_,rfl,Ext.refl _⟩);clear jc hS;simp [go_sem,Act.eval, *];done)
   | (refine Ad (j:=17) (d:=133) (b:=true) rfl (by kernel_rfl) (by simp only [ja]) rfl (.inl ⟨_,W,?_,rfl,Ext.refl _⟩);clear jc hS;simp [go_sem,Act.eval, *];done)
   | (refine Ad (j:=21) (d:=137) (b:=true) rfl (by kernel_rfl) (by simp only [ja]) rfl (.inl ⟨_,W,?_,rfl,Ext.refl _⟩);clear jc hS;simp [go_sem,Act.eval, *];done)
   | (refine Ad (j:=26) (d:=142) (b:=true) rfl (by kernel_rfl) (by simp only [ja]) rfl (.inl ⟨_,W,?_,rfl,Ext.refl _⟩);clear jc hS;simp [go_sem,Act.eval, *];done)
 case hVx=>exact Ag (by simp only [AU,List.not_mem_nil,or_false,forall_eq_or_imp,forall_eq];exact ⟨AY _,AY _,AY _,AY _,AY _,AY _,AY _,AY _,AY _,AY _,AY _,AY _,AY _,AY _,AY _,AY _,AY _,AY _,AY _,AY _,AY _,AY _,AY _,AY _,AY _,AY _,AY _,AY _,Ju _ _,AY _,Ju _ _,AY _,AY _,AY _⟩)
 case hSx=>exact fun W W' h hx=>Ext.trans h hx
 case hS=>first | exact Ext.refl _ | exact At _
 case hfin =>
  intro A W jc kt hS hv jb;obtain ⟨x,hx,hA⟩:=Ah [116,117,118,119,120,121,122,123,124,125,126,127,128,129,130,131,132,133,134,135,136,137,138,139,140,141,142,143,144,145,146,147,148,0] (by kernel_rfl) jc kt jb;have e0:x 0=.bool true:=(hx 0).trans (hv 33 (by decide));rw [hA];simp only [List.foldl];rw [e0];clear e0;simp only [Act.put,List.setIfInBounds_toArray,List.set_cons_succ,List.set_cons_zero];clear hA hx hv jb jc kt
  go_wp2_with fail
  go_ret;exact ⟨rfl,Ext.trans kq.out (Ext.trans jn.out (Ext.trans jf.out (Ext.trans jd.out hS)))⟩
theorem Mk {w:World} {a:Option Addr} {R:List Rl} (h:BF w a R):R=[]∨∃ b o,a=some ⟨b,o,none⟩∧b<w.heap.size∧(∃ s,w.cell? ⟨b,o+0*5+2,none⟩=some (.string s))∧∀ i (h:i<R.length),JQ w b (o+i*5) R[i]:=by
 rcases h with h | ⟨b,o,ha,hb,hc⟩
 · exact .inl h
 ·by_cases h0:R=[]
  · exact .inl h0
  ·have h5:=hc 0 (List.length_pos_iff.2 h0);exact .inr ⟨b,o,ha,hb,⟨_,h5.c2⟩,hc⟩
theorem BF.tq {w w':World} {a:Option Addr} {R:List Rl} (h:BF w a R) {g:Nat} {cs:Array Value} {t:TypeId} {f:Nat × Nat} (hg:w.heap[g]? = some (.cells cs t f)) (hn:∀ s,Value.string s ∉ cs.toList) (ht:Tq g w w'):BF w' a R:=by
 rcases Mk h with h | ⟨b,o,ha,hb,⟨s,hs⟩,hc⟩
 · exact .inl h
 ·have jb:b≠g:=fun e=>by
   subst e;exact Hb hg hn hs
  have hk:w'.heap[b]? = w.heap[b]?:=ht.block b hb fun e=>jb (by injection e);have ja:∀ i,w'.cell? ⟨b,i,none⟩=w.cell? ⟨b,i,none⟩:=fun i=>World.cell?_of_block hk;refine .inr ⟨b,o,ha,A9 hb ht.size,fun i hi=>?_⟩;obtain ⟨h1,h2,h3,h4,h5⟩:=hc i hi;exact ⟨(ja _).trans h1,(ja _).trans h2,(ja _).trans h3,(ja _).trans h4,(ja _).trans h5⟩
theorem Jv (n m:Int) (a:Option Addr) (k c:Nat):∀ s,Value.string s ∉ (#[.int .i64 n,.int .u8 m,.slice a k c]:Array Value).toList:=fun s h=>by simp at h
theorem PrS.tqS {w w':World} {a:Option Addr} {E:List Prs} (h:PrS w a E) {g:Nat} {n m:Int} {b:Option Addr} {k0 c0:Nat} {t:TypeId} {f:Nat × Nat} (hg:w.heap[g]? = some (.cells #[.int .i64 n,.int .u8 m,.slice b k0 c0] t f)) (ht:Tq g w w'):PrS w' a E:=fun k hl=>by
 obtain ⟨b1,o,ha,h1,h2,h3,h4⟩:=h k hl;have ja:b1≠g:=fun e=>by
  subst e;rw [cell_of_row w b1 _ _ _ _ hg] at h3;have hi:∀ i,(#[.int .i64 n,.int .u8 m,.slice b k0 c0]:Array Value)[i]? = some (.int .i64 E[k].2.1)→i=0:=fun i hi=>by
   match i with
   | 0=>rfl
   | 1=>simp at hi
   | 2=>simp at hi
   | i+3=>simp at hi
  have h5:=hi _ h3;omega
 have hk:w'.heap[b1]? = w.heap[b1]?:=ht.block b1 h1 fun e=>ja (by injection e);exact ⟨b1,o,ha,A9 h1 ht.size,(World.cell?_of_block hk).trans h2,(World.cell?_of_block hk).trans h3,(World.cell?_of_block hk).trans h4⟩
theorem CA.tq {w w':World} {B:Nat} {v:Value} {L:List Slt} (h:CA w B v L) {g:Nat} {cs:Array Value} {t:TypeId} {f:Nat × Nat} (hg:w.heap[g]? = some (.cells cs t f)) (h1:t≠Dp.e) (h2:t≠B4.e) (ht:Tq g w w'):CA w' B v L:=by
 obtain ⟨Ls,hr⟩:=h;exact ⟨Ls,ht.row hr.own hg h1,hr.len,fun k x s h3 h4=>ht.row (hr.el k x s h3 h4) hg h2⟩
def RY (v:Value) (w:World):Prop:=∃ (S:Sch) (b:Option Addr) (c:Nat),v=.agg #[.int .i64 S.modes,.int .u8 S.acc,.slice b S.rules.length c]∧1≤S.modes∧S.modes≤2∧S.acc=1∧S.rules.length≤9∧BF w b S.rules∧S.rules.length≤c
theorem Ml:BL RY:=by
 rintro v w w' ⟨S,b,c,h1,h2,h3,h4,h5,h6,h7⟩ hx;exact ⟨S,b,c,h1,h2,h3,h4,h5,h6.later hx (A5 _),h7⟩
theorem RZ {w w':World} {e:Ending} (h:Gz w e w'):∃ v,e=.returned v∧RY v w'∧Ext w w':=by
 obtain ⟨S,b,c,h1,h2,h3,h4,h5,h6,h7,h8⟩:=h;exact ⟨_,h1,⟨S,b,c,rfl,h2,h3,h4,h5,h6,h7⟩,h8⟩
def MdV (Ws:List ByteArray) (v:Value) (w:World):Prop:=∃ (a0 a1 a2:Option Addr) (c0 c1 c2:Nat) (cs:List Nat) (ps:List Prs) (bk:Int),v=OY a0 Ws.length c0 a1 cs.length c1 a2 ps.length c2 bk∧Ht w a0 a1 a2 c0 c1 c2 Ws cs ps bk∧Is Ws cs ps bk∧Ac CI w 0 (.slice a1 cs.length c1) cs
theorem Oi (Ws:List ByteArray):BL (MdV Ws):=by
 rintro v w w' ⟨a0,a1,a2,c0,c1,c2,cs,ps,bk,h1,h2,h3,h4⟩ hx;exact ⟨a0,a1,a2,c0,c1,c2,cs,ps,bk,h1,h2.go hx,h3,h4.later hx (A5 _)⟩
theorem Sf {Q:Nat→BR} {kw:Nat} {w w':World} {e:Ending} (h:QI Q kw w e w'):∃ v,e=.returned v∧MdV (mdW Q kw) v w'∧Ext w w':=by
 obtain ⟨a0,a1,a2,c0,c1,c2,Ws,cs,ps,bk,h1,h2,h3,h4,h5,h6⟩:=h;subst h4;exact ⟨_,h1,⟨a0,a1,a2,c0,c1,c2,cs,ps,bk,rfl,h2,h3,h5⟩,h6⟩
def SlV (L:List Slt) (v:Value) (w:World):Prop:=CA w 0 v L∧v≠.slice none 0 0
theorem Oj (L:List Slt):BL (SlV L):=by
 rintro v w w' ⟨h1,h2⟩ hx;exact ⟨h1.later hx (A5 _),h2⟩
def Sg (B:Nat) (v:Value) (W:World):Prop:=∃ g,v=.pointer (some ⟨g,0,none⟩)∧W.heap[g]? = some (.cells #[.slice none 0 0,.slice none 0 0,.slice none 0 0,.int .i64 0] 39 (0,0))∧B≤g
theorem Mm (B:Nat):BL (Sg B):=by
 rintro v w w' ⟨g,hv,hg,hB⟩ hx;exact ⟨g,hv,(Below.block hx g (A7.1 hg).1).trans hg,hB⟩
theorem Iz {P:Program} {ops:Array Oper} {Q:Exit→Act→World→Prop} {L:Nat} {K:Act→World→Prop} {o:Oper} {A:Act} {W:World} {ty t:TypeId} {p v:Operand} {g:Nat} {x' y' z' u':Value} {a0 a1 a2:Option Addr} {n0 c0 n1 c1 n2 c2:Nat} {bk:Int}
  (ho:ops[L]? = some o) (hg:o.guard=none) (ja:o.op=.store ty p v) (hd:o.dst=none) (hp:A.eval p=.pointer (some ⟨g,0,none⟩)) (hv:A.eval v=.agg #[.slice a0 n0 c0,.slice a1 n1 c1,.slice a2 n2 c2,.int .i64 bk]) (hr:W.heap[g]? = some (.cells #[x',y',z',u'] t (0,0))) (jb:(sizeOf ty).run P W=.ok 4 W)
  (hK:K A ((((W.setCell ⟨g,0,none⟩ (.slice a0 n0 c0)).setCell ⟨g,1,none⟩ (.slice a1 n1 c1)).setCell ⟨g,2,none⟩ (.slice a2 n2 c2)).setCell ⟨g,3,none⟩ (.int .i64 bk))):wpOp P ops Q L K A W:=by
 unfold wpOp;rw [ho];have hw:Region.wanted o (yielded ops A.tmps)=true:=by unfold Region.wanted;rw [hg]
 simp only [hw,if_pos];refine .inl ?_;unfold Oper.wp execOp;obtain ⟨d0,d1,d2,d3⟩:=Ax hr;have hf:∀ i,W.frozen? ⟨g,i,none⟩=false:=fun i=>by simp [World.frozen?,hr]
 simp only [ja,hp,hv];simp [go_sem,hf,d0,d1,d2,d3,jb];rw [hd];exact hK
theorem F8 {P:Program} {ops:Array Oper} {Q:Exit→Act→World→Prop} {L d:Nat} {K:Act→World→Prop} {o:Oper} {A:Act} {W:World} {v:Operand} {u:Value}
  (ho:ops[L]? = some o) (hg:o.guard=none) (ja:o.op=.assign v) (hd:o.dst=some d) (hv:A.eval v=u) (hK:K (A.put (some d) u) W):wpOp P ops Q L K A W:=by
 unfold wpOp;rw [ho];have hw:Region.wanted o (yielded ops A.tmps)=true:=by unfold Region.wanted;rw [hg]
 simp only [hw,if_pos];refine .inl ?_;unfold Oper.wp execOp;simp only [ja,hv];simp [go_sem];rw [hd];exact hK
structure Ol (S:Sch) (b:Option Addr) (cS:Nat) (aw ac ap:Option Addr) (cw cc cp:Nat) (Ws:List ByteArray) (cs:List Nat) (ps:List Prs) (bk:Int) (g8 g9:Nat) (v:Value) (L:List Slt) (w:World):Prop where
 b8:w.heap[g8]? = some (.cells #[.int .i64 S.modes,.int .u8 S.acc,.slice b S.rules.length cS] 33 (0,0))
 b9:w.heap[g9]? = some (.cells #[.slice aw Ws.length cw,.slice ac cs.length cc,.slice ap ps.length cp,.int .i64 bk] 39 (0,0))
 rul:BF w b S.rules
 mod:Ht w aw ac ap cw cc cp Ws cs ps bk
 slt:CA w 0 v L
theorem Ol.go {S:Sch} {b aw ac ap:Option Addr} {cS cw cc cp g8 g9:Nat} {Ws:List ByteArray} {cs:List Nat} {ps:List Prs} {bk:Int} {v:Value} {L:List Slt} {w w':World} (h:Ol S b cS aw ac ap cw cc cp Ws cs ps bk g8 g9 v L w) (hx:Ext w w'):Ol S b cS aw ac ap cw cc cp Ws cs ps bk g8 g9 v L w' :=
 ⟨Aq h.b8 w' hx,Aq h.b9 w' hx,h.rul.later hx (A5 _),h.mod.go hx,h.slt.later hx (A5 _)⟩
theorem Ra {w0 W:World} {S:Sch} {b aw ac ap:Option Addr} {cS cw cc cp g8 g9:Nat} {Ws:List ByteArray} {cs:List Nat} {ps:List Prs} {bk:Int} {v:Value} {L:List Slt} (hx:Ext w0 W)
  (h8:W.heap[g8]? = some (.cells #[.int .i64 0,.int .u8 0,.slice none 0 0] 33 (0,0))) (h9:W.heap[g9]? = some (.cells #[.slice none 0 0,.slice none 0 0,.slice none 0 0,.int .i64 0] 39 (0,0))) (k8:w0.heap.size≤g8) (k9:w0.heap.size≤g9)
  (hr:BF W b S.rules) (hm:Ht W aw ac ap cw cc cp Ws cs ps bk) (ho:Ac CI W 0 (.slice ac cs.length cc) cs) (hs:CA W 0 v L) :
  ∃ w1,((W.setCell ⟨g8,0,none⟩ (.int .i64 S.modes)).setCell ⟨g8,1,none⟩ (.int .u8 S.acc)).setCell ⟨g8,2,none⟩ (.slice b S.rules.length cS)=w1∧w1.heap[g9]? = some (.cells #[.slice none 0 0,.slice none 0 0,.slice none 0 0,.int .i64 0] 39 (0,0)) ∧
  ∃ w2,(((w1.setCell ⟨g9,0,none⟩ (.slice aw Ws.length cw)).setCell ⟨g9,1,none⟩ (.slice ac cs.length cc)).setCell ⟨g9,2,none⟩ (.slice ap ps.length cp)).setCell ⟨g9,3,none⟩ (.int .i64 bk)=w2∧Ol S b cS aw ac ap cw cc cp Ws cs ps bk g8 g9 v L w2∧Ext w0 w2:=by
 have ja:g9≠g8:=fun e=>by
  subst e;rw [h8] at h9;injection h9 with h9;injection h9 with _ h9;exact absurd h9 (by decide)
 have t1:Tq g8 W (((W.setCell ⟨g8,0,none⟩ (.int .i64 S.modes)).setCell ⟨g8,1,none⟩ (.int .u8 S.acc)).setCell ⟨g8,2,none⟩ (.slice b S.rules.length cS)):=((Tq.set _ _ _ _).trans (Tq.set _ _ _ _)).trans (Tq.set _ _ _ _);have e8:(((W.setCell ⟨g8,0,none⟩ (.int .i64 S.modes)).setCell ⟨g8,1,none⟩ (.int .u8 S.acc)).setCell ⟨g8,2,none⟩ (.slice b S.rules.length cS)).heap[g8]? = some (.cells #[.int .i64 S.modes,.int .u8 S.acc,.slice b S.rules.length cS] 33 (0,0)):=Am (Am (Am h8 rfl) rfl) rfl;refine ⟨_,rfl,t1.at ja h9,?_⟩;generalize hw1:((W.setCell ⟨g8,0,none⟩ (.int .i64 S.modes)).setCell ⟨g8,1,none⟩ (.int .u8 S.acc)).setCell ⟨g8,2,none⟩ (.slice b S.rules.length cS)=w1 at t1 e8;have e9:=t1.at ja h9;have t2:Tq g9 w1 ((((w1.setCell ⟨g9,0,none⟩ (.slice aw Ws.length cw)).setCell ⟨g9,1,none⟩ (.slice ac cs.length cc)).setCell ⟨g9,2,none⟩ (.slice ap ps.length cp)).setCell ⟨g9,3,none⟩ (.int .i64 bk)):=(((Tq.set _ _ _ _).trans (Tq.set _ _ _ _)).trans (Tq.set _ _ _ _)).trans (Tq.set _ _ _ _);have f9:((((w1.setCell ⟨g9,0,none⟩ (.slice aw Ws.length cw)).setCell ⟨g9,1,none⟩ (.slice ac cs.length cc)).setCell ⟨g9,2,none⟩ (.slice ap ps.length cp)).setCell ⟨g9,3,none⟩ (.int .i64 bk)).heap[g9]? = some (.cells #[.slice aw Ws.length cw,.slice ac cs.length cc,.slice ap ps.length cp,.int .i64 bk] 39 (0,0)):=Am (Am (Am (Am e9 rfl) rfl) rfl) rfl;refine ⟨_,rfl,⟨t2.at (Ne.symm ja) e8,f9,?_,⟨?_,hm.wc,?_,?_⟩,?_⟩,?_⟩
 · exact BF.tq (BF.tq hr h8 (Jv _ _ _ _ _) t1) e9 (EL _ _ _ _ _ _ _ _ _ _) t2
 · exact (hm.ws.tq h8 (Jv _ _ _ _ _) t1).tq e9 (EL _ _ _ _ _ _ _ _ _ _) t2
 · exact (Ac.cnts (t2.row (t1.row ho h8 (by decide)) e9 (by decide))).1
 · exact (hm.pr.tqS h8 t1).tq e9 t2
 · exact (hs.tq h8 (by decide) (by decide) t1).tq e9 (by decide) (by decide) t2
 ·have x1:Below w0.heap.size w0 w1:=Below.trans hx (t1.below k8 hx.size);exact Below.trans x1 (t2.below k9 x1.size)
section
variable {α:Type} {rch:α→Nat→Prop} {stp:α→α→Nat→Prop} {D:Nat}
def Fi (rch:α→Nat→Prop) (D k:Nat) (a:α):Prop:=∃ c,rch a c∧c≤k*D
theorem Fi.up {k:Nat} {a:α} (h:Fi rch D k a):Fi rch D (k+1) a:=by
 obtain ⟨c,h1,h2⟩:=h;exact ⟨c,h1,by rw [Nat.succ_mul];omega⟩
open Classical in
theorem near_count {s:α} (jh:∀ {a b c d},rch a c→stp a b d→rch b (c+d)) (hD:∀ {a b d},stp a b d→d≤D)
  (ja:∀ (P:α→Prop),P s→(∀ a c b d,rch a c→P a→stp a b d→P b)→∀ a c,rch a c→P a) (hs:rch s 0) (code:α→Nat) (N:Nat) (hc:∀ a c,rch a c→code a<N) (jb:∀ a b c d,rch a c→rch b d→code a=code b→a=b):∀ a c,rch a c→Fi rch D N a:=by
 have key:∀ k,(∀ a c,rch a c→Fi rch D k a)∨∃ l:List α,l.length=k+1∧l.Nodup∧∀ a∈l,Fi rch D k a:=by
  intro k
  induction k with
  | zero=>exact .inr ⟨[s],rfl,by simp,fun a ha=>by rw [AF.1 ha];exact ⟨0,hs,by omega⟩⟩
  | succ k ih =>
   rcases ih with h | ⟨l,h1,h2,h3⟩
   · exact .inl fun a c hr=>(h a c hr).up
   ·by_cases jc:∀ a,Fi rch D (k+1) a→Fi rch D k a
    ·refine .inl fun a c hr=>Fi.up ?_;refine ja (fun a=>Fi rch D k a) ⟨0,hs,Nat.zero_le _⟩ (fun a c b d _ ⟨x,hx,hxk⟩ jd=>jc _ ⟨x+d,jh hx jd,?_⟩) a c hr;have:=hD jd;rw [Nat.succ_mul];omega
    ·obtain ⟨a,ha⟩:=Classical.not_forall.1 jc;obtain ⟨h4,h5⟩:=Classical.not_imp.1 ha;refine .inr ⟨a :: l,by simp [h1],List.nodup_cons.2 ⟨fun hm=>h5 (h3 a hm),h2⟩,fun x hx=>?_⟩;rcases AU.1 hx with rfl | hx
     · exact h4
     · exact (h3 x hx).up
 rcases key N with h | ⟨l,h1,h2,h3⟩
 · exact h
 ·exfalso;have hn:(l.map code).Nodup:=by
   unfold List.Nodup at h2 ⊢;rw [AT];refine h2.imp_of_mem fun {a b} ha hb ji e=>ji ?_;obtain ⟨c,je,_⟩:=h3 a ha;obtain ⟨d,jg,_⟩:=h3 b hb;exact jb a b c d je jg e
  have hb:=nodup_bound N _ hn fun z hz=>by
   obtain ⟨a,ha,rfl⟩:=AJ.1 hz;obtain ⟨c,jf,_⟩:=h3 a ha;exact hc a c jf
  rw [AO] at hb;omega
end
theorem QQ {R:List Rl} {L:List Slt} {fol:Nat→List UInt8→Option Nat} {i:Nat} {t:Stt} {c:Nat} (h:Rt R L fol i t c):i≤L.length:=by
 induction h with
 | start=>exact Nat.zero_le _
 | step h1 _ _ _ hk _ ih =>
  have h2:=EG hk;rw [Bs,List.length_drop] at h2;omega
theorem J0 {R:List Rl} {L:List Slt} {fol:Nat→List UInt8→Option Nat} {i:Nat} {t:Stt} {c:Nat} (h:Rt R L fol i t c):t.1<8:=by
 cases h with
 | start=>decide
 | step _ _ hf _ _ _=>have:=C2.1 hf;show Int.toNat _<8;omega
theorem QR {R:List Rl} {L:List Slt} {X:List UInt8} {i:Nat} {t:Stt} {c:Nat} (h:Rt R L (H5 X) i t c):t.2≤X.length:=by
 induction h with
 | start=>exact Nat.zero_le _
 | step h1 _ _ _ _ hn ih=>exact RJ ih hn
theorem whole_low {R:List Rl} {acc:Int} {L:List Slt} {X:List UInt8} {i C c:Nat} (hL:Be C L) (h:Cf (Whole R acc L i X) c):c≤(L.length+1)*8*(X.length+1)*(1000+4*C):=by
 obtain ⟨⟨m,h1,h2⟩,h3⟩:=h;have key:=near_count (α:=Nat × Stt) (s:=(0,(0,0))) (rch:=fun a c=>Rt R L (H5 X) a.1 a.2 c) (stp:=fun a b d=>∃ r,b.1=a.1+r.inp.size∧Jb R L (H5 X) a.1 a.2 r b.2 d) (D:=1000+4*C)
  (fun {a b c d} ha ⟨r,e,hs⟩=>by rw [e];exact ha.go hs)
  (fun {a b d} ⟨r,e,hs⟩=>by
   obtain ⟨_,hf,_,k,n',hk,_,_,rfl⟩:=hs;have h4:=letsC_le (hL.drop a.1) hk;have h5:=C2.1 hf;rw [Bs] at h4;have h6:r.inp.size*C≤4*C:=Nat.mul_le_mul_right _ h5.2.2.2.2.1;omega)
  (fun P hs ja a c hr=>by
   obtain ⟨i,t⟩:=a;simp only at hr
   induction hr with
   | start=>exact hs
   | @step i m n n' c k r h1 hr hf hm hk hn ih=>exact ja (i,(m,n)) c _ _ h1 ih ⟨r,rfl,hr,hf,hm,k,n',hk,hn,rfl,rfl⟩)
  .start (fun a=>(a.1*8+a.2.1)*(X.length+1)+a.2.2) ((L.length+1)*8*(X.length+1))
  (fun a c hr=>by
   have h4:=QQ hr;have h5:=J0 hr;have h6:=QR hr;have h7:(a.1*8+a.2.1+1)*(X.length+1)≤(L.length+1)*8*(X.length+1):=Nat.mul_le_mul_right _ (by omega);rw [Nat.succ_mul] at h7;show (a.1*8+a.2.1)*(X.length+1)+a.2.2<_;omega)
  (fun a b c d ha hb e=>by
   have h5:=J0 ha;have h6:=QR ha;have h7:=J0 hb;have h8:=QR hb;obtain ⟨i,m,n⟩:=a;obtain ⟨j,m',n'⟩:=b;simp only at e h5 h6 h7 h8;have e1:i*8+m=j*8+m':=by
    have:((i*8+m)*(X.length+1)+n) / (X.length+1)=((j*8+m')*(X.length+1)+n') / (X.length+1):=congrArg (· / (X.length+1)) e;have q:∀ a b,b≤X.length→(a*(X.length+1)+b) / (X.length+1)=a:=fun a b hb=>by
     rw [Nat.mul_comm,Nat.mul_add_div (Nat.succ_pos _),Nat.div_eq_of_lt (by omega),Nat.add_zero]
    rw [q _ _ h6,q _ _ h8] at this;exact this
   rw [e1] at e;have e2:n=n':=by omega
   have e3:i=j:=by omega
   have e4:m=m':=by omega
   rw [e2,e3,e4])
 obtain ⟨x,hx,jb⟩:=key (i,(m,X.length)) c (rtW.2 h2);exact AA (h3 x ⟨m,h1,rtW.1 hx⟩) jb
def spot (x e:Edg):Bool:=x.1 == e.1 && (x.2.1 == e.2.1 && x.2.2.1 == e.2.2.1)
theorem rval14_any (
          n
           :
            Int) (E:List Edg) (a:Option Addr) (cap:Nat) (w:World) (hE:Bq w a E) (hl:E.length≤1000000) :
  Calls Tryz.prog 24 #[Eh n a E.length cap] w fun e w'=>e=.returned (.bool (Cw n E))∧Ext w w':=by
 have HE:=A0 hE;clear hE;unfold Eh
 go_enter Tryz.func24,Tryz.ntmps24
 go_upto_region 1 with fail
 obtain ⟨wb,ju⟩:∃ wb,w.alloc (.cells #[.int .i64 n,.slice a E.length cap] 45)=wb:=⟨_,rfl⟩
 rw [ju];have jL:Ext w wb:=by rw [← ju];exact (Below.refl _ _).alloc (A5 _) _
 have bb:wb.heap[w.heap.size]? = some (.cells #[.int .i64 n,.slice a E.length cap] 45 (0,0)):=by rw [← ju];exact heap_alloc_new _ _
 obtain ⟨g,hg⟩:∃ g,w.heap.size=g:=⟨_,rfl⟩
 rw [hg] at bb ⊢;have HX:=A0 jL;have ji:=A0 bb;have jj:=A0 (A7.1 bb).1;clear ju jL bb hg;have h9:=(Below.block (Ext.refl _) _ jj.out).trans ji.out;have m0:wb.cell? ⟨g,0,none⟩=some (.int .i64 n):=by rw [cell_of_row _ _ 0 _ _ _ h9];rfl
 have m1:wb.cell? ⟨g,1,none⟩=some (.slice a E.length cap):=by rw [cell_of_row _ _ 1 _ _ _ h9];rfl
 clear h9;by_cases n0:0≤n∧n≤40
 ·have jt:Hid (
          inB
            n
             0 40=true):=FG n0.1 n0.2
  have N0:=A0 n0;clear n0;by_cases n2:(20000:Int)<(E.length:Int)
  ·have HN:Hid (Cw n E=false):=BO fun h=>by
    have h3:=h.2.2.1;omega
   go_wp2_with (go_at_call 51;refine (Ca _ _ _ _).mono ?_;rintro e w' ⟨he,js⟩;obtain rfl:wb=w':=js.symm;rw [jt.out] at he;subst he)
   go_ret;exact ⟨Ab HN.out.symm,HX.out⟩
  have jx:Hid (0≤n∧n≤40∧E.length≤20000):=⟨N0.out.1,N0.out.2,by omega⟩
  go_wp2_with (go_at_call 51;refine (Ca _ _ _ _).mono ?_;rintro e w' ⟨he,js⟩;obtain rfl:wb=w':=js.symm;rw [jt.out] at he;subst he)
  clear n2 m0 m1
  go_loopw [3] (fun i wr=>∃ k:Nat,k≤E.length∧i=.int .i64 (k:Int)∧Ff n E k∧Ext wb wr) (fun i _=>E.length - (intOf i).toNat)
  case atStart=>exact ⟨0,Nat.zero_le _,rfl,fun i _ h=>by omega,Ext.refl _⟩
  case round =>
   obtain ⟨k,hk,rfl,hu,hb⟩:=hrel;have HB:=A0 hb;have HU:=A0 hu;clear hb hu;have h9:=(Below.block HB.out _ jj.out).trans ji.out;have m0:wr.cell? ⟨g,0,none⟩=some (.int .i64 n):=by rw [cell_of_row _ _ 0 _ _ _ h9];rfl
   have m1:wr.cell? ⟨g,1,none⟩=some (.slice a E.length cap):=by rw [cell_of_row _ _ 1 _ _ _ h9];rfl
   clear h9;by_cases jo:k<E.length
   ·have jB
         :
          (k:Int)<(E.length:Int):=by omega
    obtain ⟨b1,o1,ha,hb1,x0,x1,x2,x3⟩:=(HE.out.later (Ext.trans HX.out HB.out) (A5 _)) k jo;have jz:=D1 a b1 o1 E.length cap k ha jo;obtain ⟨⟨e1,e2,e3,e4⟩,hx⟩:∃ x,E[k]'jo=x:=⟨_,rfl⟩
    have jm:=A0 hx;rw [hx] at x0 x1 x2 x3;simp only at x0 x1 x2 x3;have jh:Hid (k<E.length):=jo;clear hx ha
    go_upto_region 7 with fail
    obtain ⟨wq,jv⟩:∃ wq,wr.alloc (.cells #[.int .i64 e1,.int .i64 e2,.int .i64 e3,.int .i64 e4] 62)=wq:=⟨_,rfl⟩
    rw [jv];have jM:Ext wr wq:=by rw [← jv];exact (Below.refl _ _).alloc (A5 _) _
    have bq:wq.heap[wr.heap.size]? = some (.cells #[.int .i64 e1,.int .i64 e2,.int .i64 e3,.int .i64 e4] 62 (0,0)):=by rw [← jv];exact heap_alloc_new _ _
    obtain ⟨gq,jJ⟩:∃ gq,wr.heap.size=gq:=⟨_,rfl⟩
    rw [jJ] at bq ⊢;have jf:=A0 jM;have jk:=A0 bq;have jl:=A0 (A7.1 bq).1;have u0:wq.cell? ⟨gq,0,none⟩=some (.int .i64 e1):=by rw [cell_of_row _ _ 0 _ _ _ bq];rfl
    have u1:wq.cell? ⟨gq,1,none⟩=some (.int .i64 e2):=by rw [cell_of_row _ _ 1 _ _ _ bq];rfl
    have u2:wq.cell? ⟨gq,2,none⟩=some (.int .i64 e3):=by rw [cell_of_row _ _ 2 _ _ _ bq];rfl
    have u3:wq.cell? ⟨gq,3,none⟩=some (.int .i64 e4):=by rw [cell_of_row _ _ 3 _ _ _ bq];rfl
    clear jv jM bq jJ jz x0 x1 x2 x3;clear m0 m1 u0 u1 u2 u3;by_cases a0:e1<0
    ·have HN:Hid (Cw n E=false):=BO fun h=>by
      have:=(h.2.2.2 k jh.out jh.out).1;rw [jm.out] at this;unfold C6 at this;simp only at this;omega
     refine Ak (by kernel_rfl) (Vs [vq (.pointer (some ⟨gq,0,none⟩)),vq (.int .i64 e1),vq (.bool true),vq (.bool true),vq (undef),vq (undef),vq (undef),vq (undef),vq (undef),vq (.bool true),vq (.bool true),vq (undef),vq (undef),vq (undef),vq (undef),vq (undef),vq (.bool true),vq (.bool true),vq (undef),vq (undef),vq (undef),vq (undef),vq (.bool true),vq (.bool true),vq (undef),vq (undef),vq (undef),vq (undef),vq (.bool true),vq (.bool true),vq (undef),vq (undef),vq (undef),vq (undef),vq (undef),vq (undef),vq (undef),vq (undef),vq (undef),vq (undef),vq (undef),vq (undef),vq (undef),vq (.bool true)]) (fun W=>Ext wq W) 71 (by kernel_rfl) rfl ?hVx ?hSx ?hS (As ?hop) ?hfin
     case hop =>
      refine ⟨?_,?_,?_,?_,?_,?_,?_,?_,?_,?_,?_,?_,?_,?_,?_,?_,?_,?_,?_,?_,?_,?_,?_,?_,?_,?_,?_,?_,?_,?_,?_,?_,?_,?_,?_,?_,?_,?_,?_,?_,?_,?_,?_,?_,trivial⟩
      all_goals
       intro A W jc hS jb ja;have jd:Ext wq W:=hS;have h9:=(Below.block (Ext.trans HB.out (Ext.trans jf.out jd)) _ jj.out).trans ji.out;have m0:W.cell? ⟨g,0,none⟩=some (.int .i64 n):=by rw [cell_of_row _ _ 0 _ _ _ h9];rfl
       have m1:W.cell? ⟨g,1,none⟩=some (.slice a E.length cap):=by rw [cell_of_row _ _ 1 _ _ _ h9];rfl
       clear h9;have h8:=(Below.block jd _ jl.out).trans jk.out;have u0:W.cell? ⟨gq,0,none⟩=some (.int .i64 e1):=by rw [cell_of_row _ _ 0 _ _ _ h8];rfl
       have u1:W.cell? ⟨gq,1,none⟩=some (.int .i64 e2):=by rw [cell_of_row _ _ 1 _ _ _ h8];rfl
       have u2:W.cell? ⟨gq,2,none⟩=some (.int .i64 e3):=by rw [cell_of_row _ _ 2 _ _ _ h8];rfl
       have u3:W.cell? ⟨gq,3,none⟩=some (.int .i64 e4):=by rw [cell_of_row _ _ 3 _ _ _ h8];rfl
       clear h8 jd;have h1:A.tmps.getD 1 undef=.pointer (some ⟨g,0,none⟩):=ja 1 (by kernel_rfl);have h3:A.tmps.getD 3 undef=.int .i64 (k:Int):=ja 3 (by kernel_rfl);have h4:A.tmps.getD 4 undef=.pointer (some ⟨gq,0,none⟩):=ja 4 (by kernel_rfl);clear ja;simp [Aa,Region.binds,Vs,vq] at jb
      all_goals first
       | (refine AZ rfl (.inl ⟨_,W,?_,rfl,Ext.refl _⟩);clear jc hS;simp [go_sem,Act.eval, *];done)
       | exact Ay (j:=3) (d:=30) (b:=true) rfl (by kernel_rfl) (by simp only [jb]) rfl rfl
       | exact Ay (j:=10) (d:=37) (b:=true) rfl (by kernel_rfl) (by simp only [jb]) rfl rfl
       | exact Ay (j:=17) (d:=44) (b:=true) rfl (by kernel_rfl) (by simp only [jb]) rfl rfl
       | exact Ay (j:=23) (d:=50) (b:=true) rfl (by kernel_rfl) (by simp only [jb]) rfl rfl
       | exact Ay (j:=29) (d:=56) (b:=true) rfl (by kernel_rfl) (by simp only [jb]) rfl rfl
       | exact Bv (j:=32) (d:=59) rfl (by kernel_rfl) (by simp only [jb]) rfl
     case hVx=>exact Ag (by simp only [AU,List.not_mem_nil,or_false,forall_eq_or_imp,forall_eq];and_intros <;> exact AY _)
     case hSx=>exact fun W W' h hx=>Ext.trans h hx
     case hS=>first | exact Ext.refl _ | exact At _
     case hfin =>
      intro A W jc je hS hv ja;obtain ⟨x,hx,hA⟩:=Ah [27,28,29,30,31,32,33,34,35,36,37,38,39,40,41,42,43,44,45,46,47,48,49,50,51,52,53,54,55,56,57,58,59,60,61,62,63,64,65,66,67,68,69,70] (by kernel_rfl) jc je ja;have e70:x 70=.bool true:=(hx 70).trans (hv 43 (by decide));rw [hA];simp only [List.foldl];rw [e70];clear e70;simp only [Act.put,List.setIfInBounds_toArray,List.set_cons_succ,List.set_cons_zero];clear hA hx hv ja jc je;have jg:=A0 (Ext.trans HX.out (Ext.trans HB.out (Ext.trans jf.out hS)));clear hS
      go_wp2_with fail
      go_ret;exact ⟨Ab HN.out.symm,jg.out⟩
    ·by_cases a1
           :
            e2≤e1
     ·have HN:Hid (Cw n E=false):=BO fun h=>by
       have:=(h.2.2.2 k jh.out jh.out).1;rw [jm.out] at this;unfold C6 at this;simp only at this;omega
      refine Ak (by kernel_rfl) (Vs [vq (.pointer (some ⟨gq,0,none⟩)),vq (.int .i64 e1),vq (.bool false),vq (.bool false),vq (.pointer (some ⟨gq,0,none⟩)),vq (.int .i64 e1),vq (.pointer (some ⟨gq,1,none⟩)),vq (.int .i64 e2),vq (.bool true),vq (.bool true),vq (.bool true),vq (undef),vq (undef),vq (undef),vq (undef),vq (undef),vq (.bool true),vq (.bool true),vq (undef),vq (undef),vq (undef),vq (undef),vq (.bool true),vq (.bool true),vq (undef),vq (undef),vq (undef),vq (undef),vq (.bool true),vq (.bool true),vq (undef),vq (undef),vq (undef),vq (undef),vq (undef),vq (undef),vq (undef),vq (undef),vq (undef),vq (undef),vq (undef),vq (undef),vq (undef),vq (.bool true)]) (fun W=>Ext wq W) 71 (by kernel_rfl) rfl ?hVx ?hSx ?hS (As ?hop) ?hfin
      case hop =>
       refine ⟨?_,?_,?_,?_,?_,?_,?_,?_,?_,?_,?_,?_,?_,?_,?_,?_,?_,?_,?_,?_,?_,?_,?_,?_,?_,?_,?_,?_,?_,?_,?_,?_,?_,?_,?_,?_,?_,?_,?_,?_,?_,?_,?_,?_,trivial⟩
       all_goals
        intro A W jc hS jb ja;have jd:Ext wq W:=hS;have h9:=(Below.block (Ext.trans HB.out (Ext.trans jf.out jd)) _ jj.out).trans ji.out;have m0:W.cell? ⟨g,0,none⟩=some (.int .i64 n):=by rw [cell_of_row _ _ 0 _ _ _ h9];rfl
        have m1:W.cell? ⟨g,1,none⟩=some (.slice a E.length cap):=by rw [cell_of_row _ _ 1 _ _ _ h9];rfl
        clear h9;have h8:=(Below.block jd _ jl.out).trans jk.out;have u0:W.cell? ⟨gq,0,none⟩=some (.int .i64 e1):=by rw [cell_of_row _ _ 0 _ _ _ h8];rfl
        have u1:W.cell? ⟨gq,1,none⟩=some (.int .i64 e2):=by rw [cell_of_row _ _ 1 _ _ _ h8];rfl
        have u2:W.cell? ⟨gq,2,none⟩=some (.int .i64 e3):=by rw [cell_of_row _ _ 2 _ _ _ h8];rfl
        have u3:W.cell? ⟨gq,3,none⟩=some (.int .i64 e4):=by rw [cell_of_row _ _ 3 _ _ _ h8];rfl
        clear h8 jd;have h1:A.tmps.getD 1 undef=.pointer (some ⟨g,0,none⟩):=ja 1 (by kernel_rfl);have h3:A.tmps.getD 3 undef=.int .i64 (k:Int):=ja 3 (by kernel_rfl);have h4:A.tmps.getD 4 undef=.pointer (some ⟨gq,0,none⟩):=ja 4 (by kernel_rfl);clear ja;simp [Aa,Region.binds,Vs,vq] at jb
       all_goals first
        | (refine AZ rfl (.inl ⟨_,W,?_,rfl,Ext.refl _⟩);clear jc hS;simp [go_sem,Act.eval, *];done)
        | (refine Ad (j:=3) (d:=30) (b:=false) rfl (by kernel_rfl) (by simp only [jb]) rfl (.inl ⟨_,W,?_,rfl,Ext.refl _⟩);clear jc hS;simp [go_sem,Act.eval, *];done)
        | exact Ay (j:=10) (d:=37) (b:=true) rfl (by kernel_rfl) (by simp only [jb]) rfl rfl
        | exact Ay (j:=17) (d:=44) (b:=true) rfl (by kernel_rfl) (by simp only [jb]) rfl rfl
        | exact Ay (j:=23) (d:=50) (b:=true) rfl (by kernel_rfl) (by simp only [jb]) rfl rfl
        | exact Ay (j:=29) (d:=56) (b:=true) rfl (by kernel_rfl) (by simp only [jb]) rfl rfl
        | exact Bv (j:=32) (d:=59) rfl (by kernel_rfl) (by simp only [jb]) rfl
      case hVx=>exact Ag (by simp only [AU,List.not_mem_nil,or_false,forall_eq_or_imp,forall_eq];and_intros <;> exact AY _)
      case hSx=>exact fun W W' h hx=>Ext.trans h hx
      case hS=>first | exact Ext.refl _ | exact At _
      case hfin =>
       intro A W jc je hS hv ja;obtain ⟨x,hx,hA⟩:=Ah [27,28,29,30,31,32,33,34,35,36,37,38,39,40,41,42,43,44,45,46,47,48,49,50,51,52,53,54,55,56,57,58,59,60,61,62,63,64,65,66,67,68,69,70] (by kernel_rfl) jc je ja;have e70:x 70=.bool true:=(hx 70).trans (hv 43 (by decide));rw [hA];simp only [List.foldl];rw [e70];clear e70;simp only [Act.put,List.setIfInBounds_toArray,List.set_cons_succ,List.set_cons_zero];clear hA hx hv ja jc je;have jg:=A0 (Ext.trans HX.out (Ext.trans HB.out (Ext.trans jf.out hS)));clear hS
       go_wp2_with fail
       go_ret;exact ⟨Ab HN.out.symm,jg.out⟩
     ·by_cases a2
            :
             n<e2
      ·have HN:Hid (Cw n E=false):=BO fun h=>by
        have:=(h.2.2.2 k jh.out jh.out).1;rw [jm.out] at this;unfold C6 at this;simp only at this;omega
       refine Ak (by kernel_rfl) (Vs [vq (.pointer (some ⟨gq,0,none⟩)),vq (.int .i64 e1),vq (.bool false),vq (.bool false),vq (.pointer (some ⟨gq,0,none⟩)),vq (.int .i64 e1),vq (.pointer (some ⟨gq,1,none⟩)),vq (.int .i64 e2),vq (.bool false),vq (.bool false),vq (.bool false),vq (.pointer (some ⟨gq,1,none⟩)),vq (.int .i64 e2),vq (.pointer (some ⟨g,0,none⟩)),vq (.int .i64 n),vq (.bool true),vq (.bool true),vq (.bool true),vq (undef),vq (undef),vq (undef),vq (undef),vq (.bool true),vq (.bool true),vq (undef),vq (undef),vq (undef),vq (undef),vq (.bool true),vq (.bool true),vq (undef),vq (undef),vq (undef),vq (undef),vq (undef),vq (undef),vq (undef),vq (undef),vq (undef),vq (undef),vq (undef),vq (undef),vq (undef),vq (.bool true)]) (fun W=>Ext wq W) 71 (by kernel_rfl) rfl ?hVx ?hSx ?hS (As ?hop) ?hfin
       case hop =>
        refine ⟨?_,?_,?_,?_,?_,?_,?_,?_,?_,?_,?_,?_,?_,?_,?_,?_,?_,?_,?_,?_,?_,?_,?_,?_,?_,?_,?_,?_,?_,?_,?_,?_,?_,?_,?_,?_,?_,?_,?_,?_,?_,?_,?_,?_,trivial⟩
        all_goals
         intro A W jc hS jb ja;have jd:Ext wq W:=hS;have h9:=(Below.block (Ext.trans HB.out (Ext.trans jf.out jd)) _ jj.out).trans ji.out;have m0:W.cell? ⟨g,0,none⟩=some (.int .i64 n):=by rw [cell_of_row _ _ 0 _ _ _ h9];rfl
         have m1:W.cell? ⟨g,1,none⟩=some (.slice a E.length cap):=by rw [cell_of_row _ _ 1 _ _ _ h9];rfl
         clear h9;have h8:=(Below.block jd _ jl.out).trans jk.out;have u0:W.cell? ⟨gq,0,none⟩=some (.int .i64 e1):=by rw [cell_of_row _ _ 0 _ _ _ h8];rfl
         have u1:W.cell? ⟨gq,1,none⟩=some (.int .i64 e2):=by rw [cell_of_row _ _ 1 _ _ _ h8];rfl
         have u2:W.cell? ⟨gq,2,none⟩=some (.int .i64 e3):=by rw [cell_of_row _ _ 2 _ _ _ h8];rfl
         have u3:W.cell? ⟨gq,3,none⟩=some (.int .i64 e4):=by rw [cell_of_row _ _ 3 _ _ _ h8];rfl
         clear h8 jd;have h1:A.tmps.getD 1 undef=.pointer (some ⟨g,0,none⟩):=ja 1 (by kernel_rfl);have h3:A.tmps.getD 3 undef=.int .i64 (k:Int):=ja 3 (by kernel_rfl);have h4:A.tmps.getD 4 undef=.pointer (some ⟨gq,0,none⟩):=ja 4 (by kernel_rfl);clear ja;simp [Aa,Region.binds,Vs,vq] at jb
        all_goals first
         | (refine AZ rfl (.inl ⟨_,W,?_,rfl,Ext.refl _⟩);clear jc hS;simp [go_sem,Act.eval, *];done)
         | (refine Ad (j:=3) (d:=30) (b:=false) rfl (by kernel_rfl) (by simp only [jb]) rfl (.inl ⟨_,W,?_,rfl,Ext.refl _⟩);clear jc hS;simp [go_sem,Act.eval, *];done)
         | (refine Ad (j:=10) (d:=37) (b:=false) rfl (by kernel_rfl) (by simp only [jb]) rfl (.inl ⟨_,W,?_,rfl,Ext.refl _⟩);clear jc hS;simp [go_sem,Act.eval, *];done)
         | exact Ay (j:=17) (d:=44) (b:=true) rfl (by kernel_rfl) (by simp only [jb]) rfl rfl
         | exact Ay (j:=23) (d:=50) (b:=true) rfl (by kernel_rfl) (by simp only [jb]) rfl rfl
         | exact Ay (j:=29) (d:=56) (b:=true) rfl (by kernel_rfl) (by simp only [jb]) rfl rfl
         | exact Bv (j:=32) (d:=59) rfl (by kernel_rfl) (by simp only [jb]) rfl
       case hVx=>exact Ag (by simp only [AU,List.not_mem_nil,or_false,forall_eq_or_imp,forall_eq];and_intros <;> exact AY _)
       case hSx=>exact fun W W' h hx=>Ext.trans h hx
       case hS=>first | exact Ext.refl _ | exact At _
       case hfin =>
        intro A W jc je hS hv ja;obtain ⟨x,hx,hA⟩:=Ah [27,28,29,30,31,32,33,34,35,36,37,38,39,40,41,42,43,44,45,46,47,48,49,50,51,52,53,54,55,56,57,58,59,60,61,62,63,64,65,66,67,68,69,70] (by kernel_rfl) jc je ja;have e70:x 70=.bool true:=(hx 70).trans (hv 43 (by decide));rw [hA];simp only [List.foldl];rw [e70];clear e70;simp only [Act.put,List.setIfInBounds_toArray,List.set_cons_succ,List.set_cons_zero];clear hA hx hv ja jc je;have jg:=A0 (Ext.trans HX.out (Ext.trans HB.out (Ext.trans jf.out hS)));clear hS
        go_wp2_with fail
        go_ret;exact ⟨Ab HN.out.symm,jg.out⟩
      ·by_cases a3
             : ¬ (0≤e3∧e3≤199)
       ·have HN:Hid (Cw n E=false):=BO fun h=>by
         have:=(h.2.2.2 k jh.out jh.out).1;rw [jm.out] at this;unfold C6 at this;simp only at this;omega
        have jp:Hid (inB e3 0 199=false):=En a3;clear a3;refine Ak (by kernel_rfl) (Vs [vq (.pointer (some ⟨gq,0,none⟩)),vq (.int .i64 e1),vq (.bool false),vq (.bool false),vq (.pointer (some ⟨gq,0,none⟩)),vq (.int .i64 e1),vq (.pointer (some ⟨gq,1,none⟩)),vq (.int .i64 e2),vq (.bool false),vq (.bool false),vq (.bool false),vq (.pointer (some ⟨gq,1,none⟩)),vq (.int .i64 e2),vq (.pointer (some ⟨g,0,none⟩)),vq (.int .i64 n),vq (.bool false),vq (.bool false),vq (.bool false),vq (.pointer (some ⟨gq,2,none⟩)),vq (.int .i64 e3),vq (.bool false),vq (.bool true),vq (.bool true),vq (.bool true),vq (undef),vq (undef),vq (undef),vq (undef),vq (.bool true),vq (.bool true),vq (undef),vq (undef),vq (undef),vq (undef),vq (undef),vq (undef),vq (undef),vq (undef),vq (undef),vq (undef),vq (undef),vq (undef),vq (undef),vq (.bool true)]) (fun W=>Ext wq W) 71 (by kernel_rfl) rfl ?hVx ?hSx ?hS (As ?hop) ?hfin
        case hop =>
         refine ⟨?_,?_,?_,?_,?_,?_,?_,?_,?_,?_,?_,?_,?_,?_,?_,?_,?_,?_,?_,?_,?k20,?_,?_,?_,?_,?_,?_,?_,?_,?_,?_,?_,?_,?_,?_,?_,?_,?_,?_,?_,?_,?_,?_,?_,trivial⟩
         all_goals
          intro A W jc hS jb ja;have jd:Ext wq W:=hS;have h9:=(Below.block (Ext.trans HB.out (Ext.trans jf.out jd)) _ jj.out).trans ji.out;have m0:W.cell? ⟨g,0,none⟩=some (.int .i64 n):=by rw [cell_of_row _ _ 0 _ _ _ h9];rfl
          have m1:W.cell? ⟨g,1,none⟩=some (.slice a E.length cap):=by rw [cell_of_row _ _ 1 _ _ _ h9];rfl
          clear h9;have h8:=(Below.block jd _ jl.out).trans jk.out;have u0:W.cell? ⟨gq,0,none⟩=some (.int .i64 e1):=by rw [cell_of_row _ _ 0 _ _ _ h8];rfl
          have u1:W.cell? ⟨gq,1,none⟩=some (.int .i64 e2):=by rw [cell_of_row _ _ 1 _ _ _ h8];rfl
          have u2:W.cell? ⟨gq,2,none⟩=some (.int .i64 e3):=by rw [cell_of_row _ _ 2 _ _ _ h8];rfl
          have u3:W.cell? ⟨gq,3,none⟩=some (.int .i64 e4):=by rw [cell_of_row _ _ 3 _ _ _ h8];rfl
          clear h8 jd;have h1:A.tmps.getD 1 undef=.pointer (some ⟨g,0,none⟩):=ja 1 (by kernel_rfl);have h3:A.tmps.getD 3 undef=.int .i64 (k:Int):=ja 3 (by kernel_rfl);have h4:A.tmps.getD 4 undef=.pointer (some ⟨gq,0,none⟩):=ja 4 (by kernel_rfl);clear ja;simp [Aa,Region.binds,Vs,vq] at jb
         case k20 =>
          refine Ad (j:=17) (d:=44) (b:=false) rfl (by kernel_rfl) (by simp only [jb]) rfl (.inr ⟨51,#[.int .i64 (e3),.int .i64 (0),.int .i64 (199)],W,by (clear jc hS;simp [go_sem,Act.eval, *]),?_⟩);refine (Ca _ _ _ W).mono ?_;rintro e w' ⟨he,rfl⟩;rw [jp.out] at he;exact ⟨_,he,rfl,Ext.refl _⟩
         all_goals first
          | (refine AZ rfl (.inl ⟨_,W,?_,rfl,Ext.refl _⟩);clear jc hS;simp [go_sem,Act.eval, *];done)
          | (refine Ad (j:=3) (d:=30) (b:=false) rfl (by kernel_rfl) (by simp only [jb]) rfl (.inl ⟨_,W,?_,rfl,Ext.refl _⟩);clear jc hS;simp [go_sem,Act.eval, *];done)
          | (refine Ad (j:=10) (d:=37) (b:=false) rfl (by kernel_rfl) (by simp only [jb]) rfl (.inl ⟨_,W,?_,rfl,Ext.refl _⟩);clear jc hS;simp [go_sem,Act.eval, *];done)
          | (refine Ad (j:=17) (d:=44) (b:=false) rfl (by kernel_rfl) (by simp only [jb]) rfl (.inl ⟨_,W,?_,rfl,Ext.refl _⟩);clear jc hS;simp [go_sem,Act.eval, *];done)
          | exact Ay (j:=23) (d:=50) (b:=true) rfl (by kernel_rfl) (by simp only [jb]) rfl rfl
          | exact Ay (j:=29) (d:=56) (b:=true) rfl (by kernel_rfl) (by simp only [jb]) rfl rfl
          | exact Bv (j:=32) (d:=59) rfl (by kernel_rfl) (by simp only [jb]) rfl
        case hVx=>exact Ag (by simp only [AU,List.not_mem_nil,or_false,forall_eq_or_imp,forall_eq];and_intros <;> exact AY _)
        case hSx=>exact fun W W' h hx=>Ext.trans h hx
        case hS=>first | exact Ext.refl _ | exact At _
        case hfin =>
         intro A W jc je hS hv ja;obtain ⟨x,hx,hA⟩:=Ah [27,28,29,30,31,32,33,34,35,36,37,38,39,40,41,42,43,44,45,46,47,48,49,50,51,52,53,54,55,56,57,58,59,60,61,62,63,64,65,66,67,68,69,70] (by kernel_rfl) jc je ja;have e70:x 70=.bool true:=(hx 70).trans (hv 43 (by decide));rw [hA];simp only [List.foldl];rw [e70];clear e70;simp only [Act.put,List.setIfInBounds_toArray,List.set_cons_succ,List.set_cons_zero];clear hA hx hv ja jc je;have jg:=A0 (Ext.trans HX.out (Ext.trans HB.out (Ext.trans jf.out hS)));clear hS
         go_wp2_with fail
         go_ret;exact ⟨Ab HN.out.symm,jg.out⟩
       ·have a3
            := Classical.not_not.1 a3
        have jp:Hid (inB e3 0 199=true):=FG a3.1 a3.2;have A3:=A0 a3;clear a3;by_cases a4:¬ (0≤e4∧e4≤1000000)
        ·have HN:Hid (Cw n E=false):=BO fun h=>by
          have:=(h.2.2.2 k jh.out jh.out).1;rw [jm.out] at this;unfold C6 at this;simp only at this;omega
         have jq:Hid (inB e4 0 1000000=false):=En a4;clear a4;refine Ak (by kernel_rfl) (Vs [vq (.pointer (some ⟨gq,0,none⟩)),vq (.int .i64 e1),vq (.bool false),vq (.bool false),vq (.pointer (some ⟨gq,0,none⟩)),vq (.int .i64 e1),vq (.pointer (some ⟨gq,1,none⟩)),vq (.int .i64 e2),vq (.bool false),vq (.bool false),vq (.bool false),vq (.pointer (some ⟨gq,1,none⟩)),vq (.int .i64 e2),vq (.pointer (some ⟨g,0,none⟩)),vq (.int .i64 n),vq (.bool false),vq (.bool false),vq (.bool false),vq (.pointer (some ⟨gq,2,none⟩)),vq (.int .i64 e3),vq (.bool true),vq (.bool false),vq (.bool false),vq (.bool false),vq (.pointer (some ⟨gq,3,none⟩)),vq (.int .i64 e4),vq (.bool false),vq (.bool true),vq (.bool true),vq (.bool true),vq (undef),vq (undef),vq (undef),vq (undef),vq (undef),vq (undef),vq (undef),vq (undef),vq (undef),vq (undef),vq (undef),vq (undef),vq (undef),vq (.bool true)]) (fun W=>Ext wq W) 71 (by kernel_rfl) rfl ?hVx ?hSx ?hS (As ?hop) ?hfin
         case hop =>
          refine ⟨?_,?_,?_,?_,?_,?_,?_,?_,?_,?_,?_,?_,?_,?_,?_,?_,?_,?_,?_,?_,?k20,?_,?_,?_,?_,?_,?k26,?_,?_,?_,?_,?_,?_,?_,?_,?_,?_,?_,?_,?_,?_,?_,?_,?_,trivial⟩
          all_goals
           intro A W jc hS jb ja;have jd:Ext wq W:=hS;have h9:=(Below.block (Ext.trans HB.out (Ext.trans jf.out jd)) _ jj.out).trans ji.out;have m0:W.cell? ⟨g,0,none⟩=some (.int .i64 n):=by rw [cell_of_row _ _ 0 _ _ _ h9];rfl
           have m1:W.cell? ⟨g,1,none⟩=some (.slice a E.length cap):=by rw [cell_of_row _ _ 1 _ _ _ h9];rfl
           clear h9;have h8:=(Below.block jd _ jl.out).trans jk.out;have u0:W.cell? ⟨gq,0,none⟩=some (.int .i64 e1):=by rw [cell_of_row _ _ 0 _ _ _ h8];rfl
           have u1:W.cell? ⟨gq,1,none⟩=some (.int .i64 e2):=by rw [cell_of_row _ _ 1 _ _ _ h8];rfl
           have u2:W.cell? ⟨gq,2,none⟩=some (.int .i64 e3):=by rw [cell_of_row _ _ 2 _ _ _ h8];rfl
           have u3:W.cell? ⟨gq,3,none⟩=some (.int .i64 e4):=by rw [cell_of_row _ _ 3 _ _ _ h8];rfl
           clear h8 jd;have h1:A.tmps.getD 1 undef=.pointer (some ⟨g,0,none⟩):=ja 1 (by kernel_rfl);have h3:A.tmps.getD 3 undef=.int .i64 (k:Int):=ja 3 (by kernel_rfl);have h4:A.tmps.getD 4 undef=.pointer (some ⟨gq,0,none⟩):=ja 4 (by kernel_rfl);clear ja;simp [Aa,Region.binds,Vs,vq] at jb
          case k20 =>
           refine Ad (j:=17) (d:=44) (b:=false) rfl (by kernel_rfl) (by simp only [jb]) rfl (.inr ⟨51,#[.int .i64 (e3),.int .i64 (0),.int .i64 (199)],W,by (clear jc hS;simp [go_sem,Act.eval, *]),?_⟩);refine (Ca _ _ _ W).mono ?_;rintro e w' ⟨he,rfl⟩;rw [jp.out] at he;exact ⟨_,he,rfl,Ext.refl _⟩
          case k26 =>
           refine Ad (j:=23) (d:=50) (b:=false) rfl (by kernel_rfl) (by simp only [jb]) rfl (.inr ⟨51,#[.int .i64 (e4),.int .i64 (0),.int .i64 (1000000)],W,by (clear jc hS;simp [go_sem,Act.eval, *]),?_⟩);refine (Ca _ _ _ W).mono ?_;rintro e w' ⟨he,rfl⟩;rw [jq.out] at he;exact ⟨_,he,rfl,Ext.refl _⟩
          all_goals first
           | (refine AZ rfl (.inl ⟨_,W,?_,rfl,Ext.refl _⟩);clear jc hS;simp [go_sem,Act.eval, *];done)
           | (refine Ad (j:=3) (d:=30) (b:=false) rfl (by kernel_rfl) (by simp only [jb]) rfl (.inl ⟨_,W,?_,rfl,Ext.refl _⟩);clear jc hS;simp [go_sem,Act.eval, *];done)
           | (refine Ad (j:=10) (d:=37) (b:=false) rfl (by kernel_rfl) (by simp only [jb]) rfl (.inl ⟨_,W,?_,rfl,Ext.refl _⟩);clear jc hS;simp [go_sem,Act.eval, *];done)
           | (refine Ad (j:=17) (d:=44) (b:=false) rfl (by kernel_rfl) (by simp only [jb]) rfl (.inl ⟨_,W,?_,rfl,Ext.refl _⟩);clear jc hS;simp [go_sem,Act.eval, *];done)
           | (refine Ad (j:=23) (d:=50) (b:=false) rfl (by kernel_rfl) (by simp only [jb]) rfl (.inl ⟨_,W,?_,rfl,Ext.refl _⟩);clear jc hS;simp [go_sem,Act.eval, *];done)
           | exact Ay (j:=29) (d:=56) (b:=true) rfl (by kernel_rfl) (by simp only [jb]) rfl rfl
           | exact Bv (j:=32) (d:=59) rfl (by kernel_rfl) (by simp only [jb]) rfl
         case hVx=>exact Ag (by simp only [AU,List.not_mem_nil,or_false,forall_eq_or_imp,forall_eq];and_intros <;> exact AY _)
         case hSx=>exact fun W W' h hx=>Ext.trans h hx
         case hS=>first | exact Ext.refl _ | exact At _
         case hfin =>
          intro A W jc je hS hv ja;obtain ⟨x,hx,hA⟩:=Ah [27,28,29,30,31,32,33,34,35,36,37,38,39,40,41,42,43,44,45,46,47,48,49,50,51,52,53,54,55,56,57,58,59,60,61,62,63,64,65,66,67,68,69,70] (by kernel_rfl) jc je ja;have e70:x 70=.bool true:=(hx 70).trans (hv 43 (by decide));rw [hA];simp only [List.foldl];rw [e70];clear e70;simp only [Act.put,List.setIfInBounds_toArray,List.set_cons_succ,List.set_cons_zero];clear hA hx hv ja jc je;have jg:=A0 (Ext.trans HX.out (Ext.trans HB.out (Ext.trans jf.out hS)));clear hS
          go_wp2_with fail
          go_ret;exact ⟨Ab HN.out.symm,jg.out⟩
        ·have a4
             := Classical.not_not.1 a4
         have jq:Hid (inB e4 0 1000000=true):=FG a4.1 a4.2;have A4:=A0 a4;clear a4;have jC:Hid (C6 n (E[k]'jo)):=by
          show C6 n (E[k]'jo);rw [jm.out];unfold C6;simp only;have:=A3.out;have:=A4.out;omega
         by_cases jA:k=0
         ·have jy:¬ (0:Int)<(k:Int):=by omega
          have jN:=A0 jA;have HS:Hid (Ff n E (k+1)):=HU.out.step jh.out jC.out (fun h=>by omega);clear jA;refine Ak (by kernel_rfl) (Vs [vq (.pointer (some ⟨gq,0,none⟩)),vq (.int .i64 e1),vq (.bool false),vq (.bool false),vq (.pointer (some ⟨gq,0,none⟩)),vq (.int .i64 e1),vq (.pointer (some ⟨gq,1,none⟩)),vq (.int .i64 e2),vq (.bool false),vq (.bool false),vq (.bool false),vq (.pointer (some ⟨gq,1,none⟩)),vq (.int .i64 e2),vq (.pointer (some ⟨g,0,none⟩)),vq (.int .i64 n),vq (.bool false),vq (.bool false),vq (.bool false),vq (.pointer (some ⟨gq,2,none⟩)),vq (.int .i64 e3),vq (.bool true),vq (.bool false),vq (.bool false),vq (.bool false),vq (.pointer (some ⟨gq,3,none⟩)),vq (.int .i64 e4),vq (.bool true),vq (.bool false),vq (.bool false),vq (.bool false),vq (.int .i64 (k:Int)),vq (.bool false),vq (.bool false),vq (undef),vq (undef),vq (undef),vq (undef),vq (undef),vq (undef),vq (undef),vq (undef),vq (undef),vq (.bool false),vq (.bool false)]) (fun W=>Ext wq W) 71 (by kernel_rfl) rfl ?hVx ?hSx ?hS (As ?hop) ?hfin
          case hop =>
           refine ⟨?_,?_,?_,?_,?_,?_,?_,?_,?_,?_,?_,?_,?_,?_,?_,?_,?_,?_,?_,?_,?k20,?_,?_,?_,?_,?_,?k26,?_,?_,?_,?_,?k31,?_,?_,?_,?_,?_,?_,?_,?_,?_,?_,?_,?_,trivial⟩
           all_goals
            intro A W jc hS jb ja;have jd:Ext wq W:=hS;have h9:=(Below.block (Ext.trans HB.out (Ext.trans jf.out jd)) _ jj.out).trans ji.out;have m0:W.cell? ⟨g,0,none⟩=some (.int .i64 n):=by rw [cell_of_row _ _ 0 _ _ _ h9];rfl
            have m1:W.cell? ⟨g,1,none⟩=some (.slice a E.length cap):=by rw [cell_of_row _ _ 1 _ _ _ h9];rfl
            clear h9;have h8:=(Below.block jd _ jl.out).trans jk.out;have u0:W.cell? ⟨gq,0,none⟩=some (.int .i64 e1):=by rw [cell_of_row _ _ 0 _ _ _ h8];rfl
            have u1:W.cell? ⟨gq,1,none⟩=some (.int .i64 e2):=by rw [cell_of_row _ _ 1 _ _ _ h8];rfl
            have u2:W.cell? ⟨gq,2,none⟩=some (.int .i64 e3):=by rw [cell_of_row _ _ 2 _ _ _ h8];rfl
            have u3:W.cell? ⟨gq,3,none⟩=some (.int .i64 e4):=by rw [cell_of_row _ _ 3 _ _ _ h8];rfl
            clear h8 jd;have h1:A.tmps.getD 1 undef=.pointer (some ⟨g,0,none⟩):=ja 1 (by kernel_rfl);have h3:A.tmps.getD 3 undef=.int .i64 (k:Int):=ja 3 (by kernel_rfl);have h4:A.tmps.getD 4 undef=.pointer (some ⟨gq,0,none⟩):=ja 4 (by kernel_rfl);clear ja;simp [Aa,Region.binds,Vs,vq] at jb
           case k20 =>
            refine Ad (j:=17) (d:=44) (b:=false) rfl (by kernel_rfl) (by simp only [jb]) rfl (.inr ⟨51,#[.int .i64 (e3),.int .i64 (0),.int .i64 (199)],W,by (clear jc hS;simp [go_sem,Act.eval, *]),?_⟩);refine (Ca _ _ _ W).mono ?_;rintro e w' ⟨he,rfl⟩;rw [jp.out] at he;exact ⟨_,he,rfl,Ext.refl _⟩
           case k26 =>
            refine Ad (j:=23) (d:=50) (b:=false) rfl (by kernel_rfl) (by simp only [jb]) rfl (.inr ⟨51,#[.int .i64 (e4),.int .i64 (0),.int .i64 (1000000)],W,by (clear jc hS;simp [go_sem,Act.eval, *]),?_⟩);refine (Ca _ _ _ W).mono ?_;rintro e w' ⟨he,rfl⟩;rw [jq.out] at he;exact ⟨_,he,rfl,Ext.refl _⟩
           case k31 =>
            refine Ad (j:=29) (d:=56) (b:=false) rfl (by kernel_rfl) (by simp only [jb]) rfl (.inl ⟨_,W,?_,rfl,Ext.refl _⟩);clear jc hS;simp [go_sem,Act.eval, *];exact jN.out
           all_goals first
            | (refine AZ rfl (.inl ⟨_,W,?_,rfl,Ext.refl _⟩);clear jc hS;simp [go_sem,Act.eval, *];done)
            | (refine Ad (j:=3) (d:=30) (b:=false) rfl (by kernel_rfl) (by simp only [jb]) rfl (.inl ⟨_,W,?_,rfl,Ext.refl _⟩);clear jc hS;simp [go_sem,Act.eval, *];done)
            | (refine Ad (j:=10) (d:=37) (b:=false) rfl (by kernel_rfl) (by simp only [jb]) rfl (.inl ⟨_,W,?_,rfl,Ext.refl _⟩);clear jc hS;simp [go_sem,Act.eval, *];done)
            | (refine Ad (j:=17) (d:=44) (b:=false) rfl (by kernel_rfl) (by simp only [jb]) rfl (.inl ⟨_,W,?_,rfl,Ext.refl _⟩);clear jc hS;simp [go_sem,Act.eval, *];done)
            | (refine Ad (j:=23) (d:=50) (b:=false) rfl (by kernel_rfl) (by simp only [jb]) rfl (.inl ⟨_,W,?_,rfl,Ext.refl _⟩);clear jc hS;simp [go_sem,Act.eval, *];done)
            | (refine Ad (j:=29) (d:=56) (b:=false) rfl (by kernel_rfl) (by simp only [jb]) rfl (.inl ⟨_,W,?_,rfl,Ext.refl _⟩);clear jc hS;simp [go_sem,Act.eval, *];done)
            | exact Ay (j:=32) (d:=59) (b:=false) rfl (by kernel_rfl) (by simp only [jb]) rfl rfl
          case hVx=>exact Ag (by simp only [AU,List.not_mem_nil,or_false,forall_eq_or_imp,forall_eq];and_intros <;> exact AY _)
          case hSx=>exact fun W W' h hx=>Ext.trans h hx
          case hS=>first | exact Ext.refl _ | exact At _
          case hfin =>
           intro A W jc je hS hv ja;obtain ⟨x,hx,hA⟩:=Ah [27,28,29,30,31,32,33,34,35,36,37,38,39,40,41,42,43,44,45,46,47,48,49,50,51,52,53,54,55,56,57,58,59,60,61,62,63,64,65,66,67,68,69,70] (by kernel_rfl) jc je ja;have e70:x 70=.bool false:=(hx 70).trans (hv 43 (by decide));rw [hA];simp only [List.foldl];rw [e70];clear e70;simp only [Act.put,List.setIfInBounds_toArray,List.set_cons_succ,List.set_cons_zero];clear hA hx hv ja jc je;have jg:=A0 (Ext.trans HB.out (Ext.trans jf.out hS));clear hS
           go_wp2_with fail
           go_roundw
           case rel=>exact ⟨k+1,by omega,by go_num,HS.out,jg.out⟩
           case measure=>simp [intOf];omega
         ·have jy:(0:Int)<(k:Int):=by omega
          have jw:Hid (0<k):=by show 0<k;omega
          have hj:k - 1<E.length:=by omega
          obtain ⟨b2,o2,jI,jn,y0,y1,y2,y3⟩:=(HE.out.later (Ext.trans HX.out (Ext.trans HB.out jf.out)) (A5 _)) (k - 1) hj;have jr:=D1 a b2 o2 E.length cap (k - 1) jI hj;obtain ⟨⟨q1,q2,q3,q4⟩,hy⟩:∃ y,E[k - 1]'hj=y:=⟨_,rfl⟩
          have jH:Hid (E[k - 1]'(Nat.lt_of_le_of_lt (Nat.sub_le k 1) jo)=(q1,q2,q3,q4)):=hy;simp only [hy] at y0 y1 y2 y3;obtain ⟨j,jK⟩:∃ j,k - 1=j:=⟨_,rfl⟩
          have hwk:IntKind.i64.wrap ((k:Int) - 1)=(j:Int):=by rw [IntWalk.i64_in _ (by omega)];omega
          rw [jK] at jr y0 y1 y2 y3;have jD:=A0 y0;have jE:=A0 y1;have jF:=A0 y2;have jG:=A0 y3;obtain ⟨z,hz⟩:∃ z,decide (Bx (q1,q2,q3,q4) (e1,e2,e3,e4))=z:=⟨_,rfl⟩
          have HZ:=A0 hz;clear hy jI jK hj y0 y1 y2 y3 jA hz;cases z with
          | false =>
           have HN:Hid (Cw n E=false):=BO fun h=>by
            have h1:=(h.2.2.2 k jh.out jh.out).2 jw.out;rw [jm.out,jH.out] at h1;exact absurd h1 (of_decide_eq_false HZ.out)
           refine Ak (by kernel_rfl) (Vs [vq (.pointer (some ⟨gq,0,none⟩)),vq (.int .i64 e1),vq (.bool false),vq (.bool false),vq (.pointer (some ⟨gq,0,none⟩)),vq (.int .i64 e1),vq (.pointer (some ⟨gq,1,none⟩)),vq (.int .i64 e2),vq (.bool false),vq (.bool false),vq (.bool false),vq (.pointer (some ⟨gq,1,none⟩)),vq (.int .i64 e2),vq (.pointer (some ⟨g,0,none⟩)),vq (.int .i64 n),vq (.bool false),vq (.bool false),vq (.bool false),vq (.pointer (some ⟨gq,2,none⟩)),vq (.int .i64 e3),vq (.bool true),vq (.bool false),vq (.bool false),vq (.bool false),vq (.pointer (some ⟨gq,3,none⟩)),vq (.int .i64 e4),vq (.bool true),vq (.bool false),vq (.bool false),vq (.bool false),vq (.int .i64 (k:Int)),vq (.bool true),vq (.bool true),vq (.pointer (some ⟨g,1,none⟩)),vq (.slice a E.length cap),vq (.int .i64 (k:Int)),vq (.int .i64 (j:Int)),vq (.pointer (some ⟨b2,o2+j*4,none⟩)),vq (.agg #[.int .i64 q1,.int .i64 q2,.int .i64 q3,.int .i64 q4]),vq (.agg #[.int .i64 e1,.int .i64 e2,.int .i64 e3,.int .i64 e4]),vq (.bool false),vq (.bool true),vq (.bool true),vq (.bool true)]) (fun W=>Ext wq W) 71 (by kernel_rfl) rfl ?hVx ?hSx ?hS (As ?hop) ?hfin
           case hop =>
            refine ⟨?_,?_,?_,?_,?_,?_,?_,?_,?_,?_,?_,?_,?_,?_,?_,?_,?_,?_,?_,?_,?k20,?_,?_,?_,?_,?_,?k26,?_,?_,?_,?_,?k31,?_,?_,?_,?_,?_,?_,?_,?_,?k40,?_,?_,?_,trivial⟩
            all_goals
             intro A W jc hS jb ja;have jd:Ext wq W:=hS;have h9:=(Below.block (Ext.trans HB.out (Ext.trans jf.out jd)) _ jj.out).trans ji.out;have m0:W.cell? ⟨g,0,none⟩=some (.int .i64 n):=by rw [cell_of_row _ _ 0 _ _ _ h9];rfl
             have m1:W.cell? ⟨g,1,none⟩=some (.slice a E.length cap):=by rw [cell_of_row _ _ 1 _ _ _ h9];rfl
             clear h9;have h8:=(Below.block jd _ jl.out).trans jk.out;have u0:W.cell? ⟨gq,0,none⟩=some (.int .i64 e1):=by rw [cell_of_row _ _ 0 _ _ _ h8];rfl
             have u1:W.cell? ⟨gq,1,none⟩=some (.int .i64 e2):=by rw [cell_of_row _ _ 1 _ _ _ h8];rfl
             have u2:W.cell? ⟨gq,2,none⟩=some (.int .i64 e3):=by rw [cell_of_row _ _ 2 _ _ _ h8];rfl
             have u3:W.cell? ⟨gq,3,none⟩=some (.int .i64 e4):=by rw [cell_of_row _ _ 3 _ _ _ h8];rfl
             clear h8 jd;have y0:=(Below.cell hS (p:=⟨b2,o2+j*4,none⟩) jn).trans jD.out;have y1:=(Below.cell hS (p:=⟨b2,o2+j*4+1,none⟩) jn).trans jE.out;have y2:=(Below.cell hS (p:=⟨b2,o2+j*4+2,none⟩) jn).trans jF.out;have y3:=(Below.cell hS (p:=⟨b2,o2+j*4+3,none⟩) jn).trans jG.out;have h1:A.tmps.getD 1 undef=.pointer (some ⟨g,0,none⟩):=ja 1 (by kernel_rfl);have h3:A.tmps.getD 3 undef=.int .i64 (k:Int):=ja 3 (by kernel_rfl);have h4:A.tmps.getD 4 undef=.pointer (some ⟨gq,0,none⟩):=ja 4 (by kernel_rfl);clear ja;simp [Aa,Region.binds,Vs,vq] at jb
            case k20 =>
             refine Ad (j:=17) (d:=44) (b:=false) rfl (by kernel_rfl) (by simp only [jb]) rfl (.inr ⟨51,#[.int .i64 (e3),.int .i64 (0),.int .i64 (199)],W,by (clear jc hS;simp [go_sem,Act.eval, *]),?_⟩);refine (Ca _ _ _ W).mono ?_;rintro e w' ⟨he,rfl⟩;rw [jp.out] at he;exact ⟨_,he,rfl,Ext.refl _⟩
            case k26 =>
             refine Ad (j:=23) (d:=50) (b:=false) rfl (by kernel_rfl) (by simp only [jb]) rfl (.inr ⟨51,#[.int .i64 (e4),.int .i64 (0),.int .i64 (1000000)],W,by (clear jc hS;simp [go_sem,Act.eval, *]),?_⟩);refine (Ca _ _ _ W).mono ?_;rintro e w' ⟨he,rfl⟩;rw [jq.out] at he;exact ⟨_,he,rfl,Ext.refl _⟩
            case k31 =>
             refine Ad (j:=29) (d:=56) (b:=false) rfl (by kernel_rfl) (by simp only [jb]) rfl (.inl ⟨_,W,?_,rfl,Ext.refl _⟩);clear jc hS jy;simp [go_sem,Act.eval, *];have:=jw.out;omega
            case k40 =>
             refine Ad (j:=32) (d:=59) (b:=true) rfl (by kernel_rfl) (by simp only [jb]) rfl (.inr ⟨52,#[.agg #[.int .i64 q1,.int .i64 q2,.int .i64 q3,.int .i64 q4],.agg #[.int .i64 e1,.int .i64 e2,.int .i64 e3,.int .i64 e4]],W,by (clear jc hS;simp [go_sem,Act.eval, *]),?_⟩);refine (less14_any (q1,q2,q3,q4) (e1,e2,e3,e4) W).mono ?_;rintro e w' ⟨he,hx⟩;rw [HZ.out] at he;exact ⟨_,he,rfl,hx⟩
            all_goals first
             | (refine AZ rfl (.inl ⟨_,W,?_,rfl,Ext.refl _⟩);clear jc hS;simp [go_sem,Act.eval, *];done)
             | (refine Ad (j:=3) (d:=30) (b:=false) rfl (by kernel_rfl) (by simp only [jb]) rfl (.inl ⟨_,W,?_,rfl,Ext.refl _⟩);clear jc hS;simp [go_sem,Act.eval, *];done)
             | (refine Ad (j:=10) (d:=37) (b:=false) rfl (by kernel_rfl) (by simp only [jb]) rfl (.inl ⟨_,W,?_,rfl,Ext.refl _⟩);clear jc hS;simp [go_sem,Act.eval, *];done)
             | (refine Ad (j:=17) (d:=44) (b:=false) rfl (by kernel_rfl) (by simp only [jb]) rfl (.inl ⟨_,W,?_,rfl,Ext.refl _⟩);clear jc hS;simp [go_sem,Act.eval, *];done)
             | (refine Ad (j:=23) (d:=50) (b:=false) rfl (by kernel_rfl) (by simp only [jb]) rfl (.inl ⟨_,W,?_,rfl,Ext.refl _⟩);clear jc hS;simp [go_sem,Act.eval, *];done)
             | (refine Ad (j:=29) (d:=56) (b:=false) rfl (by kernel_rfl) (by simp only [jb]) rfl (.inl ⟨_,W,?_,rfl,Ext.refl _⟩);clear jc hS;simp [go_sem,Act.eval, *];done)
             | (refine Ad (j:=32) (d:=59) (b:=true) rfl (by kernel_rfl) (by simp only [jb]) rfl (.inl ⟨_,W,?_,rfl,Ext.refl _⟩);clear jc hS;simp [go_sem,Act.eval, *];done)
           case hVx=>exact Ag (by simp only [AU,List.not_mem_nil,or_false,forall_eq_or_imp,forall_eq];and_intros <;> exact AY _)
           case hSx=>exact fun W W' h hx=>Ext.trans h hx
           case hS=>first | exact Ext.refl _ | exact At _
           case hfin =>
            intro A W jc je hS hv ja;obtain ⟨x,hx,hA⟩:=Ah [27,28,29,30,31,32,33,34,35,36,37,38,39,40,41,42,43,44,45,46,47,48,49,50,51,52,53,54,55,56,57,58,59,60,61,62,63,64,65,66,67,68,69,70] (by kernel_rfl) jc je ja;have e70:x 70=.bool true:=(hx 70).trans (hv 43 (by decide));rw [hA];simp only [List.foldl];rw [e70];clear e70;simp only [Act.put,List.setIfInBounds_toArray,List.set_cons_succ,List.set_cons_zero];clear hA hx hv ja jc je;have jg:=A0 (Ext.trans HX.out (Ext.trans HB.out (Ext.trans jf.out hS)));clear hS
            go_wp2_with fail
            go_ret;exact ⟨Ab HN.out.symm,jg.out⟩
          | true =>
           have HS:Hid (Ff n E (k+1)):=HU.out.step jh.out jC.out (fun _=>by rw [jm.out,jH.out];exact of_decide_eq_true HZ.out);refine Ak (by kernel_rfl) (Vs [vq (.pointer (some ⟨gq,0,none⟩)),vq (.int .i64 e1),vq (.bool false),vq (.bool false),vq (.pointer (some ⟨gq,0,none⟩)),vq (.int .i64 e1),vq (.pointer (some ⟨gq,1,none⟩)),vq (.int .i64 e2),vq (.bool false),vq (.bool false),vq (.bool false),vq (.pointer (some ⟨gq,1,none⟩)),vq (.int .i64 e2),vq (.pointer (some ⟨g,0,none⟩)),vq (.int .i64 n),vq (.bool false),vq (.bool false),vq (.bool false),vq (.pointer (some ⟨gq,2,none⟩)),vq (.int .i64 e3),vq (.bool true),vq (.bool false),vq (.bool false),vq (.bool false),vq (.pointer (some ⟨gq,3,none⟩)),vq (.int .i64 e4),vq (.bool true),vq (.bool false),vq (.bool false),vq (.bool false),vq (.int .i64 (k:Int)),vq (.bool true),vq (.bool true),vq (.pointer (some ⟨g,1,none⟩)),vq (.slice a E.length cap),vq (.int .i64 (k:Int)),vq (.int .i64 (j:Int)),vq (.pointer (some ⟨b2,o2+j*4,none⟩)),vq (.agg #[.int .i64 q1,.int .i64 q2,.int .i64 q3,.int .i64 q4]),vq (.agg #[.int .i64 e1,.int .i64 e2,.int .i64 e3,.int .i64 e4]),vq (.bool true),vq (.bool false),vq (.bool false),vq (.bool false)]) (fun W=>Ext wq W) 71 (by kernel_rfl) rfl ?hVx ?hSx ?hS (As ?hop) ?hfin
           case hop =>
            refine ⟨?_,?_,?_,?_,?_,?_,?_,?_,?_,?_,?_,?_,?_,?_,?_,?_,?_,?_,?_,?_,?k20,?_,?_,?_,?_,?_,?k26,?_,?_,?_,?_,?k31,?_,?_,?_,?_,?_,?_,?_,?_,?k40,?_,?_,?_,trivial⟩
            all_goals
             intro A W jc hS jb ja;have jd:Ext wq W:=hS;have h9:=(Below.block (Ext.trans HB.out (Ext.trans jf.out jd)) _ jj.out).trans ji.out;have m0:W.cell? ⟨g,0,none⟩=some (.int .i64 n):=by rw [cell_of_row _ _ 0 _ _ _ h9];rfl
             have m1:W.cell? ⟨g,1,none⟩=some (.slice a E.length cap):=by rw [cell_of_row _ _ 1 _ _ _ h9];rfl
             clear h9;have h8:=(Below.block jd _ jl.out).trans jk.out;have u0:W.cell? ⟨gq,0,none⟩=some (.int .i64 e1):=by rw [cell_of_row _ _ 0 _ _ _ h8];rfl
             have u1:W.cell? ⟨gq,1,none⟩=some (.int .i64 e2):=by rw [cell_of_row _ _ 1 _ _ _ h8];rfl
             have u2:W.cell? ⟨gq,2,none⟩=some (.int .i64 e3):=by rw [cell_of_row _ _ 2 _ _ _ h8];rfl
             have u3:W.cell? ⟨gq,3,none⟩=some (.int .i64 e4):=by rw [cell_of_row _ _ 3 _ _ _ h8];rfl
             clear h8 jd;have y0:=(Below.cell hS (p:=⟨b2,o2+j*4,none⟩) jn).trans jD.out;have y1:=(Below.cell hS (p:=⟨b2,o2+j*4+1,none⟩) jn).trans jE.out;have y2:=(Below.cell hS (p:=⟨b2,o2+j*4+2,none⟩) jn).trans jF.out;have y3:=(Below.cell hS (p:=⟨b2,o2+j*4+3,none⟩) jn).trans jG.out;have h1:A.tmps.getD 1 undef=.pointer (some ⟨g,0,none⟩):=ja 1 (by kernel_rfl);have h3:A.tmps.getD 3 undef=.int .i64 (k:Int):=ja 3 (by kernel_rfl);have h4:A.tmps.getD 4 undef=.pointer (some ⟨gq,0,none⟩):=ja 4 (by kernel_rfl);clear ja;simp [Aa,Region.binds,Vs,vq] at jb
            case k20 =>
             refine Ad (j:=17) (d:=44) (b:=false) rfl (by kernel_rfl) (by simp only [jb]) rfl (.inr ⟨51,#[.int .i64 (e3),.int .i64 (0),.int .i64 (199)],W,by (clear jc hS;simp [go_sem,Act.eval, *]),?_⟩);refine (Ca _ _ _ W).mono ?_;rintro e w' ⟨he,rfl⟩;rw [jp.out] at he;exact ⟨_,he,rfl,Ext.refl _⟩
            case k26 =>
             refine Ad (j:=23) (d:=50) (b:=false) rfl (by kernel_rfl) (by simp only [jb]) rfl (.inr ⟨51,#[.int .i64 (e4),.int .i64 (0),.int .i64 (1000000)],W,by (clear jc hS;simp [go_sem,Act.eval, *]),?_⟩);refine (Ca _ _ _ W).mono ?_;rintro e w' ⟨he,rfl⟩;rw [jq.out] at he;exact ⟨_,he,rfl,Ext.refl _⟩
            case k31 =>
             refine Ad (j:=29) (d:=56) (b:=false) rfl (by kernel_rfl) (by simp only [jb]) rfl (.inl ⟨_,W,?_,rfl,Ext.refl _⟩);clear jc hS jy;simp [go_sem,Act.eval, *];have:=jw.out;omega
            case k40 =>
             refine Ad (j:=32) (d:=59) (b:=true) rfl (by kernel_rfl) (by simp only [jb]) rfl (.inr ⟨52,#[.agg #[.int .i64 q1,.int .i64 q2,.int .i64 q3,.int .i64 q4],.agg #[.int .i64 e1,.int .i64 e2,.int .i64 e3,.int .i64 e4]],W,by (clear jc hS;simp [go_sem,Act.eval, *]),?_⟩);refine (less14_any (q1,q2,q3,q4) (e1,e2,e3,e4) W).mono ?_;rintro e w' ⟨he,hx⟩;rw [HZ.out] at he;exact ⟨_,he,rfl,hx⟩
            all_goals first
             | (refine AZ rfl (.inl ⟨_,W,?_,rfl,Ext.refl _⟩);clear jc hS;simp [go_sem,Act.eval, *];done)
             | (refine Ad (j:=3) (d:=30) (b:=false) rfl (by kernel_rfl) (by simp only [jb]) rfl (.inl ⟨_,W,?_,rfl,Ext.refl _⟩);clear jc hS;simp [go_sem,Act.eval, *];done)
             | (refine Ad (j:=10) (d:=37) (b:=false) rfl (by kernel_rfl) (by simp only [jb]) rfl (.inl ⟨_,W,?_,rfl,Ext.refl _⟩);clear jc hS;simp [go_sem,Act.eval, *];done)
             | (refine Ad (j:=17) (d:=44) (b:=false) rfl (by kernel_rfl) (by simp only [jb]) rfl (.inl ⟨_,W,?_,rfl,Ext.refl _⟩);clear jc hS;simp [go_sem,Act.eval, *];done)
             | (refine Ad (j:=23) (d:=50) (b:=false) rfl (by kernel_rfl) (by simp only [jb]) rfl (.inl ⟨_,W,?_,rfl,Ext.refl _⟩);clear jc hS;simp [go_sem,Act.eval, *];done)
             | (refine Ad (j:=29) (d:=56) (b:=false) rfl (by kernel_rfl) (by simp only [jb]) rfl (.inl ⟨_,W,?_,rfl,Ext.refl _⟩);clear jc hS;simp [go_sem,Act.eval, *];done)
             | (refine Ad (j:=32) (d:=59) (b:=true) rfl (by kernel_rfl) (by simp only [jb]) rfl (.inl ⟨_,W,?_,rfl,Ext.refl _⟩);clear jc hS;simp [go_sem,Act.eval, *];done)
           case hVx=>exact Ag (by simp only [AU,List.not_mem_nil,or_false,forall_eq_or_imp,forall_eq];and_intros <;> exact AY _)
           case hSx=>exact fun W W' h hx=>Ext.trans h hx
           case hS=>first | exact Ext.refl _ | exact At _
           case hfin =>
            intro A W jc je hS hv ja;obtain ⟨x,hx,hA⟩:=Ah [27,28,29,30,31,32,33,34,35,36,37,38,39,40,41,42,43,44,45,46,47,48,49,50,51,52,53,54,55,56,57,58,59,60,61,62,63,64,65,66,67,68,69,70] (by kernel_rfl) jc je ja;have e70:x 70=.bool false:=(hx 70).trans (hv 43 (by decide));rw [hA];simp only [List.foldl];rw [e70];clear e70;simp only [Act.put,List.setIfInBounds_toArray,List.set_cons_succ,List.set_cons_zero];clear hA hx hv ja jc je;have jg:=A0 (Ext.trans HB.out (Ext.trans jf.out hS));clear hS
            go_wp2_with fail
            go_roundw
            case rel=>exact ⟨k+1,by omega,by go_num,HS.out,jg.out⟩
            case measure=>simp [intOf];omega
   ·have jB:¬ (k:Int)<(E.length:Int):=by omega
    have HN:Hid (Cw n E=true):=F6 ⟨jx.out.1,jx.out.2.1,jx.out.2.2,fun i hi _=>HU.out i hi (by omega)⟩
    go_wp2_with fail
    go_ret;exact ⟨Ab HN.out.symm,Ext.trans HX.out HB.out⟩
 ·have jt:Hid (inB n 0 40=false):=En n0;have HN:Hid (Cw n E=false):=BO fun h=>n0 ⟨h.1,h.2.1⟩;clear n0
  go_wp2_with (go_at_call 51;refine (Ca _ _ _ _).mono ?_;rintro e w' ⟨he,js⟩;obtain rfl:wb=w':=js.symm;rw [jt.out] at he;subst he)
  go_ret;exact ⟨Ab HN.out.symm,HX.out⟩
theorem G8:∀ {L:List Slt} {r:List UInt8} {n:Nat},r.length≤n→letsC (L.take n) r=letsC L r
 | L,[],n,_=>by rw [EF,EF]
 | [],c :: r,n,_=>by simp
 | s :: L,c :: r,0,h=>by simp at h
 | s :: L,c :: r,n+1,h=>by
  simp only [List.take_succ_cons,letsC];rw [G8 (L:=L) (r:=r) (n:=n) (by simpa using h)]
theorem Ln {R:List Rl} {L:List Slt} {j:Nat} {i m:Nat} {o:List UInt8} {c:Nat} (h:RtS R L i m o c):i≤j→RtS R (L.take j) i m o c:=by
 induction h with
 | start=>intro _;exact .start
 | @step i m o c k r h1 hr hf hm hk ih =>
  intro hj;refine .step (ih (by omega)) hr hf hm ?_;rw [List.drop_take,G8 (by rw [Bs];omega)];exact hk
theorem J1 {R:List Rl} {L:List Slt} {j:Nat} {i m:Nat} {o:List UInt8} {c:Nat} (h:RtS R (L.take j) i m o c):RtS R L i m o c:=by
 induction h with
 | start=>exact .start
 | @step i m o c k r h1 hr hf hm hk ih =>
  refine .step ih hr hf hm ?_;have hl:=EG hk;rw [List.length_drop,AN] at hl;by_cases h0:(bts r.inp).length=0
  ·have:bts r.inp=[]:=List.eq_nil_of_length_eq_zero h0;rw [this,EF] at hk ⊢;exact hk
  ·rw [List.drop_take,G8 (by omega)] at hk;exact hk
theorem Mn {R:List Rl} {acc:Int} {L L':List Slt} {i:Nat} (h:L.take i=L'.take i) {w:List UInt8} {c:Nat}:Whole R acc L i w c↔Whole R acc L' i w c:=by
 constructor
 ·rintro ⟨m,ha,hr⟩;have h1:=Ln hr (A5 i);rw [h] at h1;exact ⟨m,ha,J1 h1⟩
 ·rintro ⟨m,ha,hr⟩;have h1:=Ln hr (A5 i);rw [← h] at h1;exact ⟨m,ha,J1 h1⟩
variable {R:List Rl} {acc:Int} {L L':List Slt} {W:List (List UInt8)}
def B5 (i j:Nat) (E:List Edg):List Edg:=(E.filter fun e=>decide ((i:Int)≤e.1) && decide (e.2.1≤(j:Int))).map fun e=>(e.1 - i,e.2.1 - i,e.2.2.1,e.2.2.2)
theorem Om {i j a b:Nat} (hb:b≤j - i):(((L.drop i).take (j - i)).drop a).take (b - a)=(L.drop (i+a)).take (b - a):=by
 rw [List.drop_take,List.take_take,List.drop_drop];congr 1;omega
theorem QS {i j:Nat} (hij:i≤j) (hj:j≤L.length):EI R acc ((L.drop i).take (j - i)) W=B5 i j (EI R acc L W):=by
 have hl:((L.drop i).take (j - i)).length=j - i:=by rw [AN,List.length_drop];omega
 have hf:∀ {a b:Nat},b≤j - i→Ew R acc (((L.drop i).take (j - i)).drop a) W (b - a)=Ew R acc (L.drop (i+a)) W (i+b - (i+a)):=fun {a b} hb=>by
  rw [show i+b - (i+a)=b - a by omega];exact MB fun w _ c=>Mn (Om hb)
 refine edg_eq Ex ?_ fun e=>?_
 ·unfold B5;rw [AT];exact (Ex.filter _).imp fun h=>by unfold Bx at h ⊢;simp only;omega
 ·unfold B5;rw [GP,AJ];constructor
  ·rintro ⟨a,b,w,c,rfl,h1,h2,h3⟩;rw [hl] at h2;rw [hf h2] at h3;refine ⟨(((i+a:Nat):Int),((i+b:Nat):Int),(w:Int),(c:Int)),AW.2 ⟨GP.2 ⟨i+a,i+b,w,c,rfl,by omega,by omega,h3⟩,?_⟩,?_⟩
   · simp only [Bool.and_eq_true,decide_eq_true_eq];omega
   · simp only [Prod.mk.injEq,and_true];omega
  ·rintro ⟨e',h1,h2⟩;obtain ⟨h3,h4⟩:=AW.1 h1;obtain ⟨a,b,w,c,rfl,h5,h6,h7⟩:=GP.1 h3;simp only [Bool.and_eq_true,decide_eq_true_eq] at h4;refine ⟨a - i,b - i,w,c,?_,by omega,by rw [hl];omega,?_⟩
   · rw [← h2];simp only [Prod.mk.injEq,and_true];omega
   · rw [hf (by omega),show i+(a - i)=a by omega,show i+(b - i) - a=b - a by omega];exact h7
end Go.Proofs.YtpljngaejaehcaaGreatDoor
