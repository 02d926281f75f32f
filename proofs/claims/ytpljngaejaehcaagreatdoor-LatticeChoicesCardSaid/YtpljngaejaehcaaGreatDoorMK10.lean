/- Texts that the claims share: MB, MD, N8, NW, NX, KP, N9, MC, ME, MJ, NJ, MK, KV, MV. -/
import Derived.Test.YtpljngaejaehcaaGreatDoorMK9
import Derived.Test.YtpljngaejaehcaaGreatDoorMF2
import Derived.Test.YtpljngaejaehcaaGreatDoorMF4
import Derived.Test.YtpljngaejaehcaaGreatDoorMK4
import Derived.Test.YtpljngaejaehcaaGreatDoorMK6
import Derived.Test.YtpljngaejaehcaaGreatDoorMK8
import Derived.Test.YtpljngaejaehcaaGreatDoorMK1
import Derived.Test.YtpljngaejaehcaaGreatDoorMD4
set_option maxHeartbeats 12800000
set_option maxRecDepth 100000
set_option linter.unusedVariables false
set_option linter.unusedSimpArgs false
namespace Go.Proofs.YtpljngaejaehcaaGreatDoor
open Go.RowKit Go.WideShapes Fl
theorem QH {w:World} {g:Nat} {k:UInt8} {c z:Int} (h:w.heap[g]? = some (.cells #[.int .u8 z,.int .i64 c] 79 (0,0))) (hz:z=(k.toNat:Int)):AZ Av w 0 (svS ⟨some ⟨g,0,none⟩,1,1⟩) [⟨k,c⟩]:=by
 subst hz;exact Dg Bd h rfl (Nat.zero_le _) rfl (show (1:Nat)≤1000000 by decide)
theorem SW {w:World} {x y:SV} {s t:Slt} (h:AZ Av w 0 (svS x) s) (h2:AZ Av w 0 (svS y) t):∀ (k:Nat) (u:SV) (v:Slt),[x,y][k]? = some u→[s,t][k]? = some v→AZ Av w 0 (svS u) v:=fun k u v h3 h4=>by
 rcases k with _ | _ | k
 · cases h3;cases h4;exact h
 · cases h3;cases h4;exact h2
 · simp at h3
theorem SY:Bp 300 [[⟨97,0⟩],[⟨98,0⟩]]:=by unfold Bp;decide
theorem SZ:MR [[⟨97,0⟩],[⟨98,0⟩]]:=by unfold MR;decide
theorem Sa:Bp 300 [[⟨97,3⟩,⟨98,0⟩]]:=by unfold Bp;decide
theorem Sb:MR [[⟨97,3⟩,⟨98,0⟩]]:=by unfold MR;decide
theorem Sc:validB [[⟨97,0⟩],[⟨98,0⟩]]=true:=by decide
theorem Sd:validB [[⟨97,3⟩,⟨98,0⟩]]=true:=by decide
theorem TA:validB [[]]=false:=by decide
theorem RP:validB []=true:=by decide
theorem RQ (w:World):Df w none 0 []:=⟨fun k hk=>absurd hk (Nat.not_lt_zero _),⟨(fun b h=>by cases h),fun _=>rfl⟩,A3 _,by decide,(fun s hs=>by cases hs),(fun s hs=>by cases hs)⟩
theorem Mk (w:World) (hT:Tab w):Calls Tryz.prog 10 #[] w fun e w'=>e=.returned (.bool true)∧Ext w w':=by
 have HT:=A0 hT;clear hT
 go_enter Tryz.func10,Tryz.ntmps10
 go_wp2_with fail
 refine (Mj w).mono ?_;rintro e w1 ⟨gR,gW,gC,rfl,hS,hM,kE⟩;obtain ⟨aR,kr⟩:∃ aR,(some ⟨gR,0,none⟩:Option Addr)=aR:=⟨_,rfl⟩
 obtain ⟨aW,ki⟩:∃ aW,(some ⟨gW,0,none⟩:Option Addr)=aW:=⟨_,rfl⟩
 obtain ⟨aC,kh⟩:∃ aC,(some ⟨gC,0,none⟩:Option Addr)=aC:=⟨_,rfl⟩
 rw [kr] at hS ⊢;rw [ki,kh] at hM;rw [ki,kh];clear kr ki kh
 go_upto_region 2 with fail
 obtain ⟨w2,kB,j6,b1,b2,kR⟩:=Eb w1 (.cells #[.int .i64 1,.int .u8 1,.slice aR 3 3] 33) (.cells #[.slice aW 3 3,.slice aC 3 3,.slice none 0 0,.int .i64 0] 39);rw [kB];obtain ⟨gs,ky⟩:∃ gs,w1.heap.size=gs:=⟨_,rfl⟩
 rw [ky] at b1 b2 ⊢;have HS:Hid (∀ W,Ext w2 W→FR W exS aR 3):=fun W hx=>(hS.go j6).go hx;have HM:Hid (∀ W,Ext w2 W→Il W aW aC none 3 3 0 J8 [0,0,0] [] 0):=fun W hx=>(hM.go j6).go hx;have kq:Hid (Ext w w2):=Ext.trans kE j6;have j8:Hid (∀ W,Ext w2 W→Tab W):=fun W hx=>HT.out.go (Ext.trans kq.out hx);have jt:=A0 (Ai b1);have ju:=A0 (Ai b2);clear kB j6 b1 b2 ky hS hM kE HT kR
 go_upto_region 3 with fail
 obtain ⟨w3,kC,kF,b1,b2,kS⟩:=Eb w2 (.cells #[.int .u8 97,.int .i64 0] 79) (.cells #[.int .u8 98,.int .i64 0] 79);rw [kC];obtain ⟨ga,kx⟩:∃ ga,w2.heap.size=ga:=⟨_,rfl⟩
 rw [kx] at b1 b2 ⊢;have j9:=A0 kF;have kK:=A0 b1;have kL:=A0 b2;clear kC kF b1 b2 kS kx;obtain ⟨d0,d1,d2⟩:=Ba (jt.out w3 j9.out);obtain ⟨m0,m1,m2,m3⟩:=Ax (ju.out w3 j9.out)
 go_wp2_with fail
 obtain ⟨w4,j3⟩:∃ w4,w3.alloc (.cells #[.slice (some ⟨ga,0,none⟩) 1 1,.slice (some ⟨ga+1,0,none⟩) 1 1] 81)=w4:=⟨_,rfl⟩
 rw [j3];have jo:Hid (Ext w3 w4):=by show Ext _ _;rw [← j3];exact (Below.refl _ _).alloc (A3 _) _
 have j1:Hid (Ext w2 w4):=Ext.trans j9.out jo.out;have ji:Df w4 (some ⟨w3.heap.size,0,none⟩) 2 [[⟨97,0⟩],[⟨98,0⟩]]:=(Df.of (KU (Ls:=[⟨some ⟨ga,0,none⟩,1,1⟩,⟨some ⟨ga+1,0,none⟩,1,1⟩]) (g:=w3.heap.size) (n:=2) (by rw [← j3];exact heap_alloc_new _ _) rfl rfl (by decide) rfl
  (SW (QH (Ai kK.out w4 jo.out) rfl) (QH (Ai kL.out w4 jo.out) rfl))) (by decide) SY SZ).1
 clear d0 d1 d2 m0 m1 m2 m3;clear j3;refine (Iq (HS.out w4 j1.out) (HM.out w4 j1.out) (j8.out w4 j1.out) ji Sc (by decide)).mono ?_;rw [Su];rintro e w5 ⟨v5,rfl,kj,kG⟩;obtain ⟨a5,c5,kl, -, -⟩:=kj.form;subst kl;have kM:=A0 (AZ.edgs kj).1;have kQ:Hid (Ext w2 w5):=Ext.trans j1.out kG;clear kj kG ji
 go_upto_region 4 with fail
 obtain ⟨w6,j4⟩:∃ w6,w5.alloc (.cells #[.int .i64 2,.slice a5 3 c5] 45)=w6:=⟨_,rfl⟩
 rw [j4];have jL:Hid (Ext w5 w6):=by show Ext _ _;rw [← j4];exact (Below.refl _ _).alloc (A3 _) _
 have b1:w6.heap[w5.heap.size]? = some (.cells #[.int .i64 2,.slice a5 3 c5] 45 (0,0)):=by rw [← j4];exact heap_alloc_new _ _
 obtain ⟨g5,kv⟩:∃ g5,w5.heap.size=g5:=⟨_,rfl⟩
 rw [kv] at b1 ⊢;have kI:=A0 (Ai b1);have j2:Hid (Ext w2 w6):=Ext.trans kQ.out jL.out;clear j4 b1 kv;obtain ⟨d0,d1,d2⟩:=Ba (jt.out w6 j2.out);obtain ⟨m0,m1,m2,m3⟩:=Ax (ju.out w6 j2.out)
 go_wp2_with fail
 obtain ⟨w7,kD,kn,b1,b2,kT⟩:=Eb w6 (.cells #[.int .u8 97,.int .i64 3,.int .u8 98,.int .i64 0] 79) (.cells #[.slice (some ⟨w6.heap.size,0,none⟩) 2 2] 81);rw [kD];have kb:Hid (Ext w2 w7):=Ext.trans j2.out kn;have Jx:=A0 kn;have ji:Df w7 (some ⟨w6.heap.size+1,0,none⟩) 1 [[⟨97,3⟩,⟨98,0⟩]]:=(Df.of (KU (Ls:=[⟨some ⟨w6.heap.size,0,none⟩,2,2⟩]) (n:=1) b2 rfl rfl (by decide) rfl
  (Q5 (Dg Bd b1 rfl (Nat.zero_le _) rfl (show (2:Nat)≤1000000 by decide)))) (by decide) Sa Sb).1
 clear d0 d1 d2 m0 m1 m2 m3;clear kD kn b1 b2 kT;refine (Iq (HS.out w7 kb.out) (HM.out w7 kb.out) (j8.out w7 kb.out) ji Sd (by decide)).mono ?_;rw [Sv];rintro e w8 ⟨v8,rfl,kk,kH⟩;obtain ⟨a8,c8,km, -, -⟩:=kk.form;subst km;have kN:=A0 (AZ.edgs kk).1;have ka:Hid (Ext w6 w8):=Ext.trans Jx.out kH;clear kk kH ji
 go_upto_region 5 with fail
 obtain ⟨w9,j5⟩:∃ w9,w8.alloc (.cells #[.int .i64 1,.slice a8 2 c8] 45)=w9:=⟨_,rfl⟩
 rw [j5];have jM:Hid (Ext w8 w9):=by show Ext _ _;rw [← j5];exact (Below.refl _ _).alloc (A3 _) _
 have b1:w9.heap[w8.heap.size]? = some (.cells #[.int .i64 1,.slice a8 2 c8] 45 (0,0)):=by rw [← j5];exact heap_alloc_new _ _
 obtain ⟨g7,kw⟩:∃ g7,w8.heap.size=g7:=⟨_,rfl⟩
 rw [kw] at b1 ⊢;have kJ:=A0 (Ai b1);have jm:Hid (Ext w6 w9):=Ext.trans ka.out jM.out;have jn:Hid (Ext w2 w9):=Ext.trans j2.out jm.out;clear j5 b1 kw;obtain ⟨d0,d1,d2⟩:=Ba (jt.out w9 jn.out);obtain ⟨m0,m1,m2,m3⟩:=Ax (ju.out w9 jn.out)
 go_wp2_with fail
 clear d0 d1 d2 m0 m1 m2 m3;refine Oc.mono ?_;rintro e w10 ⟨rfl,jT⟩;have kc:Hid (Ext w9 w10):=jT;clear jT
 go_upto_region 6 with fail
 obtain ⟨w11,jp⟩:∃ w11,w10.alloc (.cells #[.int .i64 0,.slice none 0 0] 45)=w11:=⟨_,rfl⟩
 rw [jp];have jG:Hid (Ext w10 w11):=by show Ext _ _;rw [← jp];exact (Below.refl _ _).alloc (A3 _) _
 have jC:Hid (Ext w9 w11):=Ext.trans kc.out jG.out;have jk:Hid (Ext w2 w11):=Ext.trans jn.out jC.out;clear jp;obtain ⟨d0,d1,d2⟩:=Ba (jt.out w11 jk.out);obtain ⟨m0,m1,m2,m3⟩:=Ax (ju.out w11 jk.out)
 go_wp2_with fail
 clear d0 d1 d2 m0 m1 m2 m3;refine (QF (HS.out w11 jk.out)).mono ?_;rintro e w12 ⟨rfl,jU⟩;have kd:Hid (Ext w9 w12):=Ext.trans jC.out jU;clear jU
 go_upto_region 7 with fail
 obtain ⟨w13,jq⟩:∃ w13,w12.alloc (.cells #[.int .i64 0,.slice none 0 0] 45)=w13:=⟨_,rfl⟩
 rw [jq];have jH:Hid (Ext w12 w13):=by show Ext _ _;rw [← jq];exact (Below.refl _ _).alloc (A3 _) _
 have jD:Hid (Ext w9 w13):=Ext.trans kd.out jH.out;have jx:Hid (Ext w2 w13):=Ext.trans jn.out jD.out;clear jq;obtain ⟨d0,d1,d2⟩:=Ba (jt.out w13 jx.out);obtain ⟨m0,m1,m2,m3⟩:=Ax (ju.out w13 jx.out)
 go_wp2_with fail
 obtain ⟨w14,jR,jV,b1,b2,ko⟩:=Eb w13 (.cells #[] 79) (.cells #[.slice (some ⟨w13.heap.size,0,none⟩) 0 0] 81);rw [jR];have jE:Hid (Ext w9 w14):=Ext.trans jD.out jV;have jy:Hid (Ext w2 w14):=Ext.trans jn.out jE.out;have ji:CE w14 (some ⟨w13.heap.size+1,0,none⟩) [[]]:=(KU (L:=[[]]) (Ls:=[⟨some ⟨w13.heap.size,0,none⟩,0,0⟩]) (n:=1) b2 rfl rfl (by decide) rfl (Q5 (AZ.empty Av b1 (Nat.zero_le _)))).slotS.1;clear d0 d1 d2 m0 m1 m2 m3;clear jR jV b1 b2 ko;refine (RO (HS.out w14 jy.out) (HM.out w14 jy.out) ji (by decide) TA).mono ?_;rintro e w15 ⟨rfl,jW⟩;have ke:Hid (Ext w9 w15):=Ext.trans jE.out jW;clear jW ji
 go_upto_region 8 with fail
 obtain ⟨w16,jr⟩:∃ w16,w15.alloc (.cells #[.int .i64 0,.slice none 0 0] 45)=w16:=⟨_,rfl⟩
 rw [jr];have jI:Hid (Ext w15 w16):=by show Ext _ _;rw [← jr];exact (Below.refl _ _).alloc (A3 _) _
 have jF:Hid (Ext w9 w16):=Ext.trans ke.out jI.out;have je:Hid (Ext w2 w16):=Ext.trans jn.out jF.out;clear jr;obtain ⟨d0,d1,d2⟩:=Ba (jt.out w16 je.out);obtain ⟨m0,m1,m2,m3⟩:=Ax (ju.out w16 je.out)
 go_wp2_with fail
 clear d0 d1 d2 m0 m1 m2 m3;refine (Iq (HS.out w16 je.out) (HM.out w16 je.out) (j8.out w16 je.out) (RQ w16) RP (by decide)).mono ?_;rw [S1];rintro e w17 ⟨v17,rfl,jP,jX⟩;obtain ⟨a17,c17,jQ, -, -⟩:=jP.form;subst jQ;have kf:Hid (Ext w9 w17):=Ext.trans jF.out jX;clear jP jX
 go_upto_region 9 with fail
 obtain ⟨w18,jg⟩:∃ w18,w17.alloc (.cells #[.int .i64 0,.slice a17 0 c17] 45)=w18:=⟨_,rfl⟩
 rw [jg];have jJ:Hid (Ext w17 w18):=by show Ext _ _;rw [← jg];exact (Below.refl _ _).alloc (A3 _) _
 have b1:w18.heap[w17.heap.size]? = some (.cells #[.int .i64 0,.slice a17 0 c17] 45 (0,0)):=by rw [← jg];exact heap_alloc_new _ _
 obtain ⟨g15,jN⟩:∃ g15,w17.heap.size=g15:=⟨_,rfl⟩
 rw [jN] at b1 ⊢;have j7:=A0 (Ai b1);have kg:Hid (Ext w9 w18):=Ext.trans kf.out jJ.out;clear jg b1 jN
 go_upto_region 10 with fail
 obtain ⟨w19,jS,js,b1,b2,kp⟩:=Eb w18 (.cells #[.int .i64 0,.int .i64 1,.int .i64 1,.int .i64 0,.int .i64 0,.int .i64 2,.int .i64 0,.int .i64 2,.int .i64 1,.int .i64 2,.int .i64 2,.int .i64 1] 62) (.cells #[.int .i64 2,.slice (some ⟨w18.heap.size,0,none⟩) 3 3] 45);rw [jS];have jv:Hid (CM w19 (some ⟨w18.heap.size,0,none⟩) Cf):=(AZ.edgs (Dg Cv (B:=0) (n:=3) b1 rfl (Nat.zero_le _) rfl (by decide))).1;obtain ⟨aq,ks⟩:∃ aq,(some ⟨w18.heap.size,0,none⟩:Option Addr)=aq:=⟨_,rfl⟩
 rw [ks] at b2 jv ⊢;obtain ⟨g17,jO⟩:∃ g17,w18.heap.size+1=g17:=⟨_,rfl⟩
 rw [jO] at b2 ⊢;have jw:=A0 (Ai b2);have jf:Hid (Ext w9 w19):=Ext.trans kg.out js;have jl:=A0 js;clear jS js b1 b2 kp ks jO;obtain ⟨x0,x1⟩:=At (kI.out w19 (Ext.trans jm.out jf.out));obtain ⟨y0,y1⟩:=At (jw.out w19 (Ext.refl _))
 go_wp2_with fail
 clear x0 x1 y0 y1;have jj:=esame_any [(0,1,1,0),(0,2,0,2),(1,2,2,1)] Cf 2 2 a5 aq c5 3 w19 (kM.out.go (Ext.trans jL.out (Ext.trans jm.out jf.out))) jv.out (by decide) (by decide);refine jj.mono ?_;clear jj;rintro e w20 ⟨rfl,jY⟩;have jz:Hid (Ext w19 w20):=jY;clear jY;rw [show decide ((2:Int)=2∧[(0,1,1,0),(0,2,0,2),(1,2,2,1)]=Cf)=true by decide];obtain ⟨x0,x1⟩:=At (kJ.out w20 (Ext.trans jf.out jz.out))
 go_wp2_with fail
 clear x0 x1;obtain ⟨w21,jh⟩:∃ w21,w20.alloc (.cells #[.int .i64 0,.int .i64 1,.int .i64 1,.int .i64 3,.int .i64 0,.int .i64 1,.int .i64 2,.int .i64 1] 62)=w21:=⟨_,rfl⟩
 rw [jh];have jK:Hid (Ext w20 w21):=by show Ext _ _;rw [← jh];exact (Below.refl _ _).alloc (A3 _) _
 have jA:Hid (Ext w19 w21):=Ext.trans jz.out jK.out;have ku:CM w21 (some ⟨w20.heap.size,0,none⟩) [(0,1,1,3),(0,1,2,1)]:=(AZ.edgs (Dg Cv (B:=0) (n:=2) (by rw [← jh];exact heap_alloc_new _ _) rfl (Nat.zero_le _) rfl (by decide))).1;have jj:=esame_any [(0,1,1,3),(0,1,2,1)] [(0,1,1,3),(0,1,2,1)] 1 1 a8 (some ⟨w20.heap.size,0,none⟩) c8 2 w21 (kN.out.go (Ext.trans jM.out (Ext.trans jf.out jA.out))) ku (by decide) (by decide);clear jh ku;refine jj.mono ?_;clear jj;rintro e w22 ⟨rfl,jZ⟩;have jB:Hid (Ext w19 w22):=Ext.trans jA.out jZ;clear jZ;rw [show decide ((1:Int)=1∧[((0,1,1,3):Edg),(0,1,2,1)]=[(0,1,1,3),(0,1,2,1)])=true by decide];obtain ⟨x0,x1⟩:=At (j7.out w22 (Ext.trans jl.out jB.out))
 go_wp2_with fail
 clear x0 x1;have jj:=esame_any [] [] 0 0 a17 none c17 0 w22 (CM.nil _ _) (CM.nil _ _) (by decide) (by decide);refine jj.mono ?_;clear jj;rintro e w23 ⟨rfl,j0⟩;have jd:Hid (Ext w19 w23):=Ext.trans jB.out j0;clear j0;rw [show decide ((0:Int)=0∧([]:List Edg)=[])=true by decide]
 go_upto_region 12 with fail
 refine Am (by kernel_rfl) (Vs [vq (.bool true),vq (.bool true),vq (.bool true),vq (.bool true),vq (.bool true),vq (.agg #[.int .i64 2,.slice aq 3 3]),vq (.bool true),vq (.bool true),vq (.bool true),vq (.agg #[.int .i64 0,.slice none 0 0]),vq (.bool true),vq (.bool true),vq (.bool true),vq (.agg #[.int .i64 1,.slice none 0 0]),vq (.bool false),vq (.bool true),vq (.bool true),vq (.bool true),vq (.agg #[.int .i64 2,.slice aq 3 3]),vq (.bool true),vq (.bool true),vq (.bool true),vq (.agg #[.int .i64 41,.slice none 0 0]),vq (.bool false),vq (.bool true),vq (.bool true),vq (.bool true),vq (.agg #[.int .i64 2,.slice aq 3 3]),GrV 3 Cf,vq (.agg #[.int .i64 2,.slice aq 3 3]),GrV 3 Cf,vq (.bool true),vq (.bool true),vq (.bool true)]) (fun W=>Ext w23 W) 149 (by kernel_rfl) rfl ?hVx ?hSx ?hS (Ay ?hop) ?hfin
 case hop =>
  refine ⟨?_,?_,?_,?_,?_,?_,?k6,?_,?_,?_,?k10,?_,?_,?_,?k14,?_,?_,?_,?_,?k19,?_,?_,?_,?k23,?_,?_,?_,?_,?k28,?_,?k30,?k31,?_,?_,trivial⟩
  all_goals
   intro A W jc hS ja jb;obtain ⟨y0,y1⟩:=At (jw.out W (Ext.trans jd.out hS));have h18:A.tmps.getD 18 undef=.bool true:=jb 18 (by kernel_rfl);have h19:A.tmps.getD 19 undef=.bool true:=jb 19 (by kernel_rfl);have h17:A.tmps.getD 17 undef=.pointer (some ⟨g17,0,none⟩):=jb 17 (by kernel_rfl);clear jb;simp [AY,Region.binds,Vs,vq] at ja
  case k6 =>
   refine Al (j:=4) (d:=120) (b:=true) rfl (by kernel_rfl) (by simp only [ja]) rfl (.inr ⟨20,#[.agg #[.int .i64 2,.slice aq 3 3]],W,by (clear jc hS;simp [go_sem,Act.eval, *]),?_⟩);refine (lreach_any 2 Cf aq 3 W (jv.out.go (Ext.trans jd.out hS)) (by decide) NS).mono ?_;rintro e w' ⟨he,hx⟩;rw [T5] at he;exact ⟨_,he,rfl,hx⟩
  case k10 =>
   refine Al (j:=8) (d:=124) (b:=true) rfl (by kernel_rfl) (by simp only [ja]) rfl (.inr ⟨20,#[.agg #[.int .i64 0,.slice none 0 0]],W,by (clear jc hS;simp [go_sem,Act.eval, *]),?_⟩);refine (lreach_any 0 [] none 0 W (CM.nil _ _) (by decide) (NU 0 (by decide) (by decide))).mono ?_;rintro e w' ⟨he,hx⟩;rw [T7] at he;exact ⟨_,he,rfl,hx⟩
  case k14 =>
   refine Al (j:=12) (d:=128) (b:=true) rfl (by kernel_rfl) (by simp only [ja]) rfl (.inr ⟨20,#[.agg #[.int .i64 1,.slice none 0 0]],W,by (clear jc hS;simp [go_sem,Act.eval, *]),?_⟩);refine (lreach_any 1 [] none 0 W (CM.nil _ _) (by decide) (NU 1 (by decide) (by decide))).mono ?_;rintro e w' ⟨he,hx⟩;rw [T8] at he;exact ⟨_,he,rfl,hx⟩
  case k19 =>
   refine Al (j:=17) (d:=133) (b:=true) rfl (by kernel_rfl) (by simp only [ja]) rfl (.inr ⟨22,#[.agg #[.int .i64 2,.slice aq 3 3]],W,by (clear jc hS;simp [go_sem,Act.eval, *]),?_⟩);refine (lval_any 2 Cf aq 3 W (jv.out.go (Ext.trans jd.out hS)) (by decide)).mono ?_;rintro e w' ⟨he,hx⟩;rw [T9] at he;exact ⟨_,he,rfl,hx⟩
  case k23 =>
   refine Al (j:=21) (d:=137) (b:=true) rfl (by kernel_rfl) (by simp only [ja]) rfl (.inr ⟨22,#[.agg #[.int .i64 41,.slice none 0 0]],W,by (clear jc hS;simp [go_sem,Act.eval, *]),?_⟩);refine (lval_any 41 [] none 0 W (CM.nil _ _) (by decide)).mono ?_;rintro e w' ⟨he,hx⟩;rw [SU] at he;exact ⟨_,he,rfl,hx⟩
  case k28 =>
   refine Al (j:=26) (d:=142) (b:=true) rfl (by kernel_rfl) (by simp only [ja]) rfl (.inr ⟨18,#[.agg #[.int .i64 2,.slice aq 3 3]],W,by (clear jc hS;simp [go_sem,Act.eval, *]),?_⟩);refine (Md 2 Cf aq 3 W (jv.out.go (Ext.trans jd.out hS)) (by decide) (by decide) (by decide)).mono ?_;rintro e w' hp;obtain ⟨v,rfl,hv,hx⟩:=QG hp;exact ⟨_,rfl,hv,hx⟩
  case k30 =>
   refine Al (j:=26) (d:=142) (b:=true) rfl (by kernel_rfl) (by simp only [ja]) rfl (.inr ⟨19,#[.agg #[.int .i64 2,.slice aq 3 3]],W,by (clear jc hS;simp [go_sem,Act.eval, *]),?_⟩);refine (Me 2 Cf aq 3 W (jv.out.go (Ext.trans jd.out hS)) (by decide) (by decide) (by decide)).mono ?_;rintro e w' hp;obtain ⟨v,rfl,hv,hx⟩:=QG hp;exact ⟨_,rfl,hv,hx⟩
  case k31 =>
   obtain ⟨⟨p1,q1,hv1,kz⟩,⟨p2,q2,hv2,kA⟩,ja⟩:=ja;have kO:=A0 kz;have kP:=A0 kA;clear kz kA;refine Al (j:=26) (d:=142) (b:=true) rfl (by kernel_rfl) (by simp only [ja]) rfl (.inr ⟨17,#[.agg #[.int .i64 3,.slice p1 3 q1],.agg #[.int .i64 3,.slice p2 3 q2]],W,by (clear jc hS;simp [go_sem,Act.eval, *];rfl),?_⟩);refine (gsame_any Cf Cf 3 3 p1 p2 q1 q2 W kO.out kP.out (by decide) (by decide)).mono ?_;rintro e w' ⟨he,hx⟩;rw [show decide ((3:Int)=3∧Cf=Cf)=true by decide] at he;exact ⟨_,he,rfl,hx⟩
  all_goals first
   | (refine AX rfl (.inl ⟨_,W,?_,rfl,Ext.refl _⟩);clear jc hS;simp [go_sem,Act.eval, *];done)
   | (refine Al (j:=1) (d:=117) (b:=true) rfl (by kernel_rfl) (by simp only [ja]) rfl (.inl ⟨_,W,?_,rfl,Ext.refl _⟩);clear jc hS;simp [go_sem,Act.eval, *];done)
   | (refine Al (j:=4) (d:=120) (b:=true) rfl (by kernel_rfl) (by simp only [ja]) rfl (.inl ⟨_,W,?_,rfl,Ext.refl _⟩);clear jc hS;simp [go_sem,Act.eval, *];done)
   | (refine Al (j:=8) (d:=124) (b:=true) rfl (by kernel_rfl) (by simp only [ja]) rfl (.inl ⟨_,W,?_,rfl,Ext.refl _⟩);clear jc hS;simp [go_sem,Act.eval, *];done)
   | (refine Al (j:=12) (d:=128) (b:=true) rfl (by kernel_rfl) (by simp only [ja]) rfl (.inl ⟨_,W,?_,rfl,Ext.refl _⟩);clear jc hS;simp [go_sem,Act.eval, *];done)
   | (refine Al (j:=17) (d:=133) (b:=true) rfl (by kernel_rfl) (by simp only [ja]) rfl (.inl ⟨_,W,?_,rfl,Ext.refl _⟩);clear jc hS;simp [go_sem,Act.eval, *];done)
   | (refine Al (j:=21) (d:=137) (b:=true) rfl (by kernel_rfl) (by simp only [ja]) rfl (.inl ⟨_,W,?_,rfl,Ext.refl _⟩);clear jc hS;simp [go_sem,Act.eval, *];done)
   | (refine Al (j:=26) (d:=142) (b:=true) rfl (by kernel_rfl) (by simp only [ja]) rfl (.inl ⟨_,W,?_,rfl,Ext.refl _⟩);clear jc hS;simp [go_sem,Act.eval, *];done)
 case hVx=>exact Af (by simp only [AS,List.not_mem_nil,or_false,forall_eq_or_imp,forall_eq];exact ⟨AW _,AW _,AW _,AW _,AW _,AW _,AW _,AW _,AW _,AW _,AW _,AW _,AW _,AW _,AW _,AW _,AW _,AW _,AW _,AW _,AW _,AW _,AW _,AW _,AW _,AW _,AW _,AW _,Jk _ _,AW _,Jk _ _,AW _,AW _,AW _⟩)
 case hSx=>exact fun W W' h hx=>Ext.trans h hx
 case hS=>first | exact Ext.refl _ | exact B8 _
 case hfin =>
  intro A W jc kt hS hv jb;obtain ⟨x,hx,hA⟩:=Ag [116,117,118,119,120,121,122,123,124,125,126,127,128,129,130,131,132,133,134,135,136,137,138,139,140,141,142,143,144,145,146,147,148,0] (by kernel_rfl) jc kt jb;have e0:x 0=.bool true:=(hx 0).trans (hv 33 (by decide));rw [hA];simp only [List.foldl];rw [e0];clear e0;simp only [Act.put,List.setIfInBounds_toArray,List.set_cons_succ,List.set_cons_zero];clear hA hx hv jb jc kt
  go_wp2_with fail
  go_ret;exact ⟨rfl,Ext.trans kq.out (Ext.trans jn.out (Ext.trans jf.out (Ext.trans jd.out hS)))⟩
def MdV (Ws:List ByteArray) (v:Value) (w:World):Prop:=∃ (a0 a1 a2:Option Addr) (c0 c1 c2:Nat) (cs:List Nat) (ps:List Prs) (bk:Int),v=Mb a0 Ws.length c0 a1 cs.length c1 a2 ps.length c2 bk∧Il w a0 a1 a2 c0 c1 c2 Ws cs ps bk∧Ii Ws cs ps bk∧AZ CN w 0 (.slice a1 cs.length c1) cs
theorem Se {Q:Nat→BR} {kw:Nat} {w w':World} {e:Ending} (h:QA Q kw w e w'):∃ v,e=.returned v∧MdV (mdW Q kw) v w'∧Ext w w':=by
 obtain ⟨a0,a1,a2,c0,c1,c2,Ws,cs,ps,bk,h1,h2,h3,h4,h5,h6⟩:=h;subst h4;exact ⟨_,h1,⟨a0,a1,a2,c0,c1,c2,cs,ps,bk,rfl,h2,h3,h5⟩,h6⟩
structure Od (S:Sch) (b:Option Addr) (cS:Nat) (aw ac ap:Option Addr) (cw cc cp:Nat) (Ws:List ByteArray) (cs:List Nat) (ps:List Prs) (bk:Int) (g8 g9:Nat) (v:Value) (L:List Slt) (w:World):Prop where
 b8:w.heap[g8]? = some (.cells #[.int .i64 S.modes,.int .u8 S.acc,.slice b S.rules.length cS] 33 (0,0))
 b9:w.heap[g9]? = some (.cells #[.slice aw Ws.length cw,.slice ac cs.length cc,.slice ap ps.length cp,.int .i64 bk] 39 (0,0))
 rul:BG w b S.rules
 mod:Il w aw ac ap cw cc cp Ws cs ps bk
 slt:Cd w 0 v L
theorem Od.go {S:Sch} {b aw ac ap:Option Addr} {cS cw cc cp g8 g9:Nat} {Ws:List ByteArray} {cs:List Nat} {ps:List Prs} {bk:Int} {v:Value} {L:List Slt} {w w':World} (h:Od S b cS aw ac ap cw cc cp Ws cs ps bk g8 g9 v L w) (hx:Ext w w'):Od S b cS aw ac ap cw cc cp Ws cs ps bk g8 g9 v L w' :=
 ⟨Ai h.b8 w' hx,Ai h.b9 w' hx,h.rul.later hx (A3 _),h.mod.go hx,h.slt.later hx (A3 _)⟩
def spot (x e:Edg):Bool:=x.1 == e.1 && (x.2.1 == e.2.1 && x.2.2.1 == e.2.2.1)
def C9:List Edg→Edg→Nat→Int
 | [],_,_=>-1
 | x :: r,e,n=>if spot x e then (n:Int) else C9 r e (n+1)
theorem find14_any (n:Int) (E:List Edg) (f:Edg) (a:Option Addr) (cap:Nat) (w:World) (hE:CM w a E) (hl:E.length≤1000000) :
  Calls Tryz.prog 27 #[FP n a E.length cap,edV f] w fun e w'=>e=.returned (.int .i64 (C9 E f 0))∧Ext w w':=by
 have HE:=A0 hE;obtain ⟨f1,f2,f3,f4⟩:=f;clear hE;unfold FP edV
 go_enter Tryz.func27,Tryz.ntmps27
 go_upto_region 1 with fail
 obtain ⟨wa,jc⟩:∃ wa,w.alloc (.cells #[.int .i64 n,.slice a E.length cap] 45)=wa:=⟨_,rfl⟩
 rw [jc];obtain ⟨wb,je⟩:∃ wb,wa.alloc (.cells #[.int .i64 f1,.int .i64 f2,.int .i64 f3,.int .i64 f4] 62)=wb:=⟨_,rfl⟩
 rw [je];have jl:Ext w wa:=by rw [← jc];exact (Below.refl _ _).alloc (A3 _) _
 have ji:Ext wa wb:=by rw [← je];exact (Below.refl _ _).alloc (A3 _) _
 have hz:wa.heap.size=w.heap.size+1:=by rw [← jc];simp
 have b1:wa.heap[w.heap.size]? = some (.cells #[.int .i64 n,.slice a E.length cap] 45 (0,0)):=by rw [← jc];exact heap_alloc_new _ _
 have b2:wb.heap[w.heap.size+1]? = some (.cells #[.int .i64 f1,.int .i64 f2,.int .i64 f3,.int .i64 f4] 62 (0,0)):=by rw [← hz,← je];exact heap_alloc_new _ _
 obtain ⟨g,hg⟩:∃ g,w.heap.size=g:=⟨_,rfl⟩
 rw [hg] at b1 b2 ⊢;have HX:Hid (Ext w wb):=Ext.trans jl ji;have jm:Hid (∀ W,Ext wb W→W.heap[g]? = some (.cells #[.int .i64 n,.slice a E.length cap] 45 (0,0))):=fun W hx=>(Below.block (Ext.trans ji hx) _ (A5.1 b1).1).trans b1;have jn:Hid (∀ W,Ext wb W→W.heap[g+1]? = some (.cells #[.int .i64 f1,.int .i64 f2,.int .i64 f3,.int .i64 f4] 62 (0,0))):=fun W hx=>(Below.block hx _ (A5.1 b2).1).trans b2;clear jc je jl ji hz b1 b2 hg
 go_wp2_with fail
 go_loopw [5] (fun i wr=>∃ k:Nat,k≤E.length∧i=.int .i64 (k:Int)∧C9 E (f1,f2,f3,f4) 0=C9 (E.drop k) (f1,f2,f3,f4) k∧Ext wb wr) (fun i _=>E.length - (intOf i).toNat)
 case atStart=>exact ⟨0,Nat.zero_le _,rfl,rfl,Ext.refl _⟩
 case round =>
  obtain ⟨k,hk,rfl,hf,hb⟩:=hrel;have HB:=A0 hb;have HF:=A0 hf;clear hb hf;have m1:wr.cell? ⟨g,1,none⟩=some (.slice a E.length cap):=by rw [cell_of_row _ _ 1 _ _ _ (jm.out wr HB.out)];rfl
  by_cases jb:k<E.length
  ·have jh:(k:Int)<(E.length:Int):=by omega
   obtain ⟨b1,o1,ha,hb1,x0,x1,x2,x3⟩:=(HE.out.later (Ext.trans HX.out HB.out) (A3 _)) k jb;have jg:=Ca a b1 o1 E.length cap k ha jb;have hd:E.drop k=E[k]'jb :: E.drop (k+1):=AE jb;obtain ⟨⟨e1,e2,e3,e4⟩,hx⟩:∃ x,E[k]'jb=x:=⟨_,rfl⟩
   rw [hx] at x0 x1 x2 x3 hd;simp only at x0 x1 x2 x3;have HD:=A0 hd;clear hx ha hd
   go_upto_region 5 with fail
   obtain ⟨wq,jf⟩:∃ wq,wr.alloc (.cells #[.int .i64 e1,.int .i64 e2,.int .i64 e3,.int .i64 e4] 62)=wq:=⟨_,rfl⟩
   rw [jf];have jj:Ext wr wq:=by rw [← jf];exact (Below.refl _ _).alloc (A3 _) _
   have bq:wq.heap[wr.heap.size]? = some (.cells #[.int .i64 e1,.int .i64 e2,.int .i64 e3,.int .i64 e4] 62 (0,0)):=by rw [← jf];exact heap_alloc_new _ _
   obtain ⟨gq,jk⟩:∃ gq,wr.heap.size=gq:=⟨_,rfl⟩
   rw [jk] at bq ⊢;have jd:=A0 jj;have u0:wq.cell? ⟨gq,0,none⟩=some (.int .i64 e1):=by rw [cell_of_row _ _ 0 _ _ _ bq];rfl
   have u1:wq.cell? ⟨gq,1,none⟩=some (.int .i64 e2):=by rw [cell_of_row _ _ 1 _ _ _ bq];rfl
   have u2:wq.cell? ⟨gq,2,none⟩=some (.int .i64 e3):=by rw [cell_of_row _ _ 2 _ _ _ bq];rfl
   have bf:=jn.out wq (Ext.trans HB.out jj);have v0:wq.cell? ⟨g+1,0,none⟩=some (.int .i64 f1):=by rw [cell_of_row _ _ 0 _ _ _ bf];rfl
   have v1:wq.cell? ⟨g+1,1,none⟩=some (.int .i64 f2):=by rw [cell_of_row _ _ 1 _ _ _ bf];rfl
   have v2:wq.cell? ⟨g+1,2,none⟩=some (.int .i64 f3):=by rw [cell_of_row _ _ 2 _ _ _ bf];rfl
   clear jf jj bq jk jg x0 x1 x2 x3 m1 bf;by_cases h1:e1=f1
   ·have g1:(e1 == f1)=true:=by rw [beq_iff_eq];exact h1
    by_cases h2:e2=f2
    ·have g2:(e2 == f2)=true:=by rw [beq_iff_eq];exact h2
     by_cases h3:e3=f3
     ·have g3:(e3 == f3)=true:=by rw [beq_iff_eq];exact h3
      have ja:Hid (spot (e1,e2,e3,e4) (f1,f2,f3,f4)=true):=by show _=_;simp only [spot,g1,g2,g3,Bool.and_self]
      clear h1 h2 h3;have HR:Hid (C9 E (f1,f2,f3,f4) 0=(k:Int)):=by
       show _=_;rw [HF.out,HD.out,C9,ja.out];rfl
      go_wp2_with fail
      go_ret;exact ⟨by rw [HR.out];rfl,Ext.trans HX.out (Ext.trans HB.out jd.out)⟩
     ·have g3:(e3 == f3)=false:=by rw [beq_eq_false_iff_ne];exact h3
      have ja:Hid (spot (e1,e2,e3,e4) (f1,f2,f3,f4)=false):=by show _=_;simp only [spot,g1,g2,g3,Bool.and_false]
      clear h1 h2 h3;have HR:Hid (C9 E (f1,f2,f3,f4) 0=C9 (E.drop (k+1)) (f1,f2,f3,f4) (k+1)):=by
       show _=_;rw [HF.out,HD.out,C9,ja.out];rfl
      go_wp2_with fail
      go_roundw
      case rel=>exact ⟨k+1,by omega,by go_num,HR.out,Ext.trans HB.out jd.out⟩
      case measure=>simp [intOf];omega
    ·have g2:(e2 == f2)=false:=by rw [beq_eq_false_iff_ne];exact h2
     have ja:Hid (spot (e1,e2,e3,e4) (f1,f2,f3,f4)=false):=by show _=_;simp only [spot,g1,g2,Bool.false_and,Bool.and_false]
     clear h1 h2;have HR:Hid (C9 E (f1,f2,f3,f4) 0=C9 (E.drop (k+1)) (f1,f2,f3,f4) (k+1)):=by
      show _=_;rw [HF.out,HD.out,C9,ja.out];rfl
     go_wp2_with fail
     go_roundw
     case rel=>exact ⟨k+1,by omega,by go_num,HR.out,Ext.trans HB.out jd.out⟩
     case measure=>simp [intOf];omega
   ·have g1:(e1 == f1)=false:=by rw [beq_eq_false_iff_ne];exact h1
    have ja:Hid (spot (e1,e2,e3,e4) (f1,f2,f3,f4)=false):=by show _=_;simp only [spot,g1,Bool.false_and]
    clear h1;have HR:Hid (C9 E (f1,f2,f3,f4) 0=C9 (E.drop (k+1)) (f1,f2,f3,f4) (k+1)):=by
     show _=_;rw [HF.out,HD.out,C9,ja.out];rfl
    go_wp2_with fail
    go_roundw
    case rel=>exact ⟨k+1,by omega,by go_num,HR.out,Ext.trans HB.out jd.out⟩
    case measure=>simp [intOf];omega
  ·have jh:¬ (k:Int)<(E.length:Int):=by omega
   have HR:Hid (C9 E (f1,f2,f3,f4) 0 = -1):=by
    show _=_;rw [HF.out,List.drop_eq_nil_of_le (by omega)];rfl
   go_wp2_with fail
   go_ret;exact ⟨by rw [HR.out];rfl,Ext.trans HX.out HB.out⟩
variable {R:List Rl} {acc:Int} {L L':List Slt} {W:List (List UInt8)}
def Ml (A B:List Edg):Prop:=∀ i j w c,(i,j,w,c)∈A→∃ d,(i,j,w,d)∈B∧d≤c
theorem RS (hl:L.length=L'.length) (h:∀ i k w c,Whole R acc (L.drop i) k w c→∃ d,Whole R acc (L'.drop i) k w d∧d≤c):Ml (Ct R acc L W) (Ct R acc L' W):=by
 intro i j w c hm;obtain ⟨i',j',w',c',e,h1,h2,h3⟩:=GE.1 hm;cases e;obtain ⟨hw,hc⟩:=(FF.mem w' c').1 h3;obtain ⟨d,hd,hdc⟩:=h i' (j' - i') _ c' hc.1;obtain ⟨x,hx,hxd⟩:=FF.costs hw hd;exact ⟨x,GE.2 ⟨i',j',w',x,rfl,h1,by omega,hx⟩,by omega⟩
section
variable {S:Sch} {b aw ac ap aL:Option Addr} {cS cw cc cp cL g8 g9:Nat} {Ws:List ByteArray} {cs:List Nat} {ps:List Prs} {bk:Int} {v0:Value} {L L0:List Slt} {W:World}
theorem Ka (h:Od S b cS aw ac ap cw cc cp Ws cs ps bk g8 g9 v0 L0 W) (hs:BU S=0) (jb:S.acc=1) (ja:S.rules.length≤cS) (jc:Ii Ws cs ps bk) (jd:Ws.length≤10) (hT:Tab W) (hL:Df W aL cL L) (h3:Dk L) (h6:L.length≤6) :
  Calls Tryz.prog 14 #[.agg #[.int .i64 S.modes,.int .u8 S.acc,.slice b S.rules.length cS],.agg #[.slice aw Ws.length cw,.slice ac cs.length cc,.slice ap ps.length cp,.int .i64 bk],.slice aL L.length cL] W (SL L.length (Ct S.rules S.acc L (Ws.map bts)) W) :=
 lbuild_ok S b aw aL cS cw cL (.slice ac cs.length cc) (.slice ap ps.length cp) (.int .i64 bk) Ws L W (FR.of_valid (Ez hs) (by rw [jb];decide) (by rw [jb];decide) ja h.rul) (Ez hs) hs hT
  (fun W' hx=>Gr aw ac ap cw cc cp Ws cs ps bk W' (h.mod.go hx) jc) (QE hL.s (by omega) (h3.valid (by omega))) h.mod.ws jc.dict h.mod.wc jd hL h6
theorem Oe {nL:Nat} (h:Od S b cS aw ac ap cw cc cp Ws cs ps bk g8 g9 v0 L0 W) (hs:BU S≠0) (jb:S.acc=1) (hl9:S.rules.length≤9) (ja:S.rules.length≤cS) :
  Calls Tryz.prog 14 #[.agg #[.int .i64 S.modes,.int .u8 S.acc,.slice b S.rules.length cS],.agg #[.slice aw Ws.length cw,.slice ac cs.length cc,.slice ap ps.length cp,.int .i64 bk],.slice aL nL cL] W (MW 20 W) :=
 F0 S b aw aL cS cw cL (.slice ac cs.length cc) (.slice ap ps.length cp) (.int .i64 bk) Ws.length nL W h.rul ja (by omega) (by rw [jb];decide) (by rw [jb];decide) hs
end
def LeB (b:Bool) (s t:Slt):Prop:=∀ c n,Fj s c=some n→∃ m,Fj t c=some m∧(b=true→m≤n)
theorem LeB.refl (b:Bool) (s:Slt):LeB b s s:=fun c n h=>⟨n,h,fun _=>A3 _⟩
inductive Bu (b:Bool):List Slt→List Slt→Prop
 | nil:Bu b [] []
 | cons {s t:Slt} {L M:List Slt}:LeB b s t→Bu b L M→Bu b (s :: L) (t :: M)
theorem Bu.refl (b:Bool):∀ L,Bu b L L
 | []=>.nil
 | s :: L=>.cons (.refl b s) (Bu.refl b L)
theorem Bu.len {b:Bool} {L M:List Slt} (h:Bu b L M):L.length=M.length:=by
 induction h with
 | nil=>rfl
 | cons _ _ ih=>rw [List.length_cons,List.length_cons,ih]
theorem Bu.drop {b:Bool} {L M:List Slt} (h:Bu b L M):∀ i,Bu b (L.drop i) (M.drop i):=by
 induction h with
 | nil=>intro i;rw [List.drop_nil];exact .nil
 | cons hs h ih =>
  intro i;cases i with
  | zero=>exact .cons hs h
  | succ i=>exact ih i
theorem Bu.set {b:Bool} {t:Slt}:∀ (L:List Slt) (k:Nat) (h:k<L.length),LeB b L[k] t→Bu b L (L.set k t)
 | s :: L,0,_,h=>.cons h (.refl b L)
 | s :: L,k+1,hk,h=>.cons (.refl b s) (Bu.set L k (Nat.lt_of_succ_lt_succ hk) h)
theorem Bu.unset {b:Bool} {t:Slt}:∀ (L:List Slt) (k:Nat) (h:k<L.length),LeB b t L[k]→Bu b (L.set k t) L
 | s :: L,0,_,h=>.cons h (.refl b L)
 | s :: L,k+1,hk,h=>.cons (.refl b s) (Bu.unset L k (Nat.lt_of_succ_lt_succ hk) h)
theorem Bu.lets {b:Bool} {L M:List Slt} (h:Bu b L M):∀ {r:List UInt8} {n:Nat},letsC L r=some n→∃ m,letsC M r=some m∧(b=true→m≤n):=by
 induction h with
 | nil =>
  intro r n e;exact ⟨n,e,fun _=>A3 _⟩
 | @cons
     s t L M hs h ih =>
  intro r n e;cases r with
  | nil=>rw [Ge] at e ⊢;exact ⟨n,e,fun _=>A3 _⟩
  | cons c r =>
   simp only [letsC] at e ⊢;cases e1:Fj s c with
   | none=>rw [e1] at e;cases e
   | some x =>
    rw [e1] at e;cases e2:letsC L r with
    | none=>rw [e2] at e;cases e
    | some y =>
     rw [e2] at e;obtain ⟨x',h1,h2⟩:=hs c x e1;obtain ⟨y',h3,h4⟩:=ih e2;cases e;exact ⟨x'+y',by rw [h1,h3];rfl,fun hb=>Nat.add_le_add (h2 hb) (h4 hb)⟩
theorem Bu.rts {b:Bool} {R:List Rl} {L M:List Slt} (h:Bu b L M) {i m:Nat} {o:List UInt8} {c:Nat} (hr:RtS R L i m o c):∃ d,RtS R M i m o d∧(b=true→d≤c):=by
 induction hr with
 | start=>exact ⟨0,.start,fun _=>A3 _⟩
 | step _ hm hf hfr hk ih =>
  obtain ⟨c',h1,h2⟩:=ih;obtain ⟨k',h3,h4⟩:=(h.drop _).lets hk;exact ⟨_,.step h1 hm hf hfr h3,fun hb=>by have:=h2 hb;have:=h4 hb;omega⟩
variable {R:List Rl} {acc:Int} {L M:List Slt} {W:List (List UInt8)}
theorem Bu.whole {b:Bool} (h:Bu b L M) {i k:Nat} {w:List UInt8} {c:Nat} (hw:Whole R acc (L.drop i) k w c):∃ d,Whole R acc (M.drop i) k w d∧(b=true→d≤c):=by
 obtain ⟨m,ha,hr⟩:=hw;obtain ⟨d,h1,h2⟩:=(h.drop i).rts hr;exact ⟨d,⟨m,ha,h1⟩,h2⟩
theorem Bu.cov (h:Bu true L M):Ml (Ct R acc L W) (Ct R acc M W) :=
 RS h.len fun i k w c hw=>by
  obtain ⟨d,h1,h2⟩:=h.whole hw;exact ⟨d,h1,h2 rfl⟩
theorem Bu.ex {b:Bool} (h:Bu b L M) {i j w c:Int} (hm:(i,j,w,c)∈Ct R acc L W):∃ d,(i,j,w,d)∈Ct R acc M W:=by
 obtain ⟨i',j',w',c',e,h1,h2,h3⟩:=GE.1 hm;cases e;obtain ⟨hw,hc⟩:=(FF.mem w' c').1 h3;obtain ⟨d,hd, -⟩:=h.whole hc.1;obtain ⟨x,hx,hxd⟩:=FF.costs hw hd;exact ⟨x,GE.2 ⟨i',j',w',x,rfl,h1,by have:=h.len;omega,hx⟩⟩
theorem Jl {α:Type} [DecidableEq α]:∀ {l m:List α},l.Nodup→(∀ x∈l,x∈m)→l.length≤m.length
 | [],_,_,_=>Nat.zero_le _
 | x
   :: l,m,hn,h=>by
  obtain ⟨h1,h2⟩:=List.nodup_cons.1 hn;have hx:=h x A9;have h3:=Jl (l:=l) (m:=m.erase x) h2 fun y hy=>by
   have jb:=h y (List.mem_cons_of_mem _ hy);have ja:y≠x:=fun e=>h1 (e ▸ hy);exact (List.mem_erase_of_ne ja).2 jb
  rw [List.length_erase_of_mem hx] at h3;have:=List.length_pos_of_mem hx;rw [List.length_cons];omega
def Kb (e:Edg):Int × Int × Int:=(e.1,e.2.1,e.2.2.1)
theorem QI {E:List Edg} (h:E.Pairwise Eh):(E.map Kb).Nodup:=by
 unfold List.Nodup;rw [AR];refine h.imp fun {a b} ja e=>?_;obtain ⟨a1,a2,a3,a4⟩:=a;obtain ⟨b1,b2,b3,b4⟩:=b;unfold Kb at e;unfold Eh at ja;simp only [Prod.mk.injEq] at e ja;omega
theorem NW {b:Bool} (h:Bu b L M):(Ct R acc L W).length≤(Ct R acc M W).length:=by
 have h1:=Jl (QI (Ev (R:=R) (acc:=acc) (L:=L) (W:=W))) (m:=(Ct R acc M W).map Kb) fun x hx=>by
  obtain ⟨⟨i,j,w,c⟩,hm,rfl⟩:=AH.1 hx;obtain ⟨d,hd⟩:=h.ex hm;exact AH.2 ⟨_,hd,rfl⟩
 rwa [AM,AM] at h1
theorem find_at:∀ (B:List Edg) (e:Edg) (n:Nat),(∃ x∈B,spot x e=true)→∃ (p:Nat) (h:p<B.length),C9 B e n=((n+p:Nat):Int)∧spot B[p] e=true
 | [],e,n,⟨x,hx,_⟩=>by cases hx
 | y
   :: B,e,n,⟨x,hx,hs⟩=>by
  by_cases hy:spot y e=true
  · exact ⟨0,by simp,by rw [C9,if_pos hy];rfl,hy⟩
  ·rcases AS.1 hx with rfl | hx
   · exact absurd hs hy
   ·obtain ⟨p,h1,h2,h3⟩:=find_at B e (n+1) ⟨x,hx,hs⟩;exact ⟨p+1,by simpa using h1,by rw [C9,if_neg hy,h2];congr 1;omega,h3⟩
theorem QJ {x e:Edg} (h:spot x e=true):Kb x=Kb e:=by
 unfold spot at h;simp only [Bool.and_eq_true,beq_iff_eq] at h;unfold Kb;rw [h.1,h.2.1,h.2.2]
theorem QK {α:Type}:∀ {l:List α} {i j:Nat} (hi:i<l.length) (hj:j<l.length),l.Nodup→l[i]=l[j]→i=j:=fun {l i j} hi hj hn e=>by
 rcases Nat.lt_trichotomy i j with h | h | h
 · exact absurd e (List.pairwise_iff_getElem.1 hn i j hi hj h)
 · exact h
 · exact absurd e.symm (List.pairwise_iff_getElem.1 hn j i hj hi h)
theorem Lj {A B:List Edg} (hc:Ml A B) (hB:B.Pairwise Eh) {k:Nat} (hk:k<A.length):∃ (p:Nat) (h:p<B.length),C9 B A[k] 0=(p:Int)∧B[p].2.2.2≤A[k].2.2.2:=by
 obtain ⟨⟨i,j,w,c⟩,he⟩:∃ e,A[k]=e:=⟨_,rfl⟩
 have hm:(i,j,w,c)∈A:=he ▸ AG hk;obtain ⟨d,hd,jb⟩:=hc i j w c hm;rw [he];obtain ⟨p,h1,h2,h3⟩:=find_at B (i,j,w,c) 0 ⟨_,hd,by simp [spot]⟩;refine ⟨p,h1,by rw [h2,Nat.zero_add],?_⟩;obtain ⟨q,hq,ja⟩:=List.mem_iff_getElem.1 hd;have h4:=QJ h3;have h5:Kb B[q]=Kb B[p]:=by rw [ja,h4];rfl
 have h6:=QK (l:=B.map Kb) (i:=q) (j:=p) (by rw [AM];exact hq) (by rw [AM];exact h1) (QI hB) (by rw [List.getElem_map,List.getElem_map,h5]);subst h6;rw [ja];exact jb
theorem QL (b:Bool) (s:Slt) (h:Ch):LeB b s (s ++ [h]):=fun c n e=>by
 refine ⟨n,?_,fun _=>A3 _⟩;unfold Fj at e ⊢;rw [List.find?_append];cases e2:s.find? (fun h=>h.key == c) with
 | none=>rw [e2] at e;cases e
 | some x=>rw [e2] at e;exact e
def Dh:Slt→Slt
 | []=>[]
 | x :: r=>⟨x.key,x.cost / 2⟩ :: r
theorem QM {s:Slt} (h0:∀ x∈s,0≤x.cost):LeB true s (Dh s):=fun c n e=>by
 cases s with
 | nil=>exact ⟨n,e,fun _=>A3 _⟩
 | cons x r =>
  have hx:=h0 x A9;unfold Fj at e ⊢;unfold Dh;rw [List.find?_cons] at e ⊢;cases hk:(x.key == c) with
  | true =>
   rw [hk] at e;simp only [Option.map_some,Option.some.injEq] at e ⊢;exact ⟨_,rfl,fun _=>by omega⟩
  | false=>rw [hk] at e;exact ⟨n,e,fun _=>A3 _⟩
theorem Of (s:Slt):LeB false (Dh s) s:=fun c n e=>by
 cases s with
 | nil=>exact ⟨n,e,fun h=>by cases h⟩
 | cons x r =>
  unfold Fj at e ⊢;unfold Dh at e;rw [List.find?_cons] at e ⊢;cases hk:(x.key == c) with
  | true=>exact ⟨_,rfl,fun h=>by cases h⟩
  | false=>simp only [hk] at e;exact ⟨n,e,fun h=>by cases h⟩
theorem Dk.set {L:List Slt} (h:Dk L) {k:Nat} {t:Slt} (ht:Dk [t]):Dk (L.set k t):=by
 have hm:∀ s∈L.set k t,s∈L∨s=t:=fun s hs=>List.mem_or_eq_of_mem_set hs;refine ⟨fun s hs=>?_,fun s hs=>?_,fun s hs=>?_,fun s hs=>?_,fun s hs=>?_⟩ <;> rcases hm s hs with h1 | rfl
 · exact h.ne s h1
 · exact ht.ne s (by simp)
 · exact h.few s h1
 · exact ht.few s (by simp)
 · exact h.inc s h1
 · exact ht.inc s (by simp)
 · exact h.key s h1
 · exact ht.key s (by simp)
 · exact h.cst s h1
 · exact ht.cst s (by simp)
theorem Og {L:List Slt} (h:Dk L) {s:Slt} (hs:s∈L) (hl:∀ x∈s,x.key.toNat<99) {z:Int} (h0:0≤z) (h8:z≤8):Dk [s ++ [⟨99,z⟩]]:=by
 have h2:s.length≤2:=by
  have h1:(s.map fun x=>x.key.toNat - 97).Nodup:=by
   unfold List.Nodup;rw [AR];refine List.Pairwise.imp_of_mem (fun {a b} ha hb hab e=>?_) (h.inc s hs);have:=h.key s hs a ha;have:=h.key s hs b hb;omega
  have h2:=nodup_bound 2 _ h1 fun z hz=>by
   obtain ⟨x,hx,rfl⟩:=AH.1 hz;have:=hl x hx;have:=h.key s hs x hx;omega
  rwa [AM] at h2
 refine ⟨fun t ht=>?_,fun t ht=>?_,fun t ht=>?_,fun t ht x hx=>?_,fun t ht x hx=>?_⟩ <;> obtain rfl:=AD.1 ht
 · simp
 · rw [AB,AC];omega
 ·refine List.pairwise_append.2 ⟨h.inc s hs,List.pairwise_singleton _ _,fun a ha b hb=>?_⟩;obtain rfl:=AD.1 hb;exact hl a ha
 ·rcases AT.1 hx with h1 | h1
  · exact h.key s hs x h1
  ·obtain rfl:=AD.1 h1;exact ⟨show 97≤(99:UInt8).toNat by decide,show (99:UInt8).toNat≤99 by decide⟩
 ·rcases AT.1 hx with h1 | h1
  · exact h.cst s hs x h1
  ·obtain rfl:=AD.1 h1;exact ⟨h0,h8⟩
theorem slt3_half {L:List Slt} (h:Dk L) {s:Slt} (hs:s∈L):Dk [Dh s]:=by
 have h1:=h.ne s hs;have h2:=h.few s hs;have h3:=h.inc s hs;have h4:=h.key s hs;have h5:=h.cst s hs;clear hs;cases s with
 | nil=>simp at h1
 | cons y r =>
  refine ⟨fun t ht=>?_,fun t ht=>?_,fun t ht=>?_,fun t ht x hx=>?_,fun t ht x hx=>?_⟩ <;> obtain rfl:=AD.1 ht
  · simp [Dh]
  · simpa [Dh] using h2
  ·unfold Dh;rw [AQ] at h3 ⊢;exact h3
  ·unfold Dh at hx;rcases AS.1 hx with rfl | h6
   · exact h4 y A9
   · exact h4 x (List.mem_cons_of_mem _ h6)
  ·unfold Dh at hx;rcases AS.1 hx with rfl | h6
   ·have:=h5 y A9;show 0≤y.cost / 2∧y.cost / 2≤8;omega
   · exact h5 x (List.mem_cons_of_mem _ h6)
theorem QN {s:Slt} (h:0<s.length):Dh s=s.set 0 ⟨s[0].key,s[0].cost / 2⟩:=by
 cases s with
 | nil=>cases h
 | cons y r=>rfl
theorem Oh {s:Slt} (hi:s.Pairwise fun a b=>a.key.toNat<b.key.toNat) (h0:0<s.length) {n:Nat} (hl:(s[s.length - 1]'(by omega)).key.toNat<n):∀ x∈s,x.key.toNat<n:=fun x hx=>by
 obtain ⟨i,ja,rfl⟩:=List.mem_iff_getElem.1 hx;by_cases h:i=s.length - 1
 · subst h;exact hl
 ·have:=List.pairwise_iff_getElem.1 hi i (s.length - 1) ja (by omega) (by omega);omega
def RT (g:Nat):Nat→BR
 | 0=>⟨some ⟨g,0,none⟩,1,1,fun _=>2⟩
 | 1=>⟨some ⟨g+1,0,none⟩,1,1,fun _=>3⟩
 | 2=>⟨some ⟨g+1+1,0,none⟩,2,2,fun i=>if i=0 then 0 else 1⟩
 | _=>⟨some ⟨g+1+1+1,0,none⟩,2,2,fun i=>if i=0 then 1 else 0⟩
theorem one_byte {w:World} {g:Nat} {z:Int} {t:TypeId} {f:Nat × Nat} (h:w.heap[g]? = some (.cells #[.int .u8 z] t f)) (h0:0≤z) (h1:z≤255):BX w (some ⟨g,0,none⟩) 1 fun _=>z :=
 .inr ⟨g,0,rfl,by decide,(A5.1 h).1,fun i hi=>by
  obtain rfl:i=0:=by omega
  exact ⟨by rw [cell_of_row w _ _ _ _ _ h];rfl,h0,h1⟩⟩
theorem two_bytes {w:World} {g:Nat} {y z:Int} {t:TypeId} {f:Nat × Nat} (h:w.heap[g]? = some (.cells #[.int .u8 y,.int .u8 z] t f)) (h0:0≤y) (h1:y≤255) (k0:0≤z) (k1:z≤255):BX w (some ⟨g,0,none⟩) 2 fun i=>if i=0 then y else z :=
 .inr ⟨g,0,rfl,by decide,(A5.1 h).1,fun i hi=>by
  rcases (by omega:i=0∨i=1) with rfl | rfl
  · exact ⟨by rw [cell_of_row w _ _ _ _ _ h];rfl,h0,h1⟩
  · exact ⟨by rw [cell_of_row w _ _ _ _ _ h];rfl,k0,k1⟩⟩
theorem Oi (w:World) (t:TypeId):∃ w5,((((w.alloc (.cells #[.int .u8 2] 5)).alloc (.cells #[.int .u8 3] 5)).alloc (.cells #[.int .u8 0,.int .u8 1] 5)).alloc (.cells #[.int .u8 1,.int .u8 0] 5)).alloc
   (.cells #[.slice (some ⟨w.heap.size,0,none⟩) 1 1,.slice (some ⟨w.heap.size+1,0,none⟩) 1 1,.slice (some ⟨w.heap.size+1+1,0,none⟩) 2 2,.slice (some ⟨w.heap.size+1+1+1,0,none⟩) 2 2] t)=w5∧Ext w w5 ∧
  EJ w5 (some ⟨w.heap.size+1+1+1+1,0,none⟩) 4 (RT w.heap.size):=by
 obtain ⟨w4,ja,jb,b0,b1,b2,b3,hz⟩:=Mh w (.cells #[.int .u8 2] 5) (.cells #[.int .u8 3] 5) (.cells #[.int .u8 0,.int .u8 1] 5) (.cells #[.int .u8 1,.int .u8 0] 5);rw [ja];have hx:Ext w4 (w4.alloc (.cells #[.slice (some ⟨w.heap.size,0,none⟩) 1 1,.slice (some ⟨w.heap.size+1,0,none⟩) 1 1,.slice (some ⟨w.heap.size+1+1,0,none⟩) 2 2,.slice (some ⟨w.heap.size+1+1+1,0,none⟩) 2 2] t)):=(Below.refl _ _).alloc (A3 _) _;have h4:=heap_alloc_new w4 (.cells #[.slice (some ⟨w.heap.size,0,none⟩) 1 1,.slice (some ⟨w.heap.size+1,0,none⟩) 1 1,.slice (some ⟨w.heap.size+1+1,0,none⟩) 2 2,.slice (some ⟨w.heap.size+1+1+1,0,none⟩) 2 2] t);rw [hz] at h4;have hs:w.heap.size+1+1+1+1<(w4.alloc (.cells #[.slice (some ⟨w.heap.size,0,none⟩) 1 1,.slice (some ⟨w.heap.size+1,0,none⟩) 1 1,.slice (some ⟨w.heap.size+1+1,0,none⟩) 2 2,.slice (some ⟨w.heap.size+1+1+1,0,none⟩) 2 2] t)).heap.size:=(A5.1 h4).1;refine ⟨_,rfl,Ext.trans jb hx,fun i hi=>⟨_,0,rfl,hs,?_⟩⟩
 match i,hi with
 | 0,_=>exact ⟨by rw [cell_of_row _ _ _ _ _ _ h4];rfl,one_byte (Ai b0 _ hx) (by decide) (by decide),(show (1:Nat)≤9223372036854775807 by decide)⟩
 | 1,_=>exact ⟨by rw [cell_of_row _ _ _ _ _ _ h4];rfl,one_byte (Ai b1 _ hx) (by decide) (by decide),(show (1:Nat)≤9223372036854775807 by decide)⟩
 | 2,_=>exact ⟨by rw [cell_of_row _ _ _ _ _ _ h4];rfl,two_bytes (Ai b2 _ hx) (by decide) (by decide) (by decide) (by decide),(show (2:Nat)≤9223372036854775807 by decide)⟩
 | 3,_=>exact ⟨by rw [cell_of_row _ _ _ _ _ _ h4];rfl,two_bytes (Ai b3 _ hx) (by decide) (by decide) (by decide) (by decide),(show (2:Nat)≤9223372036854775807 by decide)⟩
theorem Ll (z:Int) (n:Nat) (h:0≤z) (hn:0<n):∃ k:Nat,z.tmod (n:Int)=(k:Int)∧k<n:=by
 have h1:=Int.tmod_nonneg (n:Int) h;have h2:=Int.tmod_lt_of_pos z (show (0:Int)<(n:Int) by omega);exact ⟨(z.tmod (n:Int)).toNat,by omega,by omega⟩
theorem Lm (g n c k:Nat) (hk:k<n) (w:World):(Instr.indexAt 81 (.slice (some ⟨g,0,none⟩) n c) (.int .i64 (k:Int))).run Tryz.prog w=.ok (.pointer (some ⟨g,k*2,none⟩)) w:=by
 have h0:(0:Int)≤(k:Int):=by omega
 have h1:(k:Int)<(n:Int):=by omega
 simp [go_sem,h0,h1]
theorem FI {α:Type} {T:BQ α} {w:World} {B:Nat} {v:Value} {L:List α} (h:AZ T w B v L) (hl:0<L.length):∃ g c,v=.slice (some ⟨g,0,none⟩) L.length c:=by
 rcases h.blk with ⟨_,e⟩ | ⟨g,c,e,_⟩
 · rw [e] at hl;exact absurd hl (Nat.lt_irrefl _)
 · exact ⟨g,c,e⟩
theorem RU {w:World} {B gL cL n k:Nat} {LL:List SV} {L:List Slt} {s:Slt} (h:Be w B (.slice (some ⟨gL,0,none⟩) n cL) LL L) (hk:k<L.length) (hs:L[k]=s) (h0:0<s.length) :
  ∃ gk ck,w.cell? ⟨gL,k,none⟩=some (.slice (some ⟨gk,0,none⟩) s.length ck)∧AZ Av w 0 (.slice (some ⟨gk,0,none⟩) s.length ck) s:=by
 have jc:k<LL.length:=by rw [h.len];exact hk
 have jb:=h.el k _ s (AA jc) (by rw [AA hk,hs]);obtain ⟨g,c,e⟩:=FI jb h0;have h2:=h.own.cell C4 jc (j:=0) (by decide);have e1:k*Bl.k+0=k:=by show k*1+0=_;omega
 rw [e1] at h2;have h3:w.cell? ⟨gL,k,none⟩=some (svS LL[k]):=h2;have ja:AZ Av w 0 (svS LL[k]) s:=jb;rw [e] at h3 ja;exact ⟨g,c,h3,ja⟩
theorem Gv {α:Type} {T:BQ α} {w:World} {B g n c:Nat} {Ls:List α} (h:AZ T w B (.slice (some ⟨g,0,none⟩) n c) Ls) :
  ∀ j u,(Ls.flatMap T.enc)[j]? = some u→w.cell? ((⟨g,0,none⟩:Addr).add j)=some u:=fun j u hj=>World.ownsRow.cells (g:=g) h rfl j u hj
theorem Ln {w:World} {B g n c k:Nat} {LL:List SV} {L:List Slt} {x:SV} {s:Slt} (h:Be w B (.slice (some ⟨g,0,none⟩) n c) LL L) (hk:k<L.length) (hs:ElS w x s) :
  Be (w.setCell ⟨g,k,none⟩ (svS x)) B (.slice (some ⟨g,0,none⟩) n c) (LL.set k x) (L.set k s):=by
 have jb:k<LL.length:=by rw [h.len];exact hk
 have h1:=AZ.put C4 h.own jb (j:=0) (x:=x) (u:=svS x) (by decide) rfl;have e1:k*Bl.k+0=k:=by show k*1+0=_;omega
 rw [e1] at h1;obtain ⟨cs,ja⟩:=Au h.own (g:=g) rfl;have ht:Tq g w (w.setCell ⟨g,k,none⟩ (svS x)):=Tq.set _ _ _ _;refine ⟨h1,by rw [List.length_set,List.length_set];exact h.len,fun j y t h2 h3=>?_⟩;rw [List.getElem?_set] at h2 h3;by_cases e:k=j
 ·subst e;rw [if_pos rfl,if_pos jb] at h2;rw [if_pos rfl,if_pos hk] at h3;cases h2;cases h3;exact ht.row hs ja (by decide)
 ·rw [if_neg e] at h2 h3;exact ht.row (h.el j y t h2 h3) ja (by decide)
theorem QO {w:World} {B g n c:Nat} {s:Slt} (h:AZ Av w B (.slice (some ⟨g,0,none⟩) n c) s) (h0:0<s.length) :
  AZ Av (w.setCell ⟨g,1,none⟩ (.int .i64 (s[0].cost / 2))) B (.slice (some ⟨g,0,none⟩) n c) (Dh s):=by
 rw [QN h0];exact AZ.put Bd h h0 (j:=1) (u:=.int .i64 (s[0].cost / 2)) (by decide) rfl
theorem Jm {w:World} {B g n c k g2 n2 c2 B2:Nat} {LL LM:List SV} {L:List Slt} {v:Value} (h:Be w B (.slice (some ⟨g,0,none⟩) n c) LL L) (h2:AZ Bl w B2 (.slice (some ⟨g2,0,none⟩) n2 c2) LM) (hne:g≠g2):Be (w.setCell ⟨g2,k,none⟩ v) B (.slice (some ⟨g,0,none⟩) n c) LL L:=by
 obtain ⟨cs,ja⟩:=Au h2 (g:=g2) rfl;have ht:Tq g2 w (w.setCell ⟨g2,k,none⟩ v):=Tq.set _ _ _ _;exact ⟨h.own.keep fun q hq=>Below.heap_setCell _ _ _ _ (by
  injection hq with hq;have e2:g=q:=hq;show q≠g2;omega),h.len,fun j y t h3 h4=>ht.row (h.el j y t h3 h4) ja (by decide)⟩
theorem Jn {w:World} {B g n c k:Nat} {LL:List SV} (h:AZ Bl w B (.slice (some ⟨g,0,none⟩) n c) LL) (hk:k<LL.length):w.cell? ⟨g,k,none⟩=some (svS LL[k])∧w.frozen? ⟨g,k,none⟩=false:=by
 obtain ⟨cs,ja⟩:=Au h (g:=g) rfl;have h2:=h.cell C4 hk (j:=0) (by decide);have e1:k*Bl.k+0=k:=by show k*1+0=_;omega
 rw [e1] at h2;exact ⟨h2,by simp [World.frozen?,ja]⟩
theorem NX {w:World} {B g n c k:Nat} {s:Slt} (h:AZ Av w B (.slice (some ⟨g,0,none⟩) n c) s) (hk:k<s.length) {x:Ch} (hx:s[k]=x):w.cell? ⟨g,k*2,none⟩=some (.int .u8 (x.key.toNat:Int))∧w.cell? ⟨g,k*2+1,none⟩=some (.int .i64 x.cost)∧∀ i,w.frozen? ⟨g,i,none⟩=false:=by
 obtain ⟨cs,ja⟩:=Au h (g:=g) rfl;have h2:=h.cell Bd hk (j:=0) (by decide);have h3:=h.cell Bd hk (j:=1) (by decide);rw [hx] at h2 h3;exact ⟨h2,h3,fun i=>by simp [World.frozen?,ja]⟩
theorem QP (w:World) (z:Int):∀ j u,([(⟨99,z⟩:Ch)].flatMap Av.enc)[j]? = some u→(w.alloc (.cells #[.int .u8 99,.int .i64 z] 79)).cell? ((⟨w.heap.size,0,none⟩:Addr).add j)=some u:=fun j u hj=>by
 have hh:(w.alloc (.cells #[.int .u8 99,.int .i64 z] 79)).heap[w.heap.size]? = some (.cells #[.int .u8 99,.int .i64 z] 79 (0,0)):=heap_alloc_new _ _
 match j,hj with
 | 0,hj=>cases hj;show World.cell? _ ⟨w.heap.size,0,none⟩=_;rw [cell_of_row _ _ _ _ _ (0,0) hh];rfl
 | 1,hj=>cases hj;show World.cell? _ ⟨w.heap.size,1,none⟩=_;rw [cell_of_row _ _ _ _ _ (0,0) hh];rfl
def Sf (B:Nat) (v:Value) (W:World):Prop:=∃ g,v=.pointer (some ⟨g,0,none⟩)∧W.heap[g]? = some (.cells #[.int .u8 0,.int .i64 0] 79 (0,0))∧B≤g
theorem Mm (B:Nat):Bb (Sf B):=by
 rintro v w w' ⟨g,hv,hg,hB⟩ hx;exact ⟨g,hv,(Below.block hx g (A5.1 hg).1).trans hg,hB⟩
theorem J9 {P:Program} {ops:Array Oper} {Q:Exit→Act→World→Prop} {L:Nat} {K:Act→World→Prop} {o:Oper} {A:Act} {W:World} {ty t:TypeId} {p v:Operand} {g:Nat} {x' y':Value} {a b:Int}
  (ho:ops[L]? = some o) (hg:o.guard=none) (ja:o.op=.store ty p v) (hd:o.dst=none) (hp:A.eval p=.pointer (some ⟨g,0,none⟩)) (hv:A.eval v=.agg #[.int .u8 a,.int .i64 b]) (hr:W.heap[g]? = some (.cells #[x',y'] t (0,0))) (jb:(sizeOf ty).run P W=.ok 2 W)
  (hK:K A ((W.setCell ⟨g,0,none⟩ (.int .u8 a)).setCell ⟨g,1,none⟩ (.int .i64 b))):wpOp P ops Q L K A W:=by
 unfold wpOp;rw [ho];have hw:Region.wanted o (yielded ops A.tmps)=true:=by unfold Region.wanted;rw [hg]
 simp only [hw,if_pos];refine .inl ?_;unfold Oper.wp execOp;obtain ⟨d0,d1⟩:=At hr;have hf:∀ i,W.frozen? ⟨g,i,none⟩=false:=fun i=>by simp [World.frozen?,hr]
 simp only [ja,hp,hv];simp [go_sem,hf,d0,d1,jb];rw [hd];exact hK
theorem Sg {w0 W:World} {g:Nat} {a b:Int} (hx:Ext w0 W) (hg:W.heap[g]? = some (.cells #[.int .u8 0,.int .i64 0] 79 (0,0))) (k:w0.heap.size≤g) :
  ∃ w1,(W.setCell ⟨g,0,none⟩ (.int .u8 a)).setCell ⟨g,1,none⟩ (.int .i64 b)=w1∧w1.heap[g]? = some (.cells #[.int .u8 a,.int .i64 b] 79 (0,0))∧Ext w0 w1:=by
 have t1:Tq g W ((W.setCell ⟨g,0,none⟩ (.int .u8 a)).setCell ⟨g,1,none⟩ (.int .i64 b)):=(Tq.set _ _ _ _).trans (Tq.set _ _ _ _);exact ⟨_,rfl,Ao (Ao hg rfl) rfl,Below.trans hx (t1.below k hx.size)⟩
theorem Lo {R:List Rl} {acc:Int} {L:List Slt} {Ws:List ByteArray} (hl:L.length≤6) (hw:Ws.length≤6):(Ct R acc L (Ws.map bts)).length≤126:=by
 have h1:=PK (R:=R) (acc:=acc) (L:=L) (W:=Ws.map bts);have h2:=NA _ hl;have h3:(spn L.length).length*(Ws.map bts).length≤21*6:=Nat.mul_le_mul h2 (by rw [AM];exact hw);omega
open Go.ChangeShapes Go.WideShapes Go.ChangeAt Go.RowKit Fl
section
variable {H:Type} {enc:TypeId × Value→H} {w:World} {base:Nat} {spare:Nat→Bool} {held:Bool} {d:DataW H} {p:List MemPlace} {r:Reach} {b0:Nat} {v:Value}
open Go.Deep in
theorem Kd {fuel:Nat} {cs:List Value} {x:DataW H × List MemPlace} (h:DataW.trod enc Tryz.prog w base spare held fuel 25 cs=some x):∃ q:Pa,cs=[.slice q.a q.len q.cap]∧Pb w q:=by
 rcases open_slice1 Tryz.underlying25 (by kernel_rfl) h with ⟨h0,_⟩ | ⟨ad,len,cap,m,n,V,D,Pl,h0,hba,hl,ja,jd,_,jb⟩
 · exact ⟨⟨none,0,0,fun _=>default⟩,h0,fun i hi=>absurd hi (Nat.not_lt_zero i),by show 0≤_;omega⟩
 ·have hlm:len≤m:=by rw [jd];split <;> omega
  have jc:len≤9223372036854775807:=by unfold maxLen at ja;omega
  have key:∀ i,i<len→∃ q:BR,w.cell? (ad.add i)=some (.slice q.a q.n q.c)∧BX w q.a q.n q.Z∧q.n≤9223372036854775807:=fun i hi=>by
   obtain ⟨h1,h2⟩:=jb i (by omega);obtain ⟨a1,l1,c1,Z,hz,g1,g2⟩:=Go.Proofs.YtpljngaejaehcaaGreatDoor.slice_bytes h2;have:V i=.slice a1 l1 c1:=List.head_eq_of_cons_eq hz;rw [this] at h1;exact ⟨⟨a1,l1,c1,Z⟩,h1,g1,g2⟩
  obtain ⟨Q,hQ⟩:=choose_lt (α:=BR) key;refine ⟨⟨some ad,len,cap,Q⟩,h0,fun i (hi:i<len)=>?_,jc⟩;obtain ⟨b,o,sp⟩:=ad;have hs:=World.cell?_spot (hQ 0 (by omega)).1;obtain rfl:sp=none:=by simpa [Addr.add] using hs
  have hk:=hQ i hi;have hb:=World.block_lt_of_cell? w _ hk.1;rw [C3] at hb;rw [addr_add] at hk;exact ⟨b,o,rfl,hb,hk⟩
end
structure Lp where
 a:Option Addr
 len:Nat
 cap:Nat
 Z:Nat→Nat→Int
def Lp.val (x:Lp):Value:=.slice x.a x.len x.cap
structure NY (w:World) (x:Lp):Prop where
 rows:Fu .u8 3 w x.a x.len x.Z
 le:x.len≤9223372036854775807
structure Ke where
 W:Pa
 C:Sy
 U:Lp
 B:Int
def Ke.val (x:Ke):Value:=.agg #[.slice x.W.a x.W.len x.W.cap,.slice x.C.a x.C.len x.C.cap,.slice x.U.a x.U.len x.U.cap,.int .u8 x.B]
structure RV (w:World) (x:Ke):Prop where
 W:Pb w x.W
 C:Sz w x.C
 U:NY w x.U
 b0:0≤x.B
 b1:x.B≤255
section
variable {H:Type} {enc:TypeId × Value→H} {w:World} {base:Nat} {spare:Nat→Bool} {held:Bool} {d:DataW H} {p:List MemPlace} {r:Reach} {b0:Nat} {v:Value}
theorem trod_struct4 {P:Program} {t:TypeId} {f0 f1 f2 f3:Field} {fuel:Nat} {cs:List Value} {x:DataW H × List MemPlace} (ht:P.underlying t=some (.struct #[f0,f1,f2,f3])) (h:DataW.trod enc P w base spare held fuel t cs=some x) :
  ∃
   y0 y1 y2 y3 n,cs.length=P.cellsOf t∧DataW.trod enc P w base spare held n f0.type ((cs.drop f0.offset).take (P.cellsOf f0.type))=some y0 ∧
   DataW.trod enc P w base spare held n f1.type ((cs.drop f1.offset).take (P.cellsOf f1.type))=some y1∧DataW.trod enc P w base spare held n f2.type ((cs.drop f2.offset).take (P.cellsOf f2.type))=some y2 ∧
   DataW.trod enc P w base spare held n f3.type ((cs.drop f3.offset).take (P.cellsOf f3.type))=some y3:=by
 obtain ⟨xs,n,_,rfl,hl,ja,hf⟩:=DataW.trod_struct ht h
 match xs,ja with
 | [y0,y1,y2,y3],_=>exact ⟨y0,y1,y2,y3,n,hl,by simpa using hf 0 f0 rfl,by simpa using hf 1 f1 rfl,by simpa using hf 2 f2 rfl,by simpa using hf 3 f3 rfl⟩
open Go.Deep in
theorem Ir {fuel:Nat} {cs:List Value} {x:DataW H × List MemPlace} (h:DataW.trod enc Tryz.prog w base spare held fuel 27 cs=some x):∃ q:Lp,cs=[.slice q.a q.len q.cap]∧NY w q:=by
 rcases open_slice Tryz.underlying27 h with ⟨h0,_⟩ | ⟨ad,l,c,mm,n,D,Pl,h0,hba,hl,ja,jc,_,hel⟩
 ·subst h0;obtain ⟨Z,hZ⟩:=trod_rows Tryz.underlying27 Tryz.underlying95 Tryz.underlying5 (by kernel_rfl) (by kernel_rfl) (by decide) h;exact ⟨⟨none,0,0,Z⟩,rfl,hZ,by show 0≤_;omega⟩
 ·subst h0;obtain ⟨Z,hZ⟩:=trod_rows Tryz.underlying27 Tryz.underlying95 Tryz.underlying5 (by kernel_rfl) (by kernel_rfl) (by decide) h;have hlm:l≤mm:=by rw [jc];split <;> omega
  have jb:l≤9223372036854775807:=by unfold maxLen at ja;omega
  exact ⟨⟨some ad,l,c,Z⟩,rfl,hZ,jb⟩
theorem Oj (hv:Value.okWide Tryz.prog w r b0 27 v) (h:DataW.Trod enc Tryz.prog w base spare held 27 v d p):∃ x:Lp,v=x.val∧NY w x:=by
 obtain ⟨a,len,cap,rfl⟩:=okWide_slice Tryz.underlying27 hv;obtain ⟨f,hf⟩:=h;have ja:DataW.trod enc Tryz.prog w base spare held f 27 [.slice a len cap]=some (d,p):=by simpa [Value.cells] using hf
 obtain ⟨q,h0,hq⟩:=Ir ja;exact ⟨q,List.head_eq_of_cons_eq h0,hq⟩
theorem Sh (hv:Value.okWide Tryz.prog w r b0 29 v) (h:DataW.Trod enc Tryz.prog w base spare held 29 v d p):∃ x:Ke,v=x.val∧RV w x:=by
 obtain ⟨cs,rfl,ji⟩:∃ cs,v=.agg cs∧cs.size=4:=by
  unfold Value.okWide at hv;rw [Tryz.underlying29] at hv;obtain ⟨cs,h,h2,_⟩:=hv;exact ⟨cs,h,h2.trans (by kernel_rfl)⟩
 obtain ⟨f,hf⟩:=h;obtain ⟨y0,y1,y2,y3,n,_,h0,h1,h2,h3⟩:=trod_struct4 Tryz.underlying29 hf;have je:∃ c0 c1 c2 c3,cs=#[c0,c1,c2,c3]:=by
  obtain ⟨l⟩:=cs
  match l,ji with
  | [c0,c1,c2,c3],_=>exact ⟨c0,c1,c2,c3,rfl⟩
 obtain ⟨c0,c1,c2,c3,rfl⟩:=je;have ja:Tryz.prog.cellsOf 25=1:=by kernel_rfl
 have jb:Tryz.prog.cellsOf 26=1:=by kernel_rfl
 have jc:Tryz.prog.cellsOf 27=1:=by kernel_rfl
 have jd:Tryz.prog.cellsOf 5=1:=by kernel_rfl
 rw [ja] at h0;rw [jb] at h1;rw [jc] at h2;rw [jd] at h3;obtain ⟨qW,e0,jh⟩:=Kd (cs:=[c0]) h0;obtain ⟨a,len,cap,Z,e1,hZ,jf⟩:=Go.Proofs.YtpljngaejaehcaaGreatDoor.slice_bytes (cs:=[c1]) h1;obtain ⟨qU,e2,jg⟩:=Ir (cs:=[c2]) h2;obtain ⟨B,e3,_,w3⟩:=DataW.trod_int Tryz.underlying5 (cs:=[c3]) h3;simp only [List.cons.injEq,and_true] at e0 e1 e2;have g3:c3=.int .u8 B:=List.head_eq_of_cons_eq e3;subst e0 e1 e2 g3;exact ⟨⟨qW,⟨a,len,cap,Z⟩,qU,B⟩,rfl,jh,⟨hZ,jf⟩,jg,(bounds_u8 w3).1,(bounds_u8 w3).2⟩
end
end Go.Proofs.YtpljngaejaehcaaGreatDoor
