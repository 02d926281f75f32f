/- Texts that the claims share: MB, MD, N8, NW, NX, KP, N9, MC, ME, MJ, KV, MV. -/
import Derived.Test.YtpljngaejaehcaaGreatDoorMK9
import Derived.Test.YtpljngaejaehcaaGreatDoorMF2
import Derived.Test.YtpljngaejaehcaaGreatDoorMF4
import Derived.Test.YtpljngaejaehcaaGreatDoorMK4
import Derived.Test.YtpljngaejaehcaaGreatDoorMK6
import Derived.Test.YtpljngaejaehcaaGreatDoorMK8
import Derived.Test.YtpljngaejaehcaaGreatDoorMK1
import Derived.Test.YtpljngaejaehcaaGreatDoorMD4
set_option maxHeartbeats 12800000
set_option maxRecDepth 100000
set_option linter.unusedVariables false
set_option linter.unusedSimpArgs false
namespace Go.Proofs.YtpljngaejaehcaaGreatDoor
open Go.RowKit Go.WideShapes Fl
theorem QL {w:World} {g:Nat} {k:UInt8} {c z:Int} (h:w.heap[g]? = some (.cells #[.int .u8 z,.int .i64 c] 79 (0,0))) (hz:z=(k.toNat:Int)):Aa B1 w 0 (svS ⟨some ⟨g,0,none⟩,1,1⟩) [⟨k,c⟩]:=by
 subst hz;exact Dg D3 h rfl (Nat.zero_le _) rfl (show (1:Nat)≤1000000 by decide)
theorem Se {w:World} {x y:SV} {s t:Slt} (h:Aa B1 w 0 (svS x) s) (h2:Aa B1 w 0 (svS y) t):∀ (k:Nat) (u:SV) (v:Slt),[x,y][k]? = some u→[s,t][k]? = some v→Aa B1 w 0 (svS u) v:=fun k u v h3 h4=>by
 rcases k with _ | _ | k
 · cases h3;cases h4;exact h
 · cases h3;cases h4;exact h2
 · simp at h3
theorem Sf:Bg 300 [[⟨97,0⟩],[⟨98,0⟩]]:=by unfold Bg;decide
theorem Sg:MM [[⟨97,0⟩],[⟨98,0⟩]]:=by unfold MM;decide
theorem Sh:Bg 300 [[⟨97,3⟩,⟨98,0⟩]]:=by unfold Bg;decide
theorem Si:MM [[⟨97,3⟩,⟨98,0⟩]]:=by unfold MM;decide
theorem Sj:validB [[⟨97,0⟩],[⟨98,0⟩]]=true:=by decide
theorem Sk:validB [[⟨97,3⟩,⟨98,0⟩]]=true:=by decide
theorem TB:validB [[]]=false:=by decide
theorem RV:validB []=true:=by decide
theorem RW (w:World):Dj w none 0 []:=⟨fun k hk=>absurd hk (Nat.not_lt_zero _),⟨(fun b h=>by cases h),fun _=>rfl⟩,A3 _,by decide,(fun s hs=>by cases hs),(fun s hs=>by cases hs)⟩
theorem Md (w:World) (hT:Tab w):Calls Tryz.prog 10 #[] w fun e w'=>e=.returned (.bool true)∧Ext w w':=by
 have HT:=A0 hT;clear hT
 go_enter Tryz.func10,Tryz.ntmps10
 go_wp2_with fail
 refine (Mc w).mono ?_;rintro e w1 ⟨gR,gW,gC,rfl,hS,hM,kE⟩;obtain ⟨aR,kr⟩:∃ aR,(some ⟨gR,0,none⟩:Option Addr)=aR:=⟨_,rfl⟩
 obtain ⟨aW,ki⟩:∃ aW,(some ⟨gW,0,none⟩:Option Addr)=aW:=⟨_,rfl⟩
 obtain ⟨aC,kh⟩:∃ aC,(some ⟨gC,0,none⟩:Option Addr)=aC:=⟨_,rfl⟩
 rw [kr] at hS ⊢;rw [ki,kh] at hM;rw [ki,kh];clear kr ki kh
 go_upto_region 2 with fail
 obtain ⟨w2,kB,j6,b1,b2,kR⟩:=F2 w1 (.cells #[.int .i64 1,.int .u8 1,.slice aR 3 3] 33) (.cells #[.slice aW 3 3,.slice aC 3 3,.slice none 0 0,.int .i64 0] 39);rw [kB];obtain ⟨gs,ky⟩:∃ gs,w1.heap.size=gs:=⟨_,rfl⟩
 rw [ky] at b1 b2 ⊢;have HS:Hid (∀ W,Ext w2 W→Ey W exS aR 3):=fun W hx=>(hS.go j6).go hx;have HM:Hid (∀ W,Ext w2 W→Gr W aW aC none 3 3 0 J7 [0,0,0] [] 0):=fun W hx=>(hM.go j6).go hx;have kq:Hid (Ext w w2):=Ext.trans kE j6;have j8:Hid (∀ W,Ext w2 W→Tab W):=fun W hx=>HT.out.go (Ext.trans kq.out hx);have jt:=A0 (Al b1);have ju:=A0 (Al b2);clear kB j6 b1 b2 ky hS hM kE HT kR
 go_upto_region 3 with fail
 obtain ⟨w3,kC,kF,b1,b2,kS⟩:=F2 w2 (.cells #[.int .u8 97,.int .i64 0] 79) (.cells #[.int .u8 98,.int .i64 0] 79);rw [kC];obtain ⟨ga,kx⟩:∃ ga,w2.heap.size=ga:=⟨_,rfl⟩
 rw [kx] at b1 b2 ⊢;have j9:=A0 kF;have kK:=A0 b1;have kL:=A0 b2;clear kC kF b1 b2 kS kx;obtain ⟨d0,d1,d2⟩:=BM (jt.out w3 j9.out);obtain ⟨m0,m1,m2,m3⟩:=Ap (ju.out w3 j9.out)
 go_wp2_with fail
 obtain ⟨w4,j3⟩:∃ w4,w3.alloc (.cells #[.slice (some ⟨ga,0,none⟩) 1 1,.slice (some ⟨ga+1,0,none⟩) 1 1] 81)=w4:=⟨_,rfl⟩
 rw [j3];have jo:Hid (Ext w3 w4):=by show Ext _ _;rw [← j3];exact (Below.refl _ _).alloc (A3 _) _
 have j1:Hid (Ext w2 w4):=Ext.trans j9.out jo.out;have ji:Dj w4 (some ⟨w3.heap.size,0,none⟩) 2 [[⟨97,0⟩],[⟨98,0⟩]]:=(Dj.of (KU (Ls:=[⟨some ⟨ga,0,none⟩,1,1⟩,⟨some ⟨ga+1,0,none⟩,1,1⟩]) (g:=w3.heap.size) (n:=2) (by rw [← j3];exact heap_alloc_new _ _) rfl rfl (by decide) rfl
  (Se (QL (Al kK.out w4 jo.out) rfl) (QL (Al kL.out w4 jo.out) rfl))) (by decide) Sf Sg).1
 clear d0 d1 d2 m0 m1 m2 m3;clear j3;refine (Io (HS.out w4 j1.out) (HM.out w4 j1.out) (j8.out w4 j1.out) ji Sj (by decide)).mono ?_;rw [Sw];rintro e w5 ⟨v5,rfl,kj,kG⟩;obtain ⟨a5,c5,kl, -, -⟩:=kj.form;subst kl;have kM:=A0 (Aa.edgs kj).1;have kQ:Hid (Ext w2 w5):=Ext.trans j1.out kG;clear kj kG ji
 go_upto_region 4 with fail
 obtain ⟨w6,j4⟩:∃ w6,w5.alloc (.cells #[.int .i64 2,.slice a5 3 c5] 45)=w6:=⟨_,rfl⟩
 rw [j4];have jL:Hid (Ext w5 w6):=by show Ext _ _;rw [← j4];exact (Below.refl _ _).alloc (A3 _) _
 have b1:w6.heap[w5.heap.size]? = some (.cells #[.int .i64 2,.slice a5 3 c5] 45 (0,0)):=by rw [← j4];exact heap_alloc_new _ _
 obtain ⟨g5,kv⟩:∃ g5,w5.heap.size=g5:=⟨_,rfl⟩
 rw [kv] at b1 ⊢;have kI:=A0 (Al b1);have j2:Hid (Ext w2 w6):=Ext.trans kQ.out jL.out;clear j4 b1 kv;obtain ⟨d0,d1,d2⟩:=BM (jt.out w6 j2.out);obtain ⟨m0,m1,m2,m3⟩:=Ap (ju.out w6 j2.out)
 go_wp2_with fail
 obtain ⟨w7,kD,kn,b1,b2,kT⟩:=F2 w6 (.cells #[.int .u8 97,.int .i64 3,.int .u8 98,.int .i64 0] 79) (.cells #[.slice (some ⟨w6.heap.size,0,none⟩) 2 2] 81);rw [kD];have kb:Hid (Ext w2 w7):=Ext.trans j2.out kn;have Jx:=A0 kn;have ji:Dj w7 (some ⟨w6.heap.size+1,0,none⟩) 1 [[⟨97,3⟩,⟨98,0⟩]]:=(Dj.of (KU (Ls:=[⟨some ⟨w6.heap.size,0,none⟩,2,2⟩]) (n:=1) b2 rfl rfl (by decide) rfl
  (Q9 (Dg D3 b1 rfl (Nat.zero_le _) rfl (show (2:Nat)≤1000000 by decide)))) (by decide) Sh Si).1
 clear d0 d1 d2 m0 m1 m2 m3;clear kD kn b1 b2 kT;refine (Io (HS.out w7 kb.out) (HM.out w7 kb.out) (j8.out w7 kb.out) ji Sk (by decide)).mono ?_;rw [Sx];rintro e w8 ⟨v8,rfl,kk,kH⟩;obtain ⟨a8,c8,km, -, -⟩:=kk.form;subst km;have kN:=A0 (Aa.edgs kk).1;have ka:Hid (Ext w6 w8):=Ext.trans Jx.out kH;clear kk kH ji
 go_upto_region 5 with fail
 obtain ⟨w9,j5⟩:∃ w9,w8.alloc (.cells #[.int .i64 1,.slice a8 2 c8] 45)=w9:=⟨_,rfl⟩
 rw [j5];have jM:Hid (Ext w8 w9):=by show Ext _ _;rw [← j5];exact (Below.refl _ _).alloc (A3 _) _
 have b1:w9.heap[w8.heap.size]? = some (.cells #[.int .i64 1,.slice a8 2 c8] 45 (0,0)):=by rw [← j5];exact heap_alloc_new _ _
 obtain ⟨g7,kw⟩:∃ g7,w8.heap.size=g7:=⟨_,rfl⟩
 rw [kw] at b1 ⊢;have kJ:=A0 (Al b1);have jm:Hid (Ext w6 w9):=Ext.trans ka.out jM.out;have jn:Hid (Ext w2 w9):=Ext.trans j2.out jm.out;clear j5 b1 kw;obtain ⟨d0,d1,d2⟩:=BM (jt.out w9 jn.out);obtain ⟨m0,m1,m2,m3⟩:=Ap (ju.out w9 jn.out)
 go_wp2_with fail
 clear d0 d1 d2 m0 m1 m2 m3;refine Oa.mono ?_;rintro e w10 ⟨rfl,jT⟩;have kc:Hid (Ext w9 w10):=jT;clear jT
 go_upto_region 6 with fail
 obtain ⟨w11,jp⟩:∃ w11,w10.alloc (.cells #[.int .i64 0,.slice none 0 0] 45)=w11:=⟨_,rfl⟩
 rw [jp];have jG:Hid (Ext w10 w11):=by show Ext _ _;rw [← jp];exact (Below.refl _ _).alloc (A3 _) _
 have jC:Hid (Ext w9 w11):=Ext.trans kc.out jG.out;have jk:Hid (Ext w2 w11):=Ext.trans jn.out jC.out;clear jp;obtain ⟨d0,d1,d2⟩:=BM (jt.out w11 jk.out);obtain ⟨m0,m1,m2,m3⟩:=Ap (ju.out w11 jk.out)
 go_wp2_with fail
 clear d0 d1 d2 m0 m1 m2 m3;refine (QJ (HS.out w11 jk.out)).mono ?_;rintro e w12 ⟨rfl,jU⟩;have kd:Hid (Ext w9 w12):=Ext.trans jC.out jU;clear jU
 go_upto_region 7 with fail
 obtain ⟨w13,jq⟩:∃ w13,w12.alloc (.cells #[.int .i64 0,.slice none 0 0] 45)=w13:=⟨_,rfl⟩
 rw [jq];have jH:Hid (Ext w12 w13):=by show Ext _ _;rw [← jq];exact (Below.refl _ _).alloc (A3 _) _
 have jD:Hid (Ext w9 w13):=Ext.trans kd.out jH.out;have jx:Hid (Ext w2 w13):=Ext.trans jn.out jD.out;clear jq;obtain ⟨d0,d1,d2⟩:=BM (jt.out w13 jx.out);obtain ⟨m0,m1,m2,m3⟩:=Ap (ju.out w13 jx.out)
 go_wp2_with fail
 obtain ⟨w14,jR,jV,b1,b2,ko⟩:=F2 w13 (.cells #[] 79) (.cells #[.slice (some ⟨w13.heap.size,0,none⟩) 0 0] 81);rw [jR];have jE:Hid (Ext w9 w14):=Ext.trans jD.out jV;have jy:Hid (Ext w2 w14):=Ext.trans jn.out jE.out;have ji:CG w14 (some ⟨w13.heap.size+1,0,none⟩) [[]]:=(KU (L:=[[]]) (Ls:=[⟨some ⟨w13.heap.size,0,none⟩,0,0⟩]) (n:=1) b2 rfl rfl (by decide) rfl (Q9 (Aa.empty B1 b1 (Nat.zero_le _)))).slotS.1;clear d0 d1 d2 m0 m1 m2 m3;clear jR jV b1 b2 ko;refine (RU (HS.out w14 jy.out) (HM.out w14 jy.out) ji (by decide) TB).mono ?_;rintro e w15 ⟨rfl,jW⟩;have ke:Hid (Ext w9 w15):=Ext.trans jE.out jW;clear jW ji
 go_upto_region 8 with fail
 obtain ⟨w16,jr⟩:∃ w16,w15.alloc (.cells #[.int .i64 0,.slice none 0 0] 45)=w16:=⟨_,rfl⟩
 rw [jr];have jI:Hid (Ext w15 w16):=by show Ext _ _;rw [← jr];exact (Below.refl _ _).alloc (A3 _) _
 have jF:Hid (Ext w9 w16):=Ext.trans ke.out jI.out;have je:Hid (Ext w2 w16):=Ext.trans jn.out jF.out;clear jr;obtain ⟨d0,d1,d2⟩:=BM (jt.out w16 je.out);obtain ⟨m0,m1,m2,m3⟩:=Ap (ju.out w16 je.out)
 go_wp2_with fail
 clear d0 d1 d2 m0 m1 m2 m3;refine (Io (HS.out w16 je.out) (HM.out w16 je.out) (j8.out w16 je.out) (RW w16) RV (by decide)).mono ?_;rw [S8];rintro e w17 ⟨v17,rfl,jP,jX⟩;obtain ⟨a17,c17,jQ, -, -⟩:=jP.form;subst jQ;have kf:Hid (Ext w9 w17):=Ext.trans jF.out jX;clear jP jX
 go_upto_region 9 with fail
 obtain ⟨w18,jg⟩:∃ w18,w17.alloc (.cells #[.int .i64 0,.slice a17 0 c17] 45)=w18:=⟨_,rfl⟩
 rw [jg];have jJ:Hid (Ext w17 w18):=by show Ext _ _;rw [← jg];exact (Below.refl _ _).alloc (A3 _) _
 have b1:w18.heap[w17.heap.size]? = some (.cells #[.int .i64 0,.slice a17 0 c17] 45 (0,0)):=by rw [← jg];exact heap_alloc_new _ _
 obtain ⟨g15,jN⟩:∃ g15,w17.heap.size=g15:=⟨_,rfl⟩
 rw [jN] at b1 ⊢;have j7:=A0 (Al b1);have kg:Hid (Ext w9 w18):=Ext.trans kf.out jJ.out;clear jg b1 jN
 go_upto_region 10 with fail
 obtain ⟨w19,jS,js,b1,b2,kp⟩:=F2 w18 (.cells #[.int .i64 0,.int .i64 1,.int .i64 1,.int .i64 0,.int .i64 0,.int .i64 2,.int .i64 0,.int .i64 2,.int .i64 1,.int .i64 2,.int .i64 2,.int .i64 1] 62) (.cells #[.int .i64 2,.slice (some ⟨w18.heap.size,0,none⟩) 3 3] 45);rw [jS];have jv:Hid (CV w19 (some ⟨w18.heap.size,0,none⟩) Cd):=(Aa.edgs (Dg C9 (B:=0) (n:=3) b1 rfl (Nat.zero_le _) rfl (by decide))).1;obtain ⟨aq,ks⟩:∃ aq,(some ⟨w18.heap.size,0,none⟩:Option Addr)=aq:=⟨_,rfl⟩
 rw [ks] at b2 jv ⊢;obtain ⟨g17,jO⟩:∃ g17,w18.heap.size+1=g17:=⟨_,rfl⟩
 rw [jO] at b2 ⊢;have jw:=A0 (Al b2);have jf:Hid (Ext w9 w19):=Ext.trans kg.out js;have jl:=A0 js;clear jS js b1 b2 kp ks jO;obtain ⟨x0,x1⟩:=B2 (kI.out w19 (Ext.trans jm.out jf.out));obtain ⟨y0,y1⟩:=B2 (jw.out w19 (Ext.refl _))
 go_wp2_with fail
 clear x0 x1 y0 y1;have jj:=esame_any [(0,1,1,0),(0,2,0,2),(1,2,2,1)] Cd 2 2 a5 aq c5 3 w19 (kM.out.go (Ext.trans jL.out (Ext.trans jm.out jf.out))) jv.out (by decide) (by decide);refine jj.mono ?_;clear jj;rintro e w20 ⟨rfl,jY⟩;have jz:Hid (Ext w19 w20):=jY;clear jY;rw [show decide ((2:Int)=2∧[(0,1,1,0),(0,2,0,2),(1,2,2,1)]=Cd)=true by decide];obtain ⟨x0,x1⟩:=B2 (kJ.out w20 (Ext.trans jf.out jz.out))
 go_wp2_with fail
 clear x0 x1;obtain ⟨w21,jh⟩:∃ w21,w20.alloc (.cells #[.int .i64 0,.int .i64 1,.int .i64 1,.int .i64 3,.int .i64 0,.int .i64 1,.int .i64 2,.int .i64 1] 62)=w21:=⟨_,rfl⟩
 rw [jh];have jK:Hid (Ext w20 w21):=by show Ext _ _;rw [← jh];exact (Below.refl _ _).alloc (A3 _) _
 have jA:Hid (Ext w19 w21):=Ext.trans jz.out jK.out;have ku:CV w21 (some ⟨w20.heap.size,0,none⟩) [(0,1,1,3),(0,1,2,1)]:=(Aa.edgs (Dg C9 (B:=0) (n:=2) (by rw [← jh];exact heap_alloc_new _ _) rfl (Nat.zero_le _) rfl (by decide))).1;have jj:=esame_any [(0,1,1,3),(0,1,2,1)] [(0,1,1,3),(0,1,2,1)] 1 1 a8 (some ⟨w20.heap.size,0,none⟩) c8 2 w21 (kN.out.go (Ext.trans jM.out (Ext.trans jf.out jA.out))) ku (by decide) (by decide);clear jh ku;refine jj.mono ?_;clear jj;rintro e w22 ⟨rfl,jZ⟩;have jB:Hid (Ext w19 w22):=Ext.trans jA.out jZ;clear jZ;rw [show decide ((1:Int)=1∧[((0,1,1,3):Edg),(0,1,2,1)]=[(0,1,1,3),(0,1,2,1)])=true by decide];obtain ⟨x0,x1⟩:=B2 (j7.out w22 (Ext.trans jl.out jB.out))
 go_wp2_with fail
 clear x0 x1;have jj:=esame_any [] [] 0 0 a17 none c17 0 w22 (CV.nil _ _) (CV.nil _ _) (by decide) (by decide);refine jj.mono ?_;clear jj;rintro e w23 ⟨rfl,j0⟩;have jd:Hid (Ext w19 w23):=Ext.trans jB.out j0;clear j0;rw [show decide ((0:Int)=0∧([]:List Edg)=[])=true by decide]
 go_upto_region 12 with fail
 refine Aq (by kernel_rfl) (Vs [vq (.bool true),vq (.bool true),vq (.bool true),vq (.bool true),vq (.bool true),vq (.agg #[.int .i64 2,.slice aq 3 3]),vq (.bool true),vq (.bool true),vq (.bool true),vq (.agg #[.int .i64 0,.slice none 0 0]),vq (.bool true),vq (.bool true),vq (.bool true),vq (.agg #[.int .i64 1,.slice none 0 0]),vq (.bool false),vq (.bool true),vq (.bool true),vq (.bool true),vq (.agg #[.int .i64 2,.slice aq 3 3]),vq (.bool true),vq (.bool true),vq (.bool true),vq (.agg #[.int .i64 41,.slice none 0 0]),vq (.bool false),vq (.bool true),vq (.bool true),vq (.bool true),vq (.agg #[.int .i64 2,.slice aq 3 3]),GrV 3 Cd,vq (.agg #[.int .i64 2,.slice aq 3 3]),GrV 3 Cd,vq (.bool true),vq (.bool true),vq (.bool true)]) (fun W=>Ext w23 W) 149 (by kernel_rfl) rfl ?hVx ?hSx ?hS (Az ?hop) ?hfin
 case hop =>
  refine ⟨?_,?_,?_,?_,?_,?_,?k6,?_,?_,?_,?k10,?_,?_,?_,?k14,?_,?_,?_,?_,?k19,?_,?_,?_,?k23,?_,?_,?_,?_,?k28,?_,?k30,?k31,?_,?_,trivial⟩
  all_goals
   intro A W jc hS ja jb;obtain ⟨y0,y1⟩:=B2 (jw.out W (Ext.trans jd.out hS));have h18:A.tmps.getD 18 undef=.bool true:=jb 18 (by kernel_rfl);have h19:A.tmps.getD 19 undef=.bool true:=jb 19 (by kernel_rfl);have h17:A.tmps.getD 17 undef=.pointer (some ⟨g17,0,none⟩):=jb 17 (by kernel_rfl);clear jb;simp [AZ,Region.binds,Vs,vq] at ja
  case k6 =>
   refine Ao (j:=4) (d:=120) (b:=true) rfl (by kernel_rfl) (by simp only [ja]) rfl (.inr ⟨20,#[.agg #[.int .i64 2,.slice aq 3 3]],W,by (clear jc hS;simp [go_sem,Act.eval, *]),?_⟩);refine (lreach_any 2 Cd aq 3 W (jv.out.go (Ext.trans jd.out hS)) (by decide) NO).mono ?_;rintro e w' ⟨he,hx⟩;rw [T7] at he;exact ⟨_,he,rfl,hx⟩
  case k10 =>
   refine Ao (j:=8) (d:=124) (b:=true) rfl (by kernel_rfl) (by simp only [ja]) rfl (.inr ⟨20,#[.agg #[.int .i64 0,.slice none 0 0]],W,by (clear jc hS;simp [go_sem,Act.eval, *]),?_⟩);refine (lreach_any 0 [] none 0 W (CV.nil _ _) (by decide) (NP 0 (by decide) (by decide))).mono ?_;rintro e w' ⟨he,hx⟩;rw [T8] at he;exact ⟨_,he,rfl,hx⟩
  case k14 =>
   refine Ao (j:=12) (d:=128) (b:=true) rfl (by kernel_rfl) (by simp only [ja]) rfl (.inr ⟨20,#[.agg #[.int .i64 1,.slice none 0 0]],W,by (clear jc hS;simp [go_sem,Act.eval, *]),?_⟩);refine (lreach_any 1 [] none 0 W (CV.nil _ _) (by decide) (NP 1 (by decide) (by decide))).mono ?_;rintro e w' ⟨he,hx⟩;rw [T9] at he;exact ⟨_,he,rfl,hx⟩
  case k19 =>
   refine Ao (j:=17) (d:=133) (b:=true) rfl (by kernel_rfl) (by simp only [ja]) rfl (.inr ⟨22,#[.agg #[.int .i64 2,.slice aq 3 3]],W,by (clear jc hS;simp [go_sem,Act.eval, *]),?_⟩);refine (lval_any 2 Cd aq 3 W (jv.out.go (Ext.trans jd.out hS)) (by decide)).mono ?_;rintro e w' ⟨he,hx⟩;rw [TA] at he;exact ⟨_,he,rfl,hx⟩
  case k23 =>
   refine Ao (j:=21) (d:=137) (b:=true) rfl (by kernel_rfl) (by simp only [ja]) rfl (.inr ⟨22,#[.agg #[.int .i64 41,.slice none 0 0]],W,by (clear jc hS;simp [go_sem,Act.eval, *]),?_⟩);refine (lval_any 41 [] none 0 W (CV.nil _ _) (by decide)).mono ?_;rintro e w' ⟨he,hx⟩;rw [Sd] at he;exact ⟨_,he,rfl,hx⟩
  case k28 =>
   refine Ao (j:=26) (d:=142) (b:=true) rfl (by kernel_rfl) (by simp only [ja]) rfl (.inr ⟨18,#[.agg #[.int .i64 2,.slice aq 3 3]],W,by (clear jc hS;simp [go_sem,Act.eval, *]),?_⟩);refine (MW 2 Cd aq 3 W (jv.out.go (Ext.trans jd.out hS)) (by decide) (by decide) (by decide)).mono ?_;rintro e w' hp;obtain ⟨v,rfl,hv,hx⟩:=QK hp;exact ⟨_,rfl,hv,hx⟩
  case k30 =>
   refine Ao (j:=26) (d:=142) (b:=true) rfl (by kernel_rfl) (by simp only [ja]) rfl (.inr ⟨19,#[.agg #[.int .i64 2,.slice aq 3 3]],W,by (clear jc hS;simp [go_sem,Act.eval, *]),?_⟩);refine (MY 2 Cd aq 3 W (jv.out.go (Ext.trans jd.out hS)) (by decide) (by decide) (by decide)).mono ?_;rintro e w' hp;obtain ⟨v,rfl,hv,hx⟩:=QK hp;exact ⟨_,rfl,hv,hx⟩
  case k31 =>
   obtain ⟨⟨p1,q1,hv1,kz⟩,⟨p2,q2,hv2,kA⟩,ja⟩:=ja;have kO:=A0 kz;have kP:=A0 kA;clear kz kA;refine Ao (j:=26) (d:=142) (b:=true) rfl (by kernel_rfl) (by simp only [ja]) rfl (.inr ⟨17,#[.agg #[.int .i64 3,.slice p1 3 q1],.agg #[.int .i64 3,.slice p2 3 q2]],W,by (clear jc hS;simp [go_sem,Act.eval, *];rfl),?_⟩);refine (gsame_any Cd Cd 3 3 p1 p2 q1 q2 W kO.out kP.out (by decide) (by decide)).mono ?_;rintro e w' ⟨he,hx⟩;rw [show decide ((3:Int)=3∧Cd=Cd)=true by decide] at he;exact ⟨_,he,rfl,hx⟩
  all_goals first
   | (refine AY rfl (.inl ⟨_,W,?_,rfl,Ext.refl _⟩);clear jc hS;simp [go_sem,Act.eval, *];done)
   | (refine Ao (j:=1) (d:=117) (b:=true) rfl (by kernel_rfl) (by simp only [ja]) rfl (.inl ⟨_,W,?_,rfl,Ext.refl _⟩);clear jc hS;simp [go_sem,Act.eval, *];done)
   | (refine Ao (j:=4) (d:=120) (b:=true) rfl (by kernel_rfl) (by simp only [ja]) rfl (.inl ⟨_,W,?_,rfl,Ext.refl _⟩);clear jc hS;simp [go_sem,Act.eval, *];done)
   | (refine Ao (j:=8) (d:=124) (b:=true) rfl (by kernel_rfl) (by simp only [ja]) rfl (.inl ⟨_,W,?_,rfl,Ext.refl _⟩);clear jc hS;simp [go_sem,Act.eval, *];done)
   | (refine Ao (j:=12) (d:=128) (b:=true) rfl (by kernel_rfl) (by simp only [ja]) rfl (.inl ⟨_,W,?_,rfl,Ext.refl _⟩);clear jc hS;simp [go_sem,Act.eval, *];done)
   | (refine Ao (j:=17) (d:=133) (b:=true) rfl (by kernel_rfl) (by simp only [ja]) rfl (.inl ⟨_,W,?_,rfl,Ext.refl _⟩);clear jc hS;simp [go_sem,Act.eval, *];done)
   | (refine Ao (j:=21) (d:=137) (b:=true) rfl (by kernel_rfl) (by simp only [ja]) rfl (.inl ⟨_,W,?_,rfl,Ext.refl _⟩);clear jc hS;simp [go_sem,Act.eval, *];done)
   | (refine Ao (j:=26) (d:=142) (b:=true) rfl (by kernel_rfl) (by simp only [ja]) rfl (.inl ⟨_,W,?_,rfl,Ext.refl _⟩);clear jc hS;simp [go_sem,Act.eval, *];done)
 case hVx=>exact Ag (by simp only [AT,List.not_mem_nil,or_false,forall_eq_or_imp,forall_eq];exact ⟨AX _,AX _,AX _,AX _,AX _,AX _,AX _,AX _,AX _,AX _,AX _,AX _,AX _,AX _,AX _,AX _,AX _,AX _,AX _,AX _,AX _,AX _,AX _,AX _,AX _,AX _,AX _,AX _,Jj _ _,AX _,Jj _ _,AX _,AX _,AX _⟩)
 case hSx=>exact fun W W' h hx=>Ext.trans h hx
 case hS=>first | exact Ext.refl _ | exact B4 _
 case hfin =>
  intro A W jc kt hS hv jb;obtain ⟨x,hx,hA⟩:=Ah [116,117,118,119,120,121,122,123,124,125,126,127,128,129,130,131,132,133,134,135,136,137,138,139,140,141,142,143,144,145,146,147,148,0] (by kernel_rfl) jc kt jb;have e0:x 0=.bool true:=(hx 0).trans (hv 33 (by decide));rw [hA];simp only [List.foldl];rw [e0];clear e0;simp only [Act.put,List.setIfInBounds_toArray,List.set_cons_succ,List.set_cons_zero];clear hA hx hv jb jc kt
  go_wp2_with fail
  go_ret;exact ⟨rfl,Ext.trans kq.out (Ext.trans jn.out (Ext.trans jf.out (Ext.trans jd.out hS)))⟩
theorem Me {w:World} {a:Option Addr} {R:List Rl} (h:BD w a R):R=[]∨∃ b o,a=some ⟨b,o,none⟩∧b<w.heap.size∧(∃ s,w.cell? ⟨b,o+0*5+2,none⟩=some (.string s))∧∀ i (h:i<R.length),JF w b (o+i*5) R[i]:=by
 rcases h with h | ⟨b,o,ha,hb,hc⟩
 · exact .inl h
 ·by_cases h0:R=[]
  · exact .inl h0
  ·have h5:=hc 0 (List.length_pos_iff.2 h0);exact .inr ⟨b,o,ha,hb,⟨_,h5.c2⟩,hc⟩
theorem BD.tq {w w':World} {a:Option Addr} {R:List Rl} (h:BD w a R) {g:Nat} {cs:Array Value} {t:TypeId} {f:Nat × Nat} (hg:w.heap[g]? = some (.cells cs t f)) (hn:∀ s,Value.string s ∉ cs.toList) (ht:Tq g w w'):BD w' a R:=by
 rcases Me h with h | ⟨b,o,ha,hb,⟨s,hs⟩,hc⟩
 · exact .inl h
 ·have jb:b≠g:=fun e=>by
   subst e;exact Gt hg hn hs
  have hk:w'.heap[b]? = w.heap[b]?:=ht.block b hb fun e=>jb (by injection e);have ja:∀ i,w'.cell? ⟨b,i,none⟩=w.cell? ⟨b,i,none⟩:=fun i=>World.cell?_of_block hk;refine .inr ⟨b,o,ha,A7 hb ht.size,fun i hi=>?_⟩;obtain ⟨h1,h2,h3,h4,h5⟩:=hc i hi;exact ⟨(ja _).trans h1,(ja _).trans h2,(ja _).trans h3,(ja _).trans h4,(ja _).trans h5⟩
theorem Jk (n m:Int) (a:Option Addr) (k c:Nat):∀ s,Value.string s ∉ (#[.int .i64 n,.int .u8 m,.slice a k c]:Array Value).toList:=fun s h=>by simp at h
theorem PrS.tqS {w w':World} {a:Option Addr} {E:List Prs} (h:PrS w a E) {g:Nat} {n m:Int} {b:Option Addr} {k0 c0:Nat} {t:TypeId} {f:Nat × Nat} (hg:w.heap[g]? = some (.cells #[.int .i64 n,.int .u8 m,.slice b k0 c0] t f)) (ht:Tq g w w'):PrS w' a E:=fun k hl=>by
 obtain ⟨b1,o,ha,h1,h2,h3,h4⟩:=h k hl;have ja:b1≠g:=fun e=>by
  subst e;rw [cell_of_row w b1 _ _ _ _ hg] at h3;have hi:∀ i,(#[.int .i64 n,.int .u8 m,.slice b k0 c0]:Array Value)[i]? = some (.int .i64 E[k].2.1)→i=0:=fun i hi=>by
   match i with
   | 0=>rfl
   | 1=>simp at hi
   | 2=>simp at hi
   | i+3=>simp at hi
  have h5:=hi _ h3;omega
 have hk:w'.heap[b1]? = w.heap[b1]?:=ht.block b1 h1 fun e=>ja (by injection e);exact ⟨b1,o,ha,A7 h1 ht.size,(World.cell?_of_block hk).trans h2,(World.cell?_of_block hk).trans h3,(World.cell?_of_block hk).trans h4⟩
theorem C6.tq {w w':World} {B:Nat} {v:Value} {L:List Slt} (h:C6 w B v L) {g:Nat} {cs:Array Value} {t:TypeId} {f:Nat × Nat} (hg:w.heap[g]? = some (.cells cs t f)) (h1:t≠Dt.e) (h2:t≠B1.e) (ht:Tq g w w'):C6 w' B v L:=by
 obtain ⟨Ls,hr⟩:=h;exact ⟨Ls,ht.row hr.own hg h1,hr.len,fun k x s h3 h4=>ht.row (hr.el k x s h3 h4) hg h2⟩
def RX (v:Value) (w:World):Prop:=∃ (S:Sch) (b:Option Addr) (c:Nat),v=.agg #[.int .i64 S.modes,.int .u8 S.acc,.slice b S.rules.length c]∧1≤S.modes∧S.modes≤2∧S.acc=1∧S.rules.length≤9∧BD w b S.rules∧S.rules.length≤c
theorem Mf:BJ RX:=by
 rintro v w w' ⟨S,b,c,h1,h2,h3,h4,h5,h6,h7⟩ hx;exact ⟨S,b,c,h1,h2,h3,h4,h5,h6.later hx (A3 _),h7⟩
theorem RY {w w':World} {e:Ending} (h:Gn w e w'):∃ v,e=.returned v∧RX v w'∧Ext w w':=by
 obtain ⟨S,b,c,h1,h2,h3,h4,h5,h6,h7,h8⟩:=h;exact ⟨_,h1,⟨S,b,c,rfl,h2,h3,h4,h5,h6,h7⟩,h8⟩
def MdV (Ws:List ByteArray) (v:Value) (w:World):Prop:=∃ (a0 a1 a2:Option Addr) (c0 c1 c2:Nat) (cs:List Nat) (ps:List Prs) (bk:Int),v=OR a0 Ws.length c0 a1 cs.length c1 a2 ps.length c2 bk∧Gr w a0 a1 a2 c0 c1 c2 Ws cs ps bk∧Hb Ws cs ps bk∧Aa Ay w 0 (.slice a1 cs.length c1) cs
theorem Ob (Ws:List ByteArray):BJ (MdV Ws):=by
 rintro v w w' ⟨a0,a1,a2,c0,c1,c2,cs,ps,bk,h1,h2,h3,h4⟩ hx;exact ⟨a0,a1,a2,c0,c1,c2,cs,ps,bk,h1,h2.go hx,h3,h4.later hx (A3 _)⟩
theorem Sl {Q:Nat→BR} {kw:Nat} {w w':World} {e:Ending} (h:QF Q kw w e w'):∃ v,e=.returned v∧MdV (mdW Q kw) v w'∧Ext w w':=by
 obtain ⟨a0,a1,a2,c0,c1,c2,Ws,cs,ps,bk,h1,h2,h3,h4,h5,h6⟩:=h;subst h4;exact ⟨_,h1,⟨a0,a1,a2,c0,c1,c2,cs,ps,bk,rfl,h2,h3,h5⟩,h6⟩
def SlV (L:List Slt) (v:Value) (w:World):Prop:=C6 w 0 v L∧v≠.slice none 0 0
theorem Oc (L:List Slt):BJ (SlV L):=by
 rintro v w w' ⟨h1,h2⟩ hx;exact ⟨h1.later hx (A3 _),h2⟩
def Mg (B:Nat) (v:Value) (W:World):Prop:=∃ g,v=.pointer (some ⟨g,0,none⟩)∧W.heap[g]? = some (.cells #[.slice none 0 0,.slice none 0 0,.slice none 0 0,.int .i64 0] 39 (0,0))∧B≤g
theorem Fy (B:Nat):BJ (Mg B):=by
 rintro v w w' ⟨g,hv,hg,hB⟩ hx;exact ⟨g,hv,(Below.block hx g (A5.1 hg).1).trans hg,hB⟩
theorem Dh {P:Program} {ops:Array Oper} {Q:Exit→Act→World→Prop} {L:Nat} {K:Act→World→Prop} {o:Oper} {A:Act} {W:World} {ty t:TypeId} {p v:Operand} {g:Nat} {x' y' z' u':Value} {a0 a1 a2:Option Addr} {n0 c0 n1 c1 n2 c2:Nat} {bk:Int}
  (ho:ops[L]? = some o) (hg:o.guard=none) (ja:o.op=.store ty p v) (hd:o.dst=none) (hp:A.eval p=.pointer (some ⟨g,0,none⟩)) (hv:A.eval v=.agg #[.slice a0 n0 c0,.slice a1 n1 c1,.slice a2 n2 c2,.int .i64 bk]) (hr:W.heap[g]? = some (.cells #[x',y',z',u'] t (0,0))) (jb:(sizeOf ty).run P W=.ok 4 W)
  (hK:K A ((((W.setCell ⟨g,0,none⟩ (.slice a0 n0 c0)).setCell ⟨g,1,none⟩ (.slice a1 n1 c1)).setCell ⟨g,2,none⟩ (.slice a2 n2 c2)).setCell ⟨g,3,none⟩ (.int .i64 bk))):wpOp P ops Q L K A W:=by
 unfold wpOp;rw [ho];have hw:Region.wanted o (yielded ops A.tmps)=true:=by unfold Region.wanted;rw [hg]
 simp only [hw,if_pos];refine .inl ?_;unfold Oper.wp execOp;obtain ⟨d0,d1,d2,d3⟩:=Ap hr;have hf:∀ i,W.frozen? ⟨g,i,none⟩=false:=fun i=>by simp [World.frozen?,hr]
 simp only [ja,hp,hv];simp [go_sem,hf,d0,d1,d2,d3,jb];rw [hd];exact hK
theorem Lg {P:Program} {ops:Array Oper} {Q:Exit→Act→World→Prop} {L d:Nat} {K:Act→World→Prop} {o:Oper} {A:Act} {W:World} {v:Operand} {u:Value}
  (ho:ops[L]? = some o) (hg:o.guard=none) (ja:o.op=.assign v) (hd:o.dst=some d) (hv:A.eval v=u) (hK:K (A.put (some d) u) W):wpOp P ops Q L K A W:=by
 unfold wpOp;rw [ho];have hw:Region.wanted o (yielded ops A.tmps)=true:=by unfold Region.wanted;rw [hg]
 simp only [hw,if_pos];refine .inl ?_;unfold Oper.wp execOp;simp only [ja,hv];simp [go_sem];rw [hd];exact hK
structure Mh (S:Sch) (b:Option Addr) (cS:Nat) (aw ac ap:Option Addr) (cw cc cp:Nat) (Ws:List ByteArray) (cs:List Nat) (ps:List Prs) (bk:Int) (g8 g9:Nat) (v:Value) (L:List Slt) (w:World):Prop where
 b8:w.heap[g8]? = some (.cells #[.int .i64 S.modes,.int .u8 S.acc,.slice b S.rules.length cS] 33 (0,0))
 b9:w.heap[g9]? = some (.cells #[.slice aw Ws.length cw,.slice ac cs.length cc,.slice ap ps.length cp,.int .i64 bk] 39 (0,0))
 rul:BD w b S.rules
 mod:Gr w aw ac ap cw cc cp Ws cs ps bk
 slt:C6 w 0 v L
theorem Mh.go {S:Sch} {b aw ac ap:Option Addr} {cS cw cc cp g8 g9:Nat} {Ws:List ByteArray} {cs:List Nat} {ps:List Prs} {bk:Int} {v:Value} {L:List Slt} {w w':World} (h:Mh S b cS aw ac ap cw cc cp Ws cs ps bk g8 g9 v L w) (hx:Ext w w'):Mh S b cS aw ac ap cw cc cp Ws cs ps bk g8 g9 v L w' :=
 ⟨Al h.b8 w' hx,Al h.b9 w' hx,h.rul.later hx (A3 _),h.mod.go hx,h.slt.later hx (A3 _)⟩
theorem RZ {w0 W:World} {S:Sch} {b aw ac ap:Option Addr} {cS cw cc cp g8 g9:Nat} {Ws:List ByteArray} {cs:List Nat} {ps:List Prs} {bk:Int} {v:Value} {L:List Slt} (hx:Ext w0 W)
  (h8:W.heap[g8]? = some (.cells #[.int .i64 0,.int .u8 0,.slice none 0 0] 33 (0,0))) (h9:W.heap[g9]? = some (.cells #[.slice none 0 0,.slice none 0 0,.slice none 0 0,.int .i64 0] 39 (0,0))) (k8:w0.heap.size≤g8) (k9:w0.heap.size≤g9)
  (hr:BD W b S.rules) (hm:Gr W aw ac ap cw cc cp Ws cs ps bk) (ho:Aa Ay W 0 (.slice ac cs.length cc) cs) (hs:C6 W 0 v L) :
  ∃ w1,((W.setCell ⟨g8,0,none⟩ (.int .i64 S.modes)).setCell ⟨g8,1,none⟩ (.int .u8 S.acc)).setCell ⟨g8,2,none⟩ (.slice b S.rules.length cS)=w1∧w1.heap[g9]? = some (.cells #[.slice none 0 0,.slice none 0 0,.slice none 0 0,.int .i64 0] 39 (0,0)) ∧
  ∃ w2,(((w1.setCell ⟨g9,0,none⟩ (.slice aw Ws.length cw)).setCell ⟨g9,1,none⟩ (.slice ac cs.length cc)).setCell ⟨g9,2,none⟩ (.slice ap ps.length cp)).setCell ⟨g9,3,none⟩ (.int .i64 bk)=w2∧Mh S b cS aw ac ap cw cc cp Ws cs ps bk g8 g9 v L w2∧Ext w0 w2:=by
 have ja:g9≠g8:=fun e=>by
  subst e;rw [h8] at h9;injection h9 with h9;injection h9 with _ h9;exact absurd h9 (by decide)
 have t1:Tq g8 W (((W.setCell ⟨g8,0,none⟩ (.int .i64 S.modes)).setCell ⟨g8,1,none⟩ (.int .u8 S.acc)).setCell ⟨g8,2,none⟩ (.slice b S.rules.length cS)):=((Tq.set _ _ _ _).trans (Tq.set _ _ _ _)).trans (Tq.set _ _ _ _);have e8:(((W.setCell ⟨g8,0,none⟩ (.int .i64 S.modes)).setCell ⟨g8,1,none⟩ (.int .u8 S.acc)).setCell ⟨g8,2,none⟩ (.slice b S.rules.length cS)).heap[g8]? = some (.cells #[.int .i64 S.modes,.int .u8 S.acc,.slice b S.rules.length cS] 33 (0,0)):=Ai (Ai (Ai h8 rfl) rfl) rfl;refine ⟨_,rfl,t1.at ja h9,?_⟩;generalize hw1:((W.setCell ⟨g8,0,none⟩ (.int .i64 S.modes)).setCell ⟨g8,1,none⟩ (.int .u8 S.acc)).setCell ⟨g8,2,none⟩ (.slice b S.rules.length cS)=w1 at t1 e8;have e9:=t1.at ja h9;have t2:Tq g9 w1 ((((w1.setCell ⟨g9,0,none⟩ (.slice aw Ws.length cw)).setCell ⟨g9,1,none⟩ (.slice ac cs.length cc)).setCell ⟨g9,2,none⟩ (.slice ap ps.length cp)).setCell ⟨g9,3,none⟩ (.int .i64 bk)):=(((Tq.set _ _ _ _).trans (Tq.set _ _ _ _)).trans (Tq.set _ _ _ _)).trans (Tq.set _ _ _ _);have f9:((((w1.setCell ⟨g9,0,none⟩ (.slice aw Ws.length cw)).setCell ⟨g9,1,none⟩ (.slice ac cs.length cc)).setCell ⟨g9,2,none⟩ (.slice ap ps.length cp)).setCell ⟨g9,3,none⟩ (.int .i64 bk)).heap[g9]? = some (.cells #[.slice aw Ws.length cw,.slice ac cs.length cc,.slice ap ps.length cp,.int .i64 bk] 39 (0,0)):=Ai (Ai (Ai (Ai e9 rfl) rfl) rfl) rfl;refine ⟨_,rfl,⟨t2.at (Ne.symm ja) e8,f9,?_,⟨?_,hm.wc,?_,?_⟩,?_⟩,?_⟩
 · exact BD.tq (BD.tq hr h8 (Jk _ _ _ _ _) t1) e9 (EJ _ _ _ _ _ _ _ _ _ _) t2
 · exact (hm.ws.tq h8 (Jk _ _ _ _ _) t1).tq e9 (EJ _ _ _ _ _ _ _ _ _ _) t2
 · exact (Aa.cnts (t2.row (t1.row ho h8 (by decide)) e9 (by decide))).1
 · exact (hm.pr.tqS h8 t1).tq e9 t2
 · exact (hs.tq h8 (by decide) (by decide) t1).tq e9 (by decide) (by decide) t2
 ·have x1:Below w0.heap.size w0 w1:=Below.trans hx (t1.below k8 hx.size);exact Below.trans x1 (t2.below k9 x1.size)
section
variable {α:Type} {rch:α→Nat→Prop} {stp:α→α→Nat→Prop} {D:Nat}
def FZ (rch:α→Nat→Prop) (D k:Nat) (a:α):Prop:=∃ c,rch a c∧c≤k*D
theorem FZ.up {k:Nat} {a:α} (h:FZ rch D k a):FZ rch D (k+1) a:=by
 obtain ⟨c,h1,h2⟩:=h;exact ⟨c,h1,by rw [Nat.succ_mul];omega⟩
open Classical in
theorem near_count {s:α} (jh:∀ {a b c d},rch a c→stp a b d→rch b (c+d)) (hD:∀ {a b d},stp a b d→d≤D)
  (ja:∀ (P:α→Prop),P s→(∀ a c b d,rch a c→P a→stp a b d→P b)→∀ a c,rch a c→P a) (hs:rch s 0) (code:α→Nat) (N:Nat) (hc:∀ a c,rch a c→code a<N) (jb:∀ a b c d,rch a c→rch b d→code a=code b→a=b):∀ a c,rch a c→FZ rch D N a:=by
 have key:∀ k,(∀ a c,rch a c→FZ rch D k a)∨∃ l:List α,l.length=k+1∧l.Nodup∧∀ a∈l,FZ rch D k a:=by
  intro k
  induction k with
  | zero=>exact .inr ⟨[s],rfl,by simp,fun a ha=>by rw [AD.1 ha];exact ⟨0,hs,by omega⟩⟩
  | succ k ih =>
   rcases ih with h | ⟨l,h1,h2,h3⟩
   · exact .inl fun a c hr=>(h a c hr).up
   ·by_cases jc:∀ a,FZ rch D (k+1) a→FZ rch D k a
    ·refine .inl fun a c hr=>FZ.up ?_;refine ja (fun a=>FZ rch D k a) ⟨0,hs,Nat.zero_le _⟩ (fun a c b d _ ⟨x,hx,hxk⟩ jd=>jc _ ⟨x+d,jh hx jd,?_⟩) a c hr;have:=hD jd;rw [Nat.succ_mul];omega
    ·obtain ⟨a,ha⟩:=Classical.not_forall.1 jc;obtain ⟨h4,h5⟩:=Classical.not_imp.1 ha;refine .inr ⟨a :: l,by simp [h1],List.nodup_cons.2 ⟨fun hm=>h5 (h3 a hm),h2⟩,fun x hx=>?_⟩;rcases AT.1 hx with rfl | hx
     · exact h4
     · exact (h3 x hx).up
 rcases key N with h | ⟨l,h1,h2,h3⟩
 · exact h
 ·exfalso;have hn:(l.map code).Nodup:=by
   unfold List.Nodup at h2 ⊢;rw [AR];refine h2.imp_of_mem fun {a b} ha hb ji e=>ji ?_;obtain ⟨c,je,_⟩:=h3 a ha;obtain ⟨d,jg,_⟩:=h3 b hb;exact jb a b c d je jg e
  have hb:=nodup_bound N _ hn fun z hz=>by
   obtain ⟨a,ha,rfl⟩:=AH.1 hz;obtain ⟨c,jf,_⟩:=h3 a ha;exact hc a c jf
  rw [AM] at hb;omega
end
theorem QM {R:List Rl} {L:List Slt} {fol:Nat→List UInt8→Option Nat} {i:Nat} {t:Stt} {c:Nat} (h:Rt R L fol i t c):i≤L.length:=by
 induction h with
 | start=>exact Nat.zero_le _
 | step h1 _ _ _ hk _ ih =>
  have h2:=FE hk;rw [C1,List.length_drop] at h2;omega
theorem Ip {R:List Rl} {L:List Slt} {fol:Nat→List UInt8→Option Nat} {i:Nat} {t:Stt} {c:Nat} (h:Rt R L fol i t c):t.1<8:=by
 cases h with
 | start=>decide
 | step _ _ hf _ _ _=>have:=Bx.1 hf;show Int.toNat _<8;omega
theorem QN {R:List Rl} {L:List Slt} {X:List UInt8} {i:Nat} {t:Stt} {c:Nat} (h:Rt R L (Gp X) i t c):t.2≤X.length:=by
 induction h with
 | start=>exact Nat.zero_le _
 | step h1 _ _ _ _ hn ih=>exact RJ ih hn
theorem whole_low {R:List Rl} {acc:Int} {L:List Slt} {X:List UInt8} {i C c:Nat} (hL:Bg C L) (h:Ca (Whole R acc L i X) c):c≤(L.length+1)*8*(X.length+1)*(1000+4*C):=by
 obtain ⟨⟨m,h1,h2⟩,h3⟩:=h;have key:=near_count (α:=Nat × Stt) (s:=(0,(0,0))) (rch:=fun a c=>Rt R L (Gp X) a.1 a.2 c) (stp:=fun a b d=>∃ r,b.1=a.1+r.inp.size∧JR R L (Gp X) a.1 a.2 r b.2 d) (D:=1000+4*C)
  (fun {a b c d} ha ⟨r,e,hs⟩=>by rw [e];exact ha.go hs)
  (fun {a b d} ⟨r,e,hs⟩=>by
   obtain ⟨_,hf,_,k,n',hk,_,_,rfl⟩:=hs;have h4:=letsC_le (hL.drop a.1) hk;have h5:=Bx.1 hf;rw [C1] at h4;have h6:r.inp.size*C≤4*C:=Nat.mul_le_mul_right _ h5.2.2.2.2.1;omega)
  (fun P hs ja a c hr=>by
   obtain ⟨i,t⟩:=a;simp only at hr
   induction hr with
   | start=>exact hs
   | @step i m n n' c k r h1 hr hf hm hk hn ih=>exact ja (i,(m,n)) c _ _ h1 ih ⟨r,rfl,hr,hf,hm,k,n',hk,hn,rfl,rfl⟩)
  .start (fun a=>(a.1*8+a.2.1)*(X.length+1)+a.2.2) ((L.length+1)*8*(X.length+1))
  (fun a c hr=>by
   have h4:=QM hr;have h5:=Ip hr;have h6:=QN hr;have h7:(a.1*8+a.2.1+1)*(X.length+1)≤(L.length+1)*8*(X.length+1):=Nat.mul_le_mul_right _ (by omega);rw [Nat.succ_mul] at h7;show (a.1*8+a.2.1)*(X.length+1)+a.2.2<_;omega)
  (fun a b c d ha hb e=>by
   have h5:=Ip ha;have h6:=QN ha;have h7:=Ip hb;have h8:=QN hb;obtain ⟨i,m,n⟩:=a;obtain ⟨j,m',n'⟩:=b;simp only at e h5 h6 h7 h8;have e1:i*8+m=j*8+m':=by
    have:((i*8+m)*(X.length+1)+n) / (X.length+1)=((j*8+m')*(X.length+1)+n') / (X.length+1):=congrArg (· / (X.length+1)) e;have q:∀ a b,b≤X.length→(a*(X.length+1)+b) / (X.length+1)=a:=fun a b hb=>by
     rw [Nat.mul_comm,Nat.mul_add_div (Nat.succ_pos _),Nat.div_eq_of_lt (by omega),Nat.add_zero]
    rw [q _ _ h6,q _ _ h8] at this;exact this
   rw [e1] at e;have e2:n=n':=by omega
   have e3:i=j:=by omega
   have e4:m=m':=by omega
   rw [e2,e3,e4])
 obtain ⟨x,hx,jb⟩:=key (i,(m,X.length)) c (rtW.2 h2);exact A8 (h3 x ⟨m,h1,rtW.1 hx⟩) jb
def spot (x e:Edg):Bool:=x.1 == e.1 && (x.2.1 == e.2.1 && x.2.2.1 == e.2.2.1)
def Lh (g:Nat) (l:List (Nat × Nat)):List (Nat × Nat):=(l.filter fun p=>decide (p.1≠g)).map fun p=>(if p.1 > g then p.1 - 1 else p.1,p.2)
theorem gone_ok {R:List Rl} {acc:Int} {L:List Slt} {W:List (List UInt8)} {i g:Nat} {l:List (Nat × Nat)} (h:DY R acc L W i l) (hg:g<W.length):DY R acc L (W.eraseIdx g) i (Lh g l) where
 sorted:=by
  unfold Lh;rw [AR];refine (h.sorted.filter _).imp_of_mem fun {a b} ha hb ja=>?_;have h1:=(AV.1 ha).2;have h2:=(AV.1 hb).2;simp only [ne_eq,decide_eq_true_eq] at h1 h2;simp only;split <;> split <;> omega
 mem
   k
    c:=by
  unfold Lh;rw [AH];have hlen:(W.eraseIdx g).length=W.length - 1:=by rw [List.length_eraseIdx,if_pos hg]
  constructor
  ·rintro ⟨⟨k',c'⟩,hm,he⟩;obtain ⟨h1,h2⟩:=AV.1 hm;simp only [ne_eq,decide_eq_true_eq] at h2;simp only [Prod.mk.injEq] at he;obtain ⟨he,rfl⟩:=he;obtain ⟨hk,hl⟩:=(h.mem k' c').1 h1;by_cases ja:k' > g
   ·rw [if_pos ja] at he;refine ⟨by omega,?_⟩;rw [List.getElem_eraseIdx,dif_neg (by omega)];have:k+1=k':=by omega
    simp only [this];exact hl
   ·rw [if_neg ja] at he;subst he;refine ⟨by omega,?_⟩;rw [List.getElem_eraseIdx,dif_pos (by omega)];exact hl
  ·rintro ⟨hk,hl⟩;rw [List.getElem_eraseIdx] at hl;by_cases ja:k<g
   ·rw [dif_pos ja] at hl;refine ⟨(k,c),AV.2 ⟨(h.mem k c).2 ⟨by omega,hl⟩,by simp;omega⟩,?_⟩;simp only [Prod.mk.injEq,and_true];rw [if_neg (by omega)]
   ·rw [dif_neg ja] at hl;refine ⟨(k+1,c),AV.2 ⟨(h.mem (k+1) c).2 ⟨by omega,hl⟩,by simp;omega⟩,?_⟩;simp only [Prod.mk.injEq,and_true];rw [if_pos (by omega)];omega
variable {R:List Rl} {acc:Int} {L L':List Slt} {W:List (List UInt8)}
def Bl (g:Nat) (E:List Edg):List Edg:=(E.filter fun e=>decide (e.2.2.1≠(g:Int))).map fun e=>(e.1,e.2.1,if e.2.2.1 > (g:Int) then e.2.2.1 - 1 else e.2.2.1,e.2.2.2)
theorem goneE_edg (g i j:Nat) (l:List (Nat × Nat)):DL i j (Lh g l)=Bl g (DL i j l):=by
 unfold DL Lh Bl
 induction l with
 | nil=>rfl
 | cons p r ih =>
  obtain ⟨w,c⟩:=p;by_cases h:w=g
  ·subst h;simpa using ih
  ·have h1:decide (w≠g)=true:=by simpa using h
   have h2:decide ((w:Int)≠(g:Int))=true:=decide_eq_true fun e=>h (by omega);simp only [List.filter_cons,List.map_cons];rw [if_pos h1,if_pos h2];simp only [List.map_cons];rw [ih];congr 1;by_cases h3:w > g
   ·rw [if_pos h3,if_pos (show ((w:Nat):Int) > (g:Int) by omega)];simp only [Prod.mk.injEq,true_and,and_true];omega
   · rw [if_neg h3,if_neg (show ¬ ((w:Nat):Int) > (g:Int) by omega)]
theorem Mi (g:Nat) {α:Type} (f:α→List Edg) (l:List α):Bl g (l.flatMap f)=l.flatMap fun x=>Bl g (f x):=by
 unfold Bl;rw [List.filter_flatMap,List.map_flatMap]
theorem QO {g:Nat} (hg:g<W.length):DD R acc L (W.eraseIdx g)=Bl g (DD R acc L W):=by
 unfold DD;rw [Mi];congr 1;funext p;rw [← goneE_edg,(gone_ok (R:=R) (acc:=acc) (L:=L.drop p.1) (i:=p.2 - p.1) Hm hg).eqF]
theorem Sn {R:List Rl} {acc:Int} {L:List Slt} {Ws:List ByteArray} (hl:L.length≤6) (hb:Bg 8 L) (hw:Ws.length≤10) (h3:∀ x∈Ws,x.size≤3):GX (L.length:Int) (DD R acc L (Ws.map bts)):=by
 have hlen:(DD R acc L (Ws.map bts)).length≤210:=by
  have h1:=LB (R:=R) (acc:=acc) (L:=L) (W:=Ws.map bts);have h2:=K7 _ hl;have h3:(spn L.length).length*(Ws.map bts).length≤21*10:=Nat.mul_le_mul h2 (by rw [AM];exact hw);omega
 refine ⟨by omega,by omega,by omega,fun k hk _=>⟨?_,fun h0=>List.pairwise_iff_getElem.1 LA (k - 1) k (by omega) hk (by omega)⟩⟩;obtain ⟨i,j,w,c,he,hij,hj,hf⟩:=PN.1 (AG hk);obtain ⟨jb,jc⟩:=(Hm.mem w c).1 hf;rw [AM] at jb;have hX:(Ws.map bts)[w].length≤3:=by
  rw [List.getElem_map,C1];exact h3 _ (AG jb)
 have ja:=whole_low (C:=8) (hb.drop i) jc;have hdl:(L.drop i).length≤6:=by rw [List.length_drop];omega
 have hc:((L.drop i).length+1)*8*((Ws.map bts)[w].length+1)*(1000+4*8)≤7*8*4*(1000+4*8):=Nat.mul_le_mul (Nat.mul_le_mul (Nat.mul_le_mul (by omega) (A3 _)) (by omega)) (A3 _);have hc2:c≤7*8*4*(1000+4*8):=A8 ja hc;rw [he];unfold DI;simp only;omega
theorem Ra {R:List Rl} {acc:Int} {L:List Slt} {Ws:List ByteArray} (hl:L.length≤6) (hw:Ws.length≤10):(DD R acc L (Ws.map bts)).length≤210:=by
 have h1:=LB (R:=R) (acc:=acc) (L:=L) (W:=Ws.map bts);have h2:=K7 _ hl;have h3:(spn L.length).length*(Ws.map bts).length≤21*10:=Nat.mul_le_mul h2 (by rw [AM];exact hw);omega
section
variable {S:Sch} {b aw ac ap aL:Option Addr} {cS cw cc cp cL g8 g9:Nat} {Ws:List ByteArray} {cs:List Nat} {ps:List Prs} {bk:Int} {v0:Value} {L L0:List Slt} {W:World}
theorem Rc (h:Mh S b cS aw ac ap cw cc cp Ws cs ps bk g8 g9 v0 L0 W) (hs:BQ S=0) (jb:S.acc=1) (ja:S.rules.length≤cS) (jc:Hb Ws cs ps bk) (jd:Ws.length≤10) (hT:Tab W) (hL:Dj W aL cL L) (h3:Im L) (h6:L.length≤6) :
  Calls Tryz.prog 14 #[.agg #[.int .i64 S.modes,.int .u8 S.acc,.slice b S.rules.length cS],.agg #[.slice aw Ws.length cw,.slice ac cs.length cc,.slice ap ps.length cp,.int .i64 bk],.slice aL L.length cL] W (RL L.length (DD S.rules S.acc L (Ws.map bts)) W) :=
 lbuild_ok S b aw aL cS cw cL (.slice ac cs.length cc) (.slice ap ps.length cp) (.int .i64 bk) Ws L W (Ey.of_valid (D5 hs) (by rw [jb];decide) (by rw [jb];decide) ja h.rul) (D5 hs) hs hT
  (fun W' hx=>FH aw ac ap cw cc cp Ws cs ps bk W' (h.mod.go hx) jc) (NN hL.s (by omega) (h3.valid (by omega))) h.mod.ws jc.dict h.mod.wc jd hL h6
theorem Od {nL:Nat} (h:Mh S b cS aw ac ap cw cc cp Ws cs ps bk g8 g9 v0 L0 W) (hs:BQ S≠0) (jb:S.acc=1) (hl9:S.rules.length≤9) (ja:S.rules.length≤cS) :
  Calls Tryz.prog 14 #[.agg #[.int .i64 S.modes,.int .u8 S.acc,.slice b S.rules.length cS],.agg #[.slice aw Ws.length cw,.slice ac cs.length cc,.slice ap ps.length cp,.int .i64 bk],.slice aL nL cL] W (MR 20 W) :=
 F0 S b aw aL cS cw cL (.slice ac cs.length cc) (.slice ap ps.length cp) (.int .i64 bk) Ws.length nL W h.rul ja (by omega) (by rw [jb];decide) (by rw [jb];decide) hs
end
theorem Oe {g k:Nat} {E:List Edg} (hk:k<E.length) {e1 e2 e3 e4:Int} (he:E[k]=(e1,e2,e3,e4)) :
  Bl g (E.take (k+1))=Bl g (E.take k) ++ (if e3=(g:Int) then [] else [(e1,e2,if e3 > (g:Int) then e3 - 1 else e3,e4)]):=by
 unfold Bl;rw [AN hk,he,List.filter_append,List.map_append];congr 1;by_cases h:e3=(g:Int)
 · rw [if_pos h];simp [h]
 · rw [if_neg h];simp [h]
theorem QP {g:Nat} {E:List Edg}:(Bl g E).length≤E.length:=by
 unfold Bl;rw [AM];exact List.length_filter_le _ _
theorem Of {L:List ByteArray} (h:Bz L) (h2:2≤L.length) (k:Nat) (hk:k<L.length):Bz (L.eraseIdx k):=by
 have hl:(L.eraseIdx k).length=L.length - 1:=by rw [List.length_eraseIdx,if_pos hk]
 have hs:=List.eraseIdx_sublist L k;exact LK (by omega) (by have:=h.2.1;omega) (fun x hx=>h.word x (hs.mem hx)) (h.sorted.sublist hs)
theorem Jl:∀ n,Df (List.replicate n 0)=0
 | 0=>rfl
 | n+1=>by
  rw [List.replicate_succ,Df,Jl n]
theorem QQ {X:List ByteArray} (hd:Bz X):Hb X (List.replicate X.length 0) [] 0 :=
 ⟨hd,AS,by rw [Jl];decide,Ec.nil _,by decide,by decide,by decide,by decide⟩
theorem Ka {α:Type} {T:BW α} (hT:T.Ok) {o:Oper} {a:Act} {w:World} (s x:Operand) (ho:o.op=.call { callee:=.builtin .append,args:=#[s,x],argTypes:=#[T.sl,T.sl] }) {g:Nat} (hs:a.eval s=.slice (some ⟨g,0,none⟩) 0 0) (hg:w.heap[g]? = some (.cells #[] T.e (0,0)))
  (aa:Option Addr) (n c:Nat) (news:List α) (hn:n=news.length) (hx:a.eval x=.slice aa n c) (hc:news≠[]→∃ ad,aa=some ad∧∀ j u,(news.flatMap T.enc)[j]? = some u→w.cell? (ad.add j)=some u) (hl:news.length≤1000000) :
  E8 Tryz.prog a o w (fun v' w'=>Aa T w' g v' news∧(news≠[]→Aa T w' w.heap.size v' news)∧Ext w w'):=by
 obtain ⟨v',w',hr,h1,h2,h3⟩:=SK hT hg o.type aa n c news hn hc hl;refine .inl ⟨v',w',?_,h1,h2,h3⟩;unfold execOp;simp only [ho,resolve,invoke,builtin,Sem.run_bind,Sem.run_pure,Result.andThen_ok,List.map_toArray,List.map_cons,List.map_nil,hs,hx,hr]
theorem Jm (w:World) (n:Nat) (hn:n≤1000000):∃ w',(Instr.makeSlice 36 (.int .i64 (n:Int)) (.int .i64 (n:Int))).run Tryz.prog w=.ok (.slice (some ⟨w.heap.size,0,none⟩) n n) w'∧Aa Ay w' w.heap.size (.slice (some ⟨w.heap.size,0,none⟩) n n) (List.replicate n 0)∧Ext w w':=by
 obtain ⟨i0,hi,jb,jc,jd⟩:=info_parts Cs.info;have hb:i0.bytes*n≤64*1000000:=Nat.mul_le_mul (by rw [jd];exact Cs.b) hn;obtain ⟨w',ja,r1,r2⟩:=run_make_full (P:=Tryz.prog) w w.heap.size Ay.sl Ay.e i0 Ay.z Ay.k Cs.und hi jb jc .i64 .i64 n (by omega) (by unfold maxLen;omega) (A3 _);refine ⟨w',ja,?_,⟨r2.os,r2.tape,r2.output,r2.size,fun k hk=>r2.block k hk (by simp)⟩⟩;unfold Aa;rw [AS];have e:(madeCells Ay.z.cells (n*Ay.k)).toList=(List.replicate n 0).flatMap Ay.enc:=by
  rw [Ev Ay 0 rfl n];apply List.ext_getElem
  · simp [madeCells,Ay]
  ·intro j h2 h3;simp [madeCells,Ay,Nat.mod_one,Value.cells]
 rw [← e];exact r1
def NzV (B n:Nat) (v:Value) (w:World):Prop:=∃ a c,v=.slice a n c∧Aa Ay w B (.slice a n c) (List.replicate n 0)
theorem Jn (B n:Nat):BJ (NzV B n):=by
 rintro v w w' ⟨a,c,h1,h2⟩ hx;exact ⟨a,c,h1,h2.later hx (A3 _)⟩
def MzV (B:Nat) (aw:Option Addr) (nw cw n:Nat) (v:Value) (w:World):Prop:=∃ a c,v=.agg #[.slice aw nw cw,.slice a n c,.slice none 0 0,.int .i64 0]∧Aa Ay w B (.slice a n c) (List.replicate n 0)
theorem Og (B:Nat) (aw:Option Addr) (nw cw n:Nat):BJ (MzV B aw nw cw n):=by
 rintro v w w' ⟨a,c,h1,h2⟩ hx;exact ⟨a,c,h1,h2.later hx (A3 _)⟩
def EmV (B:Nat) (v:Value) (w:World):Prop:=∃ g,v=.slice (some ⟨g,0,none⟩) 0 0∧w.heap[g]? = some (.cells #[] 9 (0,0))∧B≤g
theorem Oh (B:Nat):BJ (EmV B):=by
 rintro v w w' ⟨g,hv,hg,hB⟩ hx;exact ⟨g,hv,(Below.block hx g (A5.1 hg).1).trans hg,hB⟩
def WdV (B:Nat) (X:List ByteArray) (v:Value) (w:World):Prop:=∃ a c,v=.slice a X.length c∧Aa BG w B (.slice a X.length c) X
theorem Oi (B:Nat) (X:List ByteArray):BJ (WdV B X):=by
 rintro v w w' ⟨a,c,h1,h2⟩ hx;exact ⟨a,c,h1,h2.later hx (A3 _)⟩
def MwV (B:Nat) (X:List ByteArray) (n:Nat) (v:Value) (w:World):Prop:=∃ a c a2 c2,v=.agg #[.slice a X.length c,.slice a2 n c2,.slice none 0 0,.int .i64 0]∧Aa BG w B (.slice a X.length c) X∧Aa Ay w B (.slice a2 n c2) (List.replicate n 0)
theorem Oj (B:Nat) (X:List ByteArray) (n:Nat):BJ (MwV B X n):=by
 rintro v w w' ⟨a,c,a2,c2,h1,h2,h3⟩ hx;exact ⟨a,c,a2,c2,h1,h2.later hx (A3 _),h3.later hx (A3 _)⟩
theorem NQ {w0 W:World} {g:Nat} {a1 a2:Option Addr} {n1 c1 n2 c2:Nat} (hx:Ext w0 W) (hg:W.heap[g]? = some (.cells #[.slice none 0 0,.slice none 0 0,.slice none 0 0,.int .i64 0] 39 (0,0))) (k:w0.heap.size≤g) :
  ∃ w1,(((W.setCell ⟨g,0,none⟩ (.slice a1 n1 c1)).setCell ⟨g,1,none⟩ (.slice a2 n2 c2)).setCell ⟨g,2,none⟩ (.slice none 0 0)).setCell ⟨g,3,none⟩ (.int .i64 0)=w1∧w1.heap[g]? = some (.cells #[.slice a1 n1 c1,.slice a2 n2 c2,.slice none 0 0,.int .i64 0] 39 (0,0))∧Tq g W w1∧Ext w0 w1:=by
 have t1:Tq g W ((((W.setCell ⟨g,0,none⟩ (.slice a1 n1 c1)).setCell ⟨g,1,none⟩ (.slice a2 n2 c2)).setCell ⟨g,2,none⟩ (.slice none 0 0)).setCell ⟨g,3,none⟩ (.int .i64 0)):=(((Tq.set _ _ _ _).trans (Tq.set _ _ _ _)).trans (Tq.set _ _ _ _)).trans (Tq.set _ _ _ _);exact ⟨_,rfl,Ai (Ai (Ai (Ai hg rfl) rfl) rfl) rfl,t1,Below.trans hx (t1.below k hx.size)⟩
theorem Be.mades {α:Type} {T:BW α} {W0 W w':World} {B:Nat} {vR v:Value} {N:List α} (hx:Ext W0 W) (ho:Aa T w' B v N) (hg:W.grownBy w' vR.ownBlock) (ja:v.ownBlock=vR.ownBlock∨v.ownBlock=some W.heap.size):Be T W0 B vR N v w' :=
 ⟨ho,hg.os.trans (Below.os hx),hg.tape.trans (Below.tape hx),hg.output.trans (Below.output hx),A8 (Below.size hx) hg.size,fun q hq jb=>(hg.block q (A7 hq (Below.size hx)) fun e=>jb e.symm).trans (Below.block hx q hq),ja.imp id fun e=>⟨_,e,Below.size hx⟩⟩
theorem Rd {α β:Type} {T:BW α} {U:BW β} {w:World} {B C:Nat} {u v:Value} {L:List α} {M:List β} (h:Aa T w B u L) (h2:Aa U w C v M) (ht:T.e≠U.e):∀ q,u.ownBlock=some q→v.ownBlock≠some q:=fun q h3 h4=>by
 obtain ⟨c1,e1⟩:=Av h h3;obtain ⟨c2,e2⟩:=Av h2 h4;rw [e1] at e2;injection e2 with e2;injection e2 with _ e2;exact ht e2
theorem Re {W0 W:World} {B g:Nat} {a a2 ya:Option Addr} {c n2 c2 yc:Nat} {X Y:List ByteArray} {Z:List Nat} (hA:Be BG W0 B (.slice a X.length c) Y (.slice ya Y.length yc) W) (hX:Aa BG W0 B (.slice a X.length c) X) (hZ:Aa Ay W0 B (.slice a2 n2 c2) Z)
  (hg:W0.heap[g]? = some (.cells #[.slice a X.length c,.slice a2 n2 c2,.slice none 0 0,.int .i64 0] 39 (0,0))) (hB:B≤W0.heap.size) :
  ∃ w1,W.setCell ⟨g,0,none⟩ (.slice ya Y.length yc)=w1∧w1.heap[g]? = some (.cells #[.slice ya Y.length yc,.slice a2 n2 c2,.slice none 0 0,.int .i64 0] 39 (0,0))∧Aa BG w1 B (.slice ya Y.length yc) Y∧Aa Ay w1 B (.slice a2 n2 c2) Z∧(B≤g→Below B W0 w1):=by
 have jc:=(A5.1 hg).1;have jd:(Value.slice a X.length c).ownBlock≠some g:=fun e=>by
  obtain ⟨c1,e1⟩:=Av hX e;rw [e1] at hg;injection hg with hg;injection hg with _ hg;exact absurd hg (by decide)
 have h1:=(hA.block g jc jd).trans hg;have jb:Aa Ay W B (.slice a2 n2 c2) Z:=hZ.keep fun q hq=>hA.block q (hZ.lt q hq) fun e=>Rd hX hZ (by decide) q e hq;have t1:Tq g W (W.setCell ⟨g,0,none⟩ (.slice ya Y.length yc)):=Tq.set _ _ _ _;exact ⟨_,rfl,Ai h1 rfl,t1.row hA.own h1 (by decide),t1.row jb h1 (by decide),fun ja=>Below.trans (hA.below hB fun q hq=>hX.ge q hq) (t1.below ja (A8 hB hA.size))⟩
theorem Jo {w:World} {b o:Nat} {L:List ByteArray} (h:BK w (some ⟨b,o,none⟩) L):∀ j u,(L.flatMap BG.enc)[j]? = some u→w.cell? ((⟨b,o,none⟩:Addr).add j)=some u:=by
 have:=Lw (k:=0) (M:=L) h fun j hj=>⟨by omega,by simp⟩
 simpa using this
theorem QR {R:List Rl} {acc:Int} {L:List Slt} {Ws:List ByteArray} {k:Nat} (hk:k<Ws.length):DD R acc L ((Ws.eraseIdx k).map bts)=Bl k (DD R acc L (Ws.map bts)):=by
 rw [show (Ws.eraseIdx k).map bts=(Ws.map bts).eraseIdx k from by rw [List.eraseIdx_eq_take_drop_succ,List.eraseIdx_eq_take_drop_succ,List.map_append,List.map_take,List.map_drop]];exact QO (by rw [AM];exact hk)
section
variable {S:Sch} {b aw ac ap aL:Option Addr} {cS cw cc cp cL g8 g9:Nat} {Ws:List ByteArray} {cs:List Nat} {ps:List Prs} {bk:Int} {v0:Value} {L L0:List Slt} {W:World}
theorem Li (h:Mh S b cS aw ac ap cw cc cp Ws cs ps bk g8 g9 v0 L0 W) (hs:BQ S=0) (jb:S.acc=1) (ja:S.rules.length≤cS) {a1 a2:Option Addr} {c1 c2 n2:Nat} {X:List ByteArray} (hX:BK W a1 X) (jc:X.length≤c1) (hd:Bz X) (hn:Aa Ay W 0 (.slice a2 n2 c2) (List.replicate n2 0)) (je:n2=X.length) (jd:X.length≤10) (hT:Tab W) (hL:Dj W aL cL L) (h3:Im L) (h6:L.length≤6) :
  Calls Tryz.prog 14 #[.agg #[.int .i64 S.modes,.int .u8 S.acc,.slice b S.rules.length cS],.agg #[.slice a1 X.length c1,.slice a2 n2 c2,.slice none 0 0,.int .i64 0],.slice aL L.length cL] W (RL L.length (DD S.rules S.acc L (X.map bts)) W):=by
 subst je;have hm:Gr W a1 a2 none c1 c2 0 X (List.replicate X.length 0) [] 0:=⟨hX,jc,hn.cnts.1,PrS.nil _ _⟩
 refine lbuild_ok S b a1 aL cS c1 cL (.slice a2 X.length c2) (.slice none 0 0) (.int .i64 0) X L W (Ey.of_valid (D5 hs) (by rw [jb];decide) (by rw [jb];decide) ja h.rul) (D5 hs) hs hT
  (fun W' hx=>?_) (NN hL.s (by omega) (h3.valid (by omega))) hX hd jc jd hL h6
 have:=FH a1 a2 none c1 c2 0 X (List.replicate X.length 0) [] 0 W' (hm.go hx) (QQ hd)
 rwa [AS] at this
end
open Go.ChangeShapes Go.WideShapes Go.ChangeAt Go.RowKit Fl
section
variable {H:Type} {enc:TypeId × Value→H} {w:World} {base:Nat} {spare:Nat→Bool} {held:Bool} {d:DataW H} {p:List MemPlace} {r:Reach} {b0:Nat} {v:Value}
open Go.Deep in
theorem Kb {fuel:Nat} {cs:List Value} {x:DataW H × List MemPlace} (h:DataW.trod enc Tryz.prog w base spare held fuel 25 cs=some x):∃ q:Pc,cs=[.slice q.a q.len q.cap]∧Pd w q:=by
 rcases open_slice1 Tryz.underlying25 (by kernel_rfl) h with ⟨h0,_⟩ | ⟨ad,len,cap,m,n,V,D,Pl,h0,hba,hl,ja,jd,_,jb⟩
 · exact ⟨⟨none,0,0,fun _=>default⟩,h0,fun i hi=>absurd hi (Nat.not_lt_zero i),by show 0≤_;omega⟩
 ·have hlm:len≤m:=by rw [jd];split <;> omega
  have jc:len≤9223372036854775807:=by unfold maxLen at ja;omega
  have key:∀ i,i<len→∃ q:BR,w.cell? (ad.add i)=some (.slice q.a q.n q.c)∧Bo w q.a q.n q.Z∧q.n≤9223372036854775807:=fun i hi=>by
   obtain ⟨h1,h2⟩:=jb i (by omega);obtain ⟨a1,l1,c1,Z,hz,g1,g2⟩:=Go.Proofs.YtpljngaejaehcaaGreatDoor.slice_bytes h2;have:V i=.slice a1 l1 c1:=List.head_eq_of_cons_eq hz;rw [this] at h1;exact ⟨⟨a1,l1,c1,Z⟩,h1,g1,g2⟩
  obtain ⟨Q,hQ⟩:=choose_lt (α:=BR) key;refine ⟨⟨some ad,len,cap,Q⟩,h0,fun i (hi:i<len)=>?_,jc⟩;obtain ⟨b,o,sp⟩:=ad;have hs:=World.cell?_spot (hQ 0 (by omega)).1;obtain rfl:sp=none:=by simpa [Addr.add] using hs
  have hk:=hQ i hi;have hb:=World.block_lt_of_cell? w _ hk.1;rw [C3] at hb;rw [addr_add] at hk;exact ⟨b,o,rfl,hb,hk⟩
end
structure Lj where
 a:Option Addr
 len:Nat
 cap:Nat
 Z:Nat→Nat→Int
def Lj.val (x:Lj):Value:=.slice x.a x.len x.cap
structure NR (w:World) (x:Lj):Prop where
 rows:Fd .u8 3 w x.a x.len x.Z
 le:x.len≤9223372036854775807
structure Gu where
 W:Pc
 C:T0
 U:Lj
 B:Int
def Gu.val (x:Gu):Value:=.agg #[.slice x.W.a x.W.len x.W.cap,.slice x.C.a x.C.len x.C.cap,.slice x.U.a x.U.len x.U.cap,.int .u8 x.B]
structure NS (w:World) (x:Gu):Prop where
 W:Pd w x.W
 C:T1 w x.C
 U:NR w x.U
 b0:0≤x.B
 b1:x.B≤255
section
variable {H:Type} {enc:TypeId × Value→H} {w:World} {base:Nat} {spare:Nat→Bool} {held:Bool} {d:DataW H} {p:List MemPlace} {r:Reach} {b0:Nat} {v:Value}
theorem trod_struct4 {P:Program} {t:TypeId} {f0 f1 f2 f3:Field} {fuel:Nat} {cs:List Value} {x:DataW H × List MemPlace} (ht:P.underlying t=some (.struct #[f0,f1,f2,f3])) (h:DataW.trod enc P w base spare held fuel t cs=some x) :
  ∃
   y0 y1 y2 y3 n,cs.length=P.cellsOf t∧DataW.trod enc P w base spare held n f0.type ((cs.drop f0.offset).take (P.cellsOf f0.type))=some y0 ∧
   DataW.trod enc P w base spare held n f1.type ((cs.drop f1.offset).take (P.cellsOf f1.type))=some y1∧DataW.trod enc P w base spare held n f2.type ((cs.drop f2.offset).take (P.cellsOf f2.type))=some y2 ∧
   DataW.trod enc P w base spare held n f3.type ((cs.drop f3.offset).take (P.cellsOf f3.type))=some y3:=by
 obtain ⟨xs,n,_,rfl,hl,ja,hf⟩:=DataW.trod_struct ht h
 match xs,ja with
 | [y0,y1,y2,y3],_=>exact ⟨y0,y1,y2,y3,n,hl,by simpa using hf 0 f0 rfl,by simpa using hf 1 f1 rfl,by simpa using hf 2 f2 rfl,by simpa using hf 3 f3 rfl⟩
open Go.Deep in
theorem Iq {fuel:Nat} {cs:List Value} {x:DataW H × List MemPlace} (h:DataW.trod enc Tryz.prog w base spare held fuel 27 cs=some x):∃ q:Lj,cs=[.slice q.a q.len q.cap]∧NR w q:=by
 rcases open_slice Tryz.underlying27 h with ⟨h0,_⟩ | ⟨ad,l,c,mm,n,D,Pl,h0,hba,hl,ja,jc,_,hel⟩
 ·subst h0;obtain ⟨Z,hZ⟩:=trod_rows Tryz.underlying27 Tryz.underlying95 Tryz.underlying5 (by kernel_rfl) (by kernel_rfl) (by decide) h;exact ⟨⟨none,0,0,Z⟩,rfl,hZ,by show 0≤_;omega⟩
 ·subst h0;obtain ⟨Z,hZ⟩:=trod_rows Tryz.underlying27 Tryz.underlying95 Tryz.underlying5 (by kernel_rfl) (by kernel_rfl) (by decide) h;have hlm:l≤mm:=by rw [jc];split <;> omega
  have jb:l≤9223372036854775807:=by unfold maxLen at ja;omega
  exact ⟨⟨some ad,l,c,Z⟩,rfl,hZ,jb⟩
theorem Ol (hv:Value.okWide Tryz.prog w r b0 27 v) (h:DataW.Trod enc Tryz.prog w base spare held 27 v d p):∃ x:Lj,v=x.val∧NR w x:=by
 obtain ⟨a,len,cap,rfl⟩:=okWide_slice Tryz.underlying27 hv;obtain ⟨f,hf⟩:=h;have ja:DataW.trod enc Tryz.prog w base spare held f 27 [.slice a len cap]=some (d,p):=by simpa [Value.cells] using hf
 obtain ⟨q,h0,hq⟩:=Iq ja;exact ⟨q,List.head_eq_of_cons_eq h0,hq⟩
theorem Mj (hv:Value.okWide Tryz.prog w r b0 29 v) (h:DataW.Trod enc Tryz.prog w base spare held 29 v d p):∃ x:Gu,v=x.val∧NS w x:=by
 obtain ⟨cs,rfl,ji⟩:∃ cs,v=.agg cs∧cs.size=4:=by
  unfold Value.okWide at hv;rw [Tryz.underlying29] at hv;obtain ⟨cs,h,h2,_⟩:=hv;exact ⟨cs,h,h2.trans (by kernel_rfl)⟩
 obtain ⟨f,hf⟩:=h;obtain ⟨y0,y1,y2,y3,n,_,h0,h1,h2,h3⟩:=trod_struct4 Tryz.underlying29 hf;have je:∃ c0 c1 c2 c3,cs=#[c0,c1,c2,c3]:=by
  obtain ⟨l⟩:=cs
  match l,ji with
  | [c0,c1,c2,c3],_=>exact ⟨c0,c1,c2,c3,rfl⟩
 obtain ⟨c0,c1,c2,c3,rfl⟩:=je;have ja:Tryz.prog.cellsOf 25=1:=by kernel_rfl
 have jb:Tryz.prog.cellsOf 26=1:=by kernel_rfl
 have jc:Tryz.prog.cellsOf 27=1:=by kernel_rfl
 have jd:Tryz.prog.cellsOf 5=1:=by kernel_rfl
 rw [ja] at h0;rw [jb] at h1;rw [jc] at h2;rw [jd] at h3;obtain ⟨qW,e0,jh⟩:=Kb (cs:=[c0]) h0;obtain ⟨a,len,cap,Z,e1,hZ,jf⟩:=Go.Proofs.YtpljngaejaehcaaGreatDoor.slice_bytes (cs:=[c1]) h1;obtain ⟨qU,e2,jg⟩:=Iq (cs:=[c2]) h2;obtain ⟨B,e3,_,w3⟩:=DataW.trod_int Tryz.underlying5 (cs:=[c3]) h3;simp only [List.cons.injEq,and_true] at e0 e1 e2;have g3:c3=.int .u8 B:=List.head_eq_of_cons_eq e3;subst e0 e1 e2 g3;exact ⟨⟨qW,⟨a,len,cap,Z⟩,qU,B⟩,rfl,jh,⟨hZ,jf⟩,jg,(bounds_u8 w3).1,(bounds_u8 w3).2⟩
end
end Go.Proofs.YtpljngaejaehcaaGreatDoor
