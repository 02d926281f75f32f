/- Texts that the claims share: MQ. -/
import Derived.Test.YtpljngaejaehcaaGreatDoorMK10
import Derived.Test.YtpljngaejaehcaaGreatDoorMA1
set_option maxHeartbeats 25600000
set_option maxRecDepth 100000
set_option linter.unusedVariables false
set_option linter.unusedSimpArgs false
namespace Go.Proofs.YtpljngaejaehcaaGreatDoor
open Go.RowKit Go.WideShapes Fl
theorem latticeChoices_view (x:Jf) (z:Lp) (y0 y1:Int) (w:World) (hx:Ps w x) (hz:NY w z) (zF:0≤y0) (h01:y0≤255) (zG:0≤y1) (YC:y1≤255) (hT:Tab w) :
  Calls Tryz.prog 7 #[x.val,z.val,.agg #[.int .u8 y0,.int .u8 y1]] w fun e w'=>e=.returned (.bool true)∧Ext w w':=by
 obtain ⟨rM,rA,ra,rl,rc,rQ⟩:=x;obtain ⟨la,ll,lc,lZ⟩:=z;obtain ⟨YG,YH,YE,YF,kh⟩:=hx;obtain ⟨y9,k0⟩:=hz;simp only at YG YH YE YF kh y9 k0;have zv:=A0 kh;have zt:=A0 y9;have HT:=A0 hT;clear kh y9 hT;simp only [Jf.val,Lp.val]
 go_enter Tryz.func7,Tryz.ntmps7
 go_upto_region 1 with fail
 obtain ⟨w2,yt,Y8,b1,b2,zX⟩:=Eb w (.cells #[.int .u8 rM,.int .u8 rA,.slice ra rl rc] 24) (.cells #[.int .u8 y0,.int .u8 y1] 77);rw [yt];obtain ⟨gx,YS⟩:∃ gx,w.heap.size=gx:=⟨_,rfl⟩
 rw [YS] at b1 b2 ⊢;obtain ⟨gy,YT⟩:∃ gy,gx+1=gy:=⟨_,rfl⟩
 rw [YT] at b2 ⊢;have Yz:=A0 Y8;have yx:=A0 (Ai b1);have yy:=A0 (Ai b2);clear yt Y8 b1 b2 zX YS YT
 go_wp2_with fail
 refine (Mk w2 (HT.out.go Yz.out)).mono ?_;rintro e w3 ⟨rfl,yv⟩;have yW:Hid (Ext w w3):=Ext.trans Yz.out yv;have ze:Hid (∀ W,Ext w3 W→W.heap[gx]? = some (.cells #[.int .u8 rM,.int .u8 rA,.slice ra rl rc] 24 (0,0))):=fun W hx=>yx.out W (Ext.trans yv hx);have Ym:Hid (∀ W,Ext w3 W→W.heap[gy]? = some (.cells #[.int .u8 y0,.int .u8 y1] 77 (0,0))):=fun W hx=>yy.out W (Ext.trans yv hx);clear yv;obtain ⟨x0,x1,x2⟩:=cells3 (ze.out w3 (Ext.refl _))
 go_wp2_with fail
 clear x0 x1 x2;refine (made2_any rM rA ra rl rc rQ w3 YG YH YE YF (zv.out.later yW.out (A3 _))).mono ?_;rintro e w4 hp;obtain ⟨S,bS,cS,rfl,hm1,hm2,YK,kX,k5,kP,Y9⟩:=hp;have kB:=A0 k5;have YA:=A0 Y9;have yh:=A0 YK;have jQ:=A0 kP;have zr:=A0 kX;clear k5 Y9 YK kP kX
 go_wp2_with fail
 obtain ⟨w5,Y6,za,hq⟩:=Oi w4 26;rw [Y6];clear Y6;refine (made11_any (RT w4.heap.size) _ none none 4 4 0 0 0 0 (fun _=>0) (fun _ _=>0) 0 w5 hq (by decide) (.inl rfl) (by decide) (.inl rfl) (by decide) (by decide) (by decide)).mono ?_;rintro e w6 hp;obtain ⟨v6,rfl,⟨aw,am,ap,cw,cm,cp,cs,ps,bk,rfl,Ya,Yb,YX⟩,zb⟩:=Se hp;clear hp;obtain ⟨Ws,yn⟩:∃ Ws,mdW (RT w4.heap.size) (min 4 6)=Ws:=⟨_,rfl⟩
 have yR:Hid (2≤Ws.length∧Ws.length≤6):=by show _∧_;have:=Ec (RT w4.heap.size) (min 4 6);rw [yn] at this;exact ⟨this.1,A8 this.2 (by decide)⟩
 have HW3:Hid (∀ x∈Ws,x.size≤3):=by show ∀ x∈Ws,_;rw [← yn];exact fun x hx=>(Mf _ _ x hx).2
 rw [yn] at Ya Yb ⊢;have kH:Hid (Ext w4 w6):=Ext.trans za zb;have Ys:=A0 Ya;have yI:=A0 Yb;have zu:=A0 YX;clear Ya Yb YX za zb hq yn;unfold Mb
 go_wp2_with fail
 refine (slots14_any lZ la ll lc 5 w6 (Gt zt.out (Ext.trans yW.out (Ext.trans YA.out kH.out)) (A3 _)) k0 (by decide)).mono ?_;rintro e w7 ⟨v7,rfl,Y4,YZ,zc⟩;obtain ⟨L,gL,cL,rfl, -,Y1,Y3,YV⟩:=Mg Y4 (A8 (Nat.min_le_right _ _) (by decide)) YZ;have hlnn:L.length≤5:=by rw [YV];exact Nat.min_le_right _ _
 have YB:=A0 zc;have jy:=A0 Y1;have Yy:=A0 (Y3.mono (Nat.zero_le _));clear Y4 YZ zc Y1 Y3 YV
 go_upto_region 3 with fail
 obtain ⟨wz,Y7,yw,b8,b9,zY⟩:=Eb w7 (.cells #[.int .i64 S.modes,.int .u8 S.acc,.slice bS S.rules.length cS] 33) (.cells #[.slice aw Ws.length cw,.slice am cs.length cm,.slice ap ps.length cp,.int .i64 bk] 39);rw [Y7];obtain ⟨g8,YP⟩:∃ g8,w7.heap.size=g8:=⟨_,rfl⟩
 rw [YP] at b8 b9 ⊢;obtain ⟨g9,YQ⟩:∃ g9,g8+1=g9:=⟨_,rfl⟩
 rw [YQ] at b9 ⊢;have kI:Hid (Ext w4 wz):=Ext.trans kH.out (Ext.trans YB.out yw);have ke:Hid (Ext w3 wz):=Ext.trans YA.out kI.out;have kn:Hid (Ext w wz):=Ext.trans yW.out ke.out;have jB:Hid (Od S bS cS aw am ap cw cm cp Ws cs ps bk g8 g9 (.slice (some ⟨gL,0,none⟩) L.length cL) L wz):=⟨b8,b9,kB.out.later kI.out (A3 _),Ys.out.go (Ext.trans YB.out yw),Yy.out.later yw (A3 _)⟩
 have zy:=A0 (Df.of jB.out.slt (by omega) jy.out.bnd jy.out.dis).1;have kb:Hid (Ws.length≤10):=by show _≤_;have:=yR.out;omega
 have yD:Hid (L.length≤6):=by show _≤_;omega
 clear Y7 yw b8 b9 zY YP YQ Ys zu Yy kB;obtain ⟨s0,s1,s2⟩:=Ba (jB.out.go (Ext.refl _)).b8;obtain ⟨t0,t1,t2,t3⟩:=Ax (jB.out.go (Ext.refl _)).b9;by_cases yr:BU S=0
 ·have kC :=
        A0 yr
  clear yr
  go_wp2_with fail
  clear s0 s1 s2 t0 t1 t2 t3;refine (Ka jB.out kC.out yh.out jQ.out yI.out kb.out (HT.out.go kn.out) zy.out jy.out yD.out).mono ?_;obtain ⟨E,hE⟩:∃ E,Ct S.rules S.acc L (Ws.map bts)=E:=⟨_,rfl⟩
  have jR:Hid (E.length≤126):=by show _≤_;rw [← hE];exact Lo yD.out yR.out.2
  have yA:=A0 hE;rw [hE];rintro e w8 ⟨v8,rfl,Yg,yg⟩;obtain ⟨a5,c5,Yh, -, -⟩:=Yg.form;subst Yh;have kq:=A0 (AZ.edgs Yg).1;have ym:=A0 yg;clear Yg yg hE
  go_upto_region 4 with fail
  obtain ⟨w9,jl⟩:∃ w9,w8.alloc (.cells #[.int .i64 (L.length:Int),.slice a5 (E).length c5] 45)=w9:=⟨_,rfl⟩
  rw [jl];have j5:Ext w8 w9:=by rw [← jl];exact (Below.refl _ _).alloc (A3 _) _
  have b1:w9.heap[w8.heap.size]? = some (.cells #[.int .i64 (L.length:Int),.slice a5 (E).length c5] 45 (0,0)):=by rw [← jl];exact heap_alloc_new _ _
  obtain ⟨g11,j3⟩:∃ g11,w8.heap.size=g11:=⟨_,rfl⟩
  rw [j3] at b1 ⊢;have jP:=A0 (Ai b1);have jI:=A0 j5;clear jl j5 b1 j3;have zj:=A0 (kq.out.go jI.out);have ji:Hid (Ext wz w9):=Ext.trans ym.out jI.out;clear jI ym kq;by_cases zL:L.length=0
  ·have kM:((L.length:Int) == 0)=true:=by rw [zL];rfl
   go_wp2_with fail
   go_ret;exact ⟨rfl,Ext.trans kn.out ji.out⟩
  ·have kM
        :
         ((L.length:Int) == 0)=false:=by rw [beq_eq_false_iff_ne];omega
   have yY:¬ (L.length:Int)=0:=by omega
   obtain ⟨k,Yc,hk⟩:=Ll y0 L.length zF (by omega);obtain ⟨q0,q1⟩:=At (Ym.out w9 (Ext.trans ke.out ji.out));have zW:RowKit.wrap64 y0=y0:=by unfold RowKit.wrap64;omega
   go_upto_region 7 with fail
   clear q0 q1 zW Yc kM yY;obtain ⟨LL,yZ⟩:=jB.out.slt;have yj:Hid (∀ W,Ext wz W→Be W 0 (.slice (some ⟨gL,0,none⟩) L.length cL) LL L):=fun W hx=>yZ.later hx (A3 _);have kY:=yZ.len;have jw:=A0 kY;have yp:k<LL.length:=by omega
   have YY:LL≠[]:=fun e=>by rw [e] at yp;cases yp
   have Yu:=A0 YY;have Yn:Hid (∀ W,Ext wz W→∀ j u,(LL.flatMap Bl.enc)[j]? = some u→W.cell? ((⟨gL,0,none⟩:Addr).add j)=some u):=fun W hx=>Gv (yj.out W hx).own;have kw:Hid (0<LL.length):=by show _<_;omega
   have kx:Hid (LL.length≤1000000):=by show _≤_;have:=yD.out;omega
   have HN:∀ w:World,Ext w (w.alloc (.cells #[] 81)):=fun w=>(Below.refl _ _).alloc (A3 _) _;have yl:=A0 HN;have Yw:∀ w:World,w.heap.size≤(w.alloc (.cells #[] Bl.e)).heap.size:=fun w=>by rw [A6];omega
   have yJ:=A0 Yw;clear yZ kY YY HN Yw
   go_upto_region 8 with (at_builtin;first | (refine Cz C4 (heap_alloc_new w9 _) rfl _ _ rfl rfl (some ⟨gL,0,none⟩) L.length cL LL jw.out.symm rfl (fun _=>⟨_,rfl,Yn.out _ (Ext.trans ji.out (yl.out w9))⟩) kx.out ?_;intro v10 w10 kl jj jM;clear kl;have jd:=jj Yu.out;obtain ⟨g14,c14,k7⟩:=FI jd kw.out;rw [jw.out] at k7;subst k7;have jS:=A0 jd;have jt:Hid (Ext w9 w10):=Ext.trans (yl.out w9) jM;clear jj jM jd) | (refine Cz C4 (heap_alloc_new w10 _) rfl _ _ rfl rfl (some ⟨gL,0,none⟩) L.length cL LL jw.out.symm rfl (fun _=>⟨_,rfl,Yn.out _ (Ext.trans ji.out (Ext.trans jt.out (yl.out w10)))⟩) kx.out ?_;intro v11 w11 kl jj jM;clear kl;have jd:=jj Yu.out;obtain ⟨g15,c15,k8⟩:=FI jd kw.out;rw [jw.out] at k8;subst k8;have jT:=A0 jd;have jn:Hid (Ext w10 w11):=Ext.trans (yl.out w10) jM;clear jj jM jd))
   have jH:Hid (Ext w9 w11):=Ext.trans jt.out jn.out;have jc:Hid (Ext wz w11):=Ext.trans ji.out jH.out;have k3:AZ Bl w11 w9.heap.size (.slice (some ⟨g14,0,none⟩) L.length c14) LL:=(jS.out.later jn.out (A3 _)).rebase fun q hq=>by have:=jS.out.ge q hq;have:=yJ.out w9;omega
   have k4:AZ Bl w11 w9.heap.size (.slice (some ⟨g15,0,none⟩) L.length c15) LL:=jT.out.rebase fun q hq=>by have:=jT.out.ge q hq;have:=yJ.out w10;have:=jt.out.size;omega
   have Yv:Hid (g14≠g15):=fun e=>by
    have h1:=jS.out.lt g14 rfl;have h2:=jT.out.ge g15 rfl;have:=yJ.out w10;omega
   have kz:Hid (Be w11 w9.heap.size (.slice (some ⟨g14,0,none⟩) L.length c14) LL L):=⟨k3,jw.out,(yj.out w11 jc.out).el⟩
   have kA:Hid (Be w11 w9.heap.size (.slice (some ⟨g15,0,none⟩) L.length c15) LL L):=⟨k4,jw.out,(yj.out w11 jc.out).el⟩
   clear k3 k4 jS jT jt jn;obtain ⟨s,hs⟩:∃ s,L[k]=s:=⟨_,rfl⟩
   have ys:s∈L:=by rw [← hs];exact AG hk
   have jO:0<s.length:=jy.out.ne s ys;have hs8:=jy.out.few s ys;obtain ⟨gk,ck,y2,Y0⟩:=RU (yj.out wz (Ext.refl _)) hk hs jO;have yz:Hid (∀ W,Ext wz W→W.cell? ⟨gL,k,none⟩=some (.slice (some ⟨gk,0,none⟩) s.length ck)):=fun W hx=>(Below.cell hx (p:=⟨gL,k,none⟩) (World.block_lt_of_cell? _ _ y2)).trans y2;have yL:Hid (∀ W,Ext wz W→AZ Av W 0 (.slice (some ⟨gk,0,none⟩) s.length ck) s):=fun W hx=>Y0.later hx (A3 _);have kD:=A0 ys;have yO:=A0 hs;obtain ⟨m,hm⟩:∃ m,s.length - 1=m:=⟨_,rfl⟩
   have YW:m<s.length:=by omega
   obtain ⟨hh,YU⟩:∃ hh,s[m]=hh:=⟨_,rfl⟩
   have Yq:=A0 YU;have HM:=A0 hm;have jl:RowKit.wrap64 ((s.length:Int) - 1)=(m:Int):=by unfold RowKit.wrap64;omega
   have yt:IntKind.i64.wrap ((s.length:Int) - 1)=(m:Int):=by rw [IntWalk.i64_in _ (by omega)];omega
   have hixL:=IS gL L.length cL k hk;have y8:=Lm gk s.length ck m YW;clear y2 Y0 ys hs YU hm
   go_cut [16] (fun v16 wx=>∃ wy:World,wy=wx∧∃ g16:Nat,v16=.pointer (some ⟨g16,0,none⟩)∧wy.heap[g16]? = some (.cells #[.int .u8 (hh.key.toNat:Int),.int .i64 hh.cost] 79 (0,0))∧Ext w11 wy)
   case first =>
    refine Js (by kernel_rfl) (Vs [vq (.slice (some ⟨gL,0,none⟩) L.length cL),vq (.int .i64 (k:Int)),vq (.pointer (some ⟨gL,k,none⟩)),vq (.slice (some ⟨gk,0,none⟩) s.length ck),vq (.slice (some ⟨gL,0,none⟩) L.length cL),vq (.int .i64 (k:Int)),vq (.pointer (some ⟨gL,k,none⟩)),vq (.slice (some ⟨gk,0,none⟩) s.length ck),vq (.int .i64 (s.length:Int)),vq (.int .i64 (m:Int)),vq (.pointer (some ⟨gk,m*2,none⟩)),vq (.agg #[.int .u8 (hh.key.toNat:Int),.int .i64 hh.cost]),Sf w11.heap.size]) (Xs []) (fun fL=>(fun W=>Ext w11 W) ) [0,0,3,7,0,0,48,112,240,496,1023,2047,0] 221 13 14 (by kernel_rfl) rfl ?hV ?hS ?hop ?hlast ?hlate
    case hV =>
     refine Az (Af (by simp only [AS,List.not_mem_nil,or_false,forall_eq_or_imp,forall_eq];exact ⟨AW _,AW _,AW _,AW _,AW _,AW _,AW _,AW _,AW _,AW _,AW _,AW _,Mm _⟩)) ?_;exact trivial
    case hS =>
     intro fL hf;show (fun W=>Ext w11 W)  _
     first | exact Ext.refl _ | exact B8 _
    case hop =>
     refine ⟨?_,?_,?_,?_,?_,?_,?_,?_,?_,?_,?_,?_,?c12,trivial⟩
     all_goals first | rw [if_neg (by decide)] | rw [if_pos (by decide)]
     all_goals refine Lw _ _ _ _ _ _ _ ?_
     all_goals try intro ac W fL jL YO zT zS j2 jr ja Ye
     all_goals try have hS:(fun W=>Ext w11 W)  W:=j2
     all_goals try (
      have kO:=yz.out W (Ext.trans jc.out hS);obtain ⟨zP,zQ, -⟩:=NX (yL.out W (Ext.trans jc.out hS)) YW Yq.out)
     all_goals try have hh10:=gdA ac 10 (.slice (some ⟨gL,0,none⟩) L.length cL) (ja 10 (by kernel_rfl))
     all_goals try have hh13:=gdA ac 13 (.int .i64 (k:Int)) (ja 13 (by kernel_rfl))
     all_goals try (have jr:=DJ jr;simp [Cg,AY,vq] at jr)
     all_goals try clear ja zT zS Ye
     case c12 =>
      refine AX rfl (.inl ⟨.pointer (some ⟨W.heap.size,0,none⟩),W.alloc (.cells #[.int .u8 0,.int .i64 0] 79),?_,⟨W.heap.size,rfl,heap_alloc_new _ _,Below.size hS⟩,(Below.refl _ _).alloc (A3 _) _,Ext.trans j2 ((Below.refl _ _).alloc (A3 _) _)⟩);clear jL hS j2 YO kO zP zQ;simp [go_sem,Act.eval]
     all_goals (refine AX rfl (.inl ⟨_,W,?_,rfl,Ext.refl _,j2⟩);clear jL hS j2 YO;simp [go_sem,Act.eval, *];done)
    case hlate =>
     intro h;exact absurd h (by decide)
    case hlast =>
     intro ac W jL yo fL hf j2 hv ja;have hS:(fun W=>Ext w11 W)  W:=j2;clear j2;have zH:Sf w11.heap.size (ac.tmps.getD 16 undef) W:=hv 12 (by decide);have YD:ac.tmps.getD 84 undef=.agg #[.int .u8 (hh.key.toNat:Int),.int .i64 hh.cost]:=hv 11 (by decide);obtain ⟨g16,e16,jA,k16⟩:=zH;obtain ⟨wy,kp,j4,zd⟩:=Sg (a:=(hh.key.toNat:Int)) (b:=hh.cost) hS jA k16;show Jq _ _ _ 1 13 _ _;unfold Jq;refine J9 rfl rfl rfl rfl (Ad e16) (Ad YD) jA (by kernel_rfl) ?_;rw [kp];unfold Jq;obtain ⟨sx,Y5,Y2⟩:=Ag [73,74,75,76,77,78,79,80,81,82,83,84,16] (by kernel_rfl) jL yo ja;have f16:sx 16=.pointer (some ⟨g16,0,none⟩):=(Y5 16).trans e16;have j9:=A0 j4;have zB:=A0 zd;clear hS jA k16 j4 zd kp YD;rw [Y2];simp only [List.foldl];simp only [Act.put,List.setIfInBounds_toArray,List.set_cons_succ,List.set_cons_zero];clear Y2 Y5 hv ja jL yo hf;rw [f16];clear f16 e16
     go_wp2_with fail
     go_meet
     exact ⟨_,rfl,g16,rfl,j9.out,zB.out⟩
   case rest
        =>
    obtain ⟨w12,kp,g16,ki,jA,yc⟩:=hcut;subst kp ki;have j9:=A0 jA;have jf:=A0 yc;clear jA yc jl yt y8;obtain ⟨p0,p1⟩:=At j9.out
    go_upto_if 87 with fail
    clear p0 p1;have km:Hid (∀ w:World,Ext w (w.alloc (.cells #[] 79))):=fun w=>(Below.refl _ _).alloc (A3 _) _;have Yt:Hid (∀ w:World,w.heap.size≤(w.alloc (.cells #[] Av.e)).heap.size):=fun w=>by rw [A6];omega
    go_cut [] (fun wx=>∃ wy:World,wy=wx∧∃ (LM:List SV) (L':List Slt),Be wy w9.heap.size (.slice (some ⟨g14,0,none⟩) L.length c14) LM L'∧Dk L'∧Bu true L L'∧Be wy w9.heap.size (.slice (some ⟨g15,0,none⟩) L.length c15) LL L∧Ext w9 wy)
    case first =>
     by_cases yX:hh.key.toNat<99
     ·have kJ:(hh.key.toNat:Int)<99:=by omega
      have H99:=A0 yX;obtain ⟨zn,hz,Yl⟩:=Ll y1 9 zG (by decide);have hzi:y1.tmod 9=(zn:Int):=hz;have hzw:RowKit.wrap64 (zn:Int)=(zn:Int):=by unfold RowKit.wrap64;omega
      have kO:=yz.out _ (Ext.trans jc.out (Ext.trans jf.out (km.out w12)));have HZ9:=A0 Yl;have kX:(s[s.length - 1]'(by omega)).key.toNat<99:=by
       have h1:=HM.out;have h2:=Yq.out;have h3:s[s.length - 1]'(by omega)=s[m]:=getElem_congr rfl h1 (by omega);rw [h3,h2];exact yX
      have zz:Hid (Dk (L.set k (s ++ [(⟨99,(zn:Int)⟩:Ch)]))):=jy.out.set (Og jy.out kD.out (Oh (jy.out.inc s kD.out) jO kX) (Int.natCast_nonneg zn) (Int.ofNat_le.2 (Nat.le_of_lt_succ Yl)));have zs:Hid (Bu true L (L.set k (s ++ [(⟨99,(zn:Int)⟩:Ch)]))):=Bu.set L k hk (by rw [yO.out];exact QL _ _ _);clear yX hz Yl kX
      go_upto_region 11 with (at_builtin;(refine Cz Bd (heap_alloc_new w12 _) rfl _ _ rfl rfl (some ⟨gk,0,none⟩) s.length ck s rfl rfl (fun _=>⟨_,rfl,Gv (yL.out _ (Ext.trans jc.out (Ext.trans jf.out (km.out w12))))⟩) (by omega) ?_;intro v13 w13 kl jk jN;clear kl;have kf:=jk (List.length_pos_iff.1 jO);obtain ⟨g17,c17,Yf⟩:=FI kf jO;subst Yf;have jx:=A0 kf;have jg:Hid (Ext w12 w13):=Ext.trans (km.out w12) jN;clear jk jN kf))
      clear kO kJ;have jm:Hid (AZ Av w13 w12.heap.size (.slice (some ⟨g17,0,none⟩) s.length c17) s):=jx.out.rebase fun q hq=>by have:=jx.out.ge q hq;have:=Yt.out w12;omega
      have kc:Hid (Ext w11 w13):=Ext.trans jf.out jg.out;obtain ⟨q0,q1⟩:=At (Ym.out w13 (Ext.trans ke.out (Ext.trans jc.out kc.out)));have yk:Hid (Ext w13 (w13.alloc (.cells #[.int .u8 99,.int .i64 (zn:Int)] 79))):=(Below.refl _ _).alloc (A3 _) _;have hix14:=IS g14 L.length c14 k hk
      go_wp2_with (at_builtin;(refine Ac (v:=.slice (some ⟨g17,0,none⟩) s.length c17) Bd rfl _ _ rfl rfl (jm.out.later yk.out (A3 _)) ⟨w13.heap.size,0,none⟩ 1 [⟨99,(zn:Int)⟩] rfl (QP w13 (zn:Int)) (by simp only [AC];omega) (A8 (Below.size jg.out) (Below.size yk.out)) ?_;intro v14 w14 js jv kN;obtain ⟨g18,c18,k9⟩:=FI (L:=s ++ [⟨99,(zn:Int)⟩]) js (by simp);rw [AB,AC] at k9;subst k9;have yK:=A0 js;have jo:Hid (Ext w12 w14):=Below.grown (Ext.trans jg.out yk.out) jv (A8 (Below.size jg.out) (Below.size yk.out)) fun q hq=>jm.out.ge q hq;have jU:=A0 (kz.out.later (Ext.trans jf.out jo.out) (A3 _));obtain ⟨kQ,kU⟩:=Jn jU.out.own yp;clear js jv kN))
      clear q0 q1 kQ kU;have yN:=A0 (kA.out.later (Ext.trans jf.out jo.out) (A3 _));have yi:Hid (ElS w14 ⟨some ⟨g18,0,none⟩,s.length+1,c18⟩ (s ++ [(⟨99,(zn:Int)⟩:Ch)])):=ElS.of (x:=⟨some ⟨g18,0,none⟩,s.length+1,c18⟩) yK.out;have yM:=A0 (Ln jU.out hk yi.out)
      go_meet
      exact ⟨_,rfl,LL.set k ⟨some ⟨g18,0,none⟩,s.length+1,c18⟩,L.set k (s ++ [(⟨99,(zn:Int)⟩:Ch)]),yM.out,zz.out,zs.out,Jm yN.out jU.out.own (Ne.symm Yv.out),(Ext.trans jH.out (Ext.trans jf.out jo.out)).setCell (show w9.heap.size≤g14 from jU.out.own.ge g14 rfl) _⟩
     ·have kJ:¬ (hh.key.toNat:Int)<99:=by omega
      go_wp2_with fail
      go_meet
      exact ⟨_,rfl,LL,L,kz.out.later jf.out (A3 _),jy.out,Bu.refl _ _,kA.out.later jf.out (A3 _),Ext.trans jH.out jf.out⟩
    case rest
         =>
     obtain ⟨w15,kp,LM,L',k1,k6,kZ,k2,yd⟩:=hcut;subst kp;have yG:=A0 k1;have ka:=A0 k6;have kv:=A0 kZ;have yH:=A0 k2;have jZ:=A0 yd;clear k1 k6 kZ k2 yd;have j1:Hid (Ext wz w15):=Ext.trans ji.out jZ.out;have kO:=yz.out _ (Ext.trans j1.out (km.out w15))
     go_upto_region 13 with (at_builtin;(refine Cz Bd (heap_alloc_new w15 _) rfl _ _ rfl rfl (some ⟨gk,0,none⟩) s.length ck s rfl rfl (fun _=>⟨_,rfl,Gv (yL.out _ (Ext.trans j1.out (km.out w15)))⟩) (by omega) ?_;intro v16 w16 kl jk jN;clear kl;have kf:=jk (List.length_pos_iff.1 jO);obtain ⟨g18,c18,ki⟩:=FI kf jO;subst ki;have jx:=A0 kf;have kd:Hid (Ext w15 w16):=Ext.trans (km.out w15) jN;clear jk jN kf))
     clear kO;have jm:Hid (AZ Av w16 w15.heap.size (.slice (some ⟨g18,0,none⟩) s.length c18) s):=jx.out.rebase fun q hq=>by have:=jx.out.ge q hq;have:=Yt.out w15;omega
     obtain ⟨x0,yu⟩:∃ x0,s[0]=x0:=⟨_,rfl⟩
     obtain ⟨hc,y6⟩:∃ hc,x0.cost / 2=hc:=⟨_,rfl⟩
     have Yj:=jy.out.cst s kD.out s[0] (AG jO);rw [yu] at Yj;have hq:x0.cost.tdiv 2=hc:=by rw [Int.tdiv_eq_ediv_of_nonneg Yj.1];exact y6
     have zV:RowKit.wrap64 hc=hc:=by unfold RowKit.wrap64;omega
     have zU:IntKind.i64.wrap hc=hc:=IntWalk.i64_in _ (by omega);obtain ⟨-,YL,yo⟩:=NX jm.out jO yu;have zR:w16.cell? ⟨g18,1,none⟩=some (.int .i64 x0.cost):=YL;have y7:∀ w:World,(Instr.indexAt 81 (.slice (some ⟨g18,0,none⟩) s.length c18) (.int .i64 0)).run Tryz.prog w=.ok (.pointer (some ⟨g18,0,none⟩)) w:=Lm g18 s.length c18 0 jO;have zq:=A0 y6;have zA:=A0 yu;clear Yj YL y6 yu
     go_upto_region 14 with fail
     clear hq zV zU zR yo y7;obtain ⟨w17,jX⟩:∃ w17,w16.setCell ⟨g18,1,none⟩ (.int .i64 hc)=w17:=⟨_,rfl⟩
     rw [jX];have Yd:=QO jm.out jO;rw [zA.out,zq.out,jX] at Yd;have Yx:=A0 Yd;have jp:Hid (Ext w15 w17):=by show Ext _ _;rw [← jX];exact kd.out.setCell (show w15.heap.size≤g18 from jm.out.ge g18 rfl) _
     have jF:=A0 (yH.out.later jp.out (A3 _));have ky:=A0 (yG.out.later jp.out (A3 _));obtain ⟨kR,kV⟩:=Jn jF.out.own yp;have kW:=IS g15 L.length c15 k hk;clear jX Yd
     go_upto_region 15 with fail
     clear kR kV kW;have yi:Hid (ElS w17 ⟨some ⟨g18,0,none⟩,s.length,c18⟩ (Dh s)):=ElS.of (x:=⟨some ⟨g18,0,none⟩,s.length,c18⟩) Yx.out;obtain ⟨w18,jY⟩:∃ w18,w17.setCell ⟨g15,k,none⟩ (.slice (some ⟨g18,0,none⟩) s.length c18)=w18:=⟨_,rfl⟩
     rw [jY];have jW:Be (w17.setCell ⟨g15,k,none⟩ (.slice (some ⟨g18,0,none⟩) s.length c18)) w9.heap.size (.slice (some ⟨g15,0,none⟩) L.length c15) (LL.set k ⟨some ⟨g18,0,none⟩,s.length,c18⟩) (L.set k (Dh s)):=Ln jF.out hk yi.out;have kg:Be (w17.setCell ⟨g15,k,none⟩ (.slice (some ⟨g18,0,none⟩) s.length c18)) w9.heap.size (.slice (some ⟨g14,0,none⟩) L.length c14) LM L':=Jm ky.out jF.out.own Yv.out;rw [jY] at jW kg;have j0:Hid (Ext w9 w18):=by show Ext _ _;rw [← jY];exact (Ext.trans jZ.out jp.out).setCell (show w9.heap.size≤g15 from jF.out.own.ge g15 rfl) _
     have jh:Hid (Ext wz w18):=Ext.trans ji.out j0.out;obtain ⟨L2,ko⟩:∃ L2,L.set k (Dh s)=L2:=⟨_,rfl⟩
     rw [ko] at jW;have jE:Hid (L2.length=L.length):=by show _=_;rw [← ko,List.length_set]
     have jD:Hid (L'.length=L.length):=kv.out.len.symm;have Jx:Hid (Dk L2):=by show Dk _;rw [← ko];exact jy.out.set (slt3_half jy.out kD.out)
     have ku:Hid (Bu true L L2):=by show Bu _ _ _;rw [← ko];exact Bu.set L k hk (by rw [yO.out];exact QM fun x hx=>(jy.out.cst s kD.out x hx).1)
     have yF:Hid (Bu false L2 L):=by show Bu _ _ _;rw [← ko];exact Bu.unset L k hk (by rw [yO.out];exact Of s)
     have yP:=A0 (Df.of ⟨_,kg⟩ (by have:=jD.out;omega) ka.out.bnd ka.out.dis).1;have yQ:=A0 (Df.of ⟨_,jW⟩ (by have:=jE.out;omega) Jx.out.bnd Jx.out.dis).1;have kt:Hid (L'.length≤6):=by show _≤_;have:=jD.out;omega
     have yE:Hid (L2.length≤6):=by show _≤_;have:=jE.out;omega
     clear jY jW kg ko yi ky jF Yx jx jm;obtain ⟨s0,s1,s2⟩:=Ba (jB.out.go jh.out).b8;obtain ⟨t0,t1,t2,t3⟩:=Ax (jB.out.go jh.out).b9
     go_wp2_with fail
     clear s0 s1 s2 t0 t1 t2 t3;have hb:=Ka (jB.out.go jh.out) kC.out yh.out jQ.out yI.out kb.out (HT.out.go (Ext.trans kn.out jh.out)) yP.out ka.out kt.out;rw [jD.out] at hb;refine hb.mono ?_;clear hb;obtain ⟨EB,kK⟩:∃ EB,Ct S.rules S.acc L' (Ws.map bts)=EB:=⟨_,rfl⟩
     have jC:Hid (EB.length≤126):=by show _≤_;rw [← kK];exact Lo kt.out yR.out.2
     have zf:Hid (Ml E EB):=by show Ml _ _;rw [← kK,← yA.out];exact kv.out.cov
     have zw:Hid (EB.Pairwise Eh):=by show List.Pairwise _ _;rw [← kK];exact Ev
     rw [kK];rintro e w19 ⟨v19,rfl,kj,ye⟩;obtain ⟨a6,c6,ya, -, -⟩:=kj.form;subst ya;have kr:=A0 (AZ.edgs kj).1;have kE:=A0 ye;clear kj ye kK
     go_upto_region 16 with fail
     obtain ⟨w20,jl⟩:∃ w20,w19.alloc (.cells #[.int .i64 (L.length:Int),.slice a6 (EB).length c6] 45)=w20:=⟨_,rfl⟩
     rw [jl];have j5:Ext w19 w20:=by rw [← jl];exact (Below.refl _ _).alloc (A3 _) _
     have b1:w20.heap[w19.heap.size]? = some (.cells #[.int .i64 (L.length:Int),.slice a6 (EB).length c6] 45 (0,0)):=by rw [← jl];exact heap_alloc_new _ _
     obtain ⟨g19,j3⟩:∃ g19,w19.heap.size=g19:=⟨_,rfl⟩
     rw [j3] at b1 ⊢;have j6:=A0 (Ai b1);have jI:=A0 j5;clear jl j5 b1 j3;have Yo:=A0 (kr.out.go jI.out);have jq:Hid (Ext w18 w20):=Ext.trans kE.out jI.out;have ju:Hid (Ext wz w20):=Ext.trans jh.out jq.out;clear jI kE kr;obtain ⟨s0,s1,s2⟩:=Ba (jB.out.go ju.out).b8;obtain ⟨t0,t1,t2,t3⟩:=Ax (jB.out.go ju.out).b9
     go_wp2_with fail
     clear s0 s1 s2 t0 t1 t2 t3;have hb:=Ka (jB.out.go ju.out) kC.out yh.out jQ.out yI.out kb.out (HT.out.go (Ext.trans kn.out ju.out)) (yQ.out.go jq.out) Jx.out yE.out;rw [jE.out] at hb;refine hb.mono ?_;clear hb;obtain ⟨EC,kL⟩:∃ EC,Ct S.rules S.acc L2 (Ws.map bts)=EC:=⟨_,rfl⟩
     have zg:Hid (Ml E EC):=by show Ml _ _;rw [← kL,← yA.out];exact ku.out.cov
     have zx:Hid (EC.Pairwise Eh):=by show List.Pairwise _ _;rw [← kL];exact Ev
     have j8:Hid (EC.length=E.length):=by show _=_;rw [← kL,← yA.out];exact Nat.le_antisymm (NW yF.out) (NW ku.out)
     rw [kL];rintro e w21 ⟨v21,rfl,kk,yf⟩;obtain ⟨a7,c7,yb, -, -⟩:=kk.form;subst yb;have ks:=A0 (AZ.edgs kk).1;have kF:=A0 yf;clear kk yf kL
     go_upto_region 17 with fail
     obtain ⟨w22,jl⟩:∃ w22,w21.alloc (.cells #[.int .i64 (L.length:Int),.slice a7 (EC).length c7] 45)=w22:=⟨_,rfl⟩
     rw [jl];have j5:Ext w21 w22:=by rw [← jl];exact (Below.refl _ _).alloc (A3 _) _
     have b1:w22.heap[w21.heap.size]? = some (.cells #[.int .i64 (L.length:Int),.slice a7 (EC).length c7] 45 (0,0)):=by rw [← jl];exact heap_alloc_new _ _
     obtain ⟨g21,j3⟩:∃ g21,w21.heap.size=g21:=⟨_,rfl⟩
     rw [j3] at b1 ⊢;have j7:=A0 (Ai b1);have jI:=A0 j5;clear jl j5 b1 j3;have Yp:=A0 (ks.out.go jI.out);have jb:Hid (Ext w20 w22):=Ext.trans kF.out jI.out;have je:Hid (Ext w9 w22):=Ext.trans j0.out (Ext.trans jq.out jb.out);clear jI kF ks;have zm:Hid (∀ (i:Nat) (h:i<E.length),∃ (p:Nat) (hp:p<EB.length),C9 EB E[i] 0=(p:Int)∧EB[p].2.2.2≤E[i].2.2.2):=fun i h=>Lj zf.out zw.out h;have zo:Hid (∀ (i:Nat) (h:i<E.length),∃ (p:Nat) (hp:p<EC.length),C9 EC E[i] 0=(p:Int)∧EC[p].2.2.2≤E[i].2.2.2):=fun i h=>Lj zg.out zx.out h;obtain ⟨q0,q1⟩:=At (jP.out w22 je.out);obtain ⟨q2,q3⟩:=At (j6.out w22 jb.out);obtain ⟨q4,q5⟩:=At (j7.out w22 (Ext.refl _));have c1:¬ (200:Int)<(E.length:Int):=by have:=jR.out;omega
     have c2:¬ (200:Int)<(EB.length:Int):=by have:=jC.out;omega
     have c3:((EC.length:Int) != (E.length:Int))=false:=by rw [j8.out];simp
     go_wp2_with fail
     clear q0 q1 q2 q3 q4 q5 c1 c2 c3
     go_loopg [23,24,25] E.length (fun g v23 v24 v25 wr=>∃ i:Nat,v23=.int .i64 (i:Int)∧i≤E.length∧g=E.length - i∧Ext w22 wr)
     case atStart=>exact ⟨0,rfl,Nat.zero_le _,rfl,Ext.refl _⟩
     case round
           =>
      obtain ⟨i,rfl,hk,YR,Yk⟩:=hrel;have zp:=A0 YR;have jz:=A0 Yk;obtain ⟨q0,q1⟩:=At (jP.out wr (Ext.trans je.out Yk));clear Yk YR;by_cases yq:i<E.length
      ·have hltI:(i:Int)<(E.length:Int):=by omega
       obtain ⟨bb,o1,ha,zM,x0,x1,x2,x3⟩:=(zj.out.go (Ext.trans je.out jz.out)) i yq;have jV:=Ca a5 bb o1 E.length c5 i ha yq;obtain ⟨p,hp,y4,kS⟩:=zm.out i yq;obtain ⟨q,hq,y5,kT⟩:=zo.out i yq;obtain ⟨⟨e1,e2,e3,e4⟩,hx⟩:∃ x,E[i]=x:=⟨_,rfl⟩
       rw [hx] at x0 x1 x2 x3 y4 y5 kS kT;obtain ⟨b2,o2,YI,zN, -, -, -,y3⟩:=(Yo.out.go (Ext.trans jb.out jz.out)) p hp;have jJ:=Ca a6 b2 o2 EB.length c6 p YI hp;obtain ⟨b3,o3,YJ,zO, -, -, -,z3⟩:=(Yp.out.go jz.out) q hq;have jK:=Ca a7 b3 o3 EC.length c7 q YJ hq;obtain ⟨d4,YM⟩:∃ d,EB[p].2.2.2=d:=⟨_,rfl⟩
       obtain ⟨f4,YN⟩:∃ d,EC[q].2.2.2=d:=⟨_,rfl⟩
       rw [YM] at y3 kS;rw [YN] at z3 kT;simp only at x0 x1 x2 x3 kS kT;have zk:=A0 y4;have zl:=A0 y5;have zh:=A0 kS;have zi:=A0 kT;have yS:=A0 x0;have yT:=A0 x1;have yU:=A0 x2;have kG:=A0 x3;have zC:=A0 y3;have zD:=A0 z3;have Yr:=A0 jV;have yB:=A0 jJ;have yC:=A0 jK;clear hx ha YI YJ zM zN zO y4 y5 kS kT y3 z3 jJ jK YM YN hp hq
       go_upto_region 22 with fail
       clear q0 q1 x0 x1 x2 x3 jV;refine Fz wr (Ext.refl _) 221 (csV [.agg #[.int .i64 (L.length:Int),.slice a6 EB.length c6],.pointer (some ⟨g11,1,none⟩),.slice a5 E.length c5,.int .i64 (i:Int),.pointer (some ⟨bb,o1+i*4,none⟩),.agg #[.int .i64 e1,.int .i64 e2,.int .i64 e3,.int .i64 e4],.int .i64 (p:Int),.agg #[.int .i64 (L.length:Int),.slice a7 EC.length c7],.pointer (some ⟨g11,1,none⟩),.slice a5 E.length c5,.int .i64 (i:Int),.pointer (some ⟨bb,o1+i*4,none⟩),.agg #[.int .i64 e1,.int .i64 e2,.int .i64 e3,.int .i64 e4],.int .i64 (q:Int),.int .i64 (p:Int),.int .i64 (q:Int)]) (List.range' 170 14 ++ [24,25]) (by kernel_rfl) rfl ?hop fun W x hS hx=>?_
       case hop =>
        repeat' apply And.intro
        all_goals first
         | exact True.intro
         | (
           intro A W jL hS jr ja;obtain ⟨q0,q1⟩:=At (jP.out W (Ext.trans je.out (Ext.trans jz.out hS)));obtain ⟨q2,q3⟩:=At (j6.out W (Ext.trans jb.out (Ext.trans jz.out hS)));obtain ⟨q4,q5⟩:=At (j7.out W (Ext.trans jz.out hS));have hk:=Kc.of hS (A3 _);have x0:=hk.cell yS.out;have x1:=hk.cell yT.out;have x2:=hk.cell yU.out;have x3:=hk.cell kG.out;have jV:=Yr.out;clear hk;have zI:A.tmps.getD 19 undef=.pointer (some ⟨g19,0,none⟩):=ja 19 (by kernel_rfl);have YC:A.tmps.getD 11 undef=.pointer (some ⟨g11,0,none⟩):=ja 11 (by kernel_rfl);have zJ:A.tmps.getD 21 undef=.pointer (some ⟨g21,0,none⟩):=ja 21 (by kernel_rfl);have zK:A.tmps.getD 23 undef=.int .i64 (i:Int):=ja 23 (by kernel_rfl);clear ja;simp [AY,Region.binds,Vp,csV,qc] at jr
           first | (refine Jt ?_ (.inl ⟨_,W,?_,rfl,Ext.refl _⟩) <;> clear jL hS <;> simp [wS,Si,Sj,AY,go_sem,Act.eval, *] <;> done) | skip)
        ·refine Jt rfl (.inr ⟨27,#[.agg #[.int .i64 (L.length:Int),.slice a6 EB.length c6],.agg #[.int .i64 e1,.int .i64 e2,.int .i64 e3,.int .i64 e4]],W,by (clear jL hS;simp [go_sem,Act.eval, *]),?_⟩);refine (find14_any (L.length:Int) EB (e1,e2,e3,e4) a6 c6 W (Yo.out.go (Ext.trans jb.out (Ext.trans jz.out hS))) (by have:=jC.out;have:=jR.out;have:=j8.out;omega)).mono ?_;rintro e w' ⟨he,hx⟩;rw [zk.out] at he;exact ⟨_,he,rfl,hx⟩
        ·refine Jt rfl (.inr ⟨27,#[.agg #[.int .i64 (L.length:Int),.slice a7 EC.length c7],.agg #[.int .i64 e1,.int .i64 e2,.int .i64 e3,.int .i64 e4]],W,by (clear jL hS;simp [go_sem,Act.eval, *]),?_⟩);refine (find14_any (L.length:Int) EC (e1,e2,e3,e4) a7 c7 W (Yp.out.go (Ext.trans jz.out hS)) (by have:=jC.out;have:=jR.out;have:=j8.out;omega)).mono ?_;rintro e w' ⟨he,hx⟩;rw [zl.out] at he;exact ⟨_,he,rfl,hx⟩
       have e24:x 24=.int .i64 (p:Int):=hx 14 (by decide);have e25:x 25=.int .i64 (q:Int):=hx 15 (by decide);simp only [List.range',List.cons_append,List.nil_append,List.foldl,e24,e25,Act.put,List.setIfInBounds_toArray,List.set_cons_succ,List.set_cons_zero];clear hx e24 e25;obtain ⟨w23,Yi⟩:∃ w23:World,w23=W:=⟨_,rfl⟩
       subst Yi;have jG:=A0 hS;clear hS
       go_upto_region 23 with fail
       refine Fz w23 (Ext.refl _) 221 (csV [.int .i64 (p:Int),.bool false,.bool false,.int .i64 (q:Int),.bool false,.bool false,.bool false,.pointer (some ⟨g19,1,none⟩),.slice a6 EB.length c6,.int .i64 (p:Int),.pointer (some ⟨b2,o2+p*4,none⟩),.pointer (some ⟨b2,o2+p*4+3,none⟩),.int .i64 d4,.pointer (some ⟨g11,1,none⟩),.slice a5 E.length c5,.int .i64 (i:Int),.pointer (some ⟨bb,o1+i*4,none⟩),.pointer (some ⟨bb,o1+i*4+3,none⟩),.int .i64 e4,.bool false,.bool false,.bool false,.pointer (some ⟨g21,1,none⟩),.slice a7 EC.length c7,.int .i64 (q:Int),.pointer (some ⟨b3,o3+q*4,none⟩),.pointer (some ⟨b3,o3+q*4+3,none⟩),.int .i64 f4,.pointer (some ⟨g11,1,none⟩),.slice a5 E.length c5,.int .i64 (i:Int),.pointer (some ⟨bb,o1+i*4,none⟩),.pointer (some ⟨bb,o1+i*4+3,none⟩),.int .i64 e4,.bool false,.bool false]) (List.range' 184 36) (by kernel_rfl) rfl ?hop fun W x hS hx=>?_
       case hop =>
        repeat' apply And.intro
        all_goals first
         | exact True.intro
         | (
           intro A W jL hS jr ja;obtain ⟨q0,q1⟩:=At (jP.out W (Ext.trans je.out (Ext.trans jz.out (Ext.trans jG.out hS))));obtain ⟨q2,q3⟩:=At (j6.out W (Ext.trans jb.out (Ext.trans jz.out (Ext.trans jG.out hS))));obtain ⟨q4,q5⟩:=At (j7.out W (Ext.trans jz.out (Ext.trans jG.out hS)));have hk:=Kc.of (Ext.trans jG.out hS) (A3 _);have x3:=hk.cell kG.out;have y3:=hk.cell zC.out;have z3:=hk.cell zD.out;have jV:=Yr.out;have jJ:=yB.out;have jK:=yC.out;have n1:¬ (p:Int)<0:=by omega
           have n2:¬ (q:Int)<0:=by omega
           have n3:¬ e4<d4:=by have:=zh.out;omega
           have n4:¬ e4<f4:=by have:=zi.out;omega
           clear hk;have zI:A.tmps.getD 19 undef=.pointer (some ⟨g19,0,none⟩):=ja 19 (by kernel_rfl);have YC:A.tmps.getD 11 undef=.pointer (some ⟨g11,0,none⟩):=ja 11 (by kernel_rfl);have zJ:A.tmps.getD 21 undef=.pointer (some ⟨g21,0,none⟩):=ja 21 (by kernel_rfl);have zK:A.tmps.getD 23 undef=.int .i64 (i:Int):=ja 23 (by kernel_rfl);have h24:A.tmps.getD 24 undef=.int .i64 (p:Int):=ja 24 (by kernel_rfl);have h25:A.tmps.getD 25 undef=.int .i64 (q:Int):=ja 25 (by kernel_rfl);clear ja;simp [AY,Region.binds,Vp,csV,qc] at jr
           first | (refine Jt ?_ (.inl ⟨_,W,?_,rfl,Ext.refl _⟩) <;> clear jL hS <;> simp [wS,Si,Sj,AY,go_sem,Act.eval, *] <;> done))
       have e219:x 219=.bool false:=hx 35 (by decide);simp only [List.range',List.foldl,e219,Act.put,List.setIfInBounds_toArray,List.set_cons_succ,List.set_cons_zero];clear hx e219;have yV:=A0 hS;clear hS
       go_wp2_with fail
       go_roundg (E.length - (i+1))
       case measure=>have:=zp.out;omega
       case rel =>
        have:=jR.out;exact ⟨i+1,by rw [show RowKit.wrap64 ((i:Int)+1)=((i+1:Nat):Int) by unfold RowKit.wrap64;omega],by omega,rfl,Ext.trans jz.out (Ext.trans jG.out yV.out)⟩
      ·obtain rfl:i=E.length:=by omega
       have hnlt:¬ (E.length:Int)<(E.length:Int):=by omega
       go_wp2_with fail
       go_ret;exact ⟨rfl,Ext.trans kn.out (Ext.trans ji.out (Ext.trans je.out jz.out))⟩
 ·have kC:=A0 yr;clear yr
  go_wp2_with fail
  clear s0 s1 s2 t0 t1 t2 t3;refine (Oe jB.out kC.out yh.out zr.out jQ.out).mono ?_;rintro e w8 ⟨rfl,yg⟩;have ym:Hid (Ext wz w8):=yg;clear yg
  go_wp2_with fail
  go_ret;exact ⟨rfl,Ext.trans kn.out (Ext.trans ym.out ((Below.refl _ _).alloc (A3 _) _))⟩
end Go.Proofs.YtpljngaejaehcaaGreatDoor
