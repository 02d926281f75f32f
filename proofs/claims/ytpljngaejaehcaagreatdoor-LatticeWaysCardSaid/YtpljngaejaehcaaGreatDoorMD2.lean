/- Texts that the claims share. -/
import Derived.Deep.LoopGhost
import Derived.Laws.BitsAllLaws
import Derived.Test.YtpljngaejaehcaaGreatDoorMK2
import Derived.Deep.CutBlock
import Derived.Test.YtpljngaejaehcaaGreatDoorMD1
open Option renaming none->oS,some->oT,getD_some->Xh,isSome_iff_exists->XX
open Bool renaming true->oF,false->oH,not_eq_true'->XS
open List renaming length->oB,cons_append->ZG,foldl->Zp,map_append->XI,mem_cons_of_mem->Zm,nil_append->ZP,not_mem_nil->ZN,range'->Zd,setIfInBounds_toArray->Z5,set_cons_succ->Za,set_cons_zero->Z9,append_assoc->Zw,eq_nil_of_length_eq_zero->Zo,findIdx_cons->zV,flatMap_cons->ZA,getElem?_set_ne->Xy,getElem_append_left->Y8,getElem_cons_zero->zk,getElem_of_mem->zr,getElem_take->Xi,length_drop->ZZ,length_set->ZD
open Go.Value renaming int->aA,pointer->aB,slice->aG,bool->aH,string->aI,agg->aJ,slice->Zk
open Go.Obj renaming cells->aK,cells->Xa
open Go.IntKind renaming i64->aM,u8->aO
open Go.Ending renaming returned->aP
open Go.Act renaming eval->Zf,put->ZE
open Go.RowKit.Below renaming block->Z7,mono->ZT,refl->Z2,size->XE,trans->Y9,heap_setCell->Zc
open Go renaming Calls->Zu,TypeId->X5,Value->Z6,World->Z0,cell_of_row->Z3,heap_alloc_new->Z4,undef->Z8,Addr->Zj,Oper->ZX
open Int renaming eq_ofNat_of_zero_le->ZY
open Go.IntWalk renaming i64_in->Zq
open List.Pairwise renaming nil->xi
open Nat renaming add_mul->Xp,le_add_right->z8,le_succ->za,mul_le_mul_right->ZM,zero_le->Ze,add_zero->zl
open Go.Proofs.Tryz renaming prog->Z1,underlying3->ZR,zeroValue3->XZ
open Array renaming getElem?_modify->X6
open Go.DataW.lit renaming injEq->xp
open Go.Instr renaming indexAt->ZK,slice->Xm
open Go.World renaming frozen?->Zn,setCell->zy,size_setCell->Zb
set_option maxHeartbeats 6400000
set_option maxRecDepth 100000
set_option linter.unusedVariables false
set_option linter.unusedSimpArgs false
set_option linter.defProp false
namespace Go.Proofs.YtpljngaejaehcaaGreatDoor
open Go.RowKit Go.WideShapes Fl
def RC {R:List Rl}{L:List Slt}{i m C:Nat}{s:Rl}(hF:Ej R)(hB:By C L)(h:s∈Bh R L i m):s.frm=(m:Int)/\0<=s.dst/\s.dst<8/\s.inp.size<=4/\0<=s.cost/\s.cost<=1000+4*(C:Int)/\∃ r∈R,s.out=r.out:=by
 obtain⟨h1,h2⟩:=AZ.1 h;obtain⟨r,k,hr,hk,rfl⟩:=K2.1 h1;have hf:=Bd.1 (hF r hr);have hc:=letsC_le (hB.drop i) hk;rw[B5]at hc;have hc2:r.inp.size*C<=4*C:=ZM C hf.2.2.2.2.1;refine⟨of_decide_eq_true h2,hf.2.2.1,hf.2.2.2.1,hf.2.2.2.2.1,?_,?_,r,hr,rfl⟩
 · show 0<=r.cost+(k:Int);omega
 · show r.cost+(k:Int)<=_;omega
def BF {w:Z0}{g:Nat}{a b:Int}{t:X5}(h:w.heap[g]? = oT (aK #[aA aM a,aA aM b] t (0,0))):w.cell? ⟨g,0,oS⟩=oT (aA aM a)/\w.cell? ⟨g,1,oS⟩=oT (aA aM b):=by
 refine⟨?_,?_⟩ <;> (rw[Z3 w g _ _ _ (0,0) h];rfl)
structure VZ (R:List Rl)(L:List Slt)(T:List Bn)(i B0 D B:Nat)(gm:Nat->Nat)(M:Nat->Ent)(w w':Z0)(M':Nat->Ent):Prop where
 vx:VX w B gm i M' w'
 inv:Inv R L (folT T) i M'
 shut:∀ t,Shut R L (folT T) i M' t
 bnd:Bnd T.length i B0 D M'
 out:∀ j,¬ (i<=j/\j<i+5)->M' j=M j
structure VQ (w2:Z0)(B:Nat)(gm:Nat->Nat)(i:Nat)(M0 M:Nat->Ent)(q:List Stt)(v:Z6)(w:Z0):Prop where
 vx:VX w2 B gm i M w
 own:Af Hn w w2.heap.size v q
 out:∀ j,¬ (i<=j/\j<i+5)->M j=M0 j
def VQ.ext {w2 w w':Z0}{B i:Nat}{gm:Nat->Nat}{M0 M:Nat->Ent}{q:List Stt}{v:Z6}(h:VQ w2 B gm i M0 M q v w)(hx:Ext w w')(hB:B<=w2.heap.size):VQ w2 B gm i M0 M q v w' :=
 ⟨h.vx.ext hx hB,h.own.later hx (A5 _),h.out⟩
def Gp (w14:Z0)(g:Nat)(t:Stt)(E:Ent)(c:Nat)(b:Bool)(W:Z0):Prop:=match b with | false=>Ext w14 W | true=>F9 w14 W g t E c
def Gp.kp {w14 W:Z0}{g:Nat}{t:Stt}{E:Ent}{c:Nat}(hm:MpG Bp w14 g E):∀ {b:Bool},Gp w14 g t E c b W->Kc w14 W
 | false,h=>Kc.of h (A5 _)
 | true,h=>F9.kp h hm
section
variable {w w':World} {gx:Nat} {acc:Int} {aR:Option Addr} {nR cR:Nat} {aT:Option Addr} {nT cT:Nat} {aL:Option Addr} {nL cL:Nat} {gm:Nat->Nat}
def svisit_any (
          R
           :
            List Rl) (L:List Slt) (T:List Bn) (C i B0 D B:Nat) (M:Nat->Ent) (hx:SX w gx acc aR nR cR aT nT cT aL nL cL gm) (hR:BC w aR R) (YI:nR=oB R) (YG:nR<=1000) (hF:Ej R) (hO:∀ r∈R,r.out.size<=1000000)
  (hL:CI w aL L) (hn:nL=oB L) (hnl:nL<=100000) (hi:i<=oB L) (Ya:By C L) (hC:C<=1000000) (hT:Dq w aT T) (YJ:nT=oB T) (hTl:nT<=100000) (Yd:Sb T)
  (hG:VY B gm) (Yb:B<=w.heap.size) (hm:∀ j,i<=j->j<i+5->MpG Bp w (gm (j % 5)) (M j)) (kW:Inv R L (folT T) i M) (hb:Bnd T.length i B0 D M) (hD:1000+4*C<=D) (kb:8*oB T*(B0+(8*oB T+1)*D+2)<=900000000000) (hT0:0<oB T) :
  Zu Z1 79 #[aB (oT ⟨gx,0,oS⟩),aA aM (i:Int)] w λe w'=>e=aP (.tuple #[])/\∃ M',VZ R L T i B0 D B gm M w w' M':=by
 subst hn YI YJ;obtain⟨HX,HR,HF,HO,HL,yT,HT,y5⟩:=oK hx hR hF hO hL Ya hT Yd;obtain⟨HG,HM,yi,kf,yV⟩:=oE hG hm kW hb kb;have hgx:=hx.lt;clear hx hR hF hO hL Ya hT Yd hG hm kW hb kb;have jQ:=steps_any R L C i HX.out HR.out rfl YG HF.out HL.out rfl (by omega) hi yT.out hC;have kl:=A0 jQ;clear jQ
 go_enter Tryz.func79,Tryz.ntmps79
 go_wp2_with fail
 refine kl.out.mono ?_;rintro e w1 ⟨⟨va,vc,he,kt⟩,k9⟩;obtain⟨F,yr⟩:∃ F,Bh R L i=F:=⟨_,rfl⟩
 rw[yr]at he kt;obtain rfl:e=aP (aJ #[aG (va 0) (F 0).length (vc 0),aG (va 1) (F 1).length (vc 1),aG (va 2) (F 2).length (vc 2),aG (va 3) (F 3).length (vc 3),aG (va 4) (F 4).length (vc 4),aG (va 5) (F 5).length (vc 5),aG (va 6) (F 6).length (vc 6),aG (va 7) (F 7).length (vc 7)]):=he;have yX:=A0 yr;clear yr;have YC:=A0 kt;have yQ:=A0 k9;clear kt k9
 go_upto_region 1 with fail
 obtain⟨g4,kc⟩:∃ g4,w1.heap.size=g4:=⟨_,rfl⟩
 obtain⟨w2,k4⟩:∃ w2,w1.alloc (aK #[aG (va 0) (F 0).length (vc 0),aG (va 1) (F 1).length (vc 1),aG (va 2) (F 2).length (vc 2),aG (va 3) (F 3).length (vc 3),aG (va 4) (F 4).length (vc 4),aG (va 5) (F 5).length (vc 5),aG (va 6) (F 6).length (vc 6),aG (va 7) (F 7).length (vc 7)] 184)=w2:=⟨_,rfl⟩
 rw[k4,kc];have yZ:Hid (w2.heap[g4]? = oT (.cells (st8 (slV va vc F)) 184 (0,0))):=by
  show _=_;rw[<- k4,<- kc];exact Z4 _ _
 have kL:Hid (Below w1.heap.size w1 w2):=by
  show Below _ _ _;rw[<- k4];exact(Z2 _ _).alloc (A5 _) _
 have k5:Hid (Below w.heap.size w w2):=yQ.out.trans (kL.out.mono yQ.out.size);have k6:Hid (Kc w w2):=Kc.of k5.out (A5 _);have yp:Hid (∀ m,m<8->BC w2 (va m) (F m)):=λm hm=>BC.later (YC.out m hm) kL.out (A5 _);have y7:Hid (∀ j,i<=j->j<i+5->MpG Bp w2 (gm (j % 5)) (M j)):=λj h1 h2=>(HM.out j h1 h2).kept (k5.out.block _ (HM.out j h1 h2).lt);have jU:B<=w2.heap.size:=AA Yb k5.out.size;obtain⟨jh,ya⟩:∃ jh,i % 5=jh:=⟨_,rfl⟩
 have Yy:=A0 ya;have yI:=y7.out i (A5 _) (by omega);rw[ya]at yI;have YA:=A0 yI;have Yg:=GL i jh (by omega) ya (HX.out.kp k6.out);have Ys:=A0 Yg;have kh:Hid ((M i).length<=8*oB T):=kf.out.len i;clear kc k4 ya yI Yg
 go_wp2_with fail
 refine Ys.out.mono ?_;rintro e w2' ⟨rfl,rfl⟩
 go_wp2_with (at_range;refine GK CU YA.out rfl _ rfl rfl ?_;intro w3 k2 Yh Yr)
 go_frame;obtain⟨yo,Yt,HS3⟩:=oC k2 Yh Yr;clear k2 Yh Yr
 go_loopg [6] (M i).length (λg v6 wr=>∃ (q:List Stt) (rest:List (Stt × Nat)),Af Hn wr w2.heap.size v6 q/\RgG Bp wr (gm jh) w2.heap.size (M i) rest/\rest.length=g/\q.length+oB rest<=(M i).length/\rest.Nodup/\(∀ t,t∈q↔∃ c,(t,c)∈M i/\(t,c) ∉ rest)/\Below w2.heap.size w2 wr)
 case atStart =>
  refine⟨[],M i,Af.nil _ _ _,yo.out,rfl,by simp,?_,λt=>?_,Yt.out⟩
  · exact(AV.1 ((Ik _).1 (kf.out.keys i))).imp λYK e=>YK (by rw[e])
  · simp
 case round =>
  obtain⟨q,rest,ks,Yq,kd,kX,Yn,hq,yt⟩:=hrel;obtain⟨qa,qc,YL, -, -⟩:=ks.form;subst YL;obtain⟨k8,yn,ki,YB,HQ,yS,Yx⟩:=oJ ks Yq kX Yn hq yt kd;have hz3:=yt.size;clear ks Yq kX Yn hq yt kd
  go_wp2_with (at_next;refine wpList_next_g CU yn.out rfl _ rfl rfl ?_ ?_)
  ·intro
      h0
   have jS:Vis R L (folT T) i T.length B0 D q 0 M:=D6.start yi.out kf.out λt=>by
    rw[HQ.out,h0];constructor
    · rintro⟨c,h1,_⟩;exact⟨c,Bj (kf.out.keys i) h1⟩
    · rintro⟨c,h1⟩;exact⟨c,CY h1,ZN⟩
   have jV:VQ w2 B gm i M M q (aG qa q.length qc) wr:=⟨(VX.refl y7.out).ext yS.out jU,k8.out,λ_ _=>rfl⟩
   have jl:=A0 jS;have jG:=A0 jV;obtain⟨Cm,kN⟩:∃ Cm,B0+(8*oB T+1)*D=Cm:=⟨_,rfl⟩
   have ke:oB q+pot T.length Cm (M i)<=999999999999:=by
    have h1:pot T.length Cm (M i)<=8*oB T*(Cm+1):=VV (kf.out.keys i) (kf.out.rng i) λp hp=>by
     have h2:=kf.out.here p hp;have h3:(M i).length*D<=8*oB T*D:=ZM D kh.out;rw[<- kN,Xp];omega
    have h4:=ki.out;have h5:=yV.out;rw[kN]at h5;have h6:8*oB T*(Cm+2)=8*oB T*(Cm+1)+8*oB T:=by rw[show Cm+2=(Cm+1)+1 by omega,Nat.mul_add,Nat.mul_one]
    have:=kh.out;omega
   have hCmb:Cm<=900000000000:=by
    have h5:=yV.out;rw[kN]at h5;have h6:1*(Cm+2)<=8*oB T*(Cm+2):=ZM _ (by omega);omega
   have Yv:=A0 kN;have jF:=A0 ke;clear h0 jS jV kN ke
   go_wp2_with fail
   go_loopg [6,8] (oB q+pot T.length Cm (M i)) (λg v6 v8 wr=>∃ (n:Nat) (q:List Stt) (M':Nat->Ent),v8=aA aM (n:Int)/\n<=oB q/\VQ w2 B gm i M M' q v6 wr/\Vis R L (folT T) i T.length B0 D q n M'/\(oB q - n)+pot T.length Cm (M' i)=g/\q.length+pot T.length Cm (M' i)<=999999999999)
   case atStart=>exact⟨0,q,M,rfl,Ze _,jG.out,jl.out,rfl,jF.out⟩
   case round =>
    clear jG jl jF;obtain⟨n,q2,M2,rfl,hn,jV,jS,kd,k1⟩:=hrel;obtain⟨qa2,qc2,yK, -, -⟩:=jV.own.form;subst yK;obtain⟨jG,jl,yh,jF⟩:=oD jV jS kd k1;clear jV jS kd k1;have hnb:n<=999999999999:=by have:=jF.out;omega
    by_cases kx:n<oB q2
    ·obtain⟨
         bq,
           hbq,hbq1,hbq2,q0,q1⟩:=jG.out.own.stt kx
     subst hbq;obtain⟨ct,kP⟩:=jl.out.qs q2[n] (AI kx);have yO:=jl.out.bnd.rng i _ (CY kP);have kR:=jl.out.enter kx rfl kP;have yv:=jl.out.bnd.here_le kP;obtain⟨t,ht⟩:∃ t,q2[n]=t:=⟨_,rfl⟩
     rw[ht]at q0 q1 kP yO kR;obtain⟨m,nd⟩:=t;simp only at q0 q1 yO;obtain⟨Yl,kY⟩:=yO;have yE:=UH bq q2.length qc2 n kx;have Yw:=A0 kR;have j4:wr.cell? ⟨g4,m,oS⟩=oT (aG (va m) (F m).length (vc m)):=jG.out.vx.kp.cell (by rw[Z3 w2 g4 _ _ _ (0,0) yZ.out,Ma _ Yl];rfl);have yz:g4<wr.heap.size:=A9 (A7.1 yZ.out).1 jG.out.vx.kp.size;have hm8I:(m:Int)<8:=by omega
     have hm0I:(0:Int)<=(m:Int):=by omega
     have YF:(F m).length<=1000:=by
      have:=K8 (R:=R) (L:=L) (i:=i) (m:=m);rw[yX.out]at this;omega
     have hct3:ct+D<=Cm:=by
      have h1:=Yv.out;rw[Xp]at h1;omega
     obtain⟨Fm,ys⟩:∃ Fm,F m=Fm:=⟨_,rfl⟩
     have kt:=yp.out m Yl;rw[ys]at j4 YF kt;have y8:=A0 kt;have yY:Hid (Bh R L i m=Fm):=by show _=_;rw[yX.out,ys]
     obtain⟨am,Yf⟩:∃ am,va m=am:=⟨_,rfl⟩
     obtain⟨cm,Yk⟩:∃ cm,vc m=cm:=⟨_,rfl⟩
     rw[Yf]at j4 y8;rw[Yk]at j4;have HQT:=A0 ht;clear kP kR yv ht ys Yf Yk kt
     go_upto_region 12 with fail
     obtain⟨w9,yf⟩:∃ w9,wr.alloc (aK #[aA aM (m:Int),aA aM (nd:Int)] 183)=w9:=⟨_,rfl⟩
     rw[yf];have YE:Hid (Ext wr w9):=by
      show Ext _ _;rw[<- yf];exact(Z2 _ _).alloc (A5 _) _
     have yU:Hid (w9.heap[wr.heap.size]? = oT (aK #[aA aM (m:Int),aA aM (nd:Int)] 183 (0,0))):=by
      show _=_;rw[<- yf];exact Z4 _ _
     have yq:=A0 (jG.out.ext YE.out jU);have jT:Hid ((aG (oT ⟨bq,0,oS⟩) q2.length qc2:Z6).ownBlock≠oT wr.heap.size):=λe=>by
      have:=jG.out.own.lt _ e;omega
     obtain⟨g9,kU⟩:∃ g9,wr.heap.size=g9:=⟨_,rfl⟩
     rw[kU]at yU jT ⊢;clear yf kU q0 q1 yE j4 yz hbq1 hbq2
     go_loopg [6,46] Fm.length (λg v6 v46 wr=>∃ (k:Nat) (q3:List Stt) (M3:Nat->Ent),v46=aA aM (k:Int)/\k<=oB Fm/\g=oB Fm - k/\VQ w2 B gm i M M3 q3 v6 wr/\D6 R L (folT T) i T.length B0 D q3 n M3 (m,nd) ct (Fm.take k)/\q3.length+pot T.length Cm (M3 i)<=oB q2+pot T.length Cm (M2 i)/\n<oB q3/\wr.heap[g9]? = oT (aK #[aA aM (m:Int),aA aM (nd:Int)] 183 (0,0))/\v6.ownBlock≠oT g9)
     case atStart=>exact⟨0,q2,M2,rfl,Ze _,rfl,yq.out,Yw.out,A5 _,kx,yU.out,jT.out⟩
     case round =>
      obtain⟨k,q3,M3,rfl,hk,kd,jV,ky,Yo,kq,kU,Ym⟩:=hrel;obtain⟨qa3,qc3,yL, -, -⟩:=jV.own.form;subst yL;obtain⟨jm,jL,jZ,jE,kF,jT⟩:=oG jV ky Yo kd kU Ym;clear jV ky Yo kd kU Ym;by_cases yb:k<oB Fm
      ·have ye:Fm[k]∈Bh R L i m:=by rw[yY.out];exact AI yb
       obtain⟨yy,yw,yx,kV,Yi,yu,r,Yp,yN⟩:=RC HF.out yT.out ye;have kr:Fm[k].out.size<=1000000:=by rw[yN];exact HO.out r Yp
       obtain⟨b1,o1,Ye,k9,r0,r1,r2,r3,r4⟩:=(BC.kp y8.out jm.out.vx.kp).at yb;have YH:=Bb am b1 o1 Fm.length cm k Ye yb;have yP:Fm.take (k+1)=Fm.take k ++ [Fm[k]]:=AR yb;obtain⟨s,hs⟩:∃ s,Fm[k]=s:=⟨_,rfl⟩
       rw[hs]at ye yy yw yx kV Yi yu yN kr r0 r1 r2 r3 r4 yP;obtain⟨frm,dst,inp,out,cost⟩:=s;simp only at yy yw yx kV Yi yu kr r0 r1 r2 r3 r4;obtain⟨d0,rfl⟩:∃ d0:Nat,dst=(d0:Int):=⟨dst.toNat,by omega⟩
       obtain⟨c0,rfl⟩:∃ c0:Nat,cost=(c0:Int):=⟨cost.toNat,by omega⟩
       have y9:=A0 ye;have kw:=A0 yP;have kQ:d0<8:=by omega
       have kO:c0<=D:=by omega
       clear ye yy yw yx yN Ye hs yP Yp yu
       go_upto_region 14 with fail
       obtain⟨w11,j7⟩:∃ w11,wr.alloc (aK #[aA aM frm,aA aM (d0:Int),aI inp,aI out,aA aM (c0:Int)] 88)=w11:=⟨_,rfl⟩
       rw[j7];have j1:Hid (Ext wr w11):=by
        show Ext _ _;rw[<- j7];exact(Z2 _ _).alloc (A5 _) _
       have jD:Hid (w11.heap[wr.heap.size]? = oT (aK #[aA aM frm,aA aM (d0:Int),aI inp,aI out,aA aM (c0:Int)] 88 (0,0))):=by
        show _=_;rw[<- j7];exact Z4 _ _
       obtain⟨g11,kS⟩:∃ g11,wr.heap.size=g11:=⟨_,rfl⟩
       rw[kS]at jD ⊢;have y6:Hid (Kc w w11):=(k6.out.trans jm.out.vx.kp).trans (Kc.of j1.out (A5 _));obtain⟨y0,y1,y2,y3,y4⟩:=Aq jD.out;have yg:Hid (w11.heap[g9]? = oT (aK #[aA aM (m:Int),aA aM (nd:Int)] 183 (0,0))):=(Kc.of j1.out (A5 _)).block _ _ _ _ kF.out;obtain⟨x0,x1⟩:=BF yg.out;have km:=follow_any T nd out (HX.out.kp y6.out) (HT.out.kp y6.out) rfl (by omega) kY kr y5.out;obtain⟨lf,yG⟩:∃ lf,folT T nd (bts out)=lf:=⟨_,rfl⟩
       have kj:=A0 yG;rw[yG]at km;have kD:=A0 km;clear j7 kS km yG r0 r1 r2 r3 r4 YH k9;cases lf with
       | none =>
        go_wp2_with fail
        refine kD.out.mono ?_;rintro e w12 ⟨he,jx⟩;obtain rfl:e=_:=he;have kg:Hid (Ext wr w12):=Ext.trans j1.out jx;obtain⟨z0,z1,z2,z3,z4⟩:=Aq ((jx.block g11 (A7.1 jD.out).1).trans jD.out);have yW:Hid (∀ o,Ext wr (w12.alloc o)):=λo=>Ext.trans kg.out ((Z2 _ _).alloc (A5 _) _);clear jx x0 x1 y0 y1 y2 y3 y4
        go_wp2_with fail
        go_roundg (oB Fm - (k+1))
        case measure=>have:=jE.out;omega
        case rel=>exact⟨k+1,q3,M3,by go_num,by omega,rfl,jm.out.ext (yW.out _) jU,by rw[kw.out];exact jL.out.skip kj.out,jZ.out,kq,(Kc.of (yW.out _) (A5 _)).block _ _ _ _ kF.out,jT.out⟩
       | some n2
            =>
        have yc:n2<oB T:=QB y5.out kY kj.out
        go_wp2_with fail
        refine kD.out.mono ?_;rintro e w12 ⟨he,jx⟩;obtain rfl:e=_:=he;have kg:Hid (Ext wr w12):=Ext.trans j1.out jx;have jH:Hid (w12.heap[g11]? = oT (aK #[aA aM frm,aA aM (d0:Int),aI inp,aI out,aA aM (c0:Int)] 88 (0,0))):=(jx.block g11 (A7.1 jD.out).1).trans jD.out;obtain⟨z0,z1,z2,z3,z4⟩:=Aq jH.out;clear jx x0 x1 y0 y1 y2 y3 y4
        go_upto_region 16 with fail
        obtain⟨w14,j8⟩:∃ w14,w12.alloc (aK #[aA aM (d0:Int),aA aM (n2:Int)] 183)=w14:=⟨_,rfl⟩
        rw[j8];have Jx:Hid (Ext w12 w14):=by
         show Ext _ _;rw[<- j8];exact(Z2 _ _).alloc (A5 _) _
        have jt:Hid (w14.heap[w12.heap.size]? = oT (aK #[aA aM (d0:Int),aA aM (n2:Int)] 183 (0,0))):=by
         show _=_;rw[<- j8];exact Z4 _ _
        obtain⟨g14,kT⟩:∃ g14,w12.heap.size=g14:=⟨_,rfl⟩
        rw[kT]at jt ⊢;have jI:Hid (Ext wr w14):=Ext.trans kg.out Jx.out;have jW:Hid (Kc w w14):=(k6.out.trans jm.out.vx.kp).trans (Kc.of jI.out (A5 _));have jq:Hid (w14.heap[g11]? = oT (aK #[aA aM frm,aA aM (d0:Int),aI inp,aI out,aA aM (c0:Int)] 88 (0,0))):=(Z7 Jx.out g11 (A7.1 jH.out).1).trans jH.out;have jr:Hid (w14.heap[g9]? = oT (aK #[aA aM (m:Int),aA aM (nd:Int)] 183 (0,0))):=(Kc.of jI.out (A5 _)).block _ _ _ _ kF.out;have jf:=A0 (jm.out.ext jI.out jU);have kG:=A0 jL.out.here;obtain⟨jn,yF⟩:∃ jn,(i+inp.size) % 5=jn:=⟨_,rfl⟩
        have kv:=A0 yF;have yJ:=jf.out.vx.maps (i+inp.size) (by omega) (by omega);have yH:=jf.out.vx.maps i (A5 _) (by omega);rw[yF]at yJ;rw[Yy.out]at yH;have ju:=A0 yJ;have j9:=A0 yH;have k7:Hid ((M3 (i+inp.size)).length<1000000):=by show _<_;have:=jL.out.bnd.len (i+inp.size);omega
        have jY:Hid (Bp.ok (m,nd)):=⟨by show m<1000000;omega,by show nd<1000000;omega⟩
        have jX:Hid (Bp.ok (d0,n2)):=⟨by show d0<1000000;omega,by show n2<1000000;omega⟩
        obtain⟨z0',z1',z2',z3',z4'⟩:=Aq jq.out;obtain⟨x0',x1'⟩:=BF jr.out;obtain⟨u0',u1'⟩:=BF jt.out;clear j8 kT yF yJ yH z0 z1 z2 z3 z4;have hw1:IntKind.i64.wrap ((i:Int)+(inp.size:Int))=(i:Int)+(inp.size:Int):=Zq _ (by omega);have k4:IntKind.i64.wrap ((ct:Int)+(c0:Int))=(ct:Int)+(c0:Int):=Zq _ (by omega);have j2:=UG d0 n2 m nd;by_cases hz:inp.size=0
        ·have YM:(
               (inp.size:Int) == 0)=oF:=by rw[hz];rfl
         by_cases hs:(d0,n2)=(m,nd)
         ·have kK:Hid (D6 R L (folT T) i T.length B0 D q3 n M3 (m,nd) ct (Fm.take k ++ [⟨frm,(d0:Int),inp,out,(c0:Int)⟩])):=jL.out.same (n':=n2) (old:=ct) kj.out (by show look (M3 (i+inp.size)) (d0,n2)=_;rw[hz,hs];exact kG.out) (z8 _ _);have k3:decide ((d0,n2)=(m,nd))=oF:=decide_eq_true hs;rw[k3]at j2;clear k3 hz hs
          go_wp2_with fail
          go_roundg (oB Fm - (k+1))
          case measure=>have:=jE.out;omega
          case rel=>exact⟨k+1,q3,M3,by go_num,by omega,rfl,jf.out,by rw[kw.out];exact kK.out,jZ.out,kq,jr.out,jT.out⟩
         ·have k3:decide ((d0,n2)=(m,nd))=oH:=decide_eq_false hs;rw[k3]at j2;have HZ:=A0 hz;have yj:Hid (inp.size=0->(d0,n2)≠(m,nd)):=λ_=>hs;clear k3 hz hs
          go_wp2_with fail
          clear j2 x0' x1' u0' u1' z0' z1' z2' z3' z4';obtain⟨po,j6⟩:∃ po,look (M3 (i+inp.size)) (d0,n2)=po:=⟨_,rfl⟩
          by_cases jy:∃ old,po=oT old/\old<=ct+c0
          ·obtain⟨old,rfl,kZ⟩:=jy;have kI:=A0 j6;have kH:=A0 kZ;have kK:Hid (D6 R L (folT T) i T.length B0 D q3 n M3 (m,nd) ct (Fm.take k ++ [⟨frm,(d0:Int),inp,out,(c0:Int)⟩])):=jL.out.same (n':=n2) (old:=old) kj.out kI.out kH.out;clear j6 kZ;refine Ay (by kernel_rfl) (Vs [vq (aB (oT ⟨gx,0,oS⟩)),vq (aA aM (i:Int)),vq (aB (oT ⟨g11,2,oS⟩)),vq (aI inp),vq (aA aM (inp.size:Int)),vq (aA aM ((i:Int)+(inp.size:Int))),vq (aJ #[aA aM (d0:Int),aA aM (n2:Int)]),vq (.map (oT (gm jh))),vq (aJ #[aA aM (m:Int),aA aM (nd:Int)]),vq (aA aM (ct:Int)),vq (aB (oT ⟨g11,4,oS⟩)),vq (aA aM (c0:Int)),vq (aA aM ((ct:Int)+(c0:Int))),vq (aH oH),vq (aH oH),vq (Z8),vq (Z8),vq (Z8),vq (Z8),vq (aH oH)]) (Xs []) (λfL=>(λW=>Ext w14 W) ) [0,0,0,4,12,30,0,0,0,384,0,1024,3968,8191,16383,32767,65535,131071,262143,524287] 101 20 (by kernel_rfl) rfl ?hV ?hS ?hop ?hfin ?hlast
           case hV =>
            refine Bi (BB (by simp only[AX,ZN,or_false,forall_eq_or_imp,forall_eq];and_intros <;> exact Ab _)) ?_;exact trivial
           case hS =>
            intro fL hf;show(λW=>Ext w14 W)  _
            first | exact Ext.refl _ | exact Dr _
           case hop =>
            refine⟨?_,?_,?_,?_,?_,?_,?_,?_,?_,?c9,?_,?_,?_,?c13,?_,?_,?_,?_,?_,?_,trivial⟩
            all_goals first | rw[if_neg (by decide)] | rw[if_pos (by decide)]
            all_goals try intro ac W fL je jo j5 j3 jb jd ja jz
            all_goals try have hS:(λW=>Ext w14 W)  W:=jb
            all_goals try (
             have jp:Kc w14 W:=Kc.of jb (A5 _);obtain⟨z0,z1,z2,z3,z4⟩:=Aq (jp.block _ _ _ _ jq.out);obtain⟨x0,x1⟩:=BF (jp.block _ _ _ _ jr.out);obtain⟨u0,u1⟩:=BF (jp.block _ _ _ _ jt.out);clear jp)
            all_goals try have yA:=gdA ac 0 (aB (oT ⟨gx,0,oS⟩)) (ja 0 (by kernel_rfl))
            all_goals try have yB:=gdA ac 1 (aA aM (i:Int)) (ja 1 (by kernel_rfl))
            all_goals try have yC:=gdA ac 5 (.map (oT (gm jh))) (ja 5 (by kernel_rfl))
            all_goals try have yD:=gdA ac 9 (aB (oT ⟨g9,0,oS⟩)) (ja 9 (by kernel_rfl))
            all_goals try have kn:=gdA ac 11 (aB (oT ⟨g11,0,oS⟩)) (ja 11 (by kernel_rfl))
            all_goals try have ko:=gdA ac 14 (aB (oT ⟨g14,0,oS⟩)) (ja 14 (by kernel_rfl))
            all_goals try (have jd:=GC jd;simp[FK,Ae,vq]at jd)
            all_goals try clear ja j5 j3 jz
            case c9 =>
             have jw:(λW=>Ext w14 W)  W:=jb;have jj:=(j9.out.kept (Z7 hS _ j9.out.lt)).look CU (x:=(m,nd)) jY.out;rw[kG.out]at jj;simp only[Bp,Gm,Option.getD]at jj;refine Ag rfl (.inl ⟨_,W,?_,rfl,Ext.refl _,jw⟩);clear je hS jb jw jo;simp[go_sem,Zf, *]
            case c13 =>
             have jw:(λW=>Ext w14 W)  W:=jb;have jc:=Sa (i+inp.size) jn d0 n2 (ct+c0) (M3 (i+inp.size)) (by omega) kv.out ((HX.out.kp jW.out).kp (Kc.of hS (A5 _))) (ju.out.kept (Z7 hS _ ju.out.lt)) jX.out k7.out (by omega) old kI.out kH.out;rw[show((i+inp.size:Nat):Int)=(i:Int)+(inp.size:Int) by omega,show((ct+c0:Nat):Int)=(ct:Int)+(c0:Int) by omega]at jc;refine Ag rfl (.inr ⟨106,#[aB (oT ⟨gx,0,oS⟩),aA aM ((i:Int)+(inp.size:Int)),aJ #[aA aM (d0:Int),aA aM (n2:Int)],aA aM ((ct:Int)+(c0:Int))],W,by(clear je hS jb jw jo jc;simp[go_sem,Zf, *]),?_⟩);refine jc.mono ?_;rintro e w' ⟨rfl,hp⟩;exact⟨_,rfl,⟨rfl,hp,Ext.trans jb hp⟩⟩
            all_goals try exact Ib (j:=14) (d:=90) (b:=oH) rfl (by kernel_rfl) (by simp only[jd]) rfl ⟨rfl,jb⟩
            all_goals (refine Ag rfl (.inl ⟨_,W,?_,rfl,Ext.refl _,jb⟩);clear je hS jb jo;simp[go_sem,Zf, *];done)
           case hlast =>
            intro h;exact absurd rfl h
           case hfin =>
            intro _ ac W je jM fL hf jb hv ja;have hS:(λW=>Ext w14 W)  W:=jb;clear jb;obtain⟨sx,jR,jP⟩:=B7 [76,77,78,79,80,81,82,83,84,85,86,87,88,89,90,91,92,93,94,95] (by kernel_rfl) je jM ja;have e95:sx 95=aH oH:=(jR 95).trans (hv 19 (by decide));rw[jP];simp only[Zp];rw[e95];clear e95;simp only[ZE,Z5,Za,Z9];clear jP jR hv ja je jM hf;have kB:Hid (Ext wr W):=Ext.trans jI.out hS;clear hS
            go_wp2_with fail
            go_roundg (oB Fm - (k+1))
            case measure=>have:=jE.out;omega
            case rel=>exact⟨k+1,q3,M3,by go_num,by omega,rfl,jm.out.ext kB.out jU,by rw[kw.out];exact kK.out,jZ.out,kq,(Kc.of kB.out (A5 _)).block _ _ _ _ kF.out,jT.out⟩
          ·have kk:Hid (∀ x,look (M3 (i+inp.size)) (d0,n2)=oT x->ct+c0<x):=λx hx=>by
            rw[j6]at hx;exact Nat.lt_of_not_le λh9=>jy ⟨x,hx,h9⟩
           have jc:D6 R L (folT T) i T.length B0 D (if inp.size=0 then q3 ++ [(d0,n2)] else q3) n (ED M3 (i+inp.size) (d0,n2) (ct+c0)) (m,nd) ct (Fm.take k ++ [⟨frm,(d0:Int),inp,out,(c0:Int)⟩]):=jL.out.put (m:=d0) y9.out HF.out kj.out yc kO rfl kq kk.out yj.out;have jO:=Ny (q:=q3) (C:=Cm) (j:=i+inp.size) (c:=ct+c0) jL.out.bnd (by omega) kQ yc (by omega) kk.out;rw[if_pos HZ.out]at jc;rw[if_pos (by have:=HZ.out;omega)]at jO;rw[Nat.add_comm]at jO;rw[Nat.add_comm (pot T.length Cm (M3 i))]at jO;have ym:=A0 jc;have yl:=A0 jO;clear j6 jy jc jO;refine Ay (by kernel_rfl) (Vs [vq (aB (oT ⟨gx,0,oS⟩)),vq (aA aM (i:Int)),vq (aB (oT ⟨g11,2,oS⟩)),vq (aI inp),vq (aA aM (inp.size:Int)),vq (aA aM ((i:Int)+(inp.size:Int))),vq (aJ #[aA aM (d0:Int),aA aM (n2:Int)]),vq (.map (oT (gm jh))),vq (aJ #[aA aM (m:Int),aA aM (nd:Int)]),vq (aA aM (ct:Int)),vq (aB (oT ⟨g11,4,oS⟩)),vq (aA aM (c0:Int)),vq (aA aM ((ct:Int)+(c0:Int))),vq (aH oF),vq (aH oF),vq (aB (oT ⟨g11,2,oS⟩)),vq (aI inp),vq (aA aM (inp.size:Int)),vq (aH oF),vq (aH oF)]) (Xs [Ext,Ext,Ext,Ext,Ext,Ext,Ext,Ext,Ext,Ext,Ext,Ext,Ext,(λ_ _=>True),Ext,Ext,Ext,Ext,Ext,Ext]) (λfL=>(Gp w14 (gm jn) (d0,n2) (M3 (i+inp.size)) (ct+c0)) (fL 13)) [0,0,0,4,12,30,0,0,0,384,0,1024,3968,8191,16383,32767,65535,131071,262143,524287] 101 20 (by kernel_rfl) rfl ?hV ?hS ?hop ?hfin ?hlast
           case hV =>
            refine Bi (BB (by simp only[AX,ZN,or_false,forall_eq_or_imp,forall_eq];and_intros <;> exact Ab _)) ?_;exact⟨.inl rfl,.inl rfl,.inl rfl,.inl rfl,.inl rfl,.inl rfl,.inl rfl,.inl rfl,.inl rfl,.inl rfl,.inl rfl,.inl rfl,.inl rfl,.inr (BU ⟨λ_ _=>λ_ _ _ h _=>h,λ_ _=>λ_ _ _ h _=>h,λ_ _=>λ_ _ _ h _=>h,λ_ _=>λ_ _ _ h _=>h,λ_ _=>λ_ _ _ h _=>h,λ_ _=>λ_ _ _ h _=>h,λ_ _=>λ_ _ _ h _=>h,λ_ _=>λ_ _ _ h _=>h,λ_ _=>λ_ _ _ h _=>h,λ_ _=>λ_ _ _ h _=>h,λ_ _=>λ_ _ _ h _=>h,λ_ _=>λ_ _ _ h _=>h,λ_ _=>λ_ _ _ h _=>h,λh=>absurd rfl h,λ_ h=>absurd h (by decide),λ_ h=>absurd h (by decide),λ_ h=>absurd h (by decide),λ_ h=>absurd h (by decide),λ_ h=>absurd h (by decide),λ_ h=>absurd h (by decide),trivial⟩),.inl rfl,.inl rfl,.inl rfl,.inl rfl,.inl rfl,.inl rfl,trivial⟩
           case hS =>
            intro fL hf;show(Gp w14 (gm jn) (d0,n2) (M3 (i+inp.size)) (ct+c0)) (fL 13) _;rw[hf 13 (by decide)]
            first | exact Ext.refl _ | exact Dr _
           case hop =>
            refine⟨?_,?_,?_,?_,?_,?_,?_,?_,?_,?c9,?_,?_,?_,?c13,?_,?_,?_,?_,?_,?_,trivial⟩
            all_goals first | rw[if_neg (by decide)] | rw[if_pos (by decide)]
            all_goals try intro ac W fL je jo j5 j3 jb jd ja jz
            all_goals try have hS:(Gp w14 (gm jn) (d0,n2) (M3 (i+inp.size)) (ct+c0)) (fL 13) W:=jb
            all_goals try (have jg:fL 13=oF:=j5 13 (by decide);rw[jg]at hS)
            all_goals try (have jg:fL 13=oH:=(by first | exact jo | exact j3 13 (by decide) (by decide));rw[jg]at hS)
            all_goals try (
             have jp:Kc w14 W:=Gp.kp ju.out jb;obtain⟨z0,z1,z2,z3,z4⟩:=Aq (jp.block _ _ _ _ jq.out);obtain⟨x0,x1⟩:=BF (jp.block _ _ _ _ jr.out);obtain⟨u0,u1⟩:=BF (jp.block _ _ _ _ jt.out);clear jp)
            all_goals try have yA:=gdA ac 0 (aB (oT ⟨gx,0,oS⟩)) (ja 0 (by kernel_rfl))
            all_goals try have yB:=gdA ac 1 (aA aM (i:Int)) (ja 1 (by kernel_rfl))
            all_goals try have yC:=gdA ac 5 (.map (oT (gm jh))) (ja 5 (by kernel_rfl))
            all_goals try have yD:=gdA ac 9 (aB (oT ⟨g9,0,oS⟩)) (ja 9 (by kernel_rfl))
            all_goals try have kn:=gdA ac 11 (aB (oT ⟨g11,0,oS⟩)) (ja 11 (by kernel_rfl))
            all_goals try have ko:=gdA ac 14 (aB (oT ⟨g14,0,oS⟩)) (ja 14 (by kernel_rfl))
            all_goals try (have jd:=GC jd;simp[FK,Ae,vq]at jd)
            all_goals try clear ja j5 j3 jz
            case c9 =>
             have jw:(Gp w14 (gm jn) (d0,n2) (M3 (i+inp.size)) (ct+c0)) ((upd fL 9) 13) W:=jb;have jj:=(j9.out.kept (Z7 hS _ j9.out.lt)).look CU (x:=(m,nd)) jY.out;rw[kG.out]at jj;simp only[Bp,Gm,Option.getD]at jj;refine Ag rfl (.inl ⟨_,W,?_,rfl,Ext.refl _,jw⟩);clear je hS jb jw jo;simp[go_sem,Zf, *]
            case c13 =>
             have jc:=Q9 (i+inp.size) jn d0 n2 (ct+c0) (M3 (i+inp.size)) (by omega) kv.out ((HX.out.kp jW.out).kp (Kc.of hS (A5 _))) (ju.out.kept (Z7 hS _ ju.out.lt)) jX.out k7.out (by omega) kk.out;rw[show((i+inp.size:Nat):Int)=(i:Int)+(inp.size:Int) by omega,show((ct+c0:Nat):Int)=(ct:Int)+(c0:Int) by omega]at jc;refine Ag rfl (.inr ⟨106,#[aB (oT ⟨gx,0,oS⟩),aA aM ((i:Int)+(inp.size:Int)),aJ #[aA aM (d0:Int),aA aM (n2:Int)],aA aM ((ct:Int)+(c0:Int))],W,by(clear je hS jb jo jc;simp[go_sem,Zf, *]),?_⟩);refine jc.mono ?_;rintro e w' ⟨rfl,hp⟩;refine⟨_,rfl,rfl,trivial,?_⟩;show Gp w14 (gm jn) (d0,n2) (M3 (i+inp.size)) (ct+c0) (upd fL 13 13) w';rw[show upd fL 13 13=oF from if_pos rfl];exact F9.of_ext hS hp
            all_goals try (refine ES (j:=14) (d:=90) (b:=oF) rfl (by kernel_rfl) (by simp only[jd]) rfl (.inl ⟨_,W,?_,rfl,Ext.refl _,jb⟩);clear je hS jb jo;simp[go_sem,Zf, *];done)
            all_goals (refine Ag rfl (.inl ⟨_,W,?_,rfl,Ext.refl _,jb⟩);clear je hS jb jo;simp[go_sem,Zf, *];done)
           case hlast =>
            intro h;exact absurd rfl h
           case hfin =>
            intro _ ac W je jM fL hf jb hv ja;have hS:(Gp w14 (gm jn) (d0,n2) (M3 (i+inp.size)) (ct+c0)) (fL 13) W:=jb;clear jb;rw[hf 13 (by decide)]at hS;obtain⟨sx,jR,jP⟩:=B7 [76,77,78,79,80,81,82,83,84,85,86,87,88,89,90,91,92,93,94,95] (by kernel_rfl) je jM ja;have e95:sx 95=aH oF:=(jR 95).trans (hv 19 (by decide));rw[jP];simp only[Zp];rw[e95];clear e95;simp only[ZE,Z5,Za,Z9];clear jP jR hv ja je jM hf;have js:VX w2 B gm i (ED M3 (i+inp.size) (d0,n2) (ct+c0)) W:=jf.out.vx.put HG.out (by omega) (by omega) (by rw[kv.out];exact hS) jU;have jk:=jf.out.own.put_keep ju.out hS;have jJ:Hid (W.heap[g9]? = oT (aK #[aA aM (m:Int),aA aM (nd:Int)] 183 (0,0))):=(F9.kp hS ju.out).block _ _ _ _ jr.out;have jB:=A0 js;have jA:=A0 jk;have jv:Hid (∀ j,¬ (i<=j/\j<i+5)->ED M3 (i+inp.size) (d0,n2) (ct+c0) j=M j):=λj hj=>by
             unfold ED;rw[if_neg (by omega)];exact jm.out.out j hj
            obtain⟨u0,u1⟩:=BF ((F9.kp hS ju.out).block _ _ _ _ jt.out);clear hS js jk
            go_wp2_with (at_builtin;go_loud (refine Ah (v:=aG qa3 q3.length qc3) Gh rfl _ _ rfl rfl (jA.out.later ((Z2 _ _).alloc (A5 _) _) (A5 _)) ⟨W.heap.size,0,oS⟩ 1 [(d0,n2)] rfl (Ai (Z4 _ _)) (by have:=jZ.out;have:=jF.out;simp only[AE];omega) (by have:=jB.out.kp.size;simp only[A8];omega) ?_);intro v16 w16 jN jC ka;obtain⟨yk,kE,kz⟩:=oC jN jC ka;clear jN jC ka)
            go_roundg (oB Fm - (k+1))
            case measure=>have:=jE.out;omega
            case rel =>
             have ku:Ext W (W.alloc (aK #[aA aM (d0:Int),aA aM (n2:Int)] 183)):=(Z2 _ _).alloc (A5 _) _;exact⟨k+1,q3 ++ [(d0,n2)],_,by go_num,by omega,rfl,⟨(jB.out.ext ku jU).grown (jA.out.later ku (A5 _)) kE.out jU,yk.out,jv.out⟩,by rw[kw.out];exact ym.out,AA yl.out jZ.out,by rw[AD];omega,(kE.out.block g9 (by have:=(A7.1 jJ.out).1;simp only[A8];omega) λe=>jT.out e.symm).trans ((Kc.of ku (A5 _)).block _ _ _ _ jJ.out),λe=>by
              rcases kz.out with h1 | h1
              · exact jT.out (h1.symm.trans e)
              ·rw[h1]at e;injection e with e;have:=(A7.1 jJ.out).1;simp only[A8]at e;omega⟩
        ·have YM:((inp.size:Int) == 0)=oH:=by simpa using hz
         have HZ:=A0 hz;have yj:Hid (inp.size=0->(d0,n2)≠(m,nd)):=λh=>absurd h HZ.out;clear hz
         go_wp2_with fail
         clear j2 x0' x1' u0' u1' z0' z1' z2' z3' z4';obtain⟨po,j6⟩:∃ po,look (M3 (i+inp.size)) (d0,n2)=po:=⟨_,rfl⟩
         by_cases jy:∃ old,po=oT old/\old<=ct+c0
         ·obtain⟨old,rfl,kZ⟩:=jy;have kI:=A0 j6;have kH:=A0 kZ;have kK:Hid (D6 R L (folT T) i T.length B0 D q3 n M3 (m,nd) ct (Fm.take k ++ [⟨frm,(d0:Int),inp,out,(c0:Int)⟩])):=jL.out.same (n':=n2) (old:=old) kj.out kI.out kH.out;clear j6 kZ;refine Ay (by kernel_rfl) (Vs [vq (aB (oT ⟨gx,0,oS⟩)),vq (aA aM (i:Int)),vq (aB (oT ⟨g11,2,oS⟩)),vq (aI inp),vq (aA aM (inp.size:Int)),vq (aA aM ((i:Int)+(inp.size:Int))),vq (aJ #[aA aM (d0:Int),aA aM (n2:Int)]),vq (.map (oT (gm jh))),vq (aJ #[aA aM (m:Int),aA aM (nd:Int)]),vq (aA aM (ct:Int)),vq (aB (oT ⟨g11,4,oS⟩)),vq (aA aM (c0:Int)),vq (aA aM ((ct:Int)+(c0:Int))),vq (aH oH),vq (aH oH),vq (Z8),vq (Z8),vq (Z8),vq (Z8),vq (aH oH)]) (Xs []) (λfL=>(λW=>Ext w14 W) ) [0,0,0,4,12,30,0,0,0,384,0,1024,3968,8191,16383,32767,65535,131071,262143,524287] 101 20 (by kernel_rfl) rfl ?hV ?hS ?hop ?hfin ?hlast
          case hV =>
           refine Bi (BB (by simp only[AX,ZN,or_false,forall_eq_or_imp,forall_eq];and_intros <;> exact Ab _)) ?_;exact trivial
          case hS =>
           intro fL hf;show(λW=>Ext w14 W)  _
           first | exact Ext.refl _ | exact Dr _
          case hop =>
           refine⟨?_,?_,?_,?_,?_,?_,?_,?_,?_,?c9,?_,?_,?_,?c13,?_,?_,?_,?_,?_,?_,trivial⟩
           all_goals first | rw[if_neg (by decide)] | rw[if_pos (by decide)]
           all_goals try intro ac W fL je jo j5 j3 jb jd ja jz
           all_goals try have hS:(λW=>Ext w14 W)  W:=jb
           all_goals try (
            have jp:Kc w14 W:=Kc.of jb (A5 _);obtain⟨z0,z1,z2,z3,z4⟩:=Aq (jp.block _ _ _ _ jq.out);obtain⟨x0,x1⟩:=BF (jp.block _ _ _ _ jr.out);obtain⟨u0,u1⟩:=BF (jp.block _ _ _ _ jt.out);clear jp)
           all_goals try have yA:=gdA ac 0 (aB (oT ⟨gx,0,oS⟩)) (ja 0 (by kernel_rfl))
           all_goals try have yB:=gdA ac 1 (aA aM (i:Int)) (ja 1 (by kernel_rfl))
           all_goals try have yC:=gdA ac 5 (.map (oT (gm jh))) (ja 5 (by kernel_rfl))
           all_goals try have yD:=gdA ac 9 (aB (oT ⟨g9,0,oS⟩)) (ja 9 (by kernel_rfl))
           all_goals try have kn:=gdA ac 11 (aB (oT ⟨g11,0,oS⟩)) (ja 11 (by kernel_rfl))
           all_goals try have ko:=gdA ac 14 (aB (oT ⟨g14,0,oS⟩)) (ja 14 (by kernel_rfl))
           all_goals try (have jd:=GC jd;simp[FK,Ae,vq]at jd)
           all_goals try clear ja j5 j3 jz
           case c9 =>
            have jw:(λW=>Ext w14 W)  W:=jb;have jj:=(j9.out.kept (Z7 hS _ j9.out.lt)).look CU (x:=(m,nd)) jY.out;rw[kG.out]at jj;simp only[Bp,Gm,Option.getD]at jj;refine Ag rfl (.inl ⟨_,W,?_,rfl,Ext.refl _,jw⟩);clear je hS jb jw jo;simp[go_sem,Zf, *]
           case c13 =>
            have jw:(λW=>Ext w14 W)  W:=jb;have jc:=Sa (i+inp.size) jn d0 n2 (ct+c0) (M3 (i+inp.size)) (by omega) kv.out ((HX.out.kp jW.out).kp (Kc.of hS (A5 _))) (ju.out.kept (Z7 hS _ ju.out.lt)) jX.out k7.out (by omega) old kI.out kH.out;rw[show((i+inp.size:Nat):Int)=(i:Int)+(inp.size:Int) by omega,show((ct+c0:Nat):Int)=(ct:Int)+(c0:Int) by omega]at jc;refine Ag rfl (.inr ⟨106,#[aB (oT ⟨gx,0,oS⟩),aA aM ((i:Int)+(inp.size:Int)),aJ #[aA aM (d0:Int),aA aM (n2:Int)],aA aM ((ct:Int)+(c0:Int))],W,by(clear je hS jb jw jo jc;simp[go_sem,Zf, *]),?_⟩);refine jc.mono ?_;rintro e w' ⟨rfl,hp⟩;exact⟨_,rfl,⟨rfl,hp,Ext.trans jb hp⟩⟩
           all_goals try exact Ib (j:=14) (d:=90) (b:=oH) rfl (by kernel_rfl) (by simp only[jd]) rfl ⟨rfl,jb⟩
           all_goals (refine Ag rfl (.inl ⟨_,W,?_,rfl,Ext.refl _,jb⟩);clear je hS jb jo;simp[go_sem,Zf, *];done)
          case hlast =>
           intro h;exact absurd rfl h
          case hfin =>
           intro _ ac W je jM fL hf jb hv ja;have hS:(λW=>Ext w14 W)  W:=jb;clear jb;obtain⟨sx,jR,jP⟩:=B7 [76,77,78,79,80,81,82,83,84,85,86,87,88,89,90,91,92,93,94,95] (by kernel_rfl) je jM ja;have e95:sx 95=aH oH:=(jR 95).trans (hv 19 (by decide));rw[jP];simp only[Zp];rw[e95];clear e95;simp only[ZE,Z5,Za,Z9];clear jP jR hv ja je jM hf;have kB:Hid (Ext wr W):=Ext.trans jI.out hS;clear hS
           go_wp2_with fail
           go_roundg (oB Fm - (k+1))
           case measure=>have:=jE.out;omega
           case rel=>exact⟨k+1,q3,M3,by go_num,by omega,rfl,jm.out.ext kB.out jU,by rw[kw.out];exact kK.out,jZ.out,kq,(Kc.of kB.out (A5 _)).block _ _ _ _ kF.out,jT.out⟩
         ·have kk:Hid (∀ x,look (M3 (i+inp.size)) (d0,n2)=oT x->ct+c0<x):=λx hx=>by
           rw[j6]at hx;exact Nat.lt_of_not_le λh9=>jy ⟨x,hx,h9⟩
          have jc:D6 R L (folT T) i T.length B0 D (if inp.size=0 then q3 ++ [(d0,n2)] else q3) n (ED M3 (i+inp.size) (d0,n2) (ct+c0)) (m,nd) ct (Fm.take k ++ [⟨frm,(d0:Int),inp,out,(c0:Int)⟩]):=jL.out.put (m:=d0) y9.out HF.out kj.out yc kO rfl kq kk.out yj.out;have jO:=Ny (q:=q3) (C:=Cm) (j:=i+inp.size) (c:=ct+c0) jL.out.bnd (by omega) kQ yc (by omega) kk.out;rw[if_neg HZ.out]at jc;rw[if_neg (by have:=HZ.out;omega)]at jO;rw[Nat.add_comm]at jO;rw[Nat.add_comm (pot T.length Cm (M3 i))]at jO;have ym:=A0 jc;have yl:=A0 jO;clear j6 jy jc jO;refine Ay (by kernel_rfl) (Vs [vq (aB (oT ⟨gx,0,oS⟩)),vq (aA aM (i:Int)),vq (aB (oT ⟨g11,2,oS⟩)),vq (aI inp),vq (aA aM (inp.size:Int)),vq (aA aM ((i:Int)+(inp.size:Int))),vq (aJ #[aA aM (d0:Int),aA aM (n2:Int)]),vq (.map (oT (gm jh))),vq (aJ #[aA aM (m:Int),aA aM (nd:Int)]),vq (aA aM (ct:Int)),vq (aB (oT ⟨g11,4,oS⟩)),vq (aA aM (c0:Int)),vq (aA aM ((ct:Int)+(c0:Int))),vq (aH oF),vq (aH oF),vq (aB (oT ⟨g11,2,oS⟩)),vq (aI inp),vq (aA aM (inp.size:Int)),vq (aH oH),vq (aH oH)]) (Xs [Ext,Ext,Ext,Ext,Ext,Ext,Ext,Ext,Ext,Ext,Ext,Ext,Ext,(λ_ _=>True),Ext,Ext,Ext,Ext,Ext,Ext]) (λfL=>(Gp w14 (gm jn) (d0,n2) (M3 (i+inp.size)) (ct+c0)) (fL 13)) [0,0,0,4,12,30,0,0,0,384,0,1024,3968,8191,16383,32767,65535,131071,262143,524287] 101 20 (by kernel_rfl) rfl ?hV ?hS ?hop ?hfin ?hlast
          case hV =>
           refine Bi (BB (by simp only[AX,ZN,or_false,forall_eq_or_imp,forall_eq];and_intros <;> exact Ab _)) ?_;exact⟨.inl rfl,.inl rfl,.inl rfl,.inl rfl,.inl rfl,.inl rfl,.inl rfl,.inl rfl,.inl rfl,.inl rfl,.inl rfl,.inl rfl,.inl rfl,.inr (BU ⟨λ_ _=>λ_ _ _ h _=>h,λ_ _=>λ_ _ _ h _=>h,λ_ _=>λ_ _ _ h _=>h,λ_ _=>λ_ _ _ h _=>h,λ_ _=>λ_ _ _ h _=>h,λ_ _=>λ_ _ _ h _=>h,λ_ _=>λ_ _ _ h _=>h,λ_ _=>λ_ _ _ h _=>h,λ_ _=>λ_ _ _ h _=>h,λ_ _=>λ_ _ _ h _=>h,λ_ _=>λ_ _ _ h _=>h,λ_ _=>λ_ _ _ h _=>h,λ_ _=>λ_ _ _ h _=>h,λh=>absurd rfl h,λ_ h=>absurd h (by decide),λ_ h=>absurd h (by decide),λ_ h=>absurd h (by decide),λ_ h=>absurd h (by decide),λ_ h=>absurd h (by decide),λ_ h=>absurd h (by decide),trivial⟩),.inl rfl,.inl rfl,.inl rfl,.inl rfl,.inl rfl,.inl rfl,trivial⟩
          case hS =>
           intro fL hf;show(Gp w14 (gm jn) (d0,n2) (M3 (i+inp.size)) (ct+c0)) (fL 13) _;rw[hf 13 (by decide)]
           first | exact Ext.refl _ | exact Dr _
          case hop =>
           refine⟨?_,?_,?_,?_,?_,?_,?_,?_,?_,?c9,?_,?_,?_,?c13,?_,?_,?_,?_,?_,?_,trivial⟩
           all_goals first | rw[if_neg (by decide)] | rw[if_pos (by decide)]
           all_goals try intro ac W fL je jo j5 j3 jb jd ja jz
           all_goals try have hS:(Gp w14 (gm jn) (d0,n2) (M3 (i+inp.size)) (ct+c0)) (fL 13) W:=jb
           all_goals try (have jg:fL 13=oF:=j5 13 (by decide);rw[jg]at hS)
           all_goals try (have jg:fL 13=oH:=(by first | exact jo | exact j3 13 (by decide) (by decide));rw[jg]at hS)
           all_goals try (
            have jp:Kc w14 W:=Gp.kp ju.out jb;obtain⟨z0,z1,z2,z3,z4⟩:=Aq (jp.block _ _ _ _ jq.out);obtain⟨x0,x1⟩:=BF (jp.block _ _ _ _ jr.out);obtain⟨u0,u1⟩:=BF (jp.block _ _ _ _ jt.out);clear jp)
           all_goals try have yA:=gdA ac 0 (aB (oT ⟨gx,0,oS⟩)) (ja 0 (by kernel_rfl))
           all_goals try have yB:=gdA ac 1 (aA aM (i:Int)) (ja 1 (by kernel_rfl))
           all_goals try have yC:=gdA ac 5 (.map (oT (gm jh))) (ja 5 (by kernel_rfl))
           all_goals try have yD:=gdA ac 9 (aB (oT ⟨g9,0,oS⟩)) (ja 9 (by kernel_rfl))
           all_goals try have kn:=gdA ac 11 (aB (oT ⟨g11,0,oS⟩)) (ja 11 (by kernel_rfl))
           all_goals try have ko:=gdA ac 14 (aB (oT ⟨g14,0,oS⟩)) (ja 14 (by kernel_rfl))
           all_goals try (have jd:=GC jd;simp[FK,Ae,vq]at jd)
           all_goals try clear ja j5 j3 jz
           case c9 =>
            have jw:(Gp w14 (gm jn) (d0,n2) (M3 (i+inp.size)) (ct+c0)) ((upd fL 9) 13) W:=jb;have jj:=(j9.out.kept (Z7 hS _ j9.out.lt)).look CU (x:=(m,nd)) jY.out;rw[kG.out]at jj;simp only[Bp,Gm,Option.getD]at jj;refine Ag rfl (.inl ⟨_,W,?_,rfl,Ext.refl _,jw⟩);clear je hS jb jw jo;simp[go_sem,Zf, *]
           case c13 =>
            have jc:=Q9 (i+inp.size) jn d0 n2 (ct+c0) (M3 (i+inp.size)) (by omega) kv.out ((HX.out.kp jW.out).kp (Kc.of hS (A5 _))) (ju.out.kept (Z7 hS _ ju.out.lt)) jX.out k7.out (by omega) kk.out;rw[show((i+inp.size:Nat):Int)=(i:Int)+(inp.size:Int) by omega,show((ct+c0:Nat):Int)=(ct:Int)+(c0:Int) by omega]at jc;refine Ag rfl (.inr ⟨106,#[aB (oT ⟨gx,0,oS⟩),aA aM ((i:Int)+(inp.size:Int)),aJ #[aA aM (d0:Int),aA aM (n2:Int)],aA aM ((ct:Int)+(c0:Int))],W,by(clear je hS jb jo jc;simp[go_sem,Zf, *]),?_⟩);refine jc.mono ?_;rintro e w' ⟨rfl,hp⟩;refine⟨_,rfl,rfl,trivial,?_⟩;show Gp w14 (gm jn) (d0,n2) (M3 (i+inp.size)) (ct+c0) (upd fL 13 13) w';rw[show upd fL 13 13=oF from if_pos rfl];exact F9.of_ext hS hp
           all_goals try (refine ES (j:=14) (d:=90) (b:=oF) rfl (by kernel_rfl) (by simp only[jd]) rfl (.inl ⟨_,W,?_,rfl,Ext.refl _,jb⟩);clear je hS jb jo;simp[go_sem,Zf, *];done)
           all_goals (refine Ag rfl (.inl ⟨_,W,?_,rfl,Ext.refl _,jb⟩);clear je hS jb jo;simp[go_sem,Zf, *];done)
          case hlast =>
           intro h;exact absurd rfl h
          case hfin =>
           intro _ ac W je jM fL hf jb hv ja;have hS:(Gp w14 (gm jn) (d0,n2) (M3 (i+inp.size)) (ct+c0)) (fL 13) W:=jb;clear jb;rw[hf 13 (by decide)]at hS;obtain⟨sx,jR,jP⟩:=B7 [76,77,78,79,80,81,82,83,84,85,86,87,88,89,90,91,92,93,94,95] (by kernel_rfl) je jM ja;have e95:sx 95=aH oH:=(jR 95).trans (hv 19 (by decide));rw[jP];simp only[Zp];rw[e95];clear e95;simp only[ZE,Z5,Za,Z9];clear jP jR hv ja je jM hf;have js:VX w2 B gm i (ED M3 (i+inp.size) (d0,n2) (ct+c0)) W:=jf.out.vx.put HG.out (by omega) (by omega) (by rw[kv.out];exact hS) jU;have jk:=jf.out.own.put_keep ju.out hS;have jJ:Hid (W.heap[g9]? = oT (aK #[aA aM (m:Int),aA aM (nd:Int)] 183 (0,0))):=(F9.kp hS ju.out).block _ _ _ _ jr.out;have jB:=A0 js;have jA:=A0 jk;have jv:Hid (∀ j,¬ (i<=j/\j<i+5)->ED M3 (i+inp.size) (d0,n2) (ct+c0) j=M j):=λj hj=>by
            unfold ED;rw[if_neg (by omega)];exact jm.out.out j hj
           clear hS js jk
           go_wp2_with fail
           go_roundg (oB Fm - (k+1))
           case measure=>have:=jE.out;omega
           case rel=>exact⟨k+1,q3,_,by go_num,by omega,rfl,⟨jB.out,jA.out,jv.out⟩,by rw[kw.out];exact ym.out,AA yl.out jZ.out,kq,jJ.out,jT.out⟩
      ·have Yc:Fm.take k=Fm:=AH (by omega);have ky:=jL.out;rw[Yc,<- yY.out]at ky;have Yz:=A0 ky.leave;clear ky Yc
       go_wp2_with fail
       go_roundg ((oB q3 - (n+1))+pot T.length Cm (M3 i))
       case measure=>have:=yh.out;have:=jZ.out;omega
       case rel=>exact⟨n+1,q3,M3,by go_num,by omega,jm.out,Yz.out,rfl,by have:=jZ.out;have:=jF.out;omega⟩
    ·have YD:=A0 (jl.out.done kx)
     go_wp2_with fail
     refine bodyPost_end (results_none rfl _ _ _) rfl ?_;exact⟨rfl,M2,⟨jG.out.vx.maps,k6.out.trans jG.out.vx.kp,(k5.out.mono Yb).trans jG.out.vx.bl⟩,jl.out.inv,YD.out,jl.out.bnd,jG.out.out⟩
  ·intro
      m
       n c w4 hp hrg4 kc hs4 hlt4 kR
   dsimp only[Bp,Gm]at kR ⊢;obtain⟨HP,j0,HG4'⟩:=oC hp hrg4 kc;have yR:Hid (Below w2.heap.size w2 w4):=by
    show Below _ _ _;exact yS.out.grown kc (by omega) λk hk=>by injection hk with hk;omega
   have jK:Hid (Af Hn w4 w2.heap.size (aG qa q.length qc) q):=by
    show Af _ _ _ _ _;refine k8.out.keep λg hg=>kc.block g (k8.out.lt g hg) λe=>?_;injection e with e;obtain⟨D9,l9,c9,yM,_⟩:=yn.out;obtain⟨es,clock,since,seen,c0,_,_,_,_,hr,_⟩:=yM;rcases k8.out.2 with⟨h9,_⟩ | ⟨g',cap,cur,h9,_,kM,_⟩
    · rw[h9]at hg;cases hg
    ·rw[h9]at hg;injection hg with hg;have e2:g'=w2.heap.size:=hg.trans e;rw[e2,hr]at kM;cases kM
   have Yj:((w4.alloc (aK #[aA aM (m:Int),aA aM (n:Int)] 183)).alloc (aK #[aA aM (m:Int),aA aM (n:Int)] 183)).heap[w4.heap.size+1]? = oT (.cells (Hn.enc (m,n)).toArray 183 (0,0)):=by
    have h:=Z4 (w4.alloc (aK #[aA aM (m:Int),aA aM (n:Int)] 183)) (aK #[aA aM (m:Int),aA aM (n:Int)] 183);rw[A8]at h;exact h
   have Yu:=A0 Yj;have kA:Hid (Ext w4 ((w4.alloc (aK #[aA aM (m:Int),aA aM (n:Int)] 183)).alloc (aK #[aA aM (m:Int),aA aM (n:Int)] 183))):=Ext.trans ((Z2 _ _).alloc (A5 _) _) ((Z2 _ _).alloc (A5 _) _);clear hp hrg4 kc Yj hlt4
   go_wp2_with (at_builtin;go_loud (refine Ah (v:=aG qa q.length qc) Gh rfl _ _ rfl rfl (jK.out.later kA.out (A5 _)) ⟨w4.heap.size+1,0,oS⟩ 1 [(m,n)] rfl (Ai Yu.out) (by have:=ki.out;have:=kh.out;simp only[AE];omega) (by simp only[A8];omega) ?_);intro v5 w5 k0 ji hat5)
   have kJ:Hid (∀ q9,(Zk qa q.length qc).ownBlock=oT q9->oT (gm jh)≠oT q9/\oT w2.heap.size≠oT q9):=λq9 h9=>⟨λe=>(j0.out.map.kept (kA.out.block _ j0.out.map.lt)).not_row (jK.out.later kA.out (A5 _)) (h9.trans e.symm),λe=>by
    injection e with e;have h8:=jK.out.lt _ h9;obtain⟨D9,l9,c9,yM,_⟩:=j0.out;obtain⟨es,clock,since,seen,c0,_,_,_,_,hr,_⟩:=yM;rcases jK.out.2 with⟨h7,_⟩ | ⟨g',cap,cur,h7,_,kM,_⟩
    · rw[h7]at h9;cases h9
    ·rw[h7]at h9;injection h9 with h9;have e2:g'=w2.heap.size:=h9.trans e.symm;rw[e2,hr]at kM;cases kM⟩
   have kC:Hid ((DZ rest ((m,n),c)).length<oB rest):=by
    exact Da HP.out
   go_roundg (DZ rest ((m,n),c)).length
   case measure=>rw[<- Yx.out];exact kC.out
   case rel =>
    refine⟨q ++ [(m,n)],_,k0,?_,rfl,?_,YB.out.filter _,λt=>?_,?_⟩
    ·have h1:=j0.out.below kA.out;cases yd:(Zk qa q.length qc).ownBlock with
     | none=>rw[yd]at ji;exact h1.kept ji (by simp) (by simp)
     | some q9=>rw[yd]at ji;exact h1.kept ji (kJ.out q9 yd).1 (kJ.out q9 yd).2
    · have:=kC.out;have:=ki.out;rw[AD,AE];omega
    ·rw[AY,AF,HQ.out];constructor
     ·rintro(⟨c9,h1,h2⟩ | rfl)
      · exact⟨c9,h1,λh3=>h2 (Cy.1 h3).1⟩
      · exact⟨c,yn.out.sub _ HP.out,λh3=>(Cy.1 h3).2 rfl⟩
     ·rintro⟨c9,h1,h2⟩;by_cases e:(t,c9)=((m,n),c)
      ·injection e with e1 e2;exact .inr e1
      · exact .inl ⟨c9,h1,λh3=>h2 (Cy.2 ⟨h3,e⟩)⟩
    ·have h1:Below w2.heap.size w2 ((w4.alloc (aK #[aA aM (m:Int),aA aM (n:Int)] 183)).alloc (aK #[aA aM (m:Int),aA aM (n:Int)] 183)):=yR.out.trans (ZT kA.out yR.out.size);exact h1.grown ji h1.size λk hk=>jK.out.ge k hk
end
def CN (T:List Bn)(n:Nat):Int:=match T[n]? with | none=>-1 | some b=>b.word
def Lst (T:List Bn)(acc:Int)(P:List (Stt × Nat))(k c:Nat):Prop:=BX (λd=>∃ t,(t,d)∈P/\CN T t.2=(k:Int)/\CL acc t.1=oF) c
structure GO (T:List Bn)(acc:Int)(P:List (Stt × Nat))(E:List (Nat × Nat)):Prop where
 keys:Do E
 iff:∀ k c,look E k=some c↔Lst T acc P k c
section
variable {T:List Bn} {acc:Int} {P:List (Stt × Nat)} {E:List (Nat × Nat)} {t:Stt} {c k:Nat}
def GO.nil (T:List Bn)(acc:Int):GO T acc [] []:=⟨xi,λk c=>⟨λh=>(by cases h),λh=>(by obtain⟨t,h1,_⟩:=h.1;cases h1)⟩⟩
def GO.skip (h:GO T acc P E)(hn:¬ (∃ k:Nat,CN T t.2=(k:Int)/\CL acc t.1=oF)):GO T acc ((t,c) :: P) E :=
 ⟨h.keys,λk d=>by
  rw[h.iff];have e:∀ d,(∃ u,(u,d)∈(t,c) :: P/\CN T u.2=(k:Int)/\CL acc u.1=oF)↔∃ u,(u,d)∈P/\CN T u.2=(k:Int)/\CL acc u.1=oF:=λd=>by
   constructor
   ·rintro⟨u,h1,h2⟩;rcases AX.1 h1 with e | h1
    ·injection e with e1 e2;subst e1;exact absurd ⟨k,h2⟩ hn
    · exact⟨u,h1,h2⟩
   · rintro⟨u,h1,h2⟩;exact⟨u,Zm _ h1,h2⟩
  exact⟨λh9=>h9.congr λd=>(e d).symm,λh9=>h9.congr e⟩⟩
def GO.hit (h:GO T acc P E)(hw:CN T t.2=(k:Int))(ha:CL acc t.1=oF){E':List (Nat × Nat)}(hk:Do E'){b:Nat}
  (h1:∀ j,j≠k->look E' j=look E j) (h2:look E' k=oT b) (h3:b<=c) (h4:∀ d,look E k=oT d->b<=d) (h5:b=c\/look E k=oT b):GO T acc ((t,c) :: P) E' :=
 ⟨hk,λj d=>by
  have e:∀ d,(∃ u,(u,d)∈(t,c) :: P/\CN T u.2=(j:Int)/\CL acc u.1=oF)↔(j=k/\d=c)\/∃ u,(u,d)∈P/\CN T u.2=(j:Int)/\CL acc u.1=oF:=λd=>by
   constructor
   ·rintro⟨u,h6,h7,h8⟩;rcases AX.1 h6 with e | h6
    ·injection e with e1 e2;subst e1;refine .inl ⟨?_,e2⟩;rw[hw]at h7;omega
    · exact .inr ⟨u,h6,h7,h8⟩
   ·rintro(⟨rfl,rfl⟩ | ⟨u,h6,h7⟩)
    · exact⟨t,AB,hw,ha⟩
    · exact⟨u,Zm _ h6,h7⟩
  by_cases hj:j=k
  ·subst
      hj
   have hl:Lst T acc ((t,c) :: P) j b:=by
    refine⟨(e b).2 ?_,λd hd=>?_⟩
    ·rcases h5 with h5 | h5
     · exact .inl ⟨rfl,h5⟩
     · exact .inr ((h.iff j b).1 h5).1
    ·rcases(e d).1 hd with⟨_,rfl⟩ | h9
     · exact h3
     ·obtain⟨b2,ja⟩:=Eh (p:=λd=>∃ u,(u,d)∈P/\CN T u.2=(j:Int)/\CL acc u.1=oF) ⟨d,h9⟩;exact AA (h4 b2 ((h.iff j b2).2 ja)) (ja.2 d h9)
   rw[h2];exact⟨λh9=>by injection h9 with h9;rw[<- h9];exact hl,λh9=>by rw[hl.uniq h9]⟩
  ·rw[h1 j hj,h.iff];have e2:∀ d,(∃ u,(u,d)∈(t,c) :: P/\CN T u.2=(j:Int)/\CL acc u.1=oF)↔∃ u,(u,d)∈P/\CN T u.2=(j:Int)/\CL acc u.1=oF:=λd=>by
    rw[e d];exact⟨λh9=>h9.resolve_left λh8=>hj h8.1,.inr⟩
   exact⟨λh9=>h9.congr λd=>(e2 d).symm,λh9=>h9.congr e2⟩⟩
def GO.put (h:GO T acc P E)(hw:CN T t.2=(k:Int))(ha:CL acc t.1=oF)(ja:∀ d,look E k=oT d->c<d):GO T acc ((t,c) :: P) (Dp E k c) :=
 h.hit hw ha (h.keys.put k c) (λj hj=>by rw[Ei,if_neg λe=>hj e.symm]) (by rw[Ei,if_pos rfl]) (A5 _) (λd hd=>Nat.le_of_lt (ja d hd)) (.inl rfl)
def GO.same (h:GO T acc P E)(hw:CN T t.2=(k:Int))(ha:CL acc t.1=oF){old:Nat}(ho:look E k=oT old)(ja:old<=c):GO T acc ((t,c) :: P) E :=
 h.hit hw ha h.keys (λ_ _=>rfl) ho ja (λd hd=>by rw[ho]at hd;injection hd with hd;omega) (.inr ho)
end
structure Va (T:List Bn)(acc:Int)(P:List (Stt × Nat))(l:List (Nat × Nat)):Prop where
 sorted:l.Pairwise λa b=>a.1<b.1
 mem:∀ k c,(k,c)∈l↔Lst T acc P k c
def Vb {T:List Bn}{acc:Int}{P P':List (Stt × Nat)}{E:List (Nat × Nat)}{ks:List Nat}(h:GO T acc P E)(hP:∀ p,p∈P↔p∈P')(hs:ks.Pairwise (·<·))(hm:∀ k,k∈ks↔(look E k).isSome=oF) :
  Va T acc P' (ks.map λk=>(k,(look E k).getD 0)) where
 sorted:=by rw[AV];exact hs
 mem
   k c:=by
  rw[AJ];have e:∀ d,(∃ u,(u,d)∈P/\CN T u.2=(k:Int)/\CL acc u.1=oF)↔∃ u,(u,d)∈P'/\CN T u.2=(k:Int)/\CL acc u.1=oF:=λd =>
   ⟨λ⟨u,h1,h2⟩=>⟨u,(hP _).1 h1,h2⟩,λ⟨u,h1,h2⟩=>⟨u,(hP _).2 h1,h2⟩⟩
  constructor
  ·rintro⟨j,hj,e9⟩;injection e9 with e1 e2;subst e1;obtain⟨d,hd⟩:=XX.1 ((hm j).1 hj);rw[hd]at e2;simp only[Xh]at e2;subst e2;exact((h.iff j d).1 hd).congr e
  ·intro hl;have h1:=(h.iff k c).2 (hl.congr λd=>(e d).symm);exact⟨k,(hm k).2 (by rw[h1];rfl),by rw[h1];rfl⟩
def UJ (A:Int)(m:Nat)(h0:0<=A)(hA:A<=255):(bits .and aO (A / 2 ^ m) 1 == 0)=!CL A m:=by
 obtain⟨n,rfl⟩:=ZY h0;have hd:((n:Int) / 2 ^ m)=((n / 2 ^ m:Nat):Int):=by simp
 have ja:n / 2 ^ m<256:=Nat.lt_of_le_of_lt (Nat.div_le_self _ _) (by omega);have h1:bits .and aO (((n / 2 ^ m:Nat):Int)) ((1:Nat):Int)=((n / 2 ^ m &&& 1:Nat):Int):=u8_and_nat _ _ ja (by omega);unfold CL;rw[hd,show(1:Int)=((1:Nat):Int) from rfl,h1,Nat.and_one_is_mod,Bool.eq_iff_iff];simp only[beq_iff_eq,XS,beq_eq_false_iff_ne,ne_eq];omega
def CZ:CB (Nat × Nat):=⟨72,75,2,16,aJ #[aA aM 0,aA aM 0],λt=>[aA aM (t.1:Int),aA aM (t.2:Int)]⟩
def Io:CZ.Ok:=⟨Tryz.underlying72,by kernel_rfl,rfl,by decide,λ_=>rfl,λx u hu=>by
 have h:u=aA aM (x.1:Int)\/u=aA aM (x.2:Int):=by simpa[CZ] using hu
 rcases h with rfl | rfl <;> rfl,by decide⟩
def WW (T:List Bn):Prop:=∀ b∈T,b.word<1000000
def Vc (T:List Bn)(acc:Int)(E:Ent)(B:Nat)(e:Ending)(w':Z0):Prop:=∃ v l,e=aP v/\Af CZ w' B v l/\Va T acc E l
structure FQ (w0:Z0)(T:List Bn)(acc:Int)(E:Ent)(gmj gl r:Nat)(P rest:List (Stt × Nat))(E2:List (Nat × Nat))(w:Z0):Prop where
 rg:RgG Bp w gmj r E rest
 low:MpG Gn w gl E2
 lea:GO T acc P E2
 all:∀ p,p∈E↔p∈P\/p∈rest
 bl:Below w0.heap.size w0 w
 glt:w0.heap.size<=gl
 rge:w0.heap.size<=r
 ne:r≠gl
 len:oB E2+oB rest<=oB E
section
variable {w w':World} {gx:Nat} {acc:Int} {aR:Option Addr} {nR cR:Nat} {aT:Option Addr} {nT cT:Nat} {aL:Option Addr} {nL cL:Nat} {gm:Nat->Nat}
def found_any
         (
          T
           : List Bn) (i j:Nat) (E:Ent) (hi:i<=1000000) (hj:i % 5=j) (hx:SX w gx acc aR nR cR aT nT cT aL nL cL gm) (hT:Dq w aT T) (jA:nT=oB T) (hTl:nT<=100000) (kf:WW T) (hM:MpG Bp w (gm j) E) (jw:Nt T.length E) (kz:0<=acc) (jU:acc<=255) :
  Zu Z1 80 #[aB (oT ⟨gx,0,oS⟩),aA aM (i:Int)] w λe w'=>Vc T acc E w.heap.size e w'/\Below w.heap.size w w':=by
 subst jA;obtain⟨HX,HT,kx,HM,kv,HJ⟩:=oG hx hT kf hM jw hj;have hgx:=hx.lt;obtain⟨c0,c1,c2,c3⟩:=hx.cells;have jD:=A0 c0;have jE:=A0 c2;have hEl:=ID hM.keys jw;have kB:=@run_makeMap Z1;clear hx hT kf hM jw hj c0 c1 c2 c3;have j5:Hid (Ext w (w.alloc (.map #[] 0))):=(Z2 _ _).alloc (A5 _) _;have kl:=A0 (GL i j hi HJ (HX.kp (Kc.of j5 (A5 _))));have kq:=A0 (HM.kept (Z7 j5 _ HM.lt));have kc:=A0 (MpG.new Gn w)
 go_enter Tryz.func80,Tryz.ntmps80
 go_wp2_with fail
 refine kl.mono ?_;rintro e w1' ⟨rfl,rfl⟩
 go_wp2_with (at_range;refine GK CU kq rfl _ rfl rfl ?_;intro w3 jQ j6 kD)
 go_frame;have HZ:Hid ((w.alloc (.map #[] 0)).heap.size=w.heap.size+1):=by show _=_;simp
 have kb:Hid (FQ w T acc E (gm j) w.heap.size (w.heap.size+1) [] E [] w3):=⟨by rw[<- HZ.out];exact jQ,kc.kept (j6.block _ kc.lt),GO.nil _ _,λp=>by simp,Y9 j5 (j6.mono (by rw[HZ.out];omega)),A5 _,za _,by omega,by simp⟩
 clear jQ j6 kD kB;simp only[A8]
 go_loopg [8] E.length (λg v8 wr=>∃ (P rest:List (Stt × Nat)) (E2:List (Nat × Nat)),FQ w T acc E (gm j) w.heap.size (w.heap.size+1) P rest E2 wr/\rest.length=g)
 case atStart=>exact⟨[],E,[],kb,rfl⟩
 case round
       =>
  clear kb;obtain⟨P,rest,E2,jV,jO⟩:=hrel;have HQ:=A0 jV;have jJ:=A0 jO;have hz3:=jV.bl.size;have kC:=jV.rg.lt;clear jV jO
  go_wp2_with (at_next;refine wpList_next_g CU HQ.rg rfl _ rfl rfl ?_ ?_)
  ·intro
      h0
   have km:=A0 (λks=>Vb (P':=E) (ks:=ks) HQ.lea (λp=>by rw[HQ.out.all p,h0];simp));have ky:oB E2<=1000000:=by have:=HQ.len;omega
   have kw:=A0 (sorted_any HQ.low ky);clear h0
   go_wp2_with fail
   refine(Mc _ _).mono ?_;rintro e w7 ⟨rfl,rfl⟩
   go_wp2_with fail
   refine kw.mono ?_;rintro e w8 ⟨⟨v,ks,rfl,jp,Jx,jz⟩,jG⟩;obtain⟨a8,c8,kE,hkc8, -⟩:=jp.form;subst kE;obtain⟨kt,HB8,ku,kd⟩:=oD jp jG Jx jz;have jr:=A0 (HQ.low.kept (jG.block _ HQ.low.lt));have ju:Hid (Below w.heap.size w w8):=HQ.bl.trans (jG.mono HQ.bl.size);have hkl:oB ks<=1000000:=by
    have h1:=nodup_bound 1000000 ks (Jx.imp λh=>Nat.ne_of_lt h) λx hx=>by
     obtain⟨d,hd⟩:=XX.1 ((jz x).1 hx);exact(HQ.low.okk _ (CY hd)).1
    exact h1
   clear jp jG Jx jz
   go_wp2_with fail
   go_loopg [11,66] ks.length (λg v11 v66 wr=>∃ k:Nat,v66=aA aM (k:Int)/\k<=oB ks/\g=oB ks - k/\Af CZ wr w8.heap.size v11 ((ks.take k).map λx=>(x,(look E2 x).getD 0))/\Below w8.heap.size w8 wr)
   case atStart=>exact⟨0,rfl,Ze _,rfl,Af.nil _ _ _,Z2 _ _⟩
   case round =>
    obtain⟨k,rfl,hk,jO,jB,kg⟩:=hrel;obtain⟨a11,c11,ka,j7, -⟩:=jB.form;subst ka;obtain⟨HO,jt,jZ⟩:=oC jB kg jO;clear jB kg jO;obtain⟨Lk,jT⟩:∃ Lk,(ks.take k).map (λx=>(x,(look E2 x).getD 0))=Lk:=⟨_,rfl⟩
    have ke:oB Lk=k:=by rw[<- jT,AQ,AO];omega
    rw[jT]at HO j7 ⊢;have jq:=A0 jT;have ko:=A0 ke;clear jT ke;by_cases jW:k<oB ks
    ·obtain⟨b8,jG,hB8,hs8,q0⟩:=(kt.later jt (A5 _)).ints jW;subst jG;have hi8:=idx_ints b8 ks.length c8 k jW;have jy:MpG Gn wr w.heap.size E2:=jr.kept (jt.block _ jr.lt);have kk:=(kd ks[k]).1 (AI jW);obtain⟨d,hd⟩:=XX.1 kk;have jS:=(jy.okk _ (CY hd)).1;have jH:=jy.look Fi jS;rw[hd]at jH;simp only[Gn,Xh]at jH;have kj:ks.take (k+1)=ks.take k ++ [ks[k]]:=AR jW;have HN:Hid ((ks.take (k+1)).map (λx=>(x,(look E2 x).getD 0))=Lk ++ [(ks[k],d)]):=by
      show _=_;rw[kj,XI,jq.out];simp[hd]
     obtain⟨x,hx⟩:∃ x,ks[k]=x:=⟨_,rfl⟩
     rw[hx]at q0 jH HN;clear kk hd jS kj hx jy
     go_wp2_with (at_builtin;go_loud (refine Ah (v:=aG a11 Lk.length c11) Io rfl _ _ rfl rfl (HO.later ((Z2 _ _).alloc (A5 _) _) (A5 _)) ⟨wr.heap.size,0,oS⟩ 1 [(x,d)] rfl (Ai (Z4 _ _)) (by have:=ko.out;simp only[AE];omega) (by have:=jt.size;simp only[A8];omega) ?_);intro v16 w16 jo jj jM;have j2:=A0 jo;have jY:=A0 jj;clear jo jj jM)
     go_roundg (oB ks - (k+1))
     case measure=>have:=jZ.out;omega
     case rel=>exact⟨k+1,by go_num,by omega,rfl,by rw[HN.out];exact j2,(jt.trans (((Z2 _ _).alloc (A5 _) _).mono jt.size)).grown jY (by have:=jt.size;simp only[A8];omega) λq hq=>HO.ge q hq⟩
    ·have jL:ks.take k=ks:=AH (by omega);have kr:=A0 (km ks ku kd);have kn:Hid (Lk=ks.map λx=>(x,(look E2 x).getD 0)):=by show _=_;rw[<- jq.out,jL]
     clear jL
     go_wp2_with fail
     go_ret;exact⟨⟨_,Lk,rfl,HO.mono ju.size,by rw[kn.out];exact kr⟩,ju.trans (jt.mono ju.size)⟩
  ·intro
      m
       n
        c
         w4
           hp hrg4 hg4 hs4 hlt4 hen
   dsimp only[Bp,Gm]at hen ⊢;have HP:=A0 hp;have jm:=A0 hrg4;have ja:Hid (MpG Gn w4 w.heap.size E2):=HQ.low.kept (hg4.block _ HQ.low.lt λe=>by injection e with e;omega);have jI:Hid (Below w.heap.size w w4):=by
    show Below _ _ _;exact HQ.bl.grown hg4 (by omega) λk hk=>by injection hk with hk;omega
   have j9:=HQ.rg.sub _ hp;obtain⟨jP,jA⟩:=kv _ j9;simp only at jP jA;have kh:c<=1152921504606846976:=(HM.okk _ j9).2;have ji:Hid (oB E2+1<=oB E/\E2.length+1+(DZ rest ((m,n),c)).length<=oB E):=by
    have h1:=Da hp;have h2:=HQ.len;exact⟨by omega,by omega⟩
   clear hp hrg4 hg4 hlt4 j9 kC
   go_upto_region 5 with fail
   obtain⟨w5,jX⟩:∃ w5,w4.alloc (aK #[aA aM (m:Int),aA aM (n:Int)] 183)=w5:=⟨_,rfl⟩
   rw[jX];have jh:Hid (Ext w4 w5):=by
    show Ext _ _;rw[<- jX];exact(Z2 _ _).alloc (A5 _) _
   have jv:Hid (w5.heap[w4.heap.size]? = oT (aK #[aA aM (m:Int),aA aM (n:Int)] 183 (0,0))):=by
    show _=_;rw[<- jX];exact Z4 _ _
   have jd:Hid (Below w.heap.size w w5):=jI.trans (ZT jh jI.size);have jk:Hid (Kc w w5):=Kc.of jd (A5 _);obtain⟨g6,ki⟩:∃ g6,w4.heap.size=g6:=⟨_,rfl⟩
   rw[ki]at jv ⊢;obtain⟨b1,o1,jU,hb1,q0, -⟩:=(HT.kp jk).at jA;have hi1:=K4 aT b1 o1 T.length cT n jU jA;have kF:=kx _ (AI jA);have j4:Hid (CN T n=T[n].word):=by show CN T n=_;unfold CN;rw[AC jA]
   obtain⟨wd,jR⟩:∃ wd,T[n].word=wd:=⟨_,rfl⟩
   rw[jR]at q0 kF j4;have jF:=A0 q0;clear jX ki jU jR q0;refine wp_region_sc w5 (Ext.refl _) 80 [(0,aB (oT ⟨gx,0,oS⟩)),(6,aB (oT ⟨g6,0,oS⟩))] (Zd 24 9 ++ [8]) [0,6] (by kernel_rfl) rfl ⟨rfl,rfl,trivial⟩ rfl ?_
   repeat
       first
    | (
      (apply Cn.op rfl rfl)
      ·intro W hS;have jb:Kc w5 W:=Kc.of hS (A5 _);obtain⟨x0,x1⟩:=BF (jb.block _ _ _ _ jv);have c0:=jb.cell (jk.cell jD);have c2:=jb.cell (jk.cell jE);have q0:=jb.cell jF;clear jb;clear hS;simp[go_sem,At,lkE, *] <;> rfl)
   refine .nil λW x hS hx=>?_;have e8:x 8=aA aM wd:=hx 8 (by decide);simp only[Zd,ZG,ZP,Zp,e8,ZE,Z5,Za,Z9];clear hx e8;have je:Hid (Ext w5 W):=hS;clear hS;have jl:Hid (∀ p,p∈E↔p∈((m,n),c) :: P\/p∈DZ rest ((m,n),c)):=λp=>by
    rw[HQ.out.all,AX,Cy];constructor
    ·rintro(h1 | h1)
     · exact .inl (.inr h1)
     ·by_cases e:p=((m,n),c)
      · exact .inl (.inl e)
      · exact .inr ⟨h1,e⟩
    ·rintro((rfl | h1) | h1)
     · exact .inr HP
     · exact .inl h1
     · exact .inr h1.1
   go_wp2_with fail
   have hm0I:(0:Int)<=(m:Int):=by omega
   have hm8I:(m:Int)<8:=by omega
   by_cases hneg:wd<0
   ·have
       j1:Hid (¬ ∃ k:Nat,CN T (m,n).2=(k:Int)/\CL acc (m,n).1=oF):=by
     rintro⟨k,h1,_⟩;have h2:CN T n=(k:Int):=h1;rw[j4.out]at h2;omega
    refine wp_region_sc w5 (je) 80 [(8,aA aM wd),(0,aB (oT ⟨gx,0,oS⟩)),(6,aB (oT ⟨g6,0,oS⟩))] (Zd 33 13) [8,0,6] (by kernel_rfl) rfl ⟨rfl,rfl,rfl,trivial⟩ rfl ?_
    repeat
        first
     | refine .skip rfl rfl ?_
     | (
       (apply Cn.op rfl rfl)
       ·intro W hS;have jb:Kc w5 W:=Kc.of hS (A5 _);obtain⟨x0,x1⟩:=BF (jb.block _ _ _ _ jv);have c0:=jb.cell (jk.cell jD);have c2:=jb.cell (jk.cell jE);have q0:=jb.cell jF;clear jb;clear hS;simp[go_sem,At,lkE, *] <;> first | (with_reducible apply bF;omega) | (with_reducible apply bT;omega) | rfl)
    refine .nil λW x hS hx=>?_;have e45:x 45=aH oF:=hx 45 (by decide);simp only[Zd,Zp,e45,ZE,Z5,Za,Z9];clear hx e45;have je:Hid (Ext w5 W):=hS;clear hS
    go_wp2_with fail
    go_roundg (DZ rest ((m,n),c)).length
    case measure=>have:=jJ.out;have:=Da HP;omega
    case rel =>
     exact⟨((m,n),c) :: P,_,E2,⟨(jm.below jh).below je,(ja.kept (Z7 jh _ ja.lt)).kept (Z7 je _ (ja.kept (Z7 jh _ ja.lt)).lt),HQ.lea.skip j1,jl,jd.trans (ZT je jd.size),HQ.glt,HQ.rge,HQ.ne,by have:=ji.2;omega⟩,rfl⟩
   ·obtain
        ⟨
        k,
          rfl⟩:∃ k:Nat,wd=(k:Int):=⟨wd.toNat,by omega⟩
    have jn:k<1000000:=by omega
    have j3:Hid (CN T (m,n).2=(k:Int)):=j4.out;have jx:=UJ acc m kz jU;obtain⟨ab,jK⟩:∃ ab,CL acc m=ab:=⟨_,rfl⟩
    rw[jK]at jx;cases ab with
    | false =>
     have j1:Hid (¬ ∃ k:Nat,CN T (m,n).2=(k:Int)/\CL acc (m,n).1=oF):=by
      rintro⟨k,_,h2⟩;have h3:CL acc m=oF:=h2;rw[jK]at h3;cases h3
     clear jK;simp only[Bool.not_false]at jx;refine wp_region_sc w5 (je) 80 [(8,aA aM (k:Int)),(0,aB (oT ⟨gx,0,oS⟩)),(6,aB (oT ⟨g6,0,oS⟩))] (Zd 33 13) [8,0,6] (by kernel_rfl) rfl ⟨rfl,rfl,rfl,trivial⟩ rfl ?_
     repeat
         first
      | (
        (apply Cn.op rfl rfl)
        ·intro W hS;have jb:Kc w5 W:=Kc.of hS (A5 _);obtain⟨x0,x1⟩:=BF (jb.block _ _ _ _ jv);have c0:=jb.cell (jk.cell jD);have c2:=jb.cell (jk.cell jE);have q0:=jb.cell jF;clear jb;clear hS;simp[go_sem,At,lkE, *] <;> first | (with_reducible apply bF;omega) | (with_reducible apply bT;omega) | rfl)
     refine .nil λW x hS hx=>?_;have e45:x 45=aH oF:=hx 45 (by decide);simp only[Zd,Zp,e45,ZE,Z5,Za,Z9];clear hx e45;have je:Hid (Ext w5 W):=hS;clear hS
     go_wp2_with fail
     go_roundg (DZ rest ((m,n),c)).length
     case measure=>have:=jJ.out;have:=Da HP;omega
     case rel =>
      exact⟨((m,n),c) :: P,_,E2,⟨(jm.below jh).below je,(ja.kept (Z7 jh _ ja.lt)).kept (Z7 je _ (ja.kept (Z7 jh _ ja.lt)).lt),HQ.lea.skip j1,jl,jd.trans (ZT je jd.size),HQ.glt,HQ.rge,HQ.ne,by have:=ji.2;omega⟩,rfl⟩
    | true =>
     have js:Hid (CL acc (m,n).1=oF):=jK;clear jK;simp only[Bool.not_true]at jx;obtain⟨lk,jH⟩:∃ lk,look E2 k=lk:=⟨_,rfl⟩
     have jq:=A0 jH;clear jH;cases lk with
     | none
         =>
      have j0:Hid (∀ d,look E2 k=oT d->c<d):=λd hd=>by rw[jq.out]at hd;cases hd
      refine wp_region_sc w5 (je) 80 [(8,aA aM (k:Int)),(0,aB (oT ⟨gx,0,oS⟩)),(6,aB (oT ⟨g6,0,oS⟩))] (Zd 33 13) [8,0,6] (by kernel_rfl) rfl ⟨rfl,rfl,rfl,trivial⟩ rfl ?_
      repeat
          first
       | (
         (apply Cn.op rfl rfl)
         ·intro W hS;have jb:Kc w5 W:=Kc.of hS (A5 _);obtain⟨x0,x1⟩:=BF (jb.block _ _ _ _ jv);have c0:=jb.cell (jk.cell jD);have c2:=jb.cell (jk.cell jE);have q0:=jb.cell jF;clear jb;clear hS;simp[go_sem,At,lkE, *] <;> first | (with_reducible apply bF;omega) | (with_reducible apply bT;omega) | rfl)
      refine .nil λW x hS hx=>?_;have e45:x 45=aH oH:=hx 45 (by decide);simp only[Zd,Zp,e45,ZE,Z5,Za,Z9];clear hx e45;have je:Hid (Ext w5 W):=hS;clear hS;have jc:MpG Gn W w.heap.size E2:=(ja.kept (Z7 jh _ ja.lt)).kept (Z7 je _ (ja.kept (Z7 jh _ ja.lt)).lt);have jg:=jc.look_ok Fi (x:=k) jn;rw[jq.out]at jg;simp only[Gn,Option.getD,Option.isSome]at jg;have jf:=A0 jc;clear jc
      go_wp2_with (at_mapUpdate;go_loud (refine IE Fi jf (x:=k) (c:=c) jn kh (by have:=ji.1;omega) rfl _ _ _ rfl rfl rfl rfl ?_);intro w8 jP jN)
      go_roundg (DZ rest ((m,n),c)).length
      case measure=>have:=jJ.out;have:=Da HP;omega
      case rel =>
       have jC:=((jm.below jh).below je).kept jN (λe=>by
        injection e with e;have:=HM.lt;omega) (λe=>by injection e with e;omega)
       exact⟨((m,n),c) :: P,_,Dp E2 k c,⟨jC,jP,HQ.lea.put j3 js j0,jl,(jd.trans (ZT je jd.size)).grown jN (by have:=jd.size;have:=XE je;omega) (λq hq=>by injection hq with hq;omega),HQ.glt,HQ.rge,HQ.ne,by
        have h1:=ji.2;have h2:=IC E2 k c;split at h2 <;> omega⟩,rfl⟩
     | some old
           =>
      by_cases j8:old<=c
      ·have
          HOL:=A0 j8
       have kA:¬ (c:Int)<(old:Int):=by omega
       clear j8;refine wp_region_sc w5 (je) 80 [(8,aA aM (k:Int)),(0,aB (oT ⟨gx,0,oS⟩)),(6,aB (oT ⟨g6,0,oS⟩))] (Zd 33 13) [8,0,6] (by kernel_rfl) rfl ⟨rfl,rfl,rfl,trivial⟩ rfl ?_
       repeat
           first
        | (
          (apply Cn.op rfl rfl)
          ·intro W hS;have jb:Kc w5 W:=Kc.of hS (A5 _);obtain⟨x0,x1⟩:=BF (jb.block _ _ _ _ jv);have c0:=jb.cell (jk.cell jD);have c2:=jb.cell (jk.cell jE);have q0:=jb.cell jF;clear jb;clear hS;simp[go_sem,At,lkE, *] <;> first | (with_reducible apply bF;omega) | (with_reducible apply bT;omega) | rfl)
       refine .nil λW x hS hx=>?_;have e45:x 45=aH oH:=hx 45 (by decide);simp only[Zd,Zp,e45,ZE,Z5,Za,Z9];clear hx e45;have je:Hid (Ext w5 W):=hS;clear hS;have jc:MpG Gn W w.heap.size E2:=(ja.kept (Z7 jh _ ja.lt)).kept (Z7 je _ (ja.kept (Z7 jh _ ja.lt)).lt);have jg:=jc.look_ok Fi (x:=k) jn;rw[jq.out]at jg;simp only[Gn,Option.getD,Option.isSome]at jg;have jf:=A0 jc;clear jc
       go_wp2_with fail
       go_roundg (DZ rest ((m,n),c)).length
       case measure=>have:=jJ.out;have:=Da HP;omega
       case rel =>
        exact⟨((m,n),c) :: P,_,E2,⟨(jm.below jh).below je,jf,HQ.lea.same j3 js jq HOL.out,jl,jd.trans (ZT je jd.size),HQ.glt,HQ.rge,HQ.ne,by have:=ji.2;omega⟩,rfl⟩
      ·have
          kA:(c:Int)<(old:Int):=by omega
       have j0:Hid (∀ d,look E2 k=oT d->c<d):=λd hd=>by rw[jq.out]at hd;injection hd with hd;omega
       clear j8;refine wp_region_sc w5 (je) 80 [(8,aA aM (k:Int)),(0,aB (oT ⟨gx,0,oS⟩)),(6,aB (oT ⟨g6,0,oS⟩))] (Zd 33 13) [8,0,6] (by kernel_rfl) rfl ⟨rfl,rfl,rfl,trivial⟩ rfl ?_
       repeat
           first
        | (
          (apply Cn.op rfl rfl)
          ·intro W hS;have jb:Kc w5 W:=Kc.of hS (A5 _);obtain⟨x0,x1⟩:=BF (jb.block _ _ _ _ jv);have c0:=jb.cell (jk.cell jD);have c2:=jb.cell (jk.cell jE);have q0:=jb.cell jF;clear jb;clear hS;simp[go_sem,At,lkE, *] <;> first | (with_reducible apply bF;omega) | (with_reducible apply bT;omega) | rfl)
       refine .nil λW x hS hx=>?_;have e45:x 45=aH oH:=hx 45 (by decide);simp only[Zd,Zp,e45,ZE,Z5,Za,Z9];clear hx e45;have je:Hid (Ext w5 W):=hS;clear hS;have jc:MpG Gn W w.heap.size E2:=(ja.kept (Z7 jh _ ja.lt)).kept (Z7 je _ (ja.kept (Z7 jh _ ja.lt)).lt);have jg:=jc.look_ok Fi (x:=k) jn;rw[jq.out]at jg;simp only[Gn,Option.getD,Option.isSome]at jg;have jf:=A0 jc;clear jc
       go_wp2_with (at_mapUpdate;go_loud (refine IE Fi jf (x:=k) (c:=c) jn kh (by have:=ji.1;omega) rfl _ _ _ rfl rfl rfl rfl ?_);intro w8 jP jN)
       go_roundg (DZ rest ((m,n),c)).length
       case measure=>have:=jJ.out;have:=Da HP;omega
       case rel =>
        have jC:=((jm.below jh).below je).kept jN (λe=>by
         injection e with e;have:=HM.lt;omega) (λe=>by injection e with e;omega)
        exact⟨((m,n),c) :: P,_,Dp E2 k c,⟨jC,jP,HQ.lea.put j3 js j0,jl,(jd.trans (ZT je jd.size)).grown jN (by have:=jd.size;have:=XE je;omega) (λq hq=>by injection hq with hq;omega),HQ.glt,HQ.rge,HQ.ne,by
         have h1:=ji.2;have h2:=IC E2 k c;split at h2 <;> omega⟩,rfl⟩
end
open Go.RowKit Go.WideShapes
def nvB (x:NV):Option Nat:=(Zk x.a x.n x.c).ownBlock
def K9 (wW:Z0)(B gB gM:Nat)(q:Nat × List Nd)(v:Z6)(N:List NV)(w:Z0)(e:Ending)(w':Z0):Prop :=
 ∃ v' N' E,e=aP (aA aM (q.1:Int))/\BSt w' B gB gM v' N' q.2/\N'=N ++ E/\(∀ x∈E,∀ g,nvB x=oT g->w.heap.size<=g)/\Below B wW w'/\Fr gB gM v.ownBlock w w'/\DY v.ownBlock v'.ownBlock w.heap.size
structure LSt (wW w0:Z0)(B gB gM gn:Nat)(vb0:Option Nat)(N0:List NV)(fin:Bool)(vA:Z6)(A:List Ar)(v:Z6)(N:List NV)(D:List Nd)(w:Z0):Prop where
 bst:BSt w B gB gM v N D
 bl:Below B wW w
 fr:Fr gB gM vb0 w0 w
 nr:DY vb0 v.ownBlock w0.heap.size
 ex:∃ E,N=N0 ++ E/\∀ x∈E,∀ g,nvB x=some g->w0.heap.size<=g
 box:w.heap[gn]? = some (aK #[aH fin,vA] 168 (0,0))
 gg:w0.heap.size<=gn
 vn:v.ownBlock≠some gn
 own:Af CK w w0.heap.size vA A
 apart:∀ x∈N,∀ g,nvB x=some g->vA.ownBlock≠some g
section
variable {wW w0 w w':World} {B gB gM gn:Nat} {vb0:Option Nat} {N0:List NV} {fin:Bool} {vA:Value} {A:List Ar} {v:Value} {N:List NV} {D:List Nd}
def LSt.ext (h:LSt wW w0 B gB gM gn vb0 N0 fin vA A v N D w)(hx:Ext w w')(hB:B<=w.heap.size):LSt wW w0 B gB gM gn vb0 N0 fin vA A v N D w' :=
 ⟨h.bst.ext hx,h.bl.trans (ZT hx hB),h.fr.trans (Fr.of_below hx) h.nr,h.nr,h.ex,(Z7 hx gn (A7.1 h.box).1).trans h.box,h.gg,h.vn,h.own.later hx (A5 _),h.apart⟩
def LSt.gs (h:LSt wW w0 B gB gM gn vb0 N0 fin vA A v N D w):gn<w.heap.size:=(A7.1 h.box).1
def BSt.size (h:BSt w B gB gM v N D):B<=w.heap.size:=AA h.gB (Nat.le_of_lt (A7.1 h.rep).1)
def BSt.apart_arc (h:BSt w B gB gM v N D){g:Nat}{cs:Array Z6}{fz:Nat × Nat}(hg:w.heap[g]? = oT (.cells cs 170 fz)):g≠gB/\g≠gM/\v.ownBlock≠oT g:=by
 refine⟨?_,?_,?_⟩
 ·rintro rfl;rw[h.rep]at hg;injection hg with hg;injection hg with _ h2;cases h2
 ·rintro rfl;obtain⟨es,c,hm⟩:=h.map.obj;rw[hm]at hg;cases hg
 ·intro e;rcases h.own.2 with⟨rfl,_⟩ | ⟨g',cap,cur,rfl,_,h2,_⟩
  · cases e
  ·cases e;rw[h2]at hg;injection hg with hg;injection hg with _ h3;cases h3
def Af.obj {α:Type}{T:CB α}{L:List α}(h:Af T w B v L){g:Nat}(hg:v.ownBlock=oT g):∃ cs,w.heap[g]? = oT (.cells cs T.e (0,0)):=by
 rcases h.2 with⟨rfl,_⟩ | ⟨g',cap,cur,rfl,_,h2,_⟩
 · cases hg
 · cases hg;exact⟨_,h2⟩
end
def VE:Z6->Nat
 | aG _ n _=>n
 | _=>0
def Aj {w:Z0}{g i:Nat}{y:Z6}{cs cs':Array Z6}{t:X5}{f:Nat × Nat}(h:w.heap[g]? = oT (.cells cs t f))(hc:cs.setIfInBounds i y=cs'):(w.setCell ⟨g,i,oS⟩ y).heap[g]? = oT (.cells cs' t f):=by
 simp only[zy];rw[X6,if_pos rfl,h,<- hc];rfl
structure JW (wW w0:Z0)(B gB gM gn:Nat)(vb0:Option Nat)(N0:List NV)(fin:Bool)(vA:Z6)(v:Z6)(N:List NV)(D:List Nd)(w:Z0):Prop where
 bst:BSt w B gB gM v N D
 bl:Below B wW w
 fr:Fr gB gM vb0 w0 w
 nr:DY vb0 v.ownBlock w0.heap.size
 ex:∃ E,N=N0 ++ E/\∀ x∈E,∀ g,nvB x=some g->w0.heap.size<=g
 box:w.heap[gn]? = some (aK #[aH fin,vA] 168 (0,0))
 gg:w0.heap.size<=gn
 vn:v.ownBlock≠some gn
def JW.gn_ne {wW w0 w:Z0}{B gB gM gn:Nat}{vb0:Option Nat}{N0:List NV}{fin:Bool}{vA:Z6}{v:Z6}{N:List NV}{D:List Nd}(h:JW wW w0 B gB gM gn vb0 N0 fin vA v N D w) :
  ∀ q,(q=gB\/q=gM\/v.ownBlock=oT q\/∃ x∈N,(Zk x.a x.n x.c).ownBlock=oT q)->q≠gn:=by
 rintro q (rfl | rfl | hq | ⟨x,hx,hq⟩) e
 ·subst e;have:=h.bst.rep;rw[h.box]at this;injection this with this;injection this with _ h2;cases h2
 ·subst e;obtain⟨es,c,hm⟩:=h.bst.map.obj;rw[h.box]at hm;cases hm
 · subst e;exact h.vn hq
 ·subst e;obtain⟨k,hk,rfl⟩:=zr hx;obtain⟨cs,ja⟩:=(h.bst.arcs k hk (by rw[<- h.bst.len];exact hk)).2.obj hq;rw[h.box]at ja;injection ja with ja;injection ja with _ h2;cases h2
def LSt.gn_ne {wW w0 w:Z0}{B gB gM gn:Nat}{vb0:Option Nat}{N0:List NV}{fin:Bool}{vA:Z6}{A:List Ar}{v:Z6}{N:List NV}{D:List Nd}(h:LSt wW w0 B gB gM gn vb0 N0 fin vA A v N D w) :
  ∀ q,(q=gB\/q=gM\/v.ownBlock=oT q\/∃ x∈N,(Zk x.a x.n x.c).ownBlock=oT q)->q≠gn:=by
 rintro q (rfl | rfl | hq | ⟨x,hx,hq⟩) e
 ·subst e;have:=h.bst.rep;rw[h.box]at this;injection this with this;injection this with _ h2;cases h2
 ·subst e;obtain⟨es,c,hm⟩:=h.bst.map.obj;rw[h.box]at hm;cases hm
 · subst e;exact h.vn hq
 ·subst e;obtain⟨k,hk,rfl⟩:=zr hx;obtain⟨cs,ja⟩:=(h.bst.arcs k hk (by rw[<- h.bst.len];exact hk)).2.obj hq;rw[h.box]at ja;injection ja with ja;injection ja with _ h2;cases h2
def JW.setBox {wW w0 w:Z0}{B gB gM gn:Nat}{vb0:Option Nat}{N0:List NV}{fin fin':Bool}{vA vA':Z6}{A':List Ar}{v:Z6}{N:List NV}{D:List Nd}{i:Nat}{y:Z6}(h:JW wW w0 B gB gM gn vb0 N0 fin vA v N D w)(hB:B<=w0.heap.size)
  (hc:(#[aH fin,vA]:Array Z6).setIfInBounds i y=#[aH fin',vA']) (ho:Af CK w w0.heap.size vA' A') (jc:∀ x∈N,∀ g,nvB x=oT g->vA'.ownBlock≠oT g):LSt wW w0 B gB gM gn vb0 N0 fin' vA' A' v N D (w.setCell ⟨gn,i,oS⟩ y):=by
 have jb:∀ q,q≠gn->(w.setCell ⟨gn,i,oS⟩ y).heap[q]? = w.heap[q]?:=λq hq=>Zc _ _ _ _ hq;refine⟨h.bst.keep λq hq hh=>jb q (h.gn_ne q hh),h.bl.setCell (AA hB h.gg) _,⟨h.fr.os,h.fr.tape,h.fr.output,by rw[Zb];exact h.fr.size,λq hq h3 h4 h5=>(jb q (by have:=h.gg;omega)).trans (h.fr.block q hq h3 h4 h5)⟩,h.nr,h.ex,Aj h.box hc,h.gg,h.vn,ho.keep λg hg=>jb g λe=>?_,jc⟩
 ·subst e;obtain⟨cs,ja⟩:=ho.obj hg;rw[h.box]at ja;injection ja with ja;injection ja with _ h2;cases h2
section
variable {wW w0 w w':World} {B gB gM gn:Nat} {vb0:Option Nat} {N0:List NV} {fin:Bool} {vA:Value} {A:List Ar} {v:Value} {N:List NV} {D:List Nd}
def JW.ext (h:JW wW w0 B gB gM gn vb0 N0 fin vA v N D w)(hx:Ext w w'):JW wW w0 B gB gM gn vb0 N0 fin vA v N D w' :=
 ⟨h.bst.ext hx,h.bl.trans (ZT hx h.bst.size),h.fr.trans (Fr.of_below hx) h.nr,h.nr,h.ex,(Z7 hx gn (A7.1 h.box).1).trans h.box,h.gg,h.vn⟩
def LSt.called (h:LSt wW w0 B gB gM gn vb0 N0 fin vA A v N D w){q:Nat × List Nd}{e:Ending}(hp:K9 wW B gB gM q v N w e w'):e=aP (aA aM (q.1:Int))/\∃ v' N',LSt wW w0 B gB gM gn vb0 N0 fin vA A v' N' q.2 w':=by
 obtain⟨v',N',E,rfl,hb,rfl,hE,jf,ja,jc⟩:=hp;have ji:=h.gs;have jb:=h.gn_ne;have jh:w'.heap[gn]? = w.heap[gn]?:=ja.block gn ji (λe=>jb gB (.inl rfl) e.symm) (λe=>jb gM (.inr (.inl rfl)) e.symm) h.vn;have jd:=h.fr.size;refine⟨rfl,v',_,hb,jf,h.fr.trans ja h.nr,h.nr.trans jc jd,?_,jh.trans h.box,h.gg,?_,h.own.keep λg hg=>?_,λx hx g hg=>?_⟩
 ·obtain⟨E0,rfl,je⟩:=h.ex;refine⟨E0 ++ E,by rw[Zw],λx hx g hg=>?_⟩;rcases AY.1 hx with hx | hx
  · exact je x hx g hg
  · exact AA jd (hE x hx g hg)
 ·intro e;rcases jc with h1 | h1
  · exact h.vn (by rw[<- h1];exact e)
  · have:=h1 gn e;omega
 ·obtain⟨cs,jg⟩:=h.own.obj hg;obtain⟨h1,h2,h3⟩:=h.bst.apart_arc jg;exact ja.block g (h.own.lt g hg) h1 h2 h3
 ·intro e;rcases AY.1 hx with hx | hx
  · exact h.apart x hx g hg e
  · have:=hE x hx g hg;have:=h.own.lt g e;omega
def LSt.app (h:LSt wW w0 B gB gM gn vb0 N0 fin vA A v N D w)(hB:B<=w0.heap.size)(hg:w.grownBy w' vA.ownBlock):JW wW w0 B gB gM gn vb0 N0 fin vA v N D w':=by
 have jc:∀ q,vA.ownBlock=oT q->q≠gB/\q≠gM/\v.ownBlock≠oT q:=λq hq=>by
  obtain⟨cs,ja⟩:=h.own.obj hq;exact h.bst.apart_arc ja
 have hk:∀ q,q<w.heap.size->vA.ownBlock≠oT q->w'.heap[q]? = w.heap[q]?:=λq hq je=>hg.block q hq (λe=>je e.symm);have jd:vA.ownBlock≠oT gn:=λe=>by
  obtain⟨cs,ja⟩:=h.own.obj e;rw[h.box]at ja;injection ja with ja;injection ja with _ h2;cases h2
 refine⟨h.bst.keep λq hq hh=>hk q hq λe=>?_,h.bl.grown hg h.bst.size λq hq=>AA hB (h.own.ge q hq),⟨hg.os.trans h.fr.os,hg.tape.trans h.fr.tape,hg.output.trans h.fr.output,AA h.fr.size hg.size,λq hq h3 h4 h5=>?_⟩,h.nr,h.ex,(hk gn h.gs jd).trans h.box,h.gg,h.vn⟩
 ·rcases hh with rfl | rfl | jb | ⟨x,hx,jb⟩
  · exact(jc _ e).1 rfl
  · exact(jc _ e).2.1 rfl
  · exact(jc _ e).2.2 jb
  · exact h.apart x hx q jb e
 ·have h6:=h.fr.size;exact(hk q (by omega) (λe=>by have:=h.own.ge q e;omega)).trans (h.fr.block q hq h3 h4 h5)
def LSt.to0 (h:LSt wW w0 B gB gM gn vb0 N0 fin vA A v N D w):JW wW w0 B gB gM gn vb0 N0 fin vA v N D w:=⟨h.bst,h.bl,h.fr,h.nr,h.ex,h.box,h.gg,h.vn⟩
def JW.rows_lt (h:JW wW w0 B gB gM gn vb0 N0 fin vA v N D w):∀ x∈N,∀ g,nvB x=oT g->g<w.heap.size:=by
 intro x hx g hg;obtain⟨k,hk,rfl⟩:=zr hx;exact(h.bst.arcs k hk (by rw[<- h.bst.len];exact hk)).2.lt g hg
end
def NT (wW w0:Z0)(B gB gM gn:Nat)(vb0:Option Nat)(N0:List NV)(fin:Bool)(vA:Z6)(A:List Ar)(v:Z6)(N:List NV)(D D2:List Nd)(b1 b2:Bool)(w:Z0):Prop :=
 match b1,b2 with
 | false,_=>LSt wW w0 B gB gM gn vb0 N0 fin vA A v N D w
 | true,oH=>∃ v2 N2,LSt wW w0 B gB gM gn vb0 N0 fin vA A v2 N2 D2 w
 | true,oF=>True
def Vd (wW w0:Z0)(B gB gM gn:Nat)(vb0:Option Nat)(N0:List NV)(fin:Bool)(vA:Z6)(A2:List Ar)(D2:List Nd)(va:Z6)(w:Z0):Prop :=
 ∃ v2 N2,JW wW w0 B gB gM gn vb0 N0 fin vA v2 N2 D2 w/\Af CK w w0.heap.size va A2/\∀ x∈N2,∀ g,nvB x=oT g->va.ownBlock≠oT g
section
variable {wW w0:World} {B gB gM gn:Nat} {vb0:Option Nat} {N0:List NV} {fin:Bool} {vA:Value} {A:List Ar} {v:Value} {N:List NV} {D D2:List Nd}
def NT.ext:∀ (b1 b2:Bool) (w w':Z0),NT wW w0 B gB gM gn vb0 N0 fin vA A v N D D2 b1 b2 w->Ext w w'->NT wW w0 B gB gM gn vb0 N0 fin vA A v N D D2 b1 b2 w':=by
 intro b1 b2 w w' h hx;cases b1 with
 | false=>exact LSt.ext h hx (LSt.to0 h).bst.size
 | true =>
  cases b2 with
  | false =>
   obtain⟨v2,N2,h2⟩:=h;exact⟨v2,N2,h2.ext hx h2.bst.size⟩
  | true=>trivial
def NT.boxed {b1:Bool}{w:Z0}(h:NT wW w0 B gB gM gn vb0 N0 fin vA A v N D D2 b1 oH w):w.heap[gn]? = oT (aK #[aH fin,vA] 168 (0,0))/\w0.heap.size<=w.heap.size:=by
 cases b1 with
 | false=>exact⟨LSt.box h,(LSt.fr h).size⟩
 | true =>
  obtain⟨v2,N2,h2⟩:=h;exact⟨h2.box,h2.fr.size⟩
def Oz {A2:List Ar}:Bq (Vd wW w0 B gB gM gn vb0 N0 fin vA A2 D2):=by
 rintro va w w' ⟨v2,N2,h1,h2,h3⟩ hx;exact⟨v2,N2,h1.ext hx,h2.later hx (A5 _),h3⟩
end
def Fk (vA:Z6)(x:Ar)(v:Z6)(w:Z0):Prop:=∃ g,v=aG (oT ⟨g,0,oS⟩) 1 1/\w.heap[g]? = oT (aK #[aA aO x.c,aA aM x.t] 170 (0,0))/\vA.ownBlock≠oT g
def Gv (vA:Z6)(x:Ar):Bq (Fk vA x):=by
 rintro v w w' ⟨g,rfl,h,hn⟩ hx;exact⟨g,rfl,(Z7 hx g (A7.1 h).1).trans h,hn⟩
def Gw (vA:Z6)(x:Ar):∀ v w w',Fk vA x v w->w.grownBy w' vA.ownBlock->Fk vA x v w':=by
 rintro v w w' ⟨g,rfl,h,hn⟩ hx;exact⟨g,rfl,(hx.block g (A7.1 h).1 (λe=>hn e.symm)).trans h,hn⟩
structure PSt (wW w0:Z0)(B gB gM:Nat)(vb0:Option Nat)(N0:List NV)(vA:Z6)(A:List Ar)(v0:Z6)(N:List NV)(D:List Nd)(va:Z6)(nv:NV)(w:Z0):Prop where
 rep:w.heap[gB]? = some (aK #[v0,.map (some gM)] 133 (0,0))
 own:Af C7 w B va (N ++ [nv])
 len:oB N=oB D
 arcs:∀ k (h:k<oB N) (h2:k<oB D),N[k].fin=D[k].fin/\Af CK w B (aG N[k].a N[k].n N[k].c) D[k].arcs
 map:GH w gM D
 hB:B<=gB
 hM:B<=gM
 oA:Af CK w w0.heap.size vA A
 bl:Below B wW w
 fr:Fr gB gM vb0 w0 w
 nr:DY vb0 va.ownBlock w0.heap.size
 ex:∃ E,N=N0 ++ E/\∀ x∈E,∀ g,nvB x=some g->w0.heap.size<=g
 bs:B<=w.heap.size
section
variable {wW w0 w w':World} {B gB gM gn:Nat} {vb0:Option Nat} {N0:List NV} {fin:Bool} {vA:Value} {A:List Ar} {v va:Value} {N:List NV} {D:List Nd} {nv:NV}
def PSt.ext (h:PSt wW w0 B gB gM vb0 N0 vA A v N D va nv w)(hx:Ext w w')(hn:DY vb0 va.ownBlock w0.heap.size):PSt wW w0 B gB gM vb0 N0 vA A v N D va nv w':=by
 obtain⟨es,c,hm⟩:=h.map.obj;exact⟨(Z7 hx gB (A7.1 h.rep).1).trans h.rep,h.own.later hx (A5 _),h.len,λk h1 h2=>⟨(h.arcs k h1 h2).1,(h.arcs k h1 h2).2.later hx (A5 _)⟩,h.map.kept (Z7 hx gM (A7.1 hm).1),h.hB,h.hM,h.oA.later hx (A5 _),h.bl.trans (ZT hx h.bs),h.fr.trans (Fr.of_below hx) hn,h.nr,h.ex,AA h.bs hx.size⟩
def LSt.appN (h:LSt wW w0 B gB gM gn vb0 N0 fin vA A v N D w)(hb0:∀ q,vb0=oT q->B<=q)(ho:Af C7 w' B va (N ++ [nv]))(hg:w.grownBy w' v.ownBlock)(jc:va.ownBlock=v.ownBlock\/va.ownBlock=oT w.heap.size):PSt wW w0 B gB gM vb0 N0 vA A v N D va nv w':=by
 have hv:∀ q cs t fz,w.heap[q]? = oT (.cells cs t fz)->t≠168->v.ownBlock≠oT q:=λq cs t fz hq ht e=>by
  obtain⟨cs2,ja⟩:=h.bst.own.obj e;rw[hq]at ja;injection ja with ja;injection ja with _ h2;exact ht h2
 have hk:∀ q,q<w.heap.size->v.ownBlock≠oT q->w'.heap[q]? = w.heap[q]?:=λq hq je=>hg.block q hq (λe=>je e.symm);obtain⟨es,c,hm⟩:=h.bst.map.obj;have jd:v.ownBlock≠oT gM:=λe=>by
  obtain⟨cs2,ja⟩:=h.bst.own.obj e;rw[hm]at ja;cases ja
 refine⟨(hk gB (A7.1 h.bst.rep).1 (hv _ _ _ _ h.bst.rep (by decide))).trans h.bst.rep,ho,h.bst.len,λk h1 h2=>⟨(h.bst.arcs k h1 h2).1,(h.bst.arcs k h1 h2).2.keep λg jb=>?_⟩,h.bst.map.kept (hk gM (A7.1 hm).1 jd),h.bst.gB,h.bst.gM,h.own.keep λg jb=>?_,h.bl.grown hg h.bst.size λq hq=>h.bst.own.ge q hq,⟨hg.os.trans h.fr.os,hg.tape.trans h.fr.tape,hg.output.trans h.fr.output,AA h.fr.size hg.size,λq hq h3 h4 h5=>?_⟩,?_,h.ex,AA h.bst.size hg.size⟩
 ·obtain⟨cs,ja⟩:=(h.bst.arcs k h1 h2).2.obj jb;exact hk g ((h.bst.arcs k h1 h2).2.lt g jb) (hv _ _ _ _ ja (by decide))
 ·obtain⟨cs,ja⟩:=h.own.obj jb;exact hk g (h.own.lt g jb) (hv _ _ _ _ ja (by decide))
 ·have h6:=h.fr.size;refine(hk q (by omega) λe=>?_).trans (h.fr.block q hq h3 h4 h5);rcases h.nr with h7 | h7
  · exact h5 (by rw[<- h7];exact e)
  · have:=h7 q e;omega
 ·rcases jc with h1 | h1
  · rw[h1];exact h.nr
  · rw[h1];exact .inr λq hq=>by injection hq with hq;have:=h.fr.size;omega
def PSt.done {w2:Z0}{fb:Bool}{a:Option Zj}{c:Nat}{v0 vc:Z6}(h:PSt wW w0 B gB gM v.ownBlock N0 (aG a A.length c) A v0 N D vc ⟨fb,a,oB A,c⟩ w)(hB:B<=w0.heap.size)(hm:GH w2 gM (D ++ [⟨fb,A⟩]))(hg:(w.setCell ⟨gB,0,oS⟩ vc).grownBy w2 (oT gM)) :
  K9 wW B gB gM (oB D,D ++ [⟨fb,A⟩]) v N0 w0 (aP (aA aM (oB D:Int))) w2:=by
 obtain⟨es,cm,ji⟩:=h.map.obj;have jd:=(A7.1 h.rep).1;have jm:gB≠gM:=by
  intro e;have h1:=h.rep;rw[e,ji]at h1;cases h1
 have hk:∀ q,q<w.heap.size->q≠gB->q≠gM->w2.heap[q]? = w.heap[q]?:=λq hq h1 h2=>(hg.block q (by rw[Zb];exact hq) (λe=>by injection e with e;exact h2 e)).trans (Zc _ _ _ _ h1);have ja:∀ (q:Nat) (cs:Array Z6) (t:X5) (fz:Nat × Nat),w.heap[q]? = oT (Xa cs t fz)->t≠133->w2.heap[q]? = w.heap[q]?:=λq cs t fz hq ht=>hk q (A7.1 hq).1 (λe=>by
  have h1:=h.rep;rw[<- e,hq]at h1;injection h1 with h1;injection h1 with _ h2;exact ht h2) (λe=>by rw[e,ji]at hq;cases hq)
 have jf:Af C7 w2 B vc (N ++ [⟨fb,a,oB A,c⟩]):=h.own.keep λg jc=>by
  obtain⟨cs,jb⟩:=h.own.obj jc;exact ja g _ _ _ jb (by decide)
 have jj:Af CK w2 w0.heap.size (aG a A.length c) A:=h.oA.keep λg jc=>by
  obtain⟨cs,jb⟩:=h.oA.obj jc;exact ja g _ _ _ jb (by decide)
 have jn:=h.fr.size;obtain⟨E0,jk,jl⟩:=h.ex;refine⟨vc,N ++ [⟨fb,a,oB A,c⟩],E0 ++ [⟨fb,a,oB A,c⟩],rfl,⟨?_,jf,by simp[h.len],λk h1 h2=>?_,hm,h.hB,h.hM⟩,by rw[jk,Zw],λx hx g jg=>?_,(h.bl.setCell h.hB _).grown hg (by rw[Zb];exact h.bs) (λq hq=>by injection hq with hq;rw[<- hq];exact h.hM),⟨hg.os.trans h.fr.os,hg.tape.trans h.fr.tape,hg.output.trans h.fr.output,AA jn (by have:=hg.size;rw[Zb]at this;exact this),λq hq h3 h4 h5=>(hk q (by omega) h3 h4).trans (h.fr.block q hq h3 h4 h5)⟩,h.nr⟩
 · exact(hg.block gB (by rw[Zb];exact jd) (λe=>by injection e with e;exact jm e)).trans (Aj h.rep rfl)
 ·by_cases je:k<oB N
  ·have jh:k<oB D:=by rw[<- h.len];exact je
   obtain⟨h3,h4⟩:=h.arcs k je jh;simp only[Y8 je,Y8 jh];exact⟨h3,h4.keep λg jc=>by
    obtain⟨cs,jb⟩:=h4.obj jc;exact ja g _ _ _ jb (by decide)⟩
  ·obtain rfl:k=oB N:=by rw[AD]at h1;simp at h1;omega
   have e1:(N ++ [(⟨fb,a,oB A,c⟩:NV)])[oB N]=⟨fb,a,oB A,c⟩:=by simp
   have e2:(D ++ [(⟨fb,A⟩:Nd)])[oB N]=⟨fb,A⟩:=by simp[h.len]
   rw[e1,e2];exact⟨rfl,jj.mono hB⟩
 ·rcases AY.1 hx with hx | hx
  · exact jl x hx g jg
  ·obtain rfl:=AF.1 hx;exact jj.ge g jg
end
def NT2 (wW w0:Z0)(B gB gM gn:Nat)(vb0:Option Nat)(N0:List NV)(fin:Bool)(vA:Z6)(A:List Ar)(v:Z6)(N:List NV)(D:List Nd)(b1:Bool)(w:Z0):Prop :=
 match b1 with
 | false=>LSt wW w0 B gB gM gn vb0 N0 fin vA A v N D w
 | true=>True
def NT2.ext {wW w0:Z0}{B gB gM gn:Nat}{vb0:Option Nat}{N0:List NV}{fin:Bool}{vA:Z6}{A:List Ar}{v:Z6}{N:List NV}{D:List Nd}:∀ (b1:Bool) (w w':Z0),NT2 wW w0 B gB gM gn vb0 N0 fin vA A v N D b1 w->Ext w w'->NT2 wW w0 B gB gM gn vb0 N0 fin vA A v N D b1 w':=by
 intro b1 w w' h hx;cases b1 with
 | false=>exact LSt.ext h hx (LSt.to0 h).bst.size
 | true=>trivial
def Ho (v0:Z6)(x:NV)(v:Z6)(w:Z0):Prop:=∃ g,v=aG (oT ⟨g,0,oS⟩) 1 1/\w.heap[g]? = oT (aK #[aH x.fin,aG x.a x.n x.c] 168 (0,0))/\v0.ownBlock≠oT g
def IG (v0:Z6)(x:NV):Bq (Ho v0 x):=by
 rintro v w w' ⟨g,rfl,h,hn⟩ hx;exact⟨g,rfl,(Z7 hx g (A7.1 h).1).trans h,hn⟩
def II (v0:Z6)(x:NV):∀ v w w',Ho v0 x v w->w.grownBy w' v0.ownBlock->Ho v0 x v w':=by
 rintro v w w' ⟨g,rfl,h,hn⟩ hx;exact⟨g,rfl,(hx.block g (A7.1 h).1 (λe=>hn e.symm)).trans h,hn⟩
def RD {wW w0:Z0}{B gB gM:Nat}{vb0:Option Nat}{N0:List NV}{vA:Z6}{A:List Ar}{v:Z6}{N:List NV}{D:List Nd}{nv:NV}:Bq (λva w=>PSt wW w0 B gB gM vb0 N0 vA A v N D va nv w):=λva w w' h hx=>h.ext hx h.nr
def RE {rec:List ByteArray->List Nd->Nat × List Nd}{d n:Nat}{A:List Ar}{D:List Nd}:DL rec d n [] A D=(A,D):=by cases n <;> rfl
def Lr (b o len cap:Nat)(hk:0<len)(w:Z0) :
  (ZK 35 (aG (oT ⟨b,o,oS⟩) len cap) (aA aM 0)).run Z1 w=.ok (aB (oT ⟨b,o,oS⟩)) w:=by
 have:=DC (oT ⟨b,o,oS⟩) b o len cap 0 rfl hk w;simpa using this
def BZ.drop1 {w:Z0}{b o o' k:Nat}{L:List ByteArray}(h:BZ w (oT ⟨b,o,oS⟩) L)(ho:k<oB L->o'=o+k):BZ w (oT ⟨b,o',oS⟩) (L.drop k):=by
 intro j hj;rw[ZZ]at hj;obtain⟨b1,o1,he,h1,h2⟩:=h (k+j) (by omega);injection he with he;injection he with e1 e2;subst e1 e2;refine⟨b,o',rfl,h1,?_⟩;rw[ho (by omega),List.getElem_drop,Nat.add_assoc];exact h2
def BZ.take1 {w:Z0}{a:Option Zj}{L:List ByteArray}(h:BZ w a L)(k:Nat):BZ w a (L.take k):=by
 intro j hj;obtain⟨b1,o1,he,h1,h2⟩:=h j (by rw[AO]at hj;omega);exact⟨b1,o1,he,h1,by rw[Xi];exact h2⟩
def node_any (
         wW:Z0) (B gB gM:Nat) (yH:wW.heap.size<=B) (j2:Tab wW):∀ (m d:Nat) (L:List ByteArray) (b o cap:Nat) (v:Z6) (N:List NV) (D:List Nd) (w:Z0),BZ wW (oT ⟨b,o,oS⟩) L->oB L<=cap->oB L<=1000->Pre d m L->d+m<=100->oB D+oB L*m<=500000 ->
  BSt w B gB gM v N D->Below B wW w->Zu Z1 75 #[aB (oT ⟨gB,0,oS⟩),aG (oT ⟨b,o,oS⟩) L.length cap,aA aM (d:Int)] w (K9 wW B gB gM (nodeW m d L D) v N w):=by
 intro m
 induction m with
 | zero =>
  intro d L b o cap v N D w hS hc hn hP;exfalso;obtain⟨x,hx⟩:=List.exists_mem_of_ne_nil _ hP.ne;have:=hP.ge x hx;have:=hP.lt x hx;omega
 | succ m ih
       =>
  intro d L b o cap v N D w hS hc hn hP hd kY hB hW;obtain⟨HS,HP,HB,HW,kv,IH⟩:=oG hS hP hB hW j2 ih;have kl:=hB.size;have kP:=A0 kl;obtain⟨x0,r0,jG⟩:∃ x0 r0,L=x0 :: r0:=by
   cases L with
   | nil=>exact absurd rfl hP.ne
   | cons x r=>exact⟨x,r,rfl⟩
  have k1:0<oB L:=by rw[jG];simp
  clear hS hP hB hW ih j2;obtain⟨kV,hbW⟩:wW.cell? ⟨b,o,oS⟩=oT (aI x0)/\b<wW.heap.size:=by
   obtain⟨b1,o1,ha,k8,h0⟩:=HS.at k1;have kM:L[0]=x0:=by simp only[jG,zk]
   injection ha with ha;injection ha with e1 e2;subst e1 e2;rw[kM,zl]at h0;exact⟨h0,k8⟩
  have yu:=A0 kV;have kE:=Lr b o L.length cap k1;clear kV
  go_enter Tryz.func75,Tryz.ntmps75
  obtain⟨wa,kg⟩:∃ wa,wa=w.alloc (aK #[aH oH,aG oS 0 0] 168):=⟨_,rfl⟩
  have j3:Below w.heap.size w wa:=by rw[kg];exact(Z2 _ _).alloc (A5 _) _
  have jM:Hid (LSt wW w B gB gM w.heap.size v.ownBlock N oH (aG oS 0 0) [] v N D wa) :=
   ⟨HB.ext j3,HW.trans (j3.mono kl),Fr.of_below j3,.inl rfl,⟨[],by simp,λx hx=>by cases hx⟩,by rw[kg];exact Z4 _ _,A5 _,λe=>by
    have:=HB.own.lt _ e;omega,Af.nil _ _ _,λx _ g _ e=>by cases e⟩
  have kO:wa.heap.size=w.heap.size+1:=by rw[kg];simp
  obtain⟨gn,kC⟩:∃ gn,gn=w.heap.size:=⟨_,rfl⟩
  go_upto_region 2 with fail
  rw[<- kg];rw[<- kC]at jM kO ⊢;obtain⟨HGN,HZA,HAB⟩:=oC kC kO j3;clear kg j3 kC kO;have h0a:=(jM.bl.cell (p:=⟨b,o,oS⟩) (by show b<B;omega)).trans yu;obtain⟨fb,kA⟩:∃ fb,Nl d L=fb:=⟨_,rfl⟩
  have hLI:(0:Int)<(oB L:Int):=by omega
  have km:((x0.size:Int) == (d:Int))=fb:=by rw[<- kA,jG];simp only[Nl];rw[Bool.eq_iff_iff];simp;omega
  have kS:=A0 kA;clear kA
  go_cut [1,23] (λs1 s23 wx=>∃ wz,wz=wx/\wz=wa/\s1=aG (oT ⟨b,o,oS⟩) L.length cap/\s23=aH fb)
  case first =>
   go_wp2
   go_meet
   exact⟨_,rfl,rfl,rfl,by first | rw[km] | (simp only[km]) | (rw[<- km];simp)⟩
  case rest
       =>
   obtain⟨wz,rfl,rfl,rfl,rfl⟩:=hcut;have k3:Bm d L=if fb=oF then r0 else L:=by rw[Bm,kS.out,jG];simp
   have kU:=A0 k3;have yB:Hid (r0=L.drop 1):=by show _=_;rw[jG];rfl
   have HLE:=A0 jG;clear jG k3 km
   apply_assumption
   go_cut [1] (λs1 wx=>∃ wz,wz=wx/\∃ (o' c' n':Nat),s1=aG (oT ⟨b,o',oS⟩) n' c'/\n'=(Bm d L).length/\(Bm d L).length<=c'/\BZ wW (oT ⟨b,o',oS⟩) (Bm d L)/\LSt wW w B gB gM gn v.ownBlock N fb (aG oS 0 0) [] v N D wz)
   case first =>
    cases fb with
    | true =>
     obtain⟨bx0,bx1⟩:=CC jM.box;have bfz:wz.frozen? ⟨gn,0,oS⟩=oH:=by simp[Zn,jM.out.box]
     obtain⟨o',yl,js⟩:=G6 b o L.length cap 1 (by omega) hc;have ku:Hid (Bm d L=L.drop 1):=by show _=_;rw[kU.out,if_pos rfl,yB.out]
     have yy:=A0 yl;have hhigh1:∀ w:Z0,(Xm 35 (aG (oT ⟨b,o,oS⟩) L.length cap) (oT (aA aM 1)) oS oS).run Z1 w=.ok (aG (oT ⟨b,o',oS⟩) (oB L - 1) (cap - 1)) w:=js;clear yl js;go_wp2
     go_meet
     rw[ku.out];refine⟨_,rfl,o',cap - 1,oB L - 1,rfl,by rw[ZZ],by rw[ZZ];omega,HS.drop1 yy,?_⟩;exact jM.to0.setBox kl rfl (Af.nil _ _ _) (λx _ g _ e=>by cases e)
    | false =>
     have ku:Hid (Bm d L=L):=by show _=_;rw[kU.out,if_neg (by simp)]
     go_wp2
     go_meet
     rw[ku.out];exact⟨_,rfl,o,cap,oB L,rfl,rfl,hc,HS,jM⟩
   case rest
        =>
    obtain⟨wc,rfl,o2,c2,n2,rfl,yj,yg,kx,k2⟩:=hcut;obtain⟨R,hR⟩:∃ R,Bm d L=R:=⟨_,rfl⟩
    have jo:=HP.rest;have kw:=Li d L;rw[hR]at yj yg kx jo kw;obtain⟨FA,k0⟩:∃ FA,DL (nodeW m (d+1)) d R.length R [] D=FA:=⟨_,rfl⟩
    obtain⟨HR,kR,yC,jZ,yx⟩:=oE hR k0 kx jo k2;have kZ:oB D+oB R*m<=500000:=by
     have h1:oB R*m<=oB L*m:=ZM _ kw;have h2:oB L*(m+1)=oB L*m+oB L:=Nat.mul_succ _ _;omega
    subst yj;clear hR k0 kx jo k2 kE;have ys:=A0 kZ;have HDL:=A0 kY;clear kZ kY
    go_wp2_with fail
    go_loopw [1] (λs1 wr=>∃ (R':List ByteArray) (o' c' nn:Nat) (A:List Ar) (v' vA:Z6) (N':List NV) (D':List Nd),s1=aG (oT ⟨b,o',oS⟩) R'.length c'/\R'.length<=c'/\BZ wW (oT ⟨b,o',oS⟩) R'/\Rest d (m+1) R'/\R'.length<=nn/\DL (nodeW m (d+1)) d nn R' A D'=FA /\
     LSt wW w B gB gM gn v.ownBlock N fb vA A v' N' D' wr/\(∀ x∈A,Qt x)/\D'.length+oB R'*m<=500000/\A.length+oB R'<=oB L) (λs1 _=>VE s1)
    case atStart=>exact⟨R,o2,c2,oB R,[],v,aG oS 0 0,N,D,rfl,yg,yC,jZ,A5 _,kR,yx,λx hx=>(by cases hx),ys,by simpa using kw⟩
    case round =>
     obtain⟨R',o',c',nn,A,v',vA,N',D',rfl,yf,k5,jp,hnn,j5,yh,j0,j1,hAl⟩:=hrel;obtain⟨kj,je,jU,jd,jC,jD⟩:=oG k5 jp j5 yh j0 j1;clear k5 jp j5 yh j0 j1;by_cases jx:0<oB R'
     ·have Jx:(0:Int)<(oB R':Int):=by omega
      obtain⟨x,r,kp⟩:∃ x r,R'=x :: r:=by
       cases R' with
       | nil=>simp at jx
       | cons x r=>exact⟨x,r,rfl⟩
      obtain⟨q0,yn⟩:wW.cell? ⟨b,o',oS⟩=oT (aI x)/\d<x.size:=by
       obtain⟨b1,o1,ha,k8,h0⟩:=kj.at jx;have kM:R'[0]=x:=by simp only[kp,zk]
       injection ha with ha;injection ha with e1 e2;subst e1 e2;rw[kM,zl]at h0;exact⟨h0,je.gt x (by rw[kp];simp)⟩
      have c0:=(jd.bl.cell (p:=⟨b,o',oS⟩) (by show b<B;omega)).trans q0;have hidx0:=Lr b o' R'.length c' jx;have jN:=A0 kp;have HQ0:=A0 q0;obtain⟨cb,j6⟩:∃ cb,x[d]'yn=cb:=⟨_,rfl⟩
      have kz:=A0 j6;have yd:As x d=(cb.toNat:Int):=by rw[Jt yn,j6]
      have kq:=A0 yd;clear kp q0 yd
      go_upto_block 2 with fail
      go_cut [9] (λs9 wx=>∃ wz,wz=wx/\wz=wr/\s9=aA aM (Ef d R' (As x d):Int))
      case first =>
       go_wp2_with fail
       go_loop [9] (λs9=>∃ j:Nat,1<=j/\j<=oB R'/\s9=aA aM (j:Int)/\∀ i (hi:i<oB R'),i<j->As R'[i] d=As x d) (λs9=>oB R' - (intOf s9).toNat)
       case atStart=>exact⟨1,A5 _,jx,rfl,λi hi h=>by
        obtain rfl:i=0:=by omega
        simp only[jN.out,zk]⟩
       case round =>
        obtain⟨j,hj1,hj,rfl,j4⟩:=hrel;have jT:=A0 j4;clear j4;have jA:(∀ h:j<oB R',As R'[j] d≠As x d)->Hid (Ef d R' (As x d)=j):=λh=>by
         have h2:=(Q2 (p:=λs=>decide (As s d=As x d)) hj (λi hi yM=>by simpa using jT i hi yM) (λh3=>by simpa using h h3)).1;show _=_;unfold Ef;rw[h2,AO];omega
        have kT:=A0 jA;clear jA;by_cases kn:j<oB R'
        ·obtain⟨b2,o2',k7,hb2,q2⟩:=kj.at kn;have hidx2:=DC (oT ⟨b,o',oS⟩) b2 o2' R'.length c' j k7 kn;have kD:=je.gt R'[j] (AI kn);obtain⟨y,hy⟩:∃ y,R'[j]=y:=⟨_,rfl⟩
         have HY:=A0 hy;rw[hy]at q2 kD;have c2':=(jd.bl.cell (p:=⟨b2,o2'+j,oS⟩) (by show b2<B;omega)).trans q2;obtain⟨cy,yI⟩:∃ cy,y[d]'kD=cy:=⟨_,rfl⟩
         have ye:As y d=(cy.toNat:Int):=by rw[Jt kD,yI]
         have kQ:=A0 ye;clear hy k7 q2 ye;by_cases jP:(cy.toNat:Int)=(cb.toNat:Int)
         ·have yN:((cy.toNat:Int) == (cb.toNat:Int))=oF:=by simp[jP]
          have HN:Hid (∀ i (hi:i<oB R'),i<j+1->As R'[i] d=As x d):=λi hi h=>by
           by_cases e:i=j
           · subst e;rw[HY.out,kQ.out,kq.out,jP]
           · exact jT i hi (by omega)
          clear jP;go_wp2
          go_round
          case rel=>exact⟨j+1,by omega,by omega,by go_num,HN⟩
          case measure=>simp[intOf];omega
         ·have yN:((cy.toNat:Int) == (cb.toNat:Int))=oH:=by rw[beq_eq_false_iff_ne];exact jP
          have HN:=kT (λ_=>by rw[HY.out,kQ.out,kq.out];exact jP);clear jP;go_wp2
          go_meet
          exact⟨_,rfl,rfl,by rw[HN.out]⟩
        ·have HN:=kT (λh=>absurd h kn);go_wp2
         go_meet
         exact⟨_,rfl,rfl,by rw[HN.out]⟩
      case rest
           =>
       obtain⟨wz,rfl,rfl,rfl⟩:=hcut;obtain⟨kk,jQ⟩:∃ kk,Ef d R' (As x d)=kk:=⟨_,rfl⟩
       have hk1:1<=kk:=by rw[<- jQ,jN.out];exact I9
       have kF:kk<=oB R':=by rw[<- jQ];exact Q4
       obtain⟨qi,qD,hq⟩:∃ qi qD,nodeW m (d+1) (R'.take kk) D'=(qi,qD):=⟨_,_,rfl⟩
       rw[jQ];have yv:=A0 jQ;have HQ:=A0 hq;have hlow:=Js ⟨b,o',oS⟩ R'.length c' kk kF yf;have ka:Pre (d+1) m (R'.take kk):=by rw[<- jQ];have h:=je.out;rw[jN.out]at h ⊢;exact h.group
       have jW:=A0 ka;have jR:(R'.take kk).length=kk:=by rw[AO];omega
       have ki:=A0 jR;have yb:oB D'+(R'.take kk).length*m<=500000:=by
        rw[jR];have:=jD.out;have h1:kk*m<=oB R'*m:=ZM _ kF;omega
       have yr:=A0 yb;have hw64:IntKind.i64.wrap ((d:Int)+1)=(d:Int)+1:=Zq _ (by omega);have jF:oB A<=1000:=by omega
       clear jQ hq ka jR yb c0
       go_upto_region 10 with fail
       refine Ay (by kernel_rfl) (Vs [vq (aB (oT ⟨gn,1,oS⟩)),vq (vA),vq (aA aO (cb.toNat:Int)),vq (aB (oT ⟨gB,0,oS⟩)),vq (aG (oT ⟨b,o',oS⟩) R'.length c'),vq (aA aM (kk:Int)),vq (aG (oT ⟨b,o',oS⟩) kk c'),vq (aA aM (d:Int)),vq (aA aM ((d:Int)+1)),vq (aA aM (qi:Int)),vq (aJ #[aA aO (cb.toNat:Int),aA aM (qi:Int)]),Fk vA (⟨(cb.toNat:Int),(qi:Int)⟩:Ar),Vd wW w B gB gM gn v.ownBlock N fb vA (A ++ [(⟨(cb.toNat:Int),(qi:Int)⟩:Ar)]) qD,vq (aB (oT ⟨gn,1,oS⟩))]) (Xs [Ext,Ext,Ext,Ext,Ext,Ext,Ext,Ext,Ext,(λ_ _=>True),Ext,Ext,(λw w'=>w.grownBy w' vA.ownBlock),Ext]) (λfL=>(λb1 b2 W=>NT wW w B gB gM gn v.ownBlock N fb vA A v' N' D' qD b1 b2 W) (fL 9) (fL 12)) [0,1,0,0,0,0,48,0,128,504,1020,2044,4095,0] 103 14 (by kernel_rfl) rfl ?hV ?hS ?hop ?hfin ?hlast
       case hV =>
        refine Bi (BB (by simp only[AX,ZN,or_false,forall_eq_or_imp,forall_eq];exact⟨Ab _,Ab _,Ab _,Ab _,Ab _,Ab _,Ab _,Ab _,Ab _,Ab _,Ab _,Gv _ _,Oz,Ab _⟩)) ?_;exact⟨.inl rfl,.inl rfl,.inl rfl,.inl rfl,.inl rfl,.inl rfl,.inl rfl,.inl rfl,.inl rfl,.inr (BU ⟨λ_ _=>λ_ _ _ h _=>h,λ_ _=>λ_ _ _ h _=>h,λ_ _=>λ_ _ _ h _=>h,λ_ _=>λ_ _ _ h _=>h,λ_ _=>λ_ _ _ h _=>h,λ_ _=>λ_ _ _ h _=>h,λ_ _=>λ_ _ _ h _=>h,λ_ _=>λ_ _ _ h _=>h,λ_ _=>λ_ _ _ h _=>h,λh=>absurd rfl h,λ_ h=>absurd h (by decide),λ_ h=>absurd h (by decide),λ_ h=>absurd h (by decide),λ_ _=>λ_ _ _ h _=>h,trivial⟩),.inl rfl,.inl rfl,.inr (BU ⟨λ_ _=>λ_ _ _ h _=>h,λ_ _=>λ_ _ _ h _=>h,λ_ _=>λ_ _ _ h _=>h,λ_ _=>λ_ _ _ h _=>h,λ_ _=>λ_ _ _ h _=>h,λ_ _=>λ_ _ _ h _=>h,λ_ _=>λ_ _ _ h _=>h,λ_ _=>λ_ _ _ h _=>h,λ_ _=>λ_ _ _ h _=>h,λ_ _=>λ_ _ _ h _=>h,λ_ _=>λ_ _ _ h _=>h,λ_ _=>Gw _ _,λh=>absurd rfl h,λ_ _=>λ_ _ _ h _=>h,trivial⟩),.inl rfl,trivial⟩
       case hS =>
        intro fL hf;show(λb1 b2 W=>NT wW w B gB gM gn v.ownBlock N fb vA A v' N' D' qD b1 b2 W) (fL 9) (fL 12) _;rw[hf 9 (by decide),hf 12 (by decide)];exact NT.ext oH oH _ _ jd ⟨rfl,rfl,rfl,A5 _,λ_ _=>rfl⟩
       case hop =>
        refine⟨?_,?c1,?_,?_,?_,?_,?_,?_,?_,?c9,?_,?c11,?c12,?_,?_,trivial⟩
        all_goals first | rw[if_neg (by decide)] | rw[if_pos (by decide)]
        all_goals try exact True.intro
        all_goals try intro ac W fL jh jm jS jO jc jf ja jL
        all_goals try have hS:(λb1 b2 W=>NT wW w B gB gM gn v.ownBlock N fb vA A v' N' D' qD b1 b2 W) (fL 9) (fL 12) W:=jc
        all_goals try (have jw:fL 9=oF:=jS 9 (by decide);rw[jw]at hS)
        all_goals try (have jw:fL 9=oH:=(by first | exact jm | exact jO 9 (by decide) (by decide));rw[jw]at hS)
        all_goals try (have ji:fL 12=oF:=jS 12 (by decide);rw[ji]at hS)
        all_goals try (have ji:fL 12=oH:=(by first | exact jm | exact jO 12 (by decide) (by decide));rw[ji]at hS)
        all_goals try have yL:=gdA ac 7 (aB (oT ⟨gn,0,oS⟩)) (ja 7 (by kernel_rfl))
        all_goals try have hh8:=gdA ac 8 (aA aO (cb.toNat:Int)) (ja 8 (by kernel_rfl))
        all_goals try have yJ:=gdA ac 0 (aB (oT ⟨gB,0,oS⟩)) (ja 0 (by kernel_rfl))
        all_goals try (have h1:ac.tmps.getD 1 Z8=aG (oT ⟨b,o',oS⟩) R'.length c':=ja 1 (by kernel_rfl);have yK:=h1;rw[A6]at yK)
        all_goals try have hh9:=gdA ac 9 (aA aM (kk:Int)) (ja 9 (by kernel_rfl))
        all_goals try have hh2:=gdA ac 2 (aA aM (d:Int)) (ja 2 (by kernel_rfl))
        all_goals try (have d52:ac.tmps.getD 52 Z8=vA:=jf 1 (by decide);have dd52:=d52;rw[A6]at dd52)
        all_goals try have d62:(Fk vA (⟨(cb.toNat:Int),(qi:Int)⟩:Ar)) (ac.tmps.getD 62 Z8) W:=jf 11 (by decide)
        all_goals try (have jf:=GC jf;simp[FK,Ae,vq]at jf)
        all_goals try clear ja jS jO jL
        case c1 =>
         have jl:(λb1 b2 W=>NT wW w B gB gM gn v.ownBlock N fb vA A v' N' D' qD b1 b2 W) ((upd fL 1) 9) ((upd fL 1) 12) W:=jc;obtain⟨bx0,bx1⟩:=CC (NT.boxed hS).1;refine Ag rfl (.inl ⟨_,W,?_,rfl,Ext.refl _,jl⟩);clear jh hS jc jl jm;simp[go_sem,Zf, *]
        case c9 =>
         have jv:=IH (d+1) (R'.take kk) b o' c' v' N' D' W (kj.take1 kk) (by rw[ki.out];omega) (by rw[ki.out];omega) jW (by omega) yr (LSt.bst hS) (LSt.bl hS);rw[HQ.out,ki.out,show((d+1:Nat):Int)=(d:Int)+1 by omega]at jv;refine Ag rfl (.inr ⟨75,#[aB (oT ⟨gB,0,oS⟩),aG (oT ⟨b,o',oS⟩) kk c',aA aM ((d:Int)+1)],W,by(clear jh hS jc jm jv;simp[go_sem,Zf, *]),?_⟩);refine jv.mono ?_;clear jv;rintro e w' hp;obtain⟨he,v2,N2,jj⟩:=LSt.called hS hp;refine⟨_,he,rfl,trivial,?_⟩;show NT wW w B gB gM gn v.ownBlock N fb vA A v' N' D' qD (upd fL 9 9) (upd fL 9 12) w';rw[show upd fL 9 9=oF from if_pos rfl,show upd fL 9 12=fL 12 from if_neg (by decide),show fL 12=oH from ji];exact⟨v2,N2,jj⟩
        case c11 =>
         have jl:(λb1 b2 W=>NT wW w B gB gM gn v.ownBlock N fb vA A v' N' D' qD b1 b2 W) ((upd fL 11) 9) ((upd fL 11) 12) W:=jc;have ju:vA.ownBlock≠oT W.heap.size:=λe=>by
          obtain⟨v2,N2,jj⟩:=hS;have:=jj.own.lt _ e;omega
         refine Ag rfl (.inl ⟨aG (oT ⟨W.heap.size,0,oS⟩) 1 1,W.alloc (aK #[aA aO (cb.toNat:Int),aA aM (qi:Int)] 170),?_,⟨_,rfl,Z4 _ _,ju⟩,(Z2 _ _).alloc (A5 _) _,(show(λb1 b2 W=>NT wW w B gB gM gn v.ownBlock N fb vA A v' N' D' qD b1 b2 W) ((upd fL 11) 9) ((upd fL 11) 12) _ by
          rw[show upd fL 11 9=fL 9 from if_neg (by decide),show upd fL 11 12=fL 12 from if_neg (by decide)];exact NT.ext _ _ _ _ jc ((Z2 _ _).alloc (A5 _) _))⟩)
         clear jh hS jc jl jm;simp[go_sem,Zf, *]
        case c12 =>
         obtain⟨g62,e62,jJ,kI⟩:=d62;obtain⟨v2,N2,jj⟩:=hS;refine Ag rfl ((DD EU (.tmp 52) (.tmp 62) rfl (Al d52) jj.own ⟨g62,0,oS⟩ 1 [(⟨(cb.toNat:Int),(qi:Int)⟩:Ar)] (Al e62) (Ai jJ) (by simp only[AE];omega) jj.fr.size).mono ?_);rintro va w' ⟨ho,jA,ky⟩;refine⟨⟨v2,N2,jj.app kP jA,ho,λy hy g hg e=>?_⟩,jA,?_⟩
         ·rcases ky with h1 | h1
          · rw[h1]at e;exact jj.apart y hy g hg e
          ·rw[h1]at e;injection e with e;have:=jj.to0.rows_lt y hy g hg;omega
         ·show NT wW w B gB gM gn v.ownBlock N fb vA A v' N' D' qD (upd fL 12 9) (upd fL 12 12) w';rw[show upd fL 12 9=fL 9 from if_neg (by decide),show upd fL 12 12=oF from if_pos rfl,show fL 9=oF from jw];trivial
        all_goals (refine Ag rfl (.inl ⟨_,W,?_,rfl,Ext.refl _,jc⟩);clear jh hS jc jm;simp[go_sem,Zf, *];done)
       case hfin =>
        intro h;exact absurd h (by decide)
       case hlast =>
        intro _ ac W jh j7 fL hf jc hv ja;have hS:(λb1 b2 W=>NT wW w B gB gM gn v.ownBlock N fb vA A v' N' D' qD b1 b2 W) (fL 9) (fL 12) W:=jc;clear jc;rw[hf 9 (by decide),hf 12 (by decide)]at hS;have kf:ac.tmps.getD 64 Z8=aB (oT ⟨gn,1,oS⟩):=hv 13 (by decide);have jn:Vd wW w B gB gM gn v.ownBlock N fb vA (A ++ [(⟨(cb.toNat:Int),(qi:Int)⟩:Ar)]) qD (ac.tmps.getD 63 Z8) W:=hv 12 (by decide);obtain⟨v2,N2,jj,ko,jH⟩:=jn;obtain⟨xa,xc,kh, -, -⟩:=ko.form;rw[kh]at ko jH;obtain⟨bx0,bx1⟩:=CC jj.box;refine Bw rfl rfl rfl rfl (Al kf) (Al kh) (by simp[Zn,jj.box]) bx1 (by kernel_rfl) ?_;have kG:=jj.setBox (i:=1) (fin':=fb) (y:=aG xa (A ++ [(⟨(cb.toNat:Int),(qi:Int)⟩:Ar)]).length xc) kP rfl ko jH;obtain⟨wz2,jg⟩:∃ wz2,W.setCell ⟨gn,1,oS⟩ (aG xa (A ++ [(⟨(cb.toNat:Int),(qi:Int)⟩:Ar)]).length xc)=wz2:=⟨_,rfl⟩
        rw[jg]at kG ⊢;have yw:=A0 kG;clear hS jj ko jH bx0 bx1 kG jg kf;obtain⟨sx,kL,kd⟩:=B7 [51,52,53,54,55,56,57,58,59,60,61,62,63,64] (by kernel_rfl) jh j7 ja;rw[kd];simp only[Zp];simp only[ZE,Z5,Za,Z9];clear kd kL hv ja jh j7 hf;obtain⟨o3,ym,js⟩:=G6 b o' R'.length c' kk kF yf;have yz:=A0 ym;clear ym kh;obtain⟨nn',kJ⟩:∃ nn',nn=nn'+1:=⟨nn - 1,by omega⟩
        have kW:DL (nodeW m (d+1)) d nn' (R'.drop kk) (A ++ [(⟨(cb.toNat:Int),(qi:Int)⟩:Ar)]) qD=FA:=by
         have h:=jU.out;rw[kJ,jN.out,DL,<- jN.out,yv.out,HQ.out,kq.out]at h;exact h
        have yo:oB qD+(R'.drop kk).length*m<=500000:=by
         have h1:=Ju m (d+1) (R'.take kk) D' jW.ne;rw[HQ.out,ki.out]at h1;have h2:=jD.out;have h3:(oB R' - kk)*m+kk*m=oB R'*m:=by rw[<- Xp];congr 1;omega
         rw[ZZ];simp only at h1;omega
        have yO:qi<=oB qD:=by
         have:=Qv m (d+1) (R'.take kk) D';rw[HQ.out]at this;exact this
        have j6:(cb.toNat:Int)<=127:=by
         have hx:x∈R':=by rw[jN.out];simp
         have:=je.asc x hx cb (by rw[<- kz.out];show x.data[d]∈x.data.toList;simp);omega
        have j9:∀ y∈A ++ [(⟨(cb.toNat:Int),(qi:Int)⟩:Ar)],Qt y:=λy hy=>by
         rcases AY.1 hy with hy | hy
         · exact jC y hy
         ·obtain rfl:=AF.1 hy;refine⟨?_,j6,?_,?_⟩
          · show(0:Int)<=(cb.toNat:Int);omega
          · show(0:Int)<=(qi:Int);omega
          · show(qi:Int)<=1000000;omega
        obtain⟨yp,yA,ks⟩:=oC kW yo j9;clear kW yo j9 j6 yO
        go_wp2_with fail
        go_roundw
        case rel=>exact⟨R'.drop kk,o3,c' - kk,nn',_,v2,_,N2,qD,by rw[ZZ],by rw[ZZ];omega,kj.drop1 yz,je.drop kk,by rw[ZZ];omega,yp,yw,ks,yA,by rw[AD,ZZ];simp;omega⟩
        case measure=>simp[VE];omega
     ·have Jx:¬ (0:Int)<(oB R':Int):=by omega
      have k4:R'=[]:=Zo (by omega);have kc:nodeW (m+1) d L D=addN fb A D':=by
       have h:=jU.out;rw[k4,RE]at h;rw[nodeW,HR.out,kR.out,kS.out,<- h]
      have jY:=A0 kc;obtain⟨xa,xc,kh, -, -⟩:=jd.own.form;subst kh;obtain⟨na,nc,yk, -, -⟩:=jd.bst.own.form;rw[jd.out.bst.len]at yk;subst yk;have jF:oB A<=1000:=by omega
      have yF:oB D'<1000000:=by have:=jD.out;omega
      have kX:=jd.own.arcs.1;have yq:=A0 kX;have k6:Tab wr:=kv.later (jd.bl.mono yH);have yD:=A0 k6;obtain⟨bx0,bx1⟩:=CC jd.box;obtain⟨sk,kK⟩:∃ sk:ByteArray,sk=⟨(Ba fb A).toArray⟩:=⟨_,rfl⟩
      have jR:(Ba fb A).length<=maxLen:=by have:=Nk (f:=fb) jC;unfold maxLen;omega
      have jK:sk.data.toList=Ba fb A:=by rw[kK]
      have ke:sk.size<=maxLen:=by rw[Gc,jK];exact jR
      have jE:=A0 jK;have jr:=contents_any fb A xa A.length xc wr yq rfl jC (by omega) yD;rw[<- kK]at jr;have jV:=A0 jr;clear k4 kc kX k6 kK jR jK jr
      go_wp2_with fail
      refine jV.mono ?_;rintro e w5 ⟨rfl,k9⟩;have jy:=A0 (jd.ext k9 jd.bst.size);clear k9 bx0 bx1;obtain⟨rp0,rp1⟩:=CC jy.bst.rep;have jt:=jy.bst.map.look sk ke;by_cases jk:D5 D' sk.data.toList<oB D'
      ·rw[if_pos jk,decide_eq_true jk]at jt;have jq:addN fb A D'=(D5 D' sk.data.toList,D'):=by
        rw[jE.out]at jk ⊢;unfold addN;unfold D5 at jk ⊢;rw[if_pos jk]
       have jB:=A0 jq;clear jk jq;go_wp2;go_ret;rw[jY.out,jB.out];obtain⟨E,hE,yG⟩:=jy.ex;exact⟨_,N',E,rfl,jy.bst,hE,yG,jy.bl,jy.fr,jy.nr⟩
      ·rw[if_neg jk,decide_eq_false jk]at jt;have jq:addN fb A D'=(oB D',D' ++ [⟨fb,A⟩]):=by
        rw[jE.out]at jk;unfold addN;unfold D5 at jk;rw[if_neg jk]
       have jB:=A0 jq;have yt:=A0 jk;clear jk jq
       go_upto_region 16 with fail
       clear jt rp0 rp1;refine Ay (by kernel_rfl) (Vs [vq (aB (oT ⟨gB,0,oS⟩)),vq (aB (oT ⟨gB,0,oS⟩)),vq (aB (oT ⟨gB,0,oS⟩)),vq (aB (oT ⟨gB,0,oS⟩)),vq (aG na D'.length nc),vq (aJ #[aH fb,aG xa A.length xc]),Ho (aG na D'.length nc) (⟨fb,xa,oB A,xc⟩:NV),λva w9=>PSt wW w B gB gM v.ownBlock N (aG xa A.length xc) A (aG na D'.length nc) N' D' va (⟨fb,xa,oB A,xc⟩:NV) w9,vq (aB (oT ⟨gB,0,oS⟩)),vq (aB (oT ⟨gB,0,oS⟩))]) (Xs [Ext,Ext,Ext,Ext,Ext,Ext,Ext,(λw w'=>w.grownBy w' (Zk na D'.length nc).ownBlock),Ext,Ext]) (λfL=>(λb1 W=>NT2 wW w B gB gM gn v.ownBlock N fb (aG xa A.length xc) A (aG na D'.length nc) N' D' b1 W) (fL 7)) [0,0,2,6,14,0,32,126,1,257] 103 10 (by kernel_rfl) rfl ?hV ?hS ?hop ?hfin ?hlast
       case hV =>
        refine Bi (BB (by simp only[AX,ZN,or_false,forall_eq_or_imp,forall_eq];exact⟨Ab _,Ab _,Ab _,Ab _,Ab _,Ab _,IG _ _,RD,Ab _,Ab _⟩)) ?_;exact⟨.inl rfl,.inl rfl,.inl rfl,.inl rfl,.inl rfl,.inl rfl,.inl rfl,.inr (BU ⟨λ_ _=>λ_ _ _ h _=>h,λ_ _=>λ_ _ _ h _=>h,λ_ _=>λ_ _ _ h _=>h,λ_ _=>λ_ _ _ h _=>h,λ_ _=>λ_ _ _ h _=>h,λ_ _=>λ_ _ _ h _=>h,λ_ _=>II _ _,λh=>absurd rfl h,λ_ _=>λ_ _ _ h _=>h,λ_ _=>λ_ _ _ h _=>h,trivial⟩),.inl rfl,.inl rfl,trivial⟩
       case hS =>
        intro fL hf;show(λb1 W=>NT2 wW w B gB gM gn v.ownBlock N fb (aG xa A.length xc) A (aG na D'.length nc) N' D' b1 W) (fL 7) _;rw[hf 7 (by decide)];exact NT2.ext oH _ _ jy ⟨rfl,rfl,rfl,A5 _,λ_ _=>rfl⟩
       case hop =>
        refine⟨?_,?_,?_,?_,?c4,?c5,?c6,?c7,?_,?_,?_,trivial⟩
        all_goals first | rw[if_neg (by decide)] | rw[if_pos (by decide)]
        all_goals try exact True.intro
        all_goals try intro ac W fL jh jm jS jO jc jf ja jL
        all_goals try have hS:(λb1 W=>NT2 wW w B gB gM gn v.ownBlock N fb (aG xa A.length xc) A (aG na D'.length nc) N' D' b1 W) (fL 7) W:=jc
        all_goals try (have jI:fL 7=oF:=jS 7 (by decide);rw[jI]at hS)
        all_goals try (have jI:fL 7=oH:=(by first | exact jm | exact jO 7 (by decide) (by decide));rw[jI]at hS)
        all_goals try have yJ:=gdA ac 0 (aB (oT ⟨gB,0,oS⟩)) (ja 0 (by kernel_rfl))
        all_goals try have yL:=gdA ac 7 (aB (oT ⟨gn,0,oS⟩)) (ja 7 (by kernel_rfl))
        all_goals try (have d90:ac.tmps.getD 90 Z8=aG na D'.length nc:=jf 4 (by decide);have dd90:=d90;rw[A6]at dd90)
        all_goals try have d92:(Ho (aG na D'.length nc) (⟨fb,xa,oB A,xc⟩:NV)) (ac.tmps.getD 92 Z8) W:=jf 6 (by decide)
        all_goals try (have jf:=GC jf;simp[FK,Ae,vq]at jf)
        all_goals try clear ja jS jO jL
        case c4 =>
         have jl:(λb1 W=>NT2 wW w B gB gM gn v.ownBlock N fb (aG xa A.length xc) A (aG na D'.length nc) N' D' b1 W) ((upd fL 4) 7) W:=jc;have jb:LSt wW w B gB gM gn v.ownBlock N fb (aG xa A.length xc) A (aG na D'.length nc) N' D' W:=hS;obtain⟨rp0,rp1⟩:=CC jb.bst.rep;refine Ag rfl (.inl ⟨_,W,?_,rfl,Ext.refl _,jl⟩);clear jh hS jc jl jm jb;simp[go_sem,Zf, *]
        case c5 =>
         have jl:(λb1 W=>NT2 wW w B gB gM gn v.ownBlock N fb (aG xa A.length xc) A (aG na D'.length nc) N' D' b1 W) ((upd fL 5) 7) W:=jc;have jb:LSt wW w B gB gM gn v.ownBlock N fb (aG xa A.length xc) A (aG na D'.length nc) N' D' W:=hS;obtain⟨bx0,bx1⟩:=CC jb.box;refine Ag rfl (.inl ⟨_,W,?_,rfl,Ext.refl _,jl⟩);clear jh hS jc jl jm jb;simp[go_sem,Zf, *]
        case c6 =>
         have jl:(λb1 W=>NT2 wW w B gB gM gn v.ownBlock N fb (aG xa A.length xc) A (aG na D'.length nc) N' D' b1 W) ((upd fL 6) 7) W:=jc;have jb:LSt wW w B gB gM gn v.ownBlock N fb (aG xa A.length xc) A (aG na D'.length nc) N' D' W:=hS;have ju:(Zk na D'.length nc).ownBlock≠oT W.heap.size:=λe=>by
          have:=jb.bst.own.lt _ e;omega
         refine Ag rfl (.inl ⟨aG (oT ⟨W.heap.size,0,oS⟩) 1 1,W.alloc (aK #[aH fb,aG xa A.length xc] 168),?_,⟨_,rfl,Z4 _ _,ju⟩,(Z2 _ _).alloc (A5 _) _,(show(λb1 W=>NT2 wW w B gB gM gn v.ownBlock N fb (aG xa A.length xc) A (aG na D'.length nc) N' D' b1 W) ((upd fL 6) 7) _ by
          rw[show upd fL 6 7=fL 7 from if_neg (by decide)];exact NT2.ext _ _ _ jc ((Z2 _ _).alloc (A5 _) _))⟩)
         clear jh hS jc jl jm jb;simp[go_sem,Zf, *]
        case c7 =>
         have jb:LSt wW w B gB gM gn v.ownBlock N fb (aG xa A.length xc) A (aG na D'.length nc) N' D' W:=hS;obtain⟨g62,e62,jJ,kI⟩:=d92;refine Ag rfl ((DD DW (.tmp 90) (.tmp 92) rfl (Al d90) jb.bst.own ⟨g62,0,oS⟩ 1 [(⟨fb,xa,oB A,xc⟩:NV)] (Al e62) (Ai jJ) (by rw[jb.bst.len];simp only[AE];omega) jb.bst.size).mono ?_);rintro va w' ⟨ho,jA,ky⟩;refine⟨jb.appN (λq hq=>HB.own.ge q hq) ho jA ky,jA,?_⟩;show NT2 wW w B gB gM gn v.ownBlock N fb (aG xa A.length xc) A (aG na D'.length nc) N' D' (upd fL 7 7) w';rw[show upd fL 7 7=oF from if_pos rfl];trivial
        all_goals (refine Ag rfl (.inl ⟨_,W,?_,rfl,Ext.refl _,jc⟩);clear jh hS jc jm;simp[go_sem,Zf, *];done)
       case hfin =>
        intro h;exact absurd h (by decide)
       case hlast =>
        intro _ ac W jh j7 fL hf jc hv ja;have hS:(λb1 W=>NT2 wW w B gB gM gn v.ownBlock N fb (aG xa A.length xc) A (aG na D'.length nc) N' D' b1 W) (fL 7) W:=jc;clear jc;rw[hf 7 (by decide)]at hS;have kf:ac.tmps.getD 95 Z8=aB (oT ⟨gB,0,oS⟩):=hv 9 (by decide);have jn:PSt wW w B gB gM v.ownBlock N (aG xa A.length xc) A (aG na D'.length nc) N' D' (ac.tmps.getD 93 Z8) (⟨fb,xa,oB A,xc⟩:NV) W:=hv 7 (by decide);obtain⟨ya,yc,kN, -, -⟩:=jn.own.form;rw[kN]at jn;obtain⟨rp0,rp1⟩:=CC jn.rep;refine Bw rfl rfl rfl rfl (Al kf) (Al kN) (by simp[Zn,jn.rep]) rp0 (by kernel_rfl) ?_;have kb:=jn;obtain⟨es9,c9,yi⟩:=jn.map.obj;have j8:gM≠gB:=λe=>by
         have h1:=jn.rep;rw[<- e,yi]at h1;cases h1
        obtain⟨wz2,jg⟩:∃ wz2,W.setCell ⟨gB,0,oS⟩ (aG ya (N' ++ [(⟨fb,xa,oB A,xc⟩:NV)]).length yc)=wz2:=⟨_,rfl⟩
        have jz:Hid (GH wz2 gM D'):=by rw[<- jg];exact jn.map.kept (Zc _ _ _ _ j8)
        have jX:Hid (wz2.heap[gB]? = oT (aK #[aG ya (N' ++ [(⟨fb,xa,oB A,xc⟩:NV)]).length yc,.map (oT gM)] 133 (0,0))):=by show _=_;rw[<- jg];exact Aj jn.rep rfl
        rw[jg];have yE:=A0 jg;clear hS jn rp0 rp1 jg kf es9 c9 yi j8;obtain⟨sx,kL,kd⟩:=B7 [86,87,88,89,90,91,92,93,94,95] (by kernel_rfl) jh j7 ja;clear kN;rw[kd];simp only[Zp];simp only[ZE,Z5,Za,Z9];clear kd kL hv ja jh j7 hf;have kt:=A0 kb;clear kb;have hmap9:GH wz2 gM D':=jz.out;obtain⟨rp0,rp1⟩:=CC jX;have kr:Hid (Ba (⟨fb,A⟩:Nd).fin (⟨fb,A⟩:Nd).arcs=sk.data.toList):=jE.symm
        go_wp2_with (first
         | (at_mapUpdate;go_loud (refine Hk jz ⟨fb,A⟩ sk kr ke yt yF rfl _ _ _ rfl rfl rfl rfl ?_;intro w10 kH kB)))
        go_ret;rw[jY.out,jB.out];exact kt.done kl kH (by rw[yE.out];exact kB)
open Go.RowKit Go.WideShapes Go.Maps Go.WideMaps
def EF (Mt:List Nat)(i:Nat):Nat:=Mt.findIdx λj=>decide (j=i)
def DE (rec:Nat->List Nat->List Nd->Nat × List Nat × List Nd):List Ar->List Ar->List Nat->List Nd->List Ar × List Nat × List Nd
 | [],A,Mt,E=>(A,Mt,E)
 | x :: r,A,Mt,E=>DE rec r (A ++ [⟨x.c,((rec x.t.toNat Mt E).1:Nat)⟩]) (rec x.t.toNat Mt E).2.1 (rec x.t.toNat Mt E).2.2
def
  numV (Dn:List Nd):Nat->Nat->List Nat->List Nd->Nat × List Nat × List Nd
 | 0,_,Mt,E=>(0,Mt,E)
 | m
   +
    1,i,Mt,E =>
  if EF Mt i<oB Mt then(EF Mt i,Mt,E)
  else
   (oB E,(DE (numV Dn m) (Dn.getD i default).arcs [] (Mt ++ [i]) (E ++ [⟨(Dn.getD i default).fin,[]⟩])).2.1,
    (DE (numV Dn m) (Dn.getD i default).arcs [] (Mt ++ [i]) (E ++ [⟨(Dn.getD i default).fin,[]⟩])).2.2.set E.length ⟨(Dn.getD i default).fin,(DE (numV Dn m) (Dn.getD i default).arcs [] (Mt ++ [i]) (E ++ [⟨(Dn.getD i default).fin,[]⟩])).1⟩)
def UK (Dn:List Nd):Prop:=∀ i (h:i<oB Dn),∀ x∈Dn[i].arcs,0<=x.t/\x.t<(i:Int)
def RF {Mt:List Nat}{i j:Nat}:EF (Mt ++ [j]) i=if EF Mt i<oB Mt then EF Mt i else if j=i then Mt.length else Mt.length+1:=by
 unfold EF;rw[List.findIdx_append];split
 · rfl
 ·rw[zV];by_cases h:j=i
  · simp[h]
  · simp[h];omega
def UL {Mt:List Nat}{i:Nat}(h:i∈Mt):EF Mt i<oB Mt:=List.findIdx_lt_length_of_exists ⟨i,h,by simp⟩
structure VOk (Dn:List Nd)(Mt:List Nat)(E:List Nd):Prop where
 len:oB Mt=oB E
 nd:Mt.Nodup
 lt:∀ j∈Mt,j<oB Dn
def nodup_le:∀ (n:Nat) (l:List Nat),l.Nodup->(∀ j∈l,j<n)->oB l<=n
 | 0,l,_,h=>by
  cases l with
  | nil=>simp
  | cons x r=>have:=h x (by simp);omega
 | n
   +
    1,l,hn,h=>by
  by_cases hm:n∈l
  ·have h1:=nodup_le n (l.erase n) (hn.erase n) (λj hj=>by
    have h2:=h j (List.mem_of_mem_erase hj);have h3:j≠n:=λe=>by subst e;exact hn.not_mem_erase hj
    omega)
   rw[List.length_erase_of_mem hm]at h1;omega
  ·have h1:=nodup_le n l hn (λj hj=>by
    have h2:=h j hj;have h3:j≠n:=λe=>by subst e;exact hm hj
    omega)
   omega
def VOk.le {Dn:List Nd}{Mt:List Nat}{E:List Nd}(h:VOk Dn Mt E):oB E<=oB Dn:=by
 rw[<- h.len];exact nodup_le _ _ h.nd h.lt
def IJ (w:Z0)(g:Nat)(Mt:List Nat):Prop:=∃ (n:Nat) (M:DataW Unit),w.ownsMap Z1 3 (plainElem Z1 3) g n M/\n<=oB Mt /\
 ∀ i:Nat,i<1000000->Maps.has M (.int .i64 (i:Int))=decide (EF Mt i<oB Mt)/\M.atKey (.int .i64 (i:Int)) (.lit (.int .i64 0))=.lit (.int .i64 (if EF Mt i<oB Mt then(EF Mt i:Int) else 0))
def Sh:Keyed Z1 3:=int_keyed ZR
def wfN {n:Nat}(h:n<1000001):(Lit.int aM (n:Int)).wf=oF:=by simp[Lit.wf,IntKind.min,IntKind.max,IntKind.bits,IntKind.signed];omega
def IJ.new (w:Z0):IJ (w.alloc (.map #[] 0)) w.heap.size [] :=
 ⟨0,.map [],World.ownsMap_made _ _ _ _,A5 _,λs _=>⟨by simp[EF,Maps.has],by simp[EF,DataW.atKey]⟩⟩
def IJ.kept {w w1:Z0}{g:Nat}{Mt:List Nat}(h:IJ w g Mt)(hk:w1.heap[g]? = w.heap[g]?):IJ w1 g Mt:=by
 obtain⟨n,M,⟨es,clock,hb,h1,h2,h3⟩,h4⟩:=h;exact⟨n,M,⟨es,clock,hk.trans hb,h1,h2,h3⟩,h4⟩
def IJ.obj {w:Z0}{g:Nat}{Mt:List Nat}(h:IJ w g Mt):∃ es c,w.heap[g]? = oT (.map es c):=by
 obtain⟨n,M,⟨es,clock,hb,_⟩,_⟩:=h;exact⟨es,clock,hb⟩
def IJ.look {w:Z0}{g:Nat}{Mt:List Nat}(h:IJ w g Mt)(i:Nat)(hi:i<1000000) :
  (Instr.lookup 173 (.map (oT g)) (aA aM (i:Int)) oF).run Z1 w=.ok (.tuple #[aA aM (if EF Mt i<oB Mt then(EF Mt i:Int) else 0),aH (decide (EF Mt i<oB Mt))]) w:=by
 obtain⟨n,M,h1,_,h3⟩:=h;obtain⟨v,ps,ja,hv⟩:=h1.look_ok Sh Tryz.underlying173 (XZ w) (plainElem_int (H:=Unit) ZR (a:=0) (by decide)) (keyOf_int_mk ZR (wfN (n:=i) (by omega)));obtain⟨e1,e2⟩:=h3 i hi;rw[e2]at hv;obtain⟨a,rfl,hz,_⟩:=plainElem_int_inv ZR hv;rw[e1]at ja;have:a=if EF Mt i<oB Mt then(EF Mt i:Int) else 0:=by
  have:=congrArg Prod.fst hz;simp only[xp,Lit.int.injEq,true_and]at this;exact this.symm
 rw[<- this];exact ja
def Hp {w:Z0}{g:Nat}{Mt:List Nat}{ops:Array ZX}{rest:List ZX}{o:ZX}{a:Act}{Q:Exit->Act->Z0->Prop}(h:IJ w g Mt)(i:Nat)(hi:i<1000000)(jf:¬ EF Mt i<oB Mt)(hD:oB Mt<1000000)
  (jd:o.guard=oS) (m x v:Operand) (jg:o.op=Op.mapUpdate 173 m x v) (hm:a.eval m=.map (oT g)) (hx:a.eval x=.int .i64 (i:Int)) (hv:a.eval v=.int .i64 (oB Mt:Int))
  (hK:∀ w',IJ w' g (Mt ++ [i])->w.grownBy w' (oT g)->wpList Z1 ops Q rest (a.put o.dst Z8) w'):wpList Z1 ops Q (o :: rest) a w:=by
 obtain⟨n,M,h1,h2,h3⟩:=h;refine wpList_mapUpdate_own w jd m x v _ jg _ _ Sh Tryz.underlying173 _ g n M hm h1 (by unfold maxLen;omega) _ _ _ hx hv (keyOf_int_mk ZR (wfN (n:=i) (by omega))) _ _ (plainElem_int (H:=Unit) ZR (wfN (n:=oB Mt) (by omega))) ?_;intro w' ja je;refine hK w' ⟨n+1,_,ja,by rw[AD];simp;omega,λj hj=>?_⟩ je;have hM:IsMap M:=h1.isMap;rw[RF];by_cases e:j=i
 ·subst e;have jb:WideAt.IsKeyLit (.int .i64 (j:Int)):=trivial;rw[Maps.has_put_same hM jb,Maps.atKey_put_same hM jb,if_neg jf,if_pos rfl];simp
 ·have jc:Lit.int .i64 (j:Int)≠Lit.int .i64 (i:Int):=λh=>e (by injection h with _ h;omega);rw[Maps.has_put_other jc,Maps.atKey_put_other jc];obtain⟨e1,e2⟩:=h3 j hj;rw[e1,e2];rw[if_neg (show ¬ i=j from λh=>e h.symm)];by_cases hf:EF Mt j<oB Mt
  · simp[hf];omega
  · simp[hf]
def Nz:∀ {N:List NV} {k:Nat} (hk:k<oB N) (a:Option Zj) (m c:Nat),(N.set k ⟨N[k].fin,a,m,c⟩).flatMap C7.enc=(N.flatMap C7.enc).set (k*2+1) (aG a m c)
 | x :: r,0,_,a,m,c=>by simp[C7]
 | x :: r,k+1,hk,a,m,c=>by
  have ih:=Nz (N:=r) (k:=k) (by simpa using hk) a m c;have e:(k+1)*2+1=(k*2+1)+1+1:=by omega
  simp only[Za,List.getElem_cons_succ,ZA,e];rw[ih];simp[C7]
def Af.setArcs {w:Z0}{B g n c0:Nat}{N:List NV}{k:Nat}(h:Af C7 w B (aG (oT ⟨g,0,oS⟩) n c0) N)(hk:k<oB N)(a:Option Zj)(m c:Nat) :
  Af C7 (w.setCell ⟨g,k*2+1,oS⟩ (aG a m c)) B (aG (oT ⟨g,0,oS⟩) n c0) (N.set k ⟨N[k].fin,a,m,c⟩):=by
 have hf:=Nz hk a m c;have ja:=FT DW N;rcases id h.2 with⟨he,_⟩ | ⟨g',cap,cur,he,h1,h2,h3,h4,h5,h6⟩
 · cases he
 ·injection he with e1 e2 e3;injection e1 with e1;injection e1 with e1;subst e1 e3;refine⟨by rw[hf,ZD,ja,ZD],.inr ⟨g,c0,cur.setIfInBounds (k*2+1) (aG a m c),by rw[ZD,e2],h1,Aj h2 rfl,by rw[ZD];exact h3,h4,by simp[h5],?_⟩⟩;rw[hf,<- h6,ZD];simp only[Array.toList_setIfInBounds];rw[List.take_set]
def VFn (gMet gD gN gV:Nat):Z6:=.func (.func 102) #[] #[aB (oT ⟨gMet,0,oS⟩),aB (oT ⟨gD,0,oS⟩),aB (oT ⟨gN,0,oS⟩),aB (oT ⟨gV,0,oS⟩)]
structure VBx (w:Z0)(gMet gm gD gN gV:Nat)(aN:Option Zj)(nN cN:Nat):Prop where
 met:w.heap[gMet]? = some (aK #[.map (some gm)] 173 (0,0))
 nn:w.heap[gN]? = some (aK #[aG aN nN cN] 69 (0,0))
 vv:w.heap[gV]? = some (aK #[VFn gMet gD gN gV] 174 (0,0))
structure VS0 (w:Z0)(B gMet gm gD gN gV:Nat)(aN:Option Zj)(nN cN:Nat)(v0:Z6)(N:List NV)(E:List Nd)(Mt:List Nat):Prop where
 bx:VBx w gMet gm gD gN gV aN nN cN
 dd:w.heap[gD]? = some (aK #[v0] 69 (0,0))
 len:oB N=oB E
 arcs:∀ k (h:k<oB N) (h2:k<oB E),N[k].fin=E[k].fin/\Af CK w B (aG N[k].a N[k].n N[k].c) E[k].arcs
 map:IJ w gm Mt
 hD:B<=gD
 hm:B<=gm
 dn:gN≠gD
structure VSt (w:Z0)(B gMet gm gD gN gV:Nat)(aN:Option Zj)(nN cN:Nat)(v:Z6)(N:List NV)(E:List Nd)(Mt:List Nat):Prop extends VS0 w B gMet gm gD gN gV aN nN cN v N E Mt where
 own:Af C7 w B v N
section
variable {w w':World} {B gMet gm gD gN gV:Nat} {aN:Option Addr} {nN cN:Nat} {v v0:Value} {N:List NV} {E:List Nd} {Mt:List Nat}
def VBx.keep (h:VBx w gMet gm gD gN gV aN nN cN)(hk:∀ q,q<w.heap.size->q=gMet\/q=gN\/q=gV->w'.heap[q]? = w.heap[q]?):VBx w' gMet gm gD gN gV aN nN cN :=
 ⟨(hk gMet (A7.1 h.met).1 (.inl rfl)).trans h.met,(hk gN (A7.1 h.nn).1 (.inr (.inl rfl))).trans h.nn,(hk gV (A7.1 h.vv).1 (.inr (.inr rfl))).trans h.vv⟩
def VS0.keep (h:VS0 w B gMet gm gD gN gV aN nN cN v0 N E Mt)(hk:∀ q,q<w.heap.size->(q=gMet\/q=gN\/q=gV)\/q=gD\/q=gm\/(∃ x∈N,nvB x=oT q)->w'.heap[q]? = w.heap[q]?):VS0 w' B gMet gm gD gN gV aN nN cN v0 N E Mt:=by
 obtain⟨es,c,ja⟩:=h.map.obj;exact⟨h.bx.keep λq hq hh=>hk q hq (.inl hh),(hk gD (A7.1 h.dd).1 (.inr (.inl rfl))).trans h.dd,h.len,λk h1 h2=>⟨(h.arcs k h1 h2).1,(h.arcs k h1 h2).2.keep λg hg=>hk g ((h.arcs k h1 h2).2.lt g hg) (.inr (.inr (.inr ⟨N[k],AI h1,hg⟩)))⟩,h.map.kept (hk gm (A7.1 ja).1 (.inr (.inr (.inl rfl)))),h.hD,h.hm,h.dn⟩
def VS0.ext (h:VS0 w B gMet gm gD gN gV aN nN cN v0 N E Mt)(hx:Ext w w'):VS0 w' B gMet gm gD gN gV aN nN cN v0 N E Mt:=h.keep λq hq _=>Z7 hx q hq
def VSt.ext (h:VSt w B gMet gm gD gN gV aN nN cN v N E Mt)(hx:Ext w w'):VSt w' B gMet gm gD gN gV aN nN cN v N E Mt:=⟨h.toVS0.ext hx,h.own.later hx (A5 _)⟩
def VS0.size (h:VS0 w B gMet gm gD gN gV aN nN cN v0 N E Mt):B<=w.heap.size:=AA h.hD (Nat.le_of_lt (A7.1 h.dd).1)
def VS0.apartT (h:VS0 w B gMet gm gD gN gV aN nN cN v0 N E Mt){g:Nat}{cs:Array Z6}{t:X5}{fz:Nat × Nat}(hg:w.heap[g]? = oT (.cells cs t fz))(ht:t≠173/\t≠69/\t≠174):g≠gMet/\g≠gN/\g≠gV/\g≠gD/\g≠gm:=by
 have key:∀ {q:Nat} {cs2:Array Z6} {t2:X5},w.heap[q]? = oT (.cells cs2 t2 (0,0))->t≠t2->g≠q:=λh1 h2 e=>by
  rw[e,h1]at hg;injection hg with hg;injection hg with _ h3;exact h2 h3.symm
 refine⟨key h.bx.met ht.1,key h.bx.nn ht.2.1,key h.bx.vv ht.2.2,key h.dd ht.2.1,λe=>?_⟩;obtain⟨es,c,hm⟩:=h.map.obj;rw[e,hm]at hg;cases hg
def VS0.rows_lt (h:VS0 w B gMet gm gD gN gV aN nN cN v0 N E Mt):∀ x∈N,∀ g,nvB x=oT g->g<w.heap.size/\∃ cs,w.heap[g]? = oT (.cells cs 170 (0,0)):=by
 intro x hx g hg;obtain⟨k,hk,rfl⟩:=zr hx;have h2:=(h.arcs k hk (by rw[<- h.len];exact hk)).2;exact⟨h2.lt g hg,h2.obj hg⟩
end
structure LVt (wW w0:Z0)(B gMet gm gD gN gV:Nat)(aN:Option Zj)(nN cN:Nat)(vb0:Option Nat)(N0:List NV)(vA:Z6)(A:List Ar)(v:Z6)(N:List NV)(E:List Nd)(Mt:List Nat)(w:Z0):Prop where
 bst:VSt w B gMet gm gD gN gV aN nN cN v N E Mt
 bl:Below B wW w
 fr:Fr gD gm vb0 w0 w
 nr:DY vb0 v.ownBlock w0.heap.size
 ex:∃ X,N=N0 ++ X/\∀ x∈X,∀ g,nvB x=some g->w0.heap.size<=g
 own:Af CK w w0.heap.size vA A
 apart:∀ x∈N,∀ g,nvB x=some g->vA.ownBlock≠some g
structure LV0 (wW w0:Z0)(B gMet gm gD gN gV:Nat)(aN:Option Zj)(nN cN:Nat)(vb0:Option Nat)(N0:List NV)(v:Z6)(N:List NV)(E:List Nd)(Mt:List Nat)(w:Z0):Prop where
 bst:VSt w B gMet gm gD gN gV aN nN cN v N E Mt
 bl:Below B wW w
 fr:Fr gD gm vb0 w0 w
 nr:DY vb0 v.ownBlock w0.heap.size
 ex:∃ X,N=N0 ++ X/\∀ x∈X,∀ g,nvB x=some g->w0.heap.size<=g
def VF (wW:Z0)(B gMet gm gD gN gV:Nat)(aN:Option Zj)(nN cN:Nat)(q:Nat × List Nat × List Nd)(v:Z6)(N:List NV)(w:Z0)(e:Ending)(w':Z0):Prop :=
 e=aP (aA aM (q.1:Int))/\∃ v' N',LV0 wW w B gMet gm gD gN gV aN nN cN v.ownBlock N v' N' q.2.2 q.2.1 w'
section
variable {wW w0 w w':World} {B gMet gm gD gN gV:Nat} {aN:Option Addr} {nN cN:Nat} {vb0:Option Nat} {N0:List NV} {vA va v:Value} {A A2:List Ar} {N:List NV} {E:List Nd} {Mt:List Nat}
def LV0.ext (h:LV0 wW w0 B gMet gm gD gN gV aN nN cN vb0 N0 v N E Mt w)(hx:Ext w w'):LV0 wW w0 B gMet gm gD gN gV aN nN cN vb0 N0 v N E Mt w' :=
 ⟨h.bst.ext hx,h.bl.trans (ZT hx h.bst.size),h.fr.trans (Fr.of_below hx) h.nr,h.nr,h.ex⟩
def LVt.ext (h:LVt wW w0 B gMet gm gD gN gV aN nN cN vb0 N0 vA A v N E Mt w)(hx:Ext w w'):LVt wW w0 B gMet gm gD gN gV aN nN cN vb0 N0 vA A v N E Mt w' :=
 ⟨h.bst.ext hx,h.bl.trans (ZT hx h.bst.size),h.fr.trans (Fr.of_below hx) h.nr,h.nr,h.ex,h.own.later hx (A5 _),h.apart⟩
def LVt.called (h:LVt wW w0 B gMet gm gD gN gV aN nN cN vb0 N0 vA A v N E Mt w){q:Nat × List Nat × List Nd}{e:Ending}(hp:VF wW B gMet gm gD gN gV aN nN cN q v N w e w') :
  e=aP (aA aM (q.1:Int))/\∃ v' N',LVt wW w0 B gMet gm gD gN gV aN nN cN vb0 N0 vA A v' N' q.2.2 q.2.1 w':=by
 obtain⟨he,v',N',hp⟩:=hp;have jd:=h.fr.size;obtain⟨X,hX,jb⟩:=hp.ex;refine⟨he,v',N',hp.bst,hp.bl,h.fr.trans hp.fr h.nr,h.nr.trans hp.nr jd,?_,h.own.keep λg hg=>?_,λx hx g hg=>?_⟩
 ·obtain⟨E0,rfl,je⟩:=h.ex;refine⟨E0 ++ X,by rw[hX,Zw],λx hx g hg=>?_⟩;rcases AY.1 hx with hx | hx
  · exact je x hx g hg
  · exact AA jd (jb x hx g hg)
 ·obtain⟨cs,jc⟩:=h.own.obj hg;obtain⟨_,_,_,h4,h5⟩:=h.bst.apartT jc (by decide);refine hp.fr.block g (h.own.lt g hg) h4 h5 λe=>?_;obtain⟨cs2,ja⟩:=h.bst.own.obj e;rw[jc]at ja;injection ja with ja;injection ja with _ h6;cases h6
 ·intro e;rw[hX]at hx;rcases AY.1 hx with hx | hx
  · exact h.apart x hx g hg e
  · have:=jb x hx g hg;have:=h.own.lt g e;omega
def LVt.app (h:LVt wW w0 B gMet gm gD gN gV aN nN cN vb0 N0 vA A v N E Mt w)(hB:B<=w0.heap.size)(hg:w.grownBy w' vA.ownBlock):LV0 wW w0 B gMet gm gD gN gV aN nN cN vb0 N0 v N E Mt w':=by
 have hk:∀ q,q<w.heap.size->vA.ownBlock≠oT q->w'.heap[q]? = w.heap[q]?:=λq hq jd=>hg.block q hq (λe=>jd e.symm);have jf:∀ q,vA.ownBlock=oT q->q≠gMet/\q≠gN/\q≠gV/\q≠gD/\q≠gm:=λq hq=>by
  obtain⟨cs,jb⟩:=h.own.obj hq;exact h.bst.apartT jb (by decide)
 refine⟨⟨h.bst.toVS0.keep λq hq hh=>hk q hq λe=>?_,h.bst.own.keep λg jc=>hk g (h.bst.own.lt g jc) λe=>?_⟩,h.bl.grown hg h.bst.size λq hq=>AA hB (h.own.ge q hq),⟨hg.os.trans h.fr.os,hg.tape.trans h.fr.tape,hg.output.trans h.fr.output,AA h.fr.size hg.size,λq hq h3 h4 h5=>?_⟩,h.nr,h.ex⟩
 ·obtain⟨h1,h2,h3,h4,h5⟩:=jf q e;rcases hh with(rfl | rfl | rfl) | rfl | rfl | ⟨x,hx,je⟩
  · exact h1 rfl
  · exact h2 rfl
  · exact h3 rfl
  · exact h4 rfl
  · exact h5 rfl
  · exact h.apart x hx q je e
 ·obtain⟨cs,jb⟩:=h.own.obj e;obtain⟨cs2,ja⟩:=h.bst.own.obj jc;rw[jb]at ja;injection ja with ja;injection ja with _ h6;cases h6
 ·have h6:=h.fr.size;exact(hk q (by omega) (λe=>by have:=h.own.ge q e;omega)).trans (h.fr.block q hq h3 h4 h5)
end
def Cz (R E:List Nd):Prop:=oB E<=oB R/\∀ k,k<oB E->R[k]? = E[k]?
def Cz.refl (E:List Nd):Cz E E:=⟨A5 _,λ_ _=>rfl⟩
def Cz.trans {A B C:List Nd}(h:Cz A B)(h2:Cz B C):Cz A C:=⟨AA h2.1 h.1,λk hk=>(h.2 k (A9 hk h2.1)).trans (h2.2 k hk)⟩
def Cz.snoc (E:List Nd)(x:Nd):Cz (E ++ [x]) E:=⟨by simp,λk hk=>by rw[AK hk]⟩
def IK {rec:Nat->List Nat->List Nd->Nat × List Nat × List Nd}(hr:∀ i Mt E,Cz (rec i Mt E).2.2 E):∀ X A Mt E,Cz (DE rec X A Mt E).2.2 E
 | [],_,_,_=>Cz.refl _
 | x :: r,A,Mt,E=>by rw[DE];exact(IK hr r _ _ _).trans (hr _ _ _)
def JJ (Dn:List Nd):∀ m i Mt E,Cz (numV Dn m i Mt E).2.2 E
 | 0,_,_,_=>Cz.refl _
 | m
   + 1,i,Mt,E=>by
  rw[numV];split
  · exact Cz.refl _
  ·have h:=(IK (JJ Dn m) (Dn.getD i default).arcs [] (Mt ++ [i]) (E ++ [⟨(Dn.getD i default).fin,[]⟩])).trans (Cz.snoc E _);refine⟨by rw[ZD];exact h.1,λk hk=>?_⟩;rw[Xy (by omega)];exact h.2 k hk
def VOk.snoc {Dn:List Nd}{Mt:List Nat}{E:List Nd}{i:Nat}(h:VOk Dn Mt E)(hi:i<oB Dn)(ja:¬ EF Mt i<oB Mt)(x:Nd):VOk Dn (Mt ++ [i]) (E ++ [x]):=by
 refine⟨by simp[h.len],?_,λj hj=>?_⟩
 ·rw[List.nodup_append];exact⟨h.nd,by simp,λa ha b hb=>by
   obtain rfl:=AF.1 hb;intro e;subst e;exact ja (UL ha)⟩
 ·rcases AY.1 hj with hj | hj
  · exact h.lt j hj
  · obtain rfl:=AF.1 hj;exact hi
def O0 {Dn:List Nd}{rec:Nat->List Nat->List Nd->Nat × List Nat × List Nd}{i:Nat}(hi:i<=oB Dn)(hr:∀ j Mt E,j<i->VOk Dn Mt E->VOk Dn (rec j Mt E).2.1 (rec j Mt E).2.2):∀ X A Mt E,(∀ x∈X,0<=x.t/\x.t<(i:Int))->VOk Dn Mt E->VOk Dn (DE rec X A Mt E).2.1 (DE rec X A Mt E).2.2
 | [],_,_,_,_,h=>h
 | x :: r,A,Mt,E,hX,h=>by
  rw[DE];have hx:=hX x (by simp);exact O0 hi hr r _ _ _ (λy hy=>hX y (by simp[hy])) (hr _ _ _ (by omega) h)
def QD {Dn:List Nd}(hD:UK Dn):∀ m i Mt E,i<oB Dn->i<m->VOk Dn Mt E->VOk Dn (numV Dn m i Mt E).2.1 (numV Dn m i Mt E).2.2
 | 0,_,_,_,_,h,_=>by omega
 | m
   + 1,i,Mt,E,hi,hm,h=>by
  rw[numV];split
  · exact h
  ·rename_i ja;have hg:Dn.getD i default=Dn[i]:=by rw[AS,AC hi];rfl
   have h2:=O0 (Dn:=Dn) (rec:=numV Dn m) (i:=i) (by omega) (λj Mt E hj h=>QD hD m j Mt E (by omega) (by omega) h) (Dn.getD i default).arcs [] (Mt ++ [i]) (E ++ [⟨(Dn.getD i default).fin,[]⟩]) (by rw[hg];exact hD i hi) (h.snoc hi ja _);exact⟨by rw[ZD];exact h2.len,h2.nd,h2.lt⟩
end Go.Proofs.YtpljngaejaehcaaGreatDoor
