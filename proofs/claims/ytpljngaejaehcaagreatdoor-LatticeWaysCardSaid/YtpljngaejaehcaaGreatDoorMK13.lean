/- Texts that the claims share. -/
import Derived.Test.YtpljngaejaehcaaGreatDoorMK6
import Derived.Test.YtpljngaejaehcaaGreatDoorMK11
import Derived.Test.YtpljngaejaehcaaGreatDoorMK2
import Derived.Test.YtpljngaejaehcaaGreatDoorMF5
import Derived.Test.YtpljngaejaehcaaGreatDoorMD4
import Derived.Deep.CutBlock
open Go.Value renaming int->aA,pointer->aB,slice->aG,bool->aH,string->aI,agg->aJ
open Go.Obj renaming cells->aK
open Go.IntKind renaming i64->aM,u8->aO
open Go.Ending renaming returned->aP
open Go.Act renaming put->ZE
open Go renaming Addr->Zj,Calls->Zu,TypeId->X5,Value->Z6,World->Z0,cell_of_row->Z3,heap_alloc_new->Z4
open Go.RowKit.Below renaming block->Z7,refl->Z2,cell->Zx,grown->Xz
open Bool renaming and_false->zM,false_and->zN
open Go.DataW renaming trod->z7
open Go.Instr renaming indexAt->ZK,slice->Xm,sliceBound->XA,sliceBounds->Xw
open Int renaming eq_ofNat_of_zero_le->ZY,natCast_mul->zR,toNat_natCast->ZW
open Go.IntWalk renaming i64_in->Zq,u8_in->zi
open List renaming append_assoc->Zw,append_nil->Xe,cons_append->ZG,foldl->Zp,getElem?_eq_some_iff->Zh,head_eq_of_cons_eq->Xb,isPrefixOf_iff_prefix->zq,mem_of_getElem?->ze,nil_append->ZP,range'->Zd,replicate->ZB,setIfInBounds_toArray->Z5,set_cons_succ->Za,set_cons_zero->Z9,all_eq_true->Zr,mem_iff_getElem->ZH,mem_of_mem_take->Xo
open Nat renaming le_succ->za,mul_le_mul->Y1,succ_mul->zp,zero_le->Ze,add_zero->zl,mul_le_mul_right->ZM,not_lt_zero->Xj,zero_add->ZS
open Go.RowKit renaming wrap64->Y3
open Go.Proofs.Tryz renaming prog->Z1,underlying36->Y5,underlying5->Xg,underlying26->Xv
open Go.World renaming frozen?->Zn
open ByteArray renaming data_append->XF,size_append->zv
set_option maxHeartbeats 25600000
set_option maxRecDepth 100000
set_option linter.unusedVariables false
set_option linter.unusedSimpArgs false
set_option linter.defProp false
namespace Go.Proofs.YtpljngaejaehcaaGreatDoor
open Go.RowKit Go.WideShapes Fl
def LP (s:ByteArray)(w:Z0)(hs:s.size<=40)(hb:F4 s=true):Zu Z1 53 #[aI s] w λe w'=>e=aP (aH true)/\w=w':=by
 have h1:(s.size:Int)<=40:=by omega
 have HB:=A0 hb;clear hb
 go_enter Tryz.func53,Tryz.ntmps53
 go_wp2_with (go_at_call 60;refine(small_any _ _ (by omega)).mono ?_;rintro e w' ⟨he,rfl⟩;rw[HB.out]at he;subst he)
 go_ret;exact⟨rfl,rfl⟩
def Tw {acc:Int}(h0:0<=acc)(m:Nat):CL acc m=acc.toNat.testBit m:=by
 obtain⟨n,rfl⟩:=ZY h0;unfold CL;rw[ZW,Nat.testBit_eq_decide_div_mod_eq,Bool.eq_iff_iff,beq_iff_eq,decide_eq_true_iff];have h:((n:Int) / 2 ^ m) % 2=((n / 2 ^ m % 2:Nat):Int):=by simp
 rw[h];omega
def LQ (mo acc:Int)(a:Option Zj)(l cap m:Nat)(w:Z0)(h0:0<=acc)(h1:acc<=255)(hm:m<8) :
  Zu Z1 54 #[aJ #[aA aM mo,aA aO acc,aG a l cap],aA aM (m:Int)] w λe w'=>e=aP (aH (CL acc m))/\Ext w w':=by
 have hm0:(0:Int)<=(m:Int):=by omega
 have hm1:(m:Int)<8:=by omega
 go_enter Tryz.func54,Tryz.ntmps54
 go_wp2;go_ret;refine⟨Ad ?_,(Z2 _ _).alloc (A5 _) _⟩;rw[Tw h0];exact QG acc m h0 h1
def I0:CB Int:=⟨36,3,1,8,aA aM 0,λx=>[aA aM x]⟩
def Qf:I0.Ok:=⟨Y5,by kernel_rfl,rfl,by decide,λ_=>rfl,λx u hu=>by obtain rfl:u=aA aM x:=(AF.1 hu);rfl,by decide⟩
def V6 (w:Z0)(n:Nat)(hn:n<=1000000):∃ w',(Instr.makeSlice 36 (aA aM (n:Int)) (aA aM (n:Int))).run Z1 w=.ok (aG (some ⟨w.heap.size,0,none⟩) n n) w'/\Af I0 w' w.heap.size (aG (some ⟨w.heap.size,0,none⟩) n n) (ZB n 0)/\Ext w w':=by
 obtain⟨w',h1,h2,h3⟩:=S4 w n hn;refine⟨w',h1,?_,h3⟩;have e:(ZB n (0:Int)).flatMap I0.enc=(ZB n (0:Nat)).flatMap BT.enc:=by
  rw[Dv I0 0 rfl n,Dv BT 0 rfl n];rfl
 unfold Af at h2 ⊢;rw[e];rw[AW]at h2 ⊢;exact h2
def Bo {w:Z0}{B g n c i:Nat}{F:List Int}(h:Af I0 w B (aG (some ⟨g,0,none⟩) n c) F)(hi:i<F.length):w.cell? ⟨g,i,none⟩=some (aA aM F[i])/\∀ j,w.frozen? ⟨g,j,none⟩=false:=by
 obtain⟨cs,ja⟩:=B3 h (g:=g) rfl;have h2:=h.cell Qf hi (j:=0) (by decide);have e1:i*I0.k+0=i:=by show i*1+0=_;omega
 rw[e1]at h2;exact⟨h2,λj=>by simp[Zn,ja]⟩
def NM {w:Z0}{B g n c i:Nat}{F:List Int}(h:Af I0 w B (aG (some ⟨g,0,none⟩) n c) F)(hi:i<F.length)(v:Int):Af I0 (w.setCell ⟨g,i,none⟩ (aA aM v)) B (aG (some ⟨g,0,none⟩) n c) (F.set i v):=by
 have h1:=Af.put Qf h hi (j:=0) (x:=v) (u:=aA aM v) (by decide) rfl;have e1:i*I0.k+0=i:=by show i*1+0=_;omega
 rw[e1]at h1;exact h1
def Qg {x p:ByteArray}{k:Nat}:x.extract k (k+p.size)=p↔(bts p).isPrefixOf ((bts x).drop k)=true:=by
 have hl:=B5 p;have e:bts (x.extract k (k+p.size))=((bts x).drop k).take (bts p).length:=by rw[OP,hl,Nat.add_sub_cancel_left]
 rw[zq,List.prefix_iff_eq_take,<- e];exact⟨λh=>by rw[h],λh=>(Ui h).symm⟩
def Qh {x p:ByteArray}{k:Nat}(h:x.size<k+p.size)(hk:k<=x.size):(bts p).isPrefixOf ((bts x).drop k)=false:=by
 rw[Bool.eq_false_iff];intro h2;have:=Ji h2 (by rw[B5];exact hk) (B5 p);rw[B5]at this;omega
def L3 {X Y:List UInt8}{M i:Nat}{G:List Int}{r:Rl}{a:St5}(hd:E5 (Y.length+1) M i=a)(h:DO X Y r a=false):GB X Y M i G r=G:=by
 unfold GB;rw[hd,h];rfl
def V7 {X Y:List UInt8}{M i k:Nat}{G:List Int}{r:Rl}{a:St5}{z v:Int}(hd:E5 (Y.length+1) M i=a)(h:DO X Y r a=true)(he:E4 (Y.length+1) M (Dz r a)=k)(hz:G[i]? = some z)(hv:G[k]? = some v):GB X Y M i G r=if v<0\/z+r.cost<v then G.set k (z+r.cost) else G:=by
 unfold GB LJ;rw[hd,h,he,if_pos rfl,AS,AS,hz,hv];rfl
def Bd5 (F:List Int)(n:Nat):Prop:=∀ x∈F,x<=(n:Int)*1000
def Bd5.up {F:List Int}{n m:Nat}(h:Bd5 F n)(hm:n<=m):Bd5 F m:=λx hx=>by have:=h x hx;omega
def Bd5.at {F:List Int}{n i:Nat}{z:Int}(h:Bd5 F n)(hi:F[i]? = some z):z<=(n:Int)*1000:=h z (ze hi)
def Bd5.set {F:List Int}{n j:Nat}{z c:Int}(h:Bd5 F (n+1))(hz:z<=(n:Int)*1000)(hc:c<=1000):Bd5 (F.set j (z+c)) (n+1):=λx hx=>by
 rcases List.mem_or_eq_of_mem_set hx with h1 | h1
 · exact h x h1
 · rw[h1];omega
def Bd5.init {F:List Int}{N:Nat}(h:F=(ZB N (-1)).set 0 0):Bd5 F 0:=λx hx=>by
 rw[h]at hx;rcases List.mem_or_eq_of_mem_set hx with h1 | h1
 · rw[List.eq_of_mem_replicate h1];decide
 · rw[h1];decide
def WP {N k:Nat}(h:k<N):(ZB k (-1:Int) ++ ZB (N - k) 0).set k (-1)=ZB (k+1) (-1) ++ ZB (N - (k+1)) 0:=by
 have e:N - k=(N - (k+1))+1:=by omega
 rw[List.set_append_right k _ (by simp),AW,Nat.sub_self,e,List.replicate_succ,Z9,List.replicate_succ',Zw];rfl
def cost05_any (
          S
           :
            Sch)
               (
               b
                :
                 Option
                     Zj) (c:Nat) (si so:ByteArray) (w:Z0) (hR:G2 w S b c) (hs:FG S=true) (kr:si.size<=40) (kJ:F4 si=true) (yd:so.size<=40) :
  Zu Z1 26 #[aJ #[aA aM S.modes,aA aO S.acc,aG b S.rules.length c],aI si,aI so] w λe w'=>e=aP (aA aM (FY S.rules S.acc S.modes.toNat (bts si) (bts so)))/\Ext w w':=by
 have HR:=A0 hR.rul;have Ye:=hR.m0;have Yf:=hR.m8;have jR:=hR.a0;have jS:=hR.a1;have hl64:=hR.len;have y8:=A0 hR.out;have HF:=A0 hR.fair;have HMO:=A0 hR.mo;have HS:=A0 hs;have Yd:=A0 kJ;obtain⟨M,hM⟩:∃ M:Nat,S.modes=(M:Int):=⟨S.modes.toNat,by omega⟩
 have HM:=A0 hM;have hm1:1<=M:=by omega
 have k2:M<=8:=by omega
 have jN:Hid (∀ r∈S.rules,r.dst.toNat<M):=λr hr=>by
  have h1:=(hR.mo r hr).2;have h2:=(Bd.1 (hR.fair r hr)).2.2.1;omega
 have HFM:Hid (∀ r∈S.rules,r.frm<(M:Int)):=λr hr=>by have:=(hR.mo r hr).1;omega
 have HMT:Hid (S.modes.toNat=M):=by show _=_;rw[hM,ZW]
 rw[hM];clear hR hs kJ Ye Yf hM
 go_enter Tryz.func26,Tryz.ntmps26
 go_upto_region 1 with fail
 obtain⟨w1,kI⟩:∃ w1,w.alloc (aK #[aA aM (M:Int),aA aO S.acc,aG b S.rules.length c] 33)=w1:=⟨_,rfl⟩
 rw[kI];have yV:Ext w w1:=by rw[<- kI];exact(Z2 _ _).alloc (A5 _) _
 have b1:w1.heap[w.heap.size]? = some (aK #[aA aM (M:Int),aA aO S.acc,aG b S.rules.length c] 33 (0,0)):=by rw[<- kI];exact Z4 _ _
 obtain⟨g3,yC⟩:∃ g3,w.heap.size=g3:=⟨_,rfl⟩
 rw[yC]at b1 ⊢;have HB:=A0 (An b1);have kS:=A0 yV;clear kI yV yC;obtain⟨s0,s1,s2⟩:=B6 b1;clear b1
 go_wp2_with fail
 have k8:=r5sound_any S b c w1 (HR.out.later kS.out (A5 _)) jR jS (by omega) (λhv=>Hv hv jR jS);rw[HM.out]at k8;refine k8.mono ?_;clear k8;rintro e w2 ⟨he,yW⟩;rw[HS.out]at he;subst he;have jE:Hid (Ext w1 w2):=yW;clear yW s0 s1 s2;obtain⟨s0,s1,s2⟩:=B6 (HB.out w2 jE.out)
 go_wp2_with fail
 refine(LP si w2 kr Yd.out).mono ?_;rintro e w3 ⟨rfl,rfl⟩
 go_upto_region 3 with fail
 obtain⟨n1,yK⟩:∃ n1,si.size=n1:=⟨_,rfl⟩
 obtain⟨n2,yL⟩:∃ n2,so.size=n2:=⟨_,rfl⟩
 have kv:=A0 yK;have kw:=A0 yL;rw[yK]at kr;rw[yL]at yd;have e1:((n1:Int)+1)*((n2:Int)+1)=(((n1+1)*(n2+1):Nat):Int):=(zR (n1+1) (n2+1)).symm;have e2:(((n1+1)*(n2+1):Nat):Int)*(M:Int)=(((n1+1)*(n2+1)*M:Nat):Int):=(zR _ _).symm;have kF:(n1+1)*(n2+1)<=41*41:=Y1 (by omega) (by omega);have kG:(n1+1)*(n2+1)*M<=41*41*8:=Y1 kF k2;obtain⟨P,hP⟩:∃ P,(n1+1)*(n2+1)=P:=⟨_,rfl⟩
 rw[hP]at e1 e2 kF kG;obtain⟨N,hN⟩:∃ N,P*M=N:=⟨_,rfl⟩
 rw[hN]at e2 kG;have hP6:P<=1681:=kF;have Yg:N<=13448:=kG;clear kF kG;have k3:Y3 (P:Int)=(P:Int):=by clear e1 e2;unfold Y3;omega
 have k4:Y3 (N:Int)=(N:Int):=by clear e1 e2;unfold Y3;omega
 have k5:Y3 (((n1:Int)+1)*((n2:Int)+1))=(P:Int):=by rw[e1];exact k3
 have k6:Y3 ((P:Int)*(M:Int))=(N:Int):=by rw[e2];exact k4
 have jZ:Hid (N=(n1+1)*(n2+1)*M):=by show _=_;rw[hP,hN]
 obtain⟨w4,yJ,jX,yX⟩:=V6 w2 N (AA Yg (by decide));obtain⟨gl,k0⟩:∃ gl,w2.heap.size=gl:=⟨_,rfl⟩
 rw[k0]at yJ jX;have ku:=A0 k0;have HO:=A0 jX;have Yc:=A0 yX;clear jX yX hP hN k0 e1 e2
 go_wp2_with fail
 clear yJ s0 s1 s2 k3 k4 k5 k6
 go_loopg [9] N (λg v9 wr=>∃ k:Nat,v9=aA aM (k:Int)/\k<=N/\g=N - k/\Af I0 wr gl (aG (some ⟨gl,0,none⟩) N N) (ZB k (-1) ++ ZB (N - k) 0)/\Ext w2 wr)
 case atStart=>exact⟨0,rfl,Ze _,rfl,HO.out,Yc.out⟩
 case round =>
  obtain⟨k,rfl,hk,yE,ho,hx⟩:=hrel;have jm:=A0 yE;have j0:=A0 ho;have yq:=A0 hx;clear ho hx yE;by_cases jV:k<N
  ·have k1:(k:Int)<(N:Int):=by omega
   have jf:(ZB k (-1:Int) ++ ZB (N - k) 0).length=N:=by simp;omega
   obtain⟨z,q0⟩:∃ z:Int,wr.cell? ⟨gl,k,none⟩=some (aA aM z):=⟨_,(Bo j0.out (i:=k) (by rw[jf];exact jV)).1⟩
   have q1:=(Bo j0.out (i:=k) (by rw[jf];exact jV)).2;have jl:=idx_ints gl N N k jV;have HP:=A0 (NM j0.out (i:=k) (by rw[jf];exact jV) (-1));clear jf
   go_wp2_with fail
   go_roundg (N - (k+1))
   case measure=>have:=jm.out;omega
   case rel=>exact⟨k+1,by go_num,by omega,rfl,by rw[<- WP jV];exact HP.out,yq.out.setCell (Nat.le_of_eq ku.out) _⟩
  ·obtain rfl:k
           =
            N
             :=
              by
                omega
   have k7:¬ (k:Int)<(k:Int):=by omega
   have kh:0<k:=by
    have h1:=jZ.out;rw[h1];exact Nat.mul_pos (Nat.mul_pos (Nat.succ_pos _) (Nat.succ_pos _)) (by omega)
   have jf:(ZB k (-1:Int) ++ ZB (k - k) 0).length=k:=by simp
   obtain⟨z,q0⟩:∃ z:Int,wr.cell? ⟨gl,0,none⟩=some (aA aM z):=⟨_,(Bo j0.out (i:=0) (by rw[jf];exact kh)).1⟩
   have q1:=(Bo j0.out (i:=0) (by rw[jf];exact kh)).2;have jl:∀ w:Z0,(ZK 36 (aG (some ⟨gl,0,none⟩) k k) (aA aM 0)).run Z1 w=.ok (aB (some ⟨gl,0,none⟩)) w:=idx_ints gl k k 0 kh;have HP:=A0 (NM j0.out (i:=0) (by rw[jf];exact kh) 0);obtain⟨F0,ky⟩:∃ F0,(ZB k (-1:Int) ++ ZB (k - k) 0).set 0 0=F0:=⟨_,rfl⟩
   rw[ky]at HP;rw[Nat.sub_self,List.replicate_zero,Xe]at ky;clear jf;obtain⟨X,hX⟩:∃ X,bts si=X:=⟨_,rfl⟩
   obtain⟨Y,hY⟩:∃ Y,bts so=Y:=⟨_,rfl⟩
   have kT:=A0 hX;have kV:=A0 hY;have yb:X.length=n1:=by rw[<- hX,B5];exact kv.out
   have ye:Y.length=n2:=by rw[<- hY,B5];exact kw.out
   have j1:=A0 yb;have jH:=A0 ye;have kz:F0=(ZB ((X.length+1)*(Y.length+1)*M) (-1)).set 0 0:=by rw[<- ky,jZ.out,yb,ye]
   have kd:Hid (Tb S.rules X Y M F0):=Uk (by omega) kz;have Jx:Hid (Gd5 S.rules X Y M 0 F0):=Ul (by omega) kz;have j8:Hid (Bd5 F0 (0*k)):=by show Bd5 _ _;rw[Nat.zero_mul];exact Bd5.init kz
   obtain⟨T,hT⟩:∃ T,(n1+n2+1)*M=T:=⟨_,rfl⟩
   have hT6:T<=648:=by rw[<- hT];exact Y1 (show n1+n2+1<=81 by omega) k2
   have Yb:=A0 hT;have e1:((n1:Int)+(n2:Int)+1)*(M:Int)=(T:Int):=by rw[<- hT];exact(zR (n1+n2+1) M).symm
   clear ky kz hX hY yb ye hT
   go_wp2_with fail
   obtain⟨w5,ya⟩:∃ w5,wr.setCell ⟨gl,0,none⟩ (aA aM 0)=w5:=⟨_,rfl⟩
   have yp:Hid (Ext w2 w5):=by show Ext _ _;rw[<- ya];exact yq.out.setCell (Nat.le_of_eq ku.out) _
   rw[ya]at HP ⊢;clear q0 q1 jl ya k7 kh
   go_loopg [10,11,12,13,14,15,16,17,18,19] (T+1) (λg v10 v11 v12 v13 v14 v15 v16 v17 v18 v19 wr=>∃ (t:Nat) (F:List Int),v10=aA aM (t:Int)/\t<=T+1/\g=T+1 - t/\Af I0 wr gl (aG (some ⟨gl,0,none⟩) k k) F/\Tb S.rules X Y M F/\Gd5 S.rules X Y M t F/\Ext w2 wr/\Bd5 F (t*k))
   case atStart=>exact⟨0,F0,rfl,Ze _,rfl,HP.out,kd.out,Jx.out,yp.out,j8.out⟩
   case round =>
    obtain⟨t,F,rfl,ht,yH,ho,jy,kl,hx,jI⟩:=hrel;have jL:=A0 jI;have y6:=A0 yH;have kc:=A0 ho;have jv:=A0 jy;have ju:=A0 kl;have jP:=A0 hx;clear yH ho jy kl hx jI HP kd Jx yp j8;obtain⟨s0,s1,s2⟩:=B6 (HB.out wr (Ext.trans jE.out jP.out));by_cases htl:t<=T
    ·have k9 :
           (
           t
            :
             Int)
                <=
                 (
                 T
                  : Int):=by omega
     go_wp2_with fail
     clear s0 s1 s2 k9;obtain⟨wt,j6⟩:∃ wt:Z0,wt=wr:=⟨wr,rfl⟩
     rw[<- j6]at kc jP ⊢;clear j6
     go_loopg [11,12,13,14,15,16,17,18,19] k (λg v11 v12 v13 v14 v15 v16 v17 v18 v19 wr=>∃ (i:Nat) (F:List Int),v11=aA aM (i:Int)/\i<=k/\g=k - i/\Af I0 wr gl (aG (some ⟨gl,0,none⟩) k k) F/\Tb S.rules X Y M F/\Gd5 S.rules X Y M t F/\Ps5 S.rules X Y M t i F/\Ext w2 wr/\Bd5 F (t*k+i))
     case atStart=>exact⟨0,F,rfl,Ze _,rfl,kc.out,jv.out,ju.out,Ps5.zero,jP.out,jL.out⟩
     case round
           =>
      clear kc jv ju jP jL;obtain⟨i,F,rfl,hi,yD,ho,jy,kl,yO,hx,jI⟩:=hrel;have jL:=A0 jI;have yj:=A0 yD;have kb:=A0 ho;have jv:=A0 jy;have ju:=A0 kl;have kN:=A0 yO;have kg:=A0 hx;have yu:F.length=k:=by rw[jy.len,j1.out,jH.out];exact jZ.out.symm
      have y3:=A0 yu;clear yD ho jy kl yO hx jI;by_cases jJ:i<k
      ·have Yl
            :
             (
             i
              :
               Int)
                  <
                   (k:Int):=by omega
       have kB:i<F.length:=by omega
       obtain⟨z,hz⟩:∃ z,F[i]=z:=⟨_,rfl⟩
       have HZ:Hid (F[i]? = some z):=by show _=_;rw[AC kB,hz]
       obtain⟨q0,q1⟩:=Bo kb.out kB;rw[hz]at q0;have jl:=idx_ints gl k k i jJ;clear hz yu;by_cases hzn:z<0
       ·have kM:Hid (Ps5 S.rules X Y M t (i+1) F):=Ps5.next (by omega) jN.out ju.out kN.out λx hx h0=>by
         rw[HZ.out]at hx;cases hx;omega
        go_wp2_with fail
        go_roundg (k - (i+1))
        case measure=>have:=yj.out;omega
        case rel=>exact⟨i+1,F,by go_num,by omega,rfl,kb.out,jv.out,ju.out,kM.out,kg.out,jL.out.up (by omega)⟩
       ·go_upto_region
                17
                 with
                    fail
        clear q0 q1 jl Yl;refine wp_region_sc wr (Ext.refl _) 228 [(11,aA aM (i:Int)),(3,aB (some ⟨g3,0,none⟩)),(7,aA aM ((n2:Int)+1))] (Zd 78 16 ++ [12,13,14]) [11,3,7] (by kernel_rfl) rfl ⟨rfl,rfl,rfl,trivial⟩ rfl ?_
        repeat
            first
         | (
           (apply Cn.op rfl rfl)
           ·intro W hS;obtain⟨s0,s1,s2⟩:=B6 (HB.out W (Ext.trans jE.out (Ext.trans kg.out hS)));have a1:(i:Int).tmod (M:Int)=(i:Int) % (M:Int):=Int.ofNat_tmod i M;have a2:(i:Int).tdiv (M:Int)=(i:Int) / (M:Int):=Int.ofNat_tdiv i M;have a3:((i:Int) / (M:Int)).tdiv ((n2:Int)+1)=(i:Int) / (M:Int) / ((n2:Int)+1):=Int.ofNat_tdiv (i / M) (n2+1);have a4:((i:Int) / (M:Int)).tmod ((n2:Int)+1)=(i:Int) / (M:Int) % ((n2:Int)+1):=Int.ofNat_tmod (i / M) (n2+1);have a5:¬ M=0:=by omega
            have a6:¬ (n2:Int)+1=0:=by omega
            have a7:(i:Int) / (M:Int)<=13448:=Int.ofNat_le.2 (AA (Nat.div_le_self i M) (show i<=13448 by omega));have a8:(0:Int)<=(i:Int) / (M:Int):=Int.natCast_nonneg (i / M);have b7:(i:Int) / (M:Int) / ((n2:Int)+1)<=13448:=Int.ofNat_le.2 (AA (Nat.div_le_self (i / M) (n2+1)) (AA (Nat.div_le_self i M) (show i<=13448 by omega)));have b8:(0:Int)<=(i:Int) / (M:Int) / ((n2:Int)+1):=Int.natCast_nonneg (i / M / (n2+1));have a9:IntKind.i64.wrap ((i:Int) / (M:Int))=(i:Int) / (M:Int):=by
             generalize (i:Int) / (M:Int)=d at a7 a8 ⊢;exact Zq _ (by omega)
            have b9:IntKind.i64.wrap ((i:Int) / (M:Int) / ((n2:Int)+1))=(i:Int) / (M:Int) / ((n2:Int)+1):=by
             generalize (i:Int) / (M:Int) / ((n2:Int)+1)=d at b7 b8 ⊢;exact Zq _ (by omega)
            clear hS;simp[go_sem,At,lkE, *] <;> rfl)
        refine .nil λW x hS hx=>?_;have e12:x 12=aA aM ((i % M:Nat):Int):=hx 12 (by decide);have e13:x 13=aA aM ((i / M / (n2+1):Nat):Int):=hx 13 (by decide);have e14:x 14=aA aM ((i / M % (n2+1):Nat):Int):=hx 14 (by decide);simp only[Zd,ZG,ZP,Zp,e12,e13,e14,ZE,Z5,Za,Z9];clear hx e12 e13 e14;obtain⟨wo,Yo⟩:∃ wo:Z0,wo=W:=⟨_,rfl⟩
        subst Yo;have yk:=A0 (kb.out.later hS (A5 _));have yr:Hid (Ext w2 wo):=Ext.trans kg.out hS;clear hS kb kg;have Yp:0<=z:=by omega
        have yT:t*k<=8714304:=AA (Y1 (show t<=648 by omega) (show k<=13448 by omega)) (by decide);have yg:=jL.out.at HZ.out;have hzB:z<=9000000000:=by generalize t*k=tk at yT yg;omega
        have yt:=A0 yg;clear yg yT;obtain⟨at0,jT⟩:∃ p,i / M / (n2+1)=p:=⟨_,rfl⟩
        obtain⟨put0,jq⟩:∃ p,i / M % (n2+1)=p:=⟨_,rfl⟩
        obtain⟨mo0,jW⟩:∃ p,i % M=p:=⟨_,rfl⟩
        have jM:Hid (E5 (Y.length+1) M i=(at0,put0,mo0)):=by show _=_;unfold E5;rw[jH.out,jT,jq,jW]
        have jK:In5 X Y M (at0,put0,mo0):=by
         obtain⟨n,hp⟩:=((jv.out.snd i kB).resolve_left (by have h:=HZ.out;rw[AC kB]at h;injection h with h;omega)).2;rw[jM.out]at hp;exact GT (by omega) jN.out hp
        have kA:at0<=n1:=by have:=jK.i;rw[j1.out]at this;exact this
        have j3:put0<=n2:=by have:=jK.o;rw[jH.out]at this;exact this
        have hmo1:mo0<M:=jK.m;have y7:=A0 jK;rw[jT,jq,jW];clear jT jq jW jK
        go_wp2_with fail
        go_loopg [15,16,17,18,19] S.rules.length (λg v15 v16 v17 v18 v19 wq=>∃ (q:Nat) (G:List Int),v15=aA aM (q:Int)/\q<=S.rules.length/\g=S.rules.length - q/\Af I0 wq gl (aG (some ⟨gl,0,none⟩) k k) G/\Tb S.rules X Y M G/\Dn5 F G/\G[i]? = some z/\Pr5 S.rules X Y M i q G/\Ext w2 wq/\Bd5 G (t*k+i+1))
        case atStart=>exact⟨0,F,rfl,Ze _,rfl,yk.out,jv.out,Dn5.refl F,HZ.out,Pr5.zero,yr.out,jL.out.up (za _)⟩
        case round
              =>
         obtain⟨q,G,rfl,hq,yG,ho,jy,yz,yI,yN,hx,jI⟩:=hrel;have jt:=A0 jI;have jB:=A0 yG;have jh:=A0 ho;have kQ:=A0 jy;have ks:=A0 yz;have jC:=A0 yI;have yl:=A0 yN;have jn:=A0 hx;clear yG ho jy yz yI yN hx jI yk yr;obtain⟨s0,s1,s2⟩:=B6 (HB.out wr (Ext.trans jE.out jn.out));by_cases kH:q<S.rules.length
         ·have
             hqI
               :
                (
                q
                 :
                  Int)
                     < (S.rules.length:Int):=by omega
          have jx:S.rules[q]∈S.rules:=AI kH;obtain⟨b1,o1,kA,yw,r0,r1,r2,r3,r4⟩:=(HR.out.later (Ext.trans kS.out (Ext.trans jE.out jn.out)) (A5 _)).at kH;have Yk:=Bb b b1 o1 S.rules.length c q kA kH;have kZ:=Bd.1 (HF.out _ jx);have kW:=jN.out _ jx;have yM:=y8.out _ jx;have jO:Hid (G.length=k):=by show _=_;rw[kQ.out.len,j1.out,jH.out];exact jZ.out.symm
          have jU:i<G.length:=by rw[jO.out];exact jJ
          have yZ:0<=G[i]:=by have h:=jC.out;rw[AC jU]at h;injection h with h;rw[h];exact Yp
          have HT:Hid (∀ G',GB X Y M i G S.rules[q]=G'->Tb S.rules X Y M G'/\Dn5 F G'/\G'[i]? = some z/\Pr5 S.rules X Y M i (q+1) G'):=λG' h=>by
           have kp:=Vu (by omega) HF.out jN.out kQ.out jU yZ kH yl.out;rw[h]at kp;exact⟨kp.1,ks.out.trans kp.2.1,kp.2.2.1.trans jC.out,kp.2.2.2⟩
          obtain⟨r,hr⟩:∃ r,S.rules[q]=r:=⟨_,rfl⟩
          have jD:=A0 hr;rw[hr]at r0 r1 r2 r3 r4 kZ kW yM;obtain⟨frm,dst,inp,out,cost⟩:=r;simp only at r0 r1 r2 r3 r4 kZ kW yM;obtain⟨hf0,hf8,hd0,hd8,hi4,hc0,yy⟩:=kZ;obtain⟨d0,rfl⟩:∃ d0:Nat,dst=(d0:Int):=⟨dst.toNat,by omega⟩
          obtain⟨c0,rfl⟩:∃ c0:Nat,cost=(c0:Int):=⟨cost.toNat,by omega⟩
          obtain⟨to0,yU⟩:∃ n,at0+inp.size=n:=⟨_,rfl⟩
          obtain⟨en0,yB⟩:∃ n,put0+out.size=n:=⟨_,rfl⟩
          have kx:=A0 yU;have kt:=A0 yB;have jz:(at0:Int)+(inp.size:Int)=(to0:Int):=by omega
          have jw:(put0:Int)+(out.size:Int)=(en0:Int):=by omega
          have Ya:=A0 jz;have y2:=A0 jw;clear hr kA jx yZ jU yU yB jz jw
          go_upto_region 22 with fail
          obtain⟨w11,jA⟩:∃ w11,wr.alloc (aK #[aA aM frm,aA aM (d0:Int),aI inp,aI out,aA aM (c0:Int)] 88)=w11:=⟨_,rfl⟩
          rw[jA];have jj:Hid (Ext wr w11):=by show Ext _ _;rw[<- jA];exact(Z2 _ _).alloc (A5 _) _
          have jb:Hid (w11.heap[wr.heap.size]? = some (aK #[aA aM frm,aA aM (d0:Int),aI inp,aI out,aA aM (c0:Int)] 88 (0,0))):=by show _=_;rw[<- jA];exact Z4 _ _
          obtain⟨g11,kj⟩:∃ g11,wr.heap.size=g11:=⟨_,rfl⟩
          rw[kj]at jb ⊢;have jd:Hid (g11<w11.heap.size):=(A7.1 jb.out).1;have jz:=Ya.out;have jw:=y2.out;clear jA kj r0 r1 r2 r3 r4 Yk s0 s1 s2;refine wp_region_sc w11 (Ext.refl _) 228 [(13,aA aM (at0:Int)),(16,aB (some ⟨g11,0,none⟩)),(14,aA aM (put0:Int))] (Zd 106 10 ++ [17,18]) [13,16,14] (by kernel_rfl) rfl ⟨rfl,rfl,rfl,trivial⟩ rfl ?_
          repeat
              first
           | (
             (apply Cn.op rfl rfl)
             ·intro W hS;obtain⟨z0,z1,z2,z3,z4⟩:=Aq ((Z7 hS g11 jd.out).trans jb.out);have j6:IntKind.i64.wrap (to0:Int)=(to0:Int):=Zq _ (by omega);have hwe:IntKind.i64.wrap (en0:Int)=(en0:Int):=Zq _ (by omega);clear hS;simp[go_sem,At,lkE, *] <;> rfl)
          refine .nil λW x hS hx=>?_;have e17:x 17=aA aM (to0:Int):=hx 17 (by decide);have e18:x 18=aA aM (en0:Int):=hx 18 (by decide);simp only[Zd,ZG,ZP,Zp,e17,e18,ZE,Z5,Za,Z9];clear hx e17 e18;have jk:Hid (Ext w11 W):=hS;clear hS jz jw;by_cases kY:frm=(mo0:Int)
          ·subst
              kY
           by_cases yS:(n1:Int)<(to0:Int)
           ·have
               Ym:(si.size:Int)<(to0:Int):=by rw[kv.out];exact yS
            have jp:Hid (GB X Y M i G S.rules[q]=G):=by
             show _=_;rw[jD.out];exact L3 jM.out (by unfold DO;simp only;rw[<- kT.out,Qh (by rw[kx.out];omega) (by rw[kv.out];exact kA),zN,zM])
            go_upto_region 23 with fail
            refine wp_region_sc w11 (jk.out) 228 [(16,aB (some ⟨g11,0,none⟩)),(12,aA aM (mo0:Int)),(17,aA aM (to0:Int)),(1,aI si),(18,aA aM (en0:Int)),(2,aI so),(13,aA aM (at0:Int)),(14,aA aM (put0:Int))] (Zd 116 34) [16,12,17,1,18,2,13,14] (by kernel_rfl) rfl ⟨rfl,rfl,rfl,rfl,rfl,rfl,rfl,rfl,trivial⟩ rfl ?_
            repeat
                first
             | refine .skip rfl rfl ?_
             | (
               (apply Cn.op rfl rfl)
               ·intro W hS;obtain⟨z0,z1,z2,z3,z4⟩:=Aq ((Z7 hS g11 jd.out).trans jb.out);clear hS;simp[go_sem,At,lkE, *] <;> first | (with_reducible apply bF;omega) | (with_reducible apply bT;omega) | rfl)
            refine .nil λW x hS hx=>?_;have e149:x 149=aH true:=hx 149 (by decide);simp only[Zd,Zp,e149,ZE,Z5,Za,Z9];clear hx e149;have ja:Hid (Ext wr W):=Ext.trans jj.out hS;have je:Hid (Ext w11 W):=hS;clear hS
            go_wp2_with fail
            go_roundg (S.rules.length - (q+1))
            case measure=>have:=jB.out;omega
            case rel =>
             obtain⟨t1,t2,t3,t4⟩:=HT.out G jp.out;exact⟨q+1,G,by go_num,by omega,rfl,jh.out.later ja.out (A5 _),t1,t2,t3,t4,Ext.trans jn.out ja.out,jt.out⟩
           ·have Ym
                 :
                  ¬
                   (si.size:Int)<(to0:Int):=by rw[kv.out];exact yS
            by_cases yA:(n2:Int)<(en0:Int)
            ·have
                Yj:(so.size:Int)<(en0:Int):=by rw[kw.out];exact yA
             have jp:Hid (GB X Y M i G S.rules[q]=G):=by
              show _=_;rw[jD.out];exact L3 jM.out (by unfold DO;simp only;rw[<- kV.out,Qh (by rw[kt.out];omega) (by rw[kw.out];exact j3),zM,zM])
             go_upto_region 23 with fail
             refine wp_region_sc w11 (jk.out) 228 [(16,aB (some ⟨g11,0,none⟩)),(12,aA aM (mo0:Int)),(17,aA aM (to0:Int)),(1,aI si),(18,aA aM (en0:Int)),(2,aI so),(13,aA aM (at0:Int)),(14,aA aM (put0:Int))] (Zd 116 34) [16,12,17,1,18,2,13,14] (by kernel_rfl) rfl ⟨rfl,rfl,rfl,rfl,rfl,rfl,rfl,rfl,trivial⟩ rfl ?_
             repeat
                 first
              | refine .skip rfl rfl ?_
              | (
                (apply Cn.op rfl rfl)
                ·intro W hS;obtain⟨z0,z1,z2,z3,z4⟩:=Aq ((Z7 hS g11 jd.out).trans jb.out);clear hS;simp[go_sem,At,lkE, *] <;> first | (with_reducible apply bF;omega) | (with_reducible apply bT;omega) | rfl)
             refine .nil λW x hS hx=>?_;have e149:x 149=aH true:=hx 149 (by decide);simp only[Zd,Zp,e149,ZE,Z5,Za,Z9];clear hx e149;have ja:Hid (Ext wr W):=Ext.trans jj.out hS;have je:Hid (Ext w11 W):=hS;clear hS
             go_wp2_with fail
             go_roundg (S.rules.length - (q+1))
             case measure=>have:=jB.out;omega
             case rel =>
              obtain⟨t1,t2,t3,t4⟩:=HT.out G jp.out;exact⟨q+1,G,by go_num,by omega,rfl,jh.out.later ja.out (A5 _),t1,t2,t3,t4,Ext.trans jn.out ja.out,jt.out⟩
            ·have Yj
                  :
                   ¬
                    (so.size:Int)<(en0:Int):=by rw[kw.out];exact yA
             have j4:=QN si at0 to0 (by rw[<- kx.out];omega) (by omega);have j5:=QN so put0 en0 (by rw[<- kt.out];omega) (by omega);obtain⟨xs,yc⟩:∃ s,si.extract at0 to0=s:=⟨_,rfl⟩
             obtain⟨ys,yf⟩:∃ s,so.extract put0 en0=s:=⟨_,rfl⟩
             rw[yc]at j4;rw[yf]at j5;have kO:=A0 j4;have kP:=A0 j5;have yP:xs=inp↔(bts inp).isPrefixOf (X.drop at0)=true:=by rw[<- yc,<- kx.out,<- kT.out];exact Qg
             have yQ:ys=out↔(bts out).isPrefixOf (Y.drop put0)=true:=by rw[<- yf,<- kt.out,<- kV.out];exact Qg
             have ym:=A0 yP;have yn:=A0 yQ;clear j4 j5 yc yf yP yQ;by_cases jY:xs=inp
             ·have kJ
                   :
                    (xs.toList == inp.toList)=true:=by rw[I8];exact decide_eq_true jY
              by_cases j7:ys=out
              ·have
                  hyb
                    :
                     (ys.toList == out.toList)=true:=by rw[I8];exact decide_eq_true j7
               have yo:Hid (DO X Y ⟨(mo0:Int),(d0:Int),inp,out,(c0:Int)⟩ (at0,put0,mo0)=true):=by show _=_;unfold DO;simp only;rw[ym.out.1 jY,yn.out.1 j7,beq_self_eq_true];rfl
               clear jY j7
               go_upto_region 23 with fail
               refine wp_region_sc w11 (jk.out) 228 [(16,aB (some ⟨g11,0,none⟩)),(12,aA aM (mo0:Int)),(17,aA aM (to0:Int)),(1,aI si),(18,aA aM (en0:Int)),(2,aI so),(13,aA aM (at0:Int)),(14,aA aM (put0:Int))] (Zd 116 34) [16,12,17,1,18,2,13,14] (by kernel_rfl) rfl ⟨rfl,rfl,rfl,rfl,rfl,rfl,rfl,rfl,trivial⟩ rfl ?_
               repeat
                   first
                | (
                  (apply Cn.op rfl rfl)
                  ·intro W hS;obtain⟨z0,z1,z2,z3,z4⟩:=Aq ((Z7 hS g11 jd.out).trans jb.out);have j4:=kO.out;have j5:=kP.out;clear hS;simp[go_sem,At,lkE, *] <;> first | (with_reducible apply bF;omega) | (with_reducible apply bT;omega) | rfl)
               refine .nil λW x hS hx=>?_;have e149:x 149=aH false:=hx 149 (by decide);simp only[Zd,Zp,e149,ZE,Z5,Za,Z9];clear hx e149;have ja:Hid (Ext wr W):=Ext.trans jj.out hS;have je:Hid (Ext w11 W):=hS;clear hS;have ko:to0<=40:=by omega
               have kX:en0<=40:=by omega
               have kn:n2+1<=41:=by omega
               obtain⟨p1,j3⟩:∃ p,to0*(n2+1)=p:=⟨_,rfl⟩
               have yw:p1<=1640:=by rw[<- j3];exact Y1 ko kn
               obtain⟨p3,kE⟩:∃ p,(p1+en0)*M=p:=⟨_,rfl⟩
               have Yi:p3<=13440:=by rw[<- kE];exact Y1 (show p1+en0<=1680 by omega) k2
               obtain⟨kk,km⟩:∃ n,p3+d0=n:=⟨_,rfl⟩
               have yi:Hid (E4 (Y.length+1) M (Dz ⟨(mo0:Int),(d0:Int),inp,out,(c0:Int)⟩ (at0,put0,mo0))=kk):=by
                show _=_;unfold E4 Dz;simp only[ZW];rw[kx.out,kt.out,jH.out,j3,kE,km]
               have j2:kk<k:=by
                have h1:=(y7.out.go yo.out kW).enc;rw[yi.out,j1.out,jH.out,<- jZ.out]at h1;exact h1
               have i1:(to0:Int)*((n2:Int)+1)=(p1:Int):=by rw[<- j3];exact(zR to0 (n2+1)).symm
               have i2:((p1:Int)+(en0:Int))*(M:Int)=(p3:Int):=by rw[<- kE];exact(zR (p1+en0) M).symm
               have i3:(p3:Int)+(d0:Int)=(kk:Int):=by omega
               have jm:Hid (kk<G.length):=by show _<_;rw[jO.out];exact j2
               have jo:Hid (i<G.length):=by show _<_;rw[jO.out];exact jJ
               obtain⟨v,hv⟩:∃ v,G[kk]? = some v:=⟨_,AC jm.out⟩
               have ke:=A0 hv;have kR:=A0 (V7 jM.out yo.out yi.out jC.out hv);obtain⟨s0,s1,s2⟩:=B6 (HB.out W (Ext.trans jE.out (Ext.trans jn.out ja.out)));obtain⟨z0,z1,z2,z3,z4⟩:=Aq ((Z7 je.out g11 jd.out).trans jb.out);clear hv j3 kE km
               go_upto_region 25 with fail
               obtain⟨wo2,kq⟩:∃ wo2:Z0,wo2=W:=⟨_,rfl⟩
               rw[<- kq]at ja je ⊢;clear kq s0 s1 s2 z0 z1 z2 z3 z4 i1 i2 i3 yw Yi ko kX kn;by_cases js:v<0
               ·have
                   HG2:Hid (GB X Y M i G S.rules[q]=G.set kk (z+(c0:Int))):=by show _=_;rw[jD.out,kR.out,if_pos (.inl js)]
                refine wp_region_sc wo2 (Ext.refl _) 228 [(8,aG (some ⟨gl,0,none⟩) k k),(19,aA aM (kk:Int)),(11,aA aM (i:Int)),(16,aB (some ⟨g11,0,none⟩))] (Zd 161 19) [8,19,11,16] (by kernel_rfl) rfl ⟨rfl,rfl,rfl,rfl,trivial⟩ rfl ?_
                repeat
                    first
                 | refine .skip rfl rfl ?_
                 | (
                   (apply Cn.op rfl rfl)
                   ·intro W hS;obtain⟨z0,z1,z2,z3,z4⟩:=Aq ((Z7 (Ext.trans je.out hS) g11 jd.out).trans jb.out);have ji:=jh.out.later (Ext.trans ja.out hS) (A5 _);have y0:=(Bo ji jm.out).1;have x0:=(Bo ji jo.out).1;rw[(Zh.1 ke.out).2]at y0;rw[(Zh.1 jC.out).2]at x0;have kC:=idx_ints gl k k kk j2;have kD:=idx_ints gl k k i jJ;have jg:IntKind.i64.wrap (z+(c0:Int))=z+(c0:Int):=Zq _ (by omega);clear hS;simp[go_sem,At,lkE, *] <;> first | (with_reducible apply bF;omega) | (with_reducible apply bT;omega) | rfl)
                refine .nil λW x hS hx=>?_;have e179:x 179=aH true:=hx 179 (by decide);simp only[Zd,Zp,e179,ZE,Z5,Za,Z9];clear hx e179;have jc:Hid (Ext wo2 W):=hS;clear hS
                go_upto_region 26 with fail
                obtain⟨wo3,jr⟩:∃ wo3:Z0,wo3=W:=⟨_,rfl⟩
                rw[<- jr]at jc ⊢;clear jr;refine wp_region_sd (Ext wo3) 228 [(8,aG (some ⟨gl,0,none⟩) k k),(19,aA aM (kk:Int)),(11,aA aM (i:Int)),(16,aB (some ⟨g11,0,none⟩))] [10] (Zd 180 10) [8,19,11,16] (by kernel_rfl) rfl ⟨rfl,rfl,rfl,rfl,trivial⟩ rfl (λ_ h=>h) λW hS=>?_
                repeat
                    first
                 | (
                   apply CD.op rfl rfl
                   ·intro W jQ;obtain⟨z0,z1,z2,z3,z4⟩:=Aq ((Z7 (Ext.trans je.out (Ext.trans jc.out jQ)) g11 jd.out).trans jb.out);have ji:=jh.out.later (Ext.trans ja.out (Ext.trans jc.out jQ)) (A5 _);have y0:=(Bo ji jm.out).1;have x0:=(Bo ji jo.out).1;rw[(Zh.1 ke.out).2]at y0;rw[(Zh.1 jC.out).2]at x0;have kC:=idx_ints gl k k kk j2;have kD:=idx_ints gl k k i jJ;have jg:IntKind.i64.wrap (z+(c0:Int))=z+(c0:Int):=Zq _ (by omega);clear jQ;simp[go_sem,At,lkE, *] <;> rfl)
                refine .stl (W.setCell ⟨gl,kk,none⟩ (aA aM (z+(c0:Int)))) rfl rfl (by decide) (by kernel_rfl) ?_ ?_
                ·obtain⟨y0,y1⟩:=Bo (jh.out.later (Ext.trans ja.out (Ext.trans jc.out hS)) (A5 _)) jm.out;have y1:=y1 kk;have jg:IntKind.i64.wrap (z+(c0:Int))=z+(c0:Int):=Zq _ (by omega);simp[go_sem,At,lkE,y0,y1,jg]
                intro x hx;obtain⟨wz,jg⟩:∃ wz,W.setCell ⟨gl,kk,none⟩ (aA aM (z+(c0:Int)))=wz:=⟨_,rfl⟩
                rw[jg];have kL:Hid (Af I0 wz gl (aG (some ⟨gl,0,none⟩) k k) (G.set kk (z+(c0:Int)))):=by show Af _ _ _ _ _;rw[<- jg];exact NM (jh.out.later (Ext.trans ja.out (Ext.trans jc.out hS)) (A5 _)) jm.out _
                have kU:Hid (Ext w2 wz):=by show Ext _ _;rw[<- jg];exact(Ext.trans jn.out (Ext.trans ja.out (Ext.trans jc.out hS))).setCell (Nat.le_of_eq ku.out) _
                clear jg hS;simp only[Zd,Zp,ZE,Z5,Za,Z9];clear hx
                go_wp2_with fail
                go_roundg (S.rules.length - (q+1))
                case measure=>have:=jB.out;omega
                case rel =>
                 obtain⟨t1,t2,t3,t4⟩:=HT.out _ HG2.out;exact⟨q+1,G.set kk (z+(c0:Int)),by go_num,by omega,rfl,kL.out,t1,t2,t3,t4,kU.out,jt.out.set yt.out yy⟩
               ·by_cases
                     hv1:z+(c0:Int)<v
                ·have
                    HG2:Hid (GB X Y M i G S.rules[q]=G.set kk (z+(c0:Int))):=by show _=_;rw[jD.out,kR.out,if_pos (.inr hv1)]
                 refine wp_region_sc wo2 (Ext.refl _) 228 [(8,aG (some ⟨gl,0,none⟩) k k),(19,aA aM (kk:Int)),(11,aA aM (i:Int)),(16,aB (some ⟨g11,0,none⟩))] (Zd 161 19) [8,19,11,16] (by kernel_rfl) rfl ⟨rfl,rfl,rfl,rfl,trivial⟩ rfl ?_
                 repeat
                     first
                  | (
                    (apply Cn.op rfl rfl)
                    ·intro W hS;obtain⟨z0,z1,z2,z3,z4⟩:=Aq ((Z7 (Ext.trans je.out hS) g11 jd.out).trans jb.out);have ji:=jh.out.later (Ext.trans ja.out hS) (A5 _);have y0:=(Bo ji jm.out).1;have x0:=(Bo ji jo.out).1;rw[(Zh.1 ke.out).2]at y0;rw[(Zh.1 jC.out).2]at x0;have kC:=idx_ints gl k k kk j2;have kD:=idx_ints gl k k i jJ;have jg:IntKind.i64.wrap (z+(c0:Int))=z+(c0:Int):=Zq _ (by omega);clear hS;simp[go_sem,At,lkE, *] <;> first | (with_reducible apply bF;omega) | (with_reducible apply bT;omega) | rfl)
                 refine .nil λW x hS hx=>?_;have e179:x 179=aH true:=hx 179 (by decide);simp only[Zd,Zp,e179,ZE,Z5,Za,Z9];clear hx e179;have jc:Hid (Ext wo2 W):=hS;clear hS
                 go_upto_region 26 with fail
                 obtain⟨wo3,jr⟩:∃ wo3:Z0,wo3=W:=⟨_,rfl⟩
                 rw[<- jr]at jc ⊢;clear jr;refine wp_region_sd (Ext wo3) 228 [(8,aG (some ⟨gl,0,none⟩) k k),(19,aA aM (kk:Int)),(11,aA aM (i:Int)),(16,aB (some ⟨g11,0,none⟩))] [10] (Zd 180 10) [8,19,11,16] (by kernel_rfl) rfl ⟨rfl,rfl,rfl,rfl,trivial⟩ rfl (λ_ h=>h) λW hS=>?_
                 repeat
                     first
                  | (
                    apply CD.op rfl rfl
                    ·intro W jQ;obtain⟨z0,z1,z2,z3,z4⟩:=Aq ((Z7 (Ext.trans je.out (Ext.trans jc.out jQ)) g11 jd.out).trans jb.out);have ji:=jh.out.later (Ext.trans ja.out (Ext.trans jc.out jQ)) (A5 _);have y0:=(Bo ji jm.out).1;have x0:=(Bo ji jo.out).1;rw[(Zh.1 ke.out).2]at y0;rw[(Zh.1 jC.out).2]at x0;have kC:=idx_ints gl k k kk j2;have kD:=idx_ints gl k k i jJ;have jg:IntKind.i64.wrap (z+(c0:Int))=z+(c0:Int):=Zq _ (by omega);clear jQ;simp[go_sem,At,lkE, *] <;> rfl)
                 refine .stl (W.setCell ⟨gl,kk,none⟩ (aA aM (z+(c0:Int)))) rfl rfl (by decide) (by kernel_rfl) ?_ ?_
                 ·obtain⟨y0,y1⟩:=Bo (jh.out.later (Ext.trans ja.out (Ext.trans jc.out hS)) (A5 _)) jm.out;have y1:=y1 kk;have jg:IntKind.i64.wrap (z+(c0:Int))=z+(c0:Int):=Zq _ (by omega);simp[go_sem,At,lkE,y0,y1,jg]
                 intro x hx;obtain⟨wz,jg⟩:∃ wz,W.setCell ⟨gl,kk,none⟩ (aA aM (z+(c0:Int)))=wz:=⟨_,rfl⟩
                 rw[jg];have kL:Hid (Af I0 wz gl (aG (some ⟨gl,0,none⟩) k k) (G.set kk (z+(c0:Int)))):=by show Af _ _ _ _ _;rw[<- jg];exact NM (jh.out.later (Ext.trans ja.out (Ext.trans jc.out hS)) (A5 _)) jm.out _
                 have kU:Hid (Ext w2 wz):=by show Ext _ _;rw[<- jg];exact(Ext.trans jn.out (Ext.trans ja.out (Ext.trans jc.out hS))).setCell (Nat.le_of_eq ku.out) _
                 clear jg hS;simp only[Zd,Zp,ZE,Z5,Za,Z9];clear hx
                 go_wp2_with fail
                 go_roundg (S.rules.length - (q+1))
                 case measure=>have:=jB.out;omega
                 case rel =>
                  obtain⟨t1,t2,t3,t4⟩:=HT.out _ HG2.out;exact⟨q+1,G.set kk (z+(c0:Int)),by go_num,by omega,rfl,kL.out,t1,t2,t3,t4,kU.out,jt.out.set yt.out yy⟩
                ·have
                    jp:Hid (GB X Y M i G S.rules[q]=G):=by show _=_;rw[jD.out,kR.out,if_neg (λh=>h.elim js hv1)]
                 refine wp_region_sc wo2 (Ext.refl _) 228 [(8,aG (some ⟨gl,0,none⟩) k k),(19,aA aM (kk:Int)),(11,aA aM (i:Int)),(16,aB (some ⟨g11,0,none⟩))] (Zd 161 19) [8,19,11,16] (by kernel_rfl) rfl ⟨rfl,rfl,rfl,rfl,trivial⟩ rfl ?_
                 repeat
                     first
                  | (
                    (apply Cn.op rfl rfl)
                    ·intro W hS;obtain⟨z0,z1,z2,z3,z4⟩:=Aq ((Z7 (Ext.trans je.out hS) g11 jd.out).trans jb.out);have ji:=jh.out.later (Ext.trans ja.out hS) (A5 _);have y0:=(Bo ji jm.out).1;have x0:=(Bo ji jo.out).1;rw[(Zh.1 ke.out).2]at y0;rw[(Zh.1 jC.out).2]at x0;have kC:=idx_ints gl k k kk j2;have kD:=idx_ints gl k k i jJ;have jg:IntKind.i64.wrap (z+(c0:Int))=z+(c0:Int):=Zq _ (by omega);clear hS;simp[go_sem,At,lkE, *] <;> first | (with_reducible apply bF;omega) | (with_reducible apply bT;omega) | rfl)
                 refine .nil λW x hS hx=>?_;have e179:x 179=aH false:=hx 179 (by decide);simp only[Zd,Zp,e179,ZE,Z5,Za,Z9];clear hx e179;have jc:Hid (Ext wo2 W):=hS;clear hS;have jF:Hid (Ext wr W):=Ext.trans ja.out jc.out
                 go_wp2_with fail
                 go_roundg (S.rules.length - (q+1))
                 case measure=>have:=jB.out;omega
                 case rel =>
                  obtain⟨t1,t2,t3,t4⟩:=HT.out G jp.out;exact⟨q+1,G,by go_num,by omega,rfl,jh.out.later jF.out (A5 _),t1,t2,t3,t4,Ext.trans jn.out jF.out,jt.out⟩
              ·have
                  hyb:(ys.toList == out.toList)=false:=by rw[I8];exact decide_eq_false j7
               have jp:Hid (GB X Y M i G S.rules[q]=G):=by
                show _=_;rw[jD.out];exact L3 jM.out (by unfold DO;simp only;rw[Bool.eq_false_iff.2 (λh=>j7 (yn.out.2 h)),zM,zM])
               clear jY j7
               go_upto_region 23 with fail
               refine wp_region_sc w11 (jk.out) 228 [(16,aB (some ⟨g11,0,none⟩)),(12,aA aM (mo0:Int)),(17,aA aM (to0:Int)),(1,aI si),(18,aA aM (en0:Int)),(2,aI so),(13,aA aM (at0:Int)),(14,aA aM (put0:Int))] (Zd 116 34) [16,12,17,1,18,2,13,14] (by kernel_rfl) rfl ⟨rfl,rfl,rfl,rfl,rfl,rfl,rfl,rfl,trivial⟩ rfl ?_
               repeat
                   first
                | (
                  (apply Cn.op rfl rfl)
                  ·intro W hS;obtain⟨z0,z1,z2,z3,z4⟩:=Aq ((Z7 hS g11 jd.out).trans jb.out);have j4:=kO.out;have j5:=kP.out;clear hS;simp[go_sem,At,lkE, *] <;> first | (with_reducible apply bF;omega) | (with_reducible apply bT;omega) | rfl)
               refine .nil λW x hS hx=>?_;have e149:x 149=aH true:=hx 149 (by decide);simp only[Zd,Zp,e149,ZE,Z5,Za,Z9];clear hx e149;have ja:Hid (Ext wr W):=Ext.trans jj.out hS;have je:Hid (Ext w11 W):=hS;clear hS
               go_wp2_with fail
               go_roundg (S.rules.length - (q+1))
               case measure=>have:=jB.out;omega
               case rel =>
                obtain⟨t1,t2,t3,t4⟩:=HT.out G jp.out;exact⟨q+1,G,by go_num,by omega,rfl,jh.out.later ja.out (A5 _),t1,t2,t3,t4,Ext.trans jn.out ja.out,jt.out⟩
             ·have
                 kJ:(xs.toList == inp.toList)=false:=by rw[I8];exact decide_eq_false jY
              have jp:Hid (GB X Y M i G S.rules[q]=G):=by
               show _=_;rw[jD.out];exact L3 jM.out (by unfold DO;simp only;rw[Bool.eq_false_iff.2 (λh=>jY (ym.out.2 h)),zN,zM])
              clear jY
              go_upto_region 23 with fail
              refine wp_region_sc w11 (jk.out) 228 [(16,aB (some ⟨g11,0,none⟩)),(12,aA aM (mo0:Int)),(17,aA aM (to0:Int)),(1,aI si),(18,aA aM (en0:Int)),(2,aI so),(13,aA aM (at0:Int)),(14,aA aM (put0:Int))] (Zd 116 34) [16,12,17,1,18,2,13,14] (by kernel_rfl) rfl ⟨rfl,rfl,rfl,rfl,rfl,rfl,rfl,rfl,trivial⟩ rfl ?_
              repeat
                  first
               | refine .skip rfl rfl ?_
               | (
                 (apply Cn.op rfl rfl)
                 ·intro W hS;obtain⟨z0,z1,z2,z3,z4⟩:=Aq ((Z7 hS g11 jd.out).trans jb.out);have j4:=kO.out;have j5:=kP.out;clear hS;simp[go_sem,At,lkE, *] <;> first | (with_reducible apply bF;omega) | (with_reducible apply bT;omega) | rfl)
              refine .nil λW x hS hx=>?_;have e149:x 149=aH true:=hx 149 (by decide);simp only[Zd,Zp,e149,ZE,Z5,Za,Z9];clear hx e149;have ja:Hid (Ext wr W):=Ext.trans jj.out hS;have je:Hid (Ext w11 W):=hS;clear hS
              go_wp2_with fail
              go_roundg (S.rules.length - (q+1))
              case measure=>have:=jB.out;omega
              case rel =>
               obtain⟨t1,t2,t3,t4⟩:=HT.out G jp.out;exact⟨q+1,G,by go_num,by omega,rfl,jh.out.later ja.out (A5 _),t1,t2,t3,t4,Ext.trans jn.out ja.out,jt.out⟩
          ·have
              hfb:(frm == (mo0:Int))=false:=by rw[beq_eq_false_iff_ne];exact kY
           have hfn:(frm != (mo0:Int))=true:=by rw[bne_iff_ne];exact kY
           have jp:Hid (GB X Y M i G S.rules[q]=G):=by
            show _=_;rw[jD.out];exact L3 jM.out (by unfold DO;simp only;rw[hfb,zN])
           go_upto_region 23 with fail
           refine wp_region_sc w11 (jk.out) 228 [(16,aB (some ⟨g11,0,none⟩)),(12,aA aM (mo0:Int)),(17,aA aM (to0:Int)),(1,aI si),(18,aA aM (en0:Int)),(2,aI so),(13,aA aM (at0:Int)),(14,aA aM (put0:Int))] (Zd 116 34) [16,12,17,1,18,2,13,14] (by kernel_rfl) rfl ⟨rfl,rfl,rfl,rfl,rfl,rfl,rfl,rfl,trivial⟩ rfl ?_
           repeat
               first
            | refine .skip rfl rfl ?_
            | (
              (apply Cn.op rfl rfl)
              ·intro W hS;obtain⟨z0,z1,z2,z3,z4⟩:=Aq ((Z7 hS g11 jd.out).trans jb.out);clear hS;simp[go_sem,At,lkE, *] <;> rfl)
           refine .nil λW x hS hx=>?_;have e149:x 149=aH true:=hx 149 (by decide);simp only[Zd,Zp,e149,ZE,Z5,Za,Z9];clear hx e149;have ja:Hid (Ext wr W):=Ext.trans jj.out hS;have je:Hid (Ext w11 W):=hS;clear hS
           go_wp2_with fail
           go_roundg (S.rules.length - (q+1))
           case measure=>have:=jB.out;omega
           case rel =>
            obtain⟨t1,t2,t3,t4⟩:=HT.out G jp.out;exact⟨q+1,G,by go_num,by omega,rfl,jh.out.later ja.out (A5 _),t1,t2,t3,t4,Ext.trans jn.out ja.out,jt.out⟩
         ·obtain rfl:q=S.rules.length:=by omega
          have hnq:¬ (S.rules.length:Int)<(S.rules.length:Int):=by omega
          have kM:Hid (Ps5 S.rules X Y M t (i+1) G):=Ps5.next (by omega) jN.out (ju.out.dn ks.out) (kN.out.dn ks.out) λx hx h0=>yl.out
          go_wp2_with fail
          go_roundg (k - (i+1))
          case measure=>have:=yj.out;omega
          case rel=>exact⟨i+1,G,by go_num,by omega,rfl,jh.out,kQ.out,ju.out.dn ks.out,kM.out,jn.out,jt.out⟩
      ·obtain rfl:i=k:=by omega
       have hni:¬ (i:Int)<(i:Int):=by omega
       have y5:Hid (Gd5 S.rules X Y M (t+1) F):=Gd5.next (by omega) jN.out ju.out jv.out.len (by rw[y3.out];exact kN.out)
       go_wp2_with fail
       go_roundg (T+1 - (t+1))
       case measure=>have:=y6.out;omega
       case rel=>exact⟨t+1,F,by go_num,by omega,rfl,kb.out,jv.out,y5.out,kg.out,by rw[zp];exact jL.out⟩
    ·have k9:¬ (t:Int)<=(T:Int):=by omega
     have y4:Hid (Gd5 S.rules X Y M ((X.length+Y.length+1)*M) F):=λn a c ho hn=>ju.out n a c ho (by rw[j1.out,jH.out,Yb.out]at hn;omega);obtain⟨P,hP⟩:∃ P,(n1+1)*(n2+1)=P:=⟨_,rfl⟩
     obtain⟨Q,hQ⟩:∃ Q,(n1*(n2+1)+n2)*M=Q:=⟨_,rfl⟩
     have yv:P=n1*(n2+1)+n2+1:=by rw[<- hP,zp];omega
     have hPP:P<=1681:=by rw[<- hP];exact Y1 (show n1+1<=41 by omega) (show n2+1<=41 by omega)
     have hQM:Q+M=k:=by rw[jZ.out,hP,yv,<- hQ,zp]
     have i1:((n1:Int)+1)*((n2:Int)+1)=(P:Int):=by rw[<- hP];exact(zR (n1+1) (n2+1)).symm
     have i2:((P:Int) - 1)*(M:Int)=(Q:Int):=by
      have:((P:Int) - 1)=((n1*(n2+1)+n2:Nat):Int):=by omega
      rw[this,<- hQ];exact(zR _ _).symm
     have y9:=A0 hQ;clear hP hQ yv
     go_wp2_with fail
     clear s0 s1 s2 k9 e1;obtain⟨wt,j6⟩:∃ wt:Z0,wt=wr:=⟨wr,rfl⟩
     rw[<- j6]at kc jP ⊢;clear j6
     go_loopg [20,21,22] M (λg v20 v21 v22 wr=>∃ m:Nat,v20=aA aM (FX S.acc (λm=>EQ S.rules X Y (X.length,Y.length,m)) m)/\v21=aA aM (m:Int)/\m<=M/\g=M - m/\Ext wt wr)
     case atStart=>exact⟨0,rfl,rfl,Ze _,rfl,Ext.refl _⟩
     case round =>
      obtain⟨m,rfl,rfl,hmM,yF,hx⟩:=hrel;have ka:=A0 yF;have jG:=A0 hx;have kK:Hid (FX S.acc (λm=>EQ S.rules X Y (X.length,Y.length,m)) (m+1)=if CL S.acc m=true/\0<=EQ S.rules X Y (X.length,Y.length,m)/\(FX S.acc (λm=>EQ S.rules X Y (X.length,Y.length,m)) m<0\/EQ S.rules X Y (X.length,Y.length,m)<FX S.acc (λm=>EQ S.rules X Y (X.length,Y.length,m)) m) then EQ S.rules X Y (X.length,Y.length,m) else FX S.acc (λm=>EQ S.rules X Y (X.length,Y.length,m)) m):=rfl;have yh:Hid (m=M->FX S.acc (λm=>EQ S.rules X Y (X.length,Y.length,m)) m=FY S.rules S.acc M X Y):=λe=>by rw[e];rfl
      obtain⟨bs,yx⟩:∃ bs,FX S.acc (λm=>EQ S.rules X Y (X.length,Y.length,m)) m=bs:=⟨_,rfl⟩
      rw[yx]at kK yh ⊢;clear yF hx yx;obtain⟨s0,s1,s2⟩:=B6 (HB.out wr (Ext.trans jE.out (Ext.trans jP.out jG.out)));by_cases jV:m<M
      ·have k1:(m:Int)<(M:Int):=by omega
       have jK:In5 X Y M (X.length,Y.length,m):=⟨A5 _,A5 _,jV⟩
       have js:=jv.out.val (by omega) jN.out y4.out jK;have he:E4 (Y.length+1) M (X.length,Y.length,m)=Q+m:=by unfold E4;simp only;rw[j1.out,jH.out,y9.out]
       rw[he]at js;obtain⟨v,hv⟩:∃ v,EQ S.rules X Y (X.length,Y.length,m)=v:=⟨_,rfl⟩
       rw[hv]at js kK;obtain⟨hq,yR⟩:=Zh.1 js;obtain⟨q0,q1⟩:=Bo (kc.out.later jG.out (A5 _)) hq;rw[yR]at q0;have jl:∀ w:Z0,(ZK 36 (aG (some ⟨gl,0,none⟩) k k) (aA aM ((Q:Int)+(m:Int)))).run Z1 w=.ok (aB (some ⟨gl,Q+m,none⟩)) w:=idx_ints gl k k (Q+m) (by omega);clear jK js he hv hq yR
       go_wp2_with fail
       clear q0 q1 jl;refine(LQ (M:Int) S.acc b S.rules.length c m wr jR jS (by omega)).mono ?_;rintro e w6 ⟨rfl,yY⟩;have kf:Hid (Ext wr w6):=yY;clear yY s0 s1 s2;have ki:∀ b':Int,(if CL S.acc m=true/\0<=v/\(bs<0\/v<bs) then v else bs)=b'->FX S.acc (λm=>EQ S.rules X Y (X.length,Y.length,m)) (m+1)=b':=λb' h=>kK.out.trans h;have j9:=A0 ki;clear ki;cases hA:CL S.acc m with
       | false =>
        have HA:=A0 hA;clear hA
        go_wp2_with fail
        go_roundg (M - (m+1))
        case measure=>have:=ka.out;omega
        case rel=>exact⟨m+1,by rw[j9.out bs (if_neg (λh=>by rw[HA.out]at h;cases h.1))],by go_num,by omega,rfl,Ext.trans jG.out kf.out⟩
       | true =>
        have HA:=A0 hA;clear hA;by_cases js:0<=v
        ·by_cases Yh:bs<0
         ·go_wp2_with fail
          go_roundg (M - (m+1))
          case measure=>have:=ka.out;omega
          case rel=>exact⟨m+1,by rw[j9.out v (if_pos ⟨HA.out,js,.inl Yh⟩)],by go_num,by omega,rfl,Ext.trans jG.out kf.out⟩
         ·by_cases Yn:v<bs
          ·go_wp2_with fail
           go_roundg (M - (m+1))
           case measure=>have:=ka.out;omega
           case rel=>exact⟨m+1,by rw[j9.out v (if_pos ⟨HA.out,js,.inr Yn⟩)],by go_num,by omega,rfl,Ext.trans jG.out kf.out⟩
          ·go_wp2_with fail
           go_roundg (M - (m+1))
           case measure=>have:=ka.out;omega
           case rel=>exact⟨m+1,by rw[j9.out bs (if_neg (λh=>by obtain⟨-,h1,h2⟩:=h;omega))],by go_num,by omega,rfl,Ext.trans jG.out kf.out⟩
        ·go_wp2_with fail
         go_roundg (M - (m+1))
         case measure=>have:=ka.out;omega
         case rel=>exact⟨m+1,by rw[j9.out bs (if_neg (λh=>by obtain⟨-,h1,h2⟩:=h;omega))],by go_num,by omega,rfl,Ext.trans jG.out kf.out⟩
      ·obtain rfl:m=M:=by omega
       have hnm:¬ (m:Int)<(m:Int):=by omega
       go_wp2_with fail
       go_ret;refine⟨?_,Ext.trans kS.out (Ext.trans jE.out (Ext.trans jP.out jG.out))⟩;rw[kT.out,kV.out];first | rfl | (rw[yh.out (by trivial)];rfl)
def V8 (g:Nat):Nat->BR
 | 0=>⟨some ⟨g,0,none⟩,1,1,λ_=>2⟩
 | 1=>⟨some ⟨g+1,0,none⟩,1,1,λ_=>3⟩
 | 2=>⟨some ⟨g+1+1,0,none⟩,2,2,λi=>if i=0 then 0 else 1⟩
 | _=>⟨some ⟨g+1+1+1,0,none⟩,2,2,λi=>if i=0 then 1 else 0⟩
def one_byte {w:Z0}{g:Nat}{z:Int}{t:X5}{f:Nat × Nat}(h:w.heap[g]? = some (aK #[aA aO z] t f))(h0:0<=z)(h1:z<=255):Bt w (some ⟨g,0,none⟩) 1 λ_=>z :=
 .inr ⟨g,0,rfl,by decide,(A7.1 h).1,λi hi=>by
  obtain rfl:i=0:=by omega
  exact⟨by rw[Z3 w _ _ _ _ _ h];rfl,h0,h1⟩⟩
def two_bytes {w:Z0}{g:Nat}{y z:Int}{t:X5}{f:Nat × Nat}(h:w.heap[g]? = some (aK #[aA aO y,aA aO z] t f))(h0:0<=y)(h1:y<=255)(k0:0<=z)(k1:z<=255):Bt w (some ⟨g,0,none⟩) 2 λi=>if i=0 then y else z :=
 .inr ⟨g,0,rfl,by decide,(A7.1 h).1,λi hi=>by
  rcases(by omega:i=0\/i=1) with rfl | rfl
  · exact⟨by rw[Z3 w _ _ _ _ _ h];rfl,h0,h1⟩
  · exact⟨by rw[Z3 w _ _ _ _ _ h];rfl,k0,k1⟩⟩
def S5 (w:Z0)(t:X5):∃ w5,((((w.alloc (aK #[aA aO 2] 5)).alloc (aK #[aA aO 3] 5)).alloc (aK #[aA aO 0,aA aO 1] 5)).alloc (aK #[aA aO 1,aA aO 0] 5)).alloc
   (aK #[aG (some ⟨w.heap.size,0,none⟩) 1 1,aG (some ⟨w.heap.size+1,0,none⟩) 1 1,aG (some ⟨w.heap.size+1+1,0,none⟩) 2 2,aG (some ⟨w.heap.size+1+1+1,0,none⟩) 2 2] t)=w5/\Ext w w5 /\
  GP w5 (some ⟨w.heap.size+1+1+1+1,0,none⟩) 4 (V8 w.heap.size):=by
 obtain⟨w4,ja,jb,b0,b1,b2,b3,hz⟩:=Pi w (aK #[aA aO 2] 5) (aK #[aA aO 3] 5) (aK #[aA aO 0,aA aO 1] 5) (aK #[aA aO 1,aA aO 0] 5);rw[ja];have hx:Ext w4 (w4.alloc (aK #[aG (some ⟨w.heap.size,0,none⟩) 1 1,aG (some ⟨w.heap.size+1,0,none⟩) 1 1,aG (some ⟨w.heap.size+1+1,0,none⟩) 2 2,aG (some ⟨w.heap.size+1+1+1,0,none⟩) 2 2] t)):=(Z2 _ _).alloc (A5 _) _;have h4:=Z4 w4 (aK #[aG (some ⟨w.heap.size,0,none⟩) 1 1,aG (some ⟨w.heap.size+1,0,none⟩) 1 1,aG (some ⟨w.heap.size+1+1,0,none⟩) 2 2,aG (some ⟨w.heap.size+1+1+1,0,none⟩) 2 2] t);rw[hz]at h4;have hs:w.heap.size+1+1+1+1<(w4.alloc (aK #[aG (some ⟨w.heap.size,0,none⟩) 1 1,aG (some ⟨w.heap.size+1,0,none⟩) 1 1,aG (some ⟨w.heap.size+1+1,0,none⟩) 2 2,aG (some ⟨w.heap.size+1+1+1,0,none⟩) 2 2] t)).heap.size:=(A7.1 h4).1;refine⟨_,rfl,Ext.trans jb hx,λi hi=>⟨_,0,rfl,hs,?_⟩⟩
 match i,hi with
 | 0,_=>exact⟨by rw[Z3 _ _ _ _ _ _ h4];rfl,one_byte (An b0 _ hx) (by decide) (by decide),(show(1:Nat)<=9223372036854775807 by decide)⟩
 | 1,_=>exact⟨by rw[Z3 _ _ _ _ _ _ h4];rfl,one_byte (An b1 _ hx) (by decide) (by decide),(show(1:Nat)<=9223372036854775807 by decide)⟩
 | 2,_=>exact⟨by rw[Z3 _ _ _ _ _ _ h4];rfl,two_bytes (An b2 _ hx) (by decide) (by decide) (by decide) (by decide),(show(2:Nat)<=9223372036854775807 by decide)⟩
 | 3,_=>exact⟨by rw[Z3 _ _ _ _ _ _ h4];rfl,two_bytes (An b3 _ hx) (by decide) (by decide) (by decide) (by decide),(show(2:Nat)<=9223372036854775807 by decide)⟩
def Tx (z:Int)(n:Nat)(h:0<=z)(hn:0<n):∃ k:Nat,z.tmod (n:Int)=(k:Int)/\k<n:=by
 have h1:=Int.tmod_nonneg (n:Int) h;have h2:=Int.tmod_lt_of_pos z (show(0:Int)<(n:Int) by omega);exact⟨(z.tmod (n:Int)).toNat,by omega,by omega⟩
open Go.ChangeShapes Go.WideShapes Go.ChangeAt Go.RowKit Fl
structure Pn where
 a:Option Zj
 len:Nat
 cap:Nat
 Z:Nat->Nat->Int
def Pn.val (x:Pn):Z6:=aG x.a x.len x.cap
structure Ty (w:Z0)(x:Pn):Prop where
 rows:Hi aO 3 w x.a x.len x.Z
 le:x.len<=9223372036854775807
section
variable {H:Type} {enc:TypeId × Value->H} {w:World} {base:Nat} {spare:Nat->Bool} {held:Bool} {d:DataW H} {p:List MemPlace} {r:Reach} {b0:Nat} {v:Value}
open Go.Deep in
def Po {fuel:Nat}{cs:List Z6}{x:DataW H × List MemPlace}(h:z7 enc Z1 w base spare held fuel 27 cs=some x):∃ q:Pn,cs=[aG q.a q.len q.cap]/\Ty w q:=by
 rcases open_slice Tryz.underlying27 h with⟨h0,_⟩ | ⟨ad,l,c,mm,n,D,Pl,h0,hba,hl,ja,jc,_,hel⟩
 ·subst h0;obtain⟨Z,hZ⟩:=trod_rows Tryz.underlying27 Tryz.underlying95 Xg (by kernel_rfl) (by kernel_rfl) (by decide) h;exact⟨⟨none,0,0,Z⟩,rfl,hZ,by show 0<=_;omega⟩
 ·subst h0;obtain⟨Z,hZ⟩:=trod_rows Tryz.underlying27 Tryz.underlying95 Xg (by kernel_rfl) (by kernel_rfl) (by decide) h;have hlm:l<=mm:=by rw[jc];split <;> omega
  have jb:l<=9223372036854775807:=by unfold maxLen at ja;omega
  exact⟨⟨some ad,l,c,Z⟩,rfl,hZ,jb⟩
def S6 (hv:Value.okWide Z1 w r b0 27 v)(h:DataW.Trod enc Z1 w base spare held 27 v d p):∃ x:Pn,v=x.val/\Ty w x:=by
 obtain⟨a,len,cap,rfl⟩:=okWide_slice Tryz.underlying27 hv;obtain⟨f,hf⟩:=h;have ja:z7 enc Z1 w base spare held f 27 [aG a len cap]=some (d,p):=by simpa[Value.cells] using hf
 obtain⟨q,h0,hq⟩:=Po ja;exact⟨q,Xb h0,hq⟩
end
noncomputable def Pp (R:List Rl)(acc:Int)(L:List Slt)(X:List UInt8)(c:Nat):Int:=FY R acc 1 (DI (DJ L (E8 L.length c))) X
def ML (R:List Rl)(acc:Int)(L:List Slt)(X:List UInt8)(k:Nat)(b:Int):Prop:=∀ c,c<k->0<=Pp R acc L X c->0<=b/\b<=Pp R acc L X c+(DK (DJ L (E8 L.length c)):Int)
def Tz {R:List Rl}{acc:Int}{L:List Slt}{X:List UInt8}{n s:Nat}{b:Int}(hf:Ej R)(h1:∀ r∈R,r.dst.toNat=0)(ha:CL acc 0=true)(h3:FZ L)(hn:n<=L.length)(h4:n<=4)(h:RtS R L n 0 X s)(hb:ML R acc (L.take n) X 81 b):0<=b/\b<=(s:Int):=by
 obtain⟨P,c',hp,hl,hs,hr⟩:=Uo h;have jb:(L.take n).length=n:=by rw[AO];omega
 obtain⟨c,hc,ja⟩:=Rk (hp.take n (by omega)) (by rw[jb,hl]) λt ht=>h3.few3 t (Xo ht);have hw:Whole R acc (Gq (DI P)) (DI P).length X c':=⟨0,ha,by have:=hr [];rw[Xe]at this;rw[Fa,hl];exact this⟩
 obtain⟨d,hd⟩:=Eh ⟨c',hw⟩;have hdc:=hd.2 _ hw;have hk:Pp R acc (L.take n) X c=(d:Int):=by
  unfold Pp;rw[ja];exact(MB (by decide) hf (λr hr=>by rw[h1 r hr];decide)).2 hd
 have jc:c<81:=by
  rw[jb]at hc;exact A9 hc (AA (Nat.pow_le_pow_right (by decide) h4) (by decide))
 have h5:=hb c jc (by rw[hk];omega);rw[hk,ja]at h5;exact⟨h5.1,by omega⟩
def V9 {R:List Rl}{acc:Int}{X Z:List UInt8}(hf:Ej R)(h1:∀ r∈R,r.dst.toNat=0)(hx:X.length<=40)(hz:Z.length<=40):-1<=FY R acc 1 Z X/\FY R acc 1 Z X<=100000000:=by
 have hb:-1<=FY R acc 1 Z X:=by
  unfold FY;rcases bst_ok (acc:=acc) (f:=λm=>EQ R Z X (Z.length,X.length,m)) 1 with⟨h,_⟩ | ⟨h,_⟩ <;> omega
 refine⟨hb,?_⟩;by_cases h0:FY R acc 1 Z X<0
 · omega
 ·obtain⟨d,hd⟩:∃ d:Nat,FY R acc 1 Z X=(d:Int):=⟨_,(Int.toNat_of_nonneg (by omega)).symm⟩
  have hl:=(MB (by decide) hf (λr hr=>by rw[h1 r hr];decide)).1 hd;have hw:=whole_low (C:=0) (λs hs=>by
   obtain⟨c,_,rfl⟩:=AJ.1 hs;intro x hx;rw[AF.1 hx];exact⟨Int.le_refl 0,Int.le_refl 0⟩) hl
  have e:(Gq Z).length=Z.length:=by unfold Gq;rw[AQ]
  rw[e]at hw;have h2:(Z.length+1)*8*(X.length+1)*(1000+4*0)<=41*8*41*1000:=Y1 (Y1 (Y1 (by omega) (A5 _)) (by omega)) (A5 _);rw[hd];have h3:d<=13448000:=AA hw h2;omega
def S7 {R:List Rl}{acc:Int}{L:List Slt}{X:List UInt8}{k:Nat}{b b' K:Int}{s:Nat}(h:ML R acc L X k b)(hK:Pp R acc L X k=K)(hs:DK (DJ L (E8 L.length k))=s)(hb:(if 0<=K/\(b<0\/K+(s:Int)<b) then K+(s:Int) else b)=b'):ML R acc L X (k+1) b':=λc hc h0=>by
 by_cases e:c=k
 ·subst e;rw[hK]at h0;rw[hK,hs];split at hb <;> omega
 ·have h1:=h c (by omega) h0;split at hb <;> omega
def Od {R:List Rl}{acc:Int}{L:List Slt}{W:List (List UInt8)}(h1:∀ r∈R,r.dst.toNat=0){e1 e2 e3 e4:Int}(he:(e1,e2,e3,e4)∈GA R acc L W){a s:Nat}{X:List UInt8}(hr:RtS R L a 0 X s)(ha:e1=(a:Int)) :
  ∃ j k c:Nat,e2=(j:Int)/\e3=(k:Int)/\e4=(c:Int)/\a<j/\j<=L.length/\∃ h:k<W.length,RtS R L j 0 (X ++ W[k]) (s+c):=by
 obtain⟨i,j,k,c,h2,h3,h4,h5⟩:=Kb.1 he;injection h2 with h2 h6;injection h6 with h6 h7;injection h7 with h7 h8;have hi:i=a:=by omega
 subst hi;obtain⟨hk,hw⟩:=(IW.mem k c).1 h5;obtain⟨m,_,hm⟩:=hw.1;obtain rfl:=Up h1 hm;refine⟨j,k,c,h6,h7,h8,h3,h4,hk,?_⟩;have h9:=TR hr hm;rw[show i+(j - i)=j by omega]at h9;exact h9
def Qi (a b:ByteArray):bts (a ++ b)=bts a ++ bts b:=by simp[bts,XF]
def S8:CB Nat:=⟨26,5,1,1,aA aO 0,λx=>[aA aO (x:Int)]⟩
def Qj:S8.Ok:=⟨Xv,by kernel_rfl,rfl,by decide,λ_=>rfl,λx u hu=>by obtain rfl:u=aA aO (x:Int):=(AF.1 hu);rfl,by decide⟩
def Af.bySm {w:Z0}{B n c:Nat}{a:Option Zj}{D:List Nat}(h:Af S8 w B (aG a n c) D)(hd:∀ d∈D,d<256):Tv w a D:=λi hi=>by
 rcases h.blk with⟨e,rfl⟩ | ⟨g,c2,e,_,hg,_⟩
 · cases hi
 ·injection e with e1 e2 e3;subst e1;have h2:=h.cell Qj hi (j:=0) (by decide);have e4:i*S8.k+0=i:=by show i*1+0=_;omega
  rw[e4]at h2;exact⟨g,0,rfl,h.lt g rfl,by rw[ZS];exact h2,hd _ (AI hi)⟩
def Pq {L:List Slt}{P:List Ch}{s:ByteArray}(h3:FZ L)(hp:E7 L P)(h:bts s=DI P):F4 s=true:=by
 unfold F4 MO;rw[Zr];intro c hc;have h1:c∈DI P:=by rw[<- h];exact hc
 obtain⟨x,hx,rfl⟩:=AJ.1 h1;obtain⟨t,ht,ja⟩:=hp.mem x hx;have h2:=h3.key t ht x ja;rcases(show(x.key.toNat:Int)=97\/(x.key.toNat:Int)=98\/(x.key.toNat:Int)=99 by omega) with e | e | e <;> rw[e] <;> decide
def Oe (a:Zj)(n cap k:Nat)(hk:k<=n)(hn:n<=cap)(w:Z0) :
  (Xm 41 (aG (some a) n cap) none (some (aA aM (k:Int))) none).run Z1 w=.ok (aG (some a) k cap) w:=by
 have h0:(0:Int)<=(k:Int):=by omega
 have h1:(k:Int)<=(cap:Int):=by omega
 simp[go_sem,Xm,Xw,XA,asIntOf,h0,h1];intro h;omega
def latticeWays_view
             (x:M9) (z:Pn) (y:RP) (w:Z0) (hx:TH w x) (hz:Ty w z) (hy:VH w y) (hT:Tab w) :
  Zu Z1 9 #[x.val,z.val,y.val] w λe w'=>e=aP (aH true)/\Ext w w':=by
 obtain⟨rM,rA,ra,rl,rc,rQ⟩:=x;obtain⟨la,ll,lc,lZ⟩:=z;obtain⟨ya,yl,yc,yZ⟩:=y;obtain⟨yX,yY,yT,yU,jZ⟩:=hx;obtain⟨ym,kr⟩:=hz;obtain⟨yz,YZ⟩:=hy;simp only at yX yY yT yU jZ ym kr yz YZ;have Yy:=A0 jZ;have Yv:=A0 ym;have HT:=A0 hT;have YF:=A0 yz;clear jZ ym hT yz;simp only[M9.val,Pn.val,RP.val]
 go_enter Tryz.func9,Tryz.ntmps9
 go_upto_region 1 with fail
 obtain⟨w2,kQ⟩:∃ w2,w.alloc (aK #[aA aO rM,aA aO rA,aG ra rl rc] 24)=w2:=⟨_,rfl⟩
 rw[kQ];have Yh:Ext w w2:=by rw[<- kQ];exact(Z2 _ _).alloc (A5 _) _
 have b1:w2.heap[w.heap.size]? = some (aK #[aA aO rM,aA aO rA,aG ra rl rc] 24 (0,0)):=by rw[<- kQ];exact Z4 _ _
 obtain⟨gx,y6⟩:∃ gx,w.heap.size=gx:=⟨_,rfl⟩
 rw[y6]at b1 ⊢;have yO:=A0 Yh;have kV:=A0 (An b1);clear kQ Yh b1 y6
 go_wp2_with fail
 refine(Pm w2 (HT.out.go yO.out)).mono ?_;rintro e w3 ⟨rfl,yx⟩;have k5:Hid (Ext w w3):=Ext.trans yO.out yx;have Yq:Hid (∀ W,Ext w3 W->W.heap[gx]? = some (aK #[aA aO rM,aA aO rA,aG ra rl rc] 24 (0,0))):=λW hx=>kV.out W (Ext.trans yx hx);clear yx;obtain⟨x0,x1,x2⟩:=cells3 (Yq.out w3 (Ext.refl _))
 go_wp2_with fail
 clear x0 x1 x2;refine(made2_any rM rA ra rl rc rQ w3 yX yY yT yU (Yy.out.later k5.out (A5 _))).mono ?_;rintro e w4 hp;obtain⟨S,bS,cS,rfl,hm1,hm2,jJ,y8,ky,jy,Yi⟩:=hp;have ka:=A0 ky;have yP:=A0 Yi;have j6:=A0 jJ;have j7:=A0 jy;have Yu:=A0 y8;clear ky Yi jJ jy y8
 go_wp2_with fail
 obtain⟨w5,Yf,kF,hq⟩:=S5 w4 26;rw[Yf];clear Yf;refine(made11_any (V8 w4.heap.size) _ none none 4 4 0 0 0 0 (λ_=>0) (λ_ _=>0) 0 w5 hq (by decide) (.inl rfl) (by decide) (.inl rfl) (by decide) (by decide) (by decide)).mono ?_;rintro e w6 hp;obtain⟨v6,rfl,⟨aw,am,ap,cw,cm,cp,cs,ps,bk,rfl,yo,yp,Ya⟩,Yj⟩:=WN hp;clear hp;obtain⟨Ws,kN⟩:∃ Ws,mdW (V8 w4.heap.size) (min 4 6)=Ws:=⟨_,rfl⟩
 have YE:Hid (2<=Ws.length/\Ws.length<=6):=by show _/\_;have:=G4 (V8 w4.heap.size) (min 4 6);rw[kN]at this;exact⟨this.1,AA this.2 (by decide)⟩
 have k4:Hid (∀ x∈Ws,x.size<=3):=by show ∀ x∈Ws,_;rw[<- kN];exact λx hx=>(Ph _ _ x hx).2
 rw[kN]at yo yp ⊢;have kg:Hid (Ext w4 w6):=Ext.trans kF Yj;have yJ:=A0 yo;have Yx:=A0 yp;have Yw:=A0 Ya;clear yo yp Ya kF Yj hq kN;unfold Pd
 go_wp2_with fail
 refine(slots14_any lZ la ll lc 4 w6 (JC Yv.out (Ext.trans k5.out (Ext.trans yP.out kg.out)) (A5 _)) kr (by decide)).mono ?_;rintro e w7 ⟨v7,rfl,j0,Yc,Yk⟩;obtain⟨L,gL,cL,rfl, -,Yd,Ye,y9⟩:=PW j0 (AA (Nat.min_le_right _ _) (by decide)) Yc;have hlnn:L.length<=4:=by rw[y9];exact Nat.min_le_right _ _
 have yR:=A0 Yk;have j3:=A0 Yd;have yN:=A0 (Ye.mono (Ze _));clear j0 Yc Yk Yd Ye y9
 go_upto_region 3 with fail
 obtain⟨wz,Yg,kT,b8,b9,Y0⟩:=GX w7 (aK #[aA aM S.modes,aA aO S.acc,aG bS S.rules.length cS] 33) (aK #[aG aw Ws.length cw,aG am cs.length cm,aG ap ps.length cp,aA aM bk] 39);rw[Yg];obtain⟨g8,y4⟩:∃ g8,w7.heap.size=g8:=⟨_,rfl⟩
 rw[y4]at b8 b9 ⊢;obtain⟨g9,y5⟩:∃ g9,g8+1=g9:=⟨_,rfl⟩
 rw[y5]at b9 ⊢;have kh:Hid (Ext w4 wz):=Ext.trans kg.out (Ext.trans yR.out kT);have k6:Hid (Ext w3 wz):=Ext.trans yP.out kh.out;have ki:Hid (Ext w wz):=Ext.trans k5.out k6.out;have jh:Hid (Tu S bS cS aw am ap cw cm cp Ws cs ps bk g8 g9 (aG (some ⟨gL,0,none⟩) L.length cL) L wz):=⟨b8,b9,ka.out.later kh.out (A5 _),yJ.out.go (Ext.trans yR.out kT),yN.out.later kT (A5 _)⟩
 have k2:=A0 (FF.of jh.out.slt (by omega) j3.out.bnd j3.out.dis).1;have kc:Hid (Ws.length<=10):=by show _<=_;have:=YE.out;omega
 have yH:Hid (L.length<=6):=by show _<=_;omega
 clear Yg kT b8 b9 Y0 y4 y5 yJ Yw yN ka;obtain⟨s0,s1,s2⟩:=B6 (jh.out.go (Ext.refl _)).b8;obtain⟨t0,t1,t2,t3⟩:=Av (jh.out.go (Ext.refl _)).b9;by_cases jr:S.modes=1
 ·have kt
       :
        (S.modes
             == 1)=true:=by rw[jr];rfl
  have ku:(S.modes != 1)=false:=by rw[jr];rfl
  have yI:=A0 jr;clear jr
  go_wp2_with fail
  clear s0 s1 s2 t0 t1 t2 t3 kt ku;have jJ:=j6.out;refine(r5sound_any S bS cS wz jh.out.rul (by rw[jJ];decide) (by rw[jJ];decide) (by have:=Yu.out;omega) (λhv=>Hv hv (by rw[jJ];decide) (by rw[jJ];decide))).mono ?_;rintro e wy ⟨rfl,Ym⟩;have jV:Hid (Ext wz wy):=Ym;clear Ym;cases kP:FG S with
  | false =>
   clear kP
   go_wp2_with fail
   go_ret;exact⟨rfl,Ext.trans ki.out jV.out⟩
  | true =>
   have Yz:=A0 kP;have yM:Hid (BO S=0):=Km.1 kP;have k3:Hid (∀ W,Ext wz W->G2 W S bS cS):=λW hx=>(G2.of_valid (E9 yM.out) (by rw[j6.out];decide) (by rw[j6.out];decide) j7.out jh.out.rul).go hx;clear kP jJ;obtain⟨s0,s1,s2⟩:=B6 (jh.out.go jV.out).b8;obtain⟨t0,t1,t2,t3⟩:=Av (jh.out.go jV.out).b9
   go_wp2_with fail
   clear s0 s1 s2 t0 t1 t2 t3;refine(V5 (jh.out.go jV.out) yM.out j6.out j7.out Yx.out kc.out (HT.out.go (Ext.trans ki.out jV.out)) (k2.out.go jV.out) j3.out yH.out).mono ?_;obtain⟨E,hE⟩:∃ E,GA S.rules S.acc L (Ws.map bts)=E:=⟨_,rfl⟩
   have kK:Hid (Ia (L.length:Int) E):=by show Ia _ _;rw[<- hE];exact WO yH.out (λs hs x hx=>j3.out.cst s hs x hx) kc.out k4.out
   have yD:Hid (E.length<=1000000):=by show _<=_;have:=kK.out.2.2.1;omega
   have kX:=A0 hE;rw[hE];rintro e w5 ⟨v5,rfl,yu,kF⟩;obtain⟨a5,c5,yv, -, -⟩:=yu.form;subst yv;have j8:=A0 (Af.edgs yu).1;have yQ:=A0 kF;clear yu kF hE
   go_upto_region 6 with fail
   obtain⟨w9,kR⟩:∃ w9,w5.alloc (aK #[aA aM (L.length:Int),aG a5 E.length c5] 45)=w9:=⟨_,rfl⟩
   rw[kR];have yy:Ext w5 w9:=by rw[<- kR];exact(Z2 _ _).alloc (A5 _) _
   have b1:w9.heap[w5.heap.size]? = some (aK #[aA aM (L.length:Int),aG a5 E.length c5] 45 (0,0)):=by rw[<- kR];exact Z4 _ _
   obtain⟨g11,kp⟩:∃ g11,w5.heap.size=g11:=⟨_,rfl⟩
   rw[kp]at b1 ⊢;have jn:=A0 (An b1);have yC:=A0 (j8.out.go yy);have jp:Hid (Ext wz w9):=Ext.trans jV.out (Ext.trans yQ.out yy);obtain⟨q0,q1⟩:=BA b1;clear kR yy b1 kp yQ j8
   go_wp2_with fail
   clear q0 q1;have ys:=rval14_any (L.length:Int) E a5 c5 w9 yC.out yD.out;rw[GW kK.out]at ys;refine ys.mono ?_;clear ys;rintro e wr ⟨rfl,Yl⟩;have yS:Hid (Ext w9 wr):=Yl;clear Yl;obtain⟨q0,q1⟩:=BA (jn.out wr yS.out)
   go_upto_block 0 with fail
   clear q0 q1;have kI:Hid (∀ r∈S.rules,r.dst.toNat=0):=λr hr=>by
    have h:=((k3.out wz (Ext.refl _)).mo r hr).2;have h2:=yI.out;omega
   have Yp:Hid (CL S.acc 0=true):=by show _=_;rw[j6.out];rfl
   have yE:Hid (Ej S.rules):=(k3.out wz (Ext.refl _)).fair;have HSZ:Hid (wz.heap.size<=w9.heap.size):=jp.out.size
   go_cut [13,14,15] (λv13 v14 v15 wx=>∃ wk:Z0,wk=wx/\∃ (at0:Nat) (ot:ByteArray) (sm:Nat),v13=aA aM (at0:Int)/\v14=aI ot/\v15=aA aM (sm:Int)/\at0<=L.length/\ot.size<=12/\sm<=4000000/\RtS S.rules L at0 0 (bts ot) sm/\Ext w9 wk)
   case first =>
    go_wp2_with fail
    go_loopg [13,14,15,16,17,18,19] 4 (λg v13 v14 v15 v16 v17 v18 v19 wr=>∃ (i at0:Nat) (ot:ByteArray) (sm:Nat),v16=aA aM (i:Int)/\v13=aA aM (at0:Int)/\v14=aI ot/\v15=aA aM (sm:Int)/\i<=4/\g=4 - i/\at0<=L.length/\ot.size<=3*i/\sm<=i*1000000/\RtS S.rules L at0 0 (bts ot) sm/\Ext w9 wr)
    case atStart=>exact⟨0,0,⟨#[]⟩,0,rfl,rfl,rfl,rfl,by decide,rfl,Ze _,Ze _,Ze _,.start,yS.out⟩
    case round =>
     obtain⟨i,at0,ot,sm,rfl,rfl,rfl,rfl,hi,jz,j5,YS,YU,kx,hx⟩:=hrel;obtain⟨wo,kC⟩:∃ wo:Z0,wo=wr:=⟨wr,rfl⟩
     rw[<- kC]at hx ⊢;have jM:=A0 jz;have jQ:=A0 kx;have jG:=A0 hx;clear jz kx hx kC;obtain⟨q0,q1⟩:=BA (jn.out wo jG.out);by_cases hi4:i<4
     ·have kq
           :
            (
             i
              :
               Int)<4:=by omega
      by_cases hal:at0<L.length
      ·have km
            : (
              at0:Int)<(L.length:Int):=by omega
       go_upto_region 13 with fail
       obtain⟨w12,jA⟩:∃ w12,wo.alloc (aK #[] 62)=w12:=⟨_,rfl⟩
       rw[jA];have ke:Hid (Ext w9 w12):=by show Ext _ _;rw[<- jA];exact Ext.trans jG.out ((Z2 _ _).alloc (A5 _) _)
       have jO:Hid (Af BG w12 wo.heap.size (aG (some ⟨wo.heap.size,0,none⟩) 0 0) []):=by show Af _ _ _ _ _;rw[<- jA];exact Af.empty BG (Z4 _ _) (A5 _)
       have jS:Hid (wo.heap.size<=w12.heap.size):=by show _<=_;rw[<- jA,A8];omega
       obtain⟨g12,jW⟩:∃ g12,wo.heap.size=g12:=⟨_,rfl⟩
       have j9:Hid (w9.heap.size<=g12):=by show _<=_;rw[<- jW];exact jG.out.size
       rw[jW]at jO jS ⊢;clear jA jW q0 q1 kq km
       go_wp2_with fail
       go_loopg [17,18] E.length (λg v17 v18 wq=>∃ (k:Nat) (F:List Edg) (a7:Option Zj) (c7:Nat),v18=aA aM (k:Int)/\v17=aG a7 F.length c7/\k<=E.length/\g=E.length - k/\F.length<=k/\(∀ e∈F,e∈E/\e.1=(at0:Int))/\Af BG wq g12 (aG a7 F.length c7) F/\g12<=wq.heap.size/\Ext w9 wq)
       case atStart=>exact⟨0,[],_,_,rfl,rfl,Ze _,rfl,Ze _,λe he=>(by cases he),jO.out,jS.out,ke.out⟩
       case round
             =>
        clear ke jO jS;obtain⟨k,F,a7,c7,rfl,rfl,hk,jz,hFk,hF,kv,kz,hx⟩:=hrel;have jl:=A0 kz;have jD:=A0 jz;have HF:=A0 hF;have js:=A0 kv;have jd:=A0 hx;clear jz hF kv hx kz;obtain⟨q0,q1⟩:=BA (jn.out wr jd.out);have hEl:=yD.out;by_cases yj:k<E.length
        ·have yk
              : (k:Int)<(E.length:Int):=by omega
         obtain⟨bb,o1,ha,jx,x0,x1,x2,x3⟩:=(yC.out.go jd.out) k yj;have jb:=Cv a5 bb o1 E.length c5 k ha yj;have jI:E[k]∈E:=AI yj;obtain⟨⟨e1,e2,e3,e4⟩,jL⟩:∃ x,E[k]=x:=⟨_,rfl⟩
         rw[jL]at x0 x1 x2 x3 jI;simp only at x0 x1 x2 x3;have kL:=A0 x0;have j4:=A0 x1;have jg:=A0 x2;have jo:=A0 x3;have k0:=A0 jI;have jf:=A0 jx;have ji:=A0 jb;have kS:e3<(Ws.length:Int):=by
          have h:=jI;rw[<- kX.out]at h;obtain⟨_,_,kw,_,h2,_,_,h5⟩:=Kb.1 h;have h6:=(IW.mem _ _).1 h5;obtain⟨h7,_⟩:=h6;rw[AQ]at h7;injection h2 with _ h2;injection h2 with _ h2;injection h2 with h2 _;omega
         have kd:=A0 kS
         go_upto_region 16 with fail
         obtain⟨wo2,jC⟩:∃ wo2:Z0,wo2=wr:=⟨wr,rfl⟩
         rw[<- jC]at js jd kL j4 jg jo jf jl ⊢;clear ha jL x0 x1 x2 x3 q0 q1 yk jI jx kS jb jC;by_cases y3:e1=(at0:Int)
         ·subst y3;refine wp_region_sc wo2 (Ext.refl _) 211 [(11,aB (some ⟨g11,0,none⟩)),(18,aA aM (k:Int)),(13,aA aM (at0:Int)),(9,aB (some ⟨g9,0,none⟩))] (Zd 88 20) [11,18,13,9] (by kernel_rfl) rfl ⟨rfl,rfl,rfl,rfl,trivial⟩ rfl ?_
          repeat
              first
           | (
             (apply Cn.op rfl rfl)
             ·intro W hS;obtain⟨q0,q1⟩:=BA (jn.out W (Ext.trans jd.out hS));obtain⟨t0,t1,t2,t3⟩:=Av ((jh.out.go (Ext.trans jp.out (Ext.trans jd.out hS))).b9);have x0:=(Zx hS (p:=⟨bb,o1+k*4,none⟩) jf.out).trans kL.out;have x2:=(Zx hS (p:=⟨bb,o1+k*4+2,none⟩) jf.out).trans jg.out;have jb:=ji.out;have kS:=kd.out;clear hS;simp[go_sem,At,lkE, *] <;> first | (with_reducible apply bF;omega) | (with_reducible apply bT;omega) | rfl)
          refine .nil λW x hS hx=>?_;have e107:x 107=aH true:=hx 107 (by decide);simp only[Zd,Zp,e107,ZE,Z5,Za,Z9];clear hx e107;have jt:Hid (Ext wo2 W):=hS;clear hS;have yK:Hid (g12<=W.heap.size):=by show _<=_;have h1:=jl.out;have h2:=jt.out.size;omega
          obtain⟨q0,q1⟩:=BA (jn.out W (Ext.trans jd.out jt.out));have x0:=(Zx jt.out (p:=⟨bb,o1+k*4,none⟩) jf.out).trans kL.out;have x1:=(Zx jt.out (p:=⟨bb,o1+k*4+1,none⟩) jf.out).trans j4.out;have x2:=(Zx jt.out (p:=⟨bb,o1+k*4+2,none⟩) jf.out).trans jg.out;have x3:=(Zx jt.out (p:=⟨bb,o1+k*4+3,none⟩) jf.out).trans jo.out;have jb:=ji.out
          go_wp2_with (at_builtin;go_loud (refine Ah (v:=aG a7 F.length c7) D8 rfl _ _ rfl rfl ((js.out.later jt.out (A5 _)).later ((Z2 _ _).alloc (A5 _) _) (A5 _)) ⟨W.heap.size,0,none⟩ 1 [((at0:Int),e2,e3,e4)] rfl (Ai (Z4 _ _)) (by simp only[AE];omega) (by have:=j9.out;have:=yK.out;simp only[A8];omega) ?_);intro v59 w59 jc ja jw;have jv:=A0 jc;have ju:=A0 ja;clear jc ja jw;obtain⟨a59,c59,j2, -, -⟩:=jv.out.form;subst j2)
          go_roundg (E.length - (k+1))
          case measure=>have:=jD.out;omega
          case rel =>
           have kG:Ext w9 (W.alloc (aK #[aA aM (at0:Int),aA aM e2,aA aM e3,aA aM e4] 62)):=Ext.trans jd.out (Ext.trans jt.out ((Z2 _ _).alloc (A5 _) _));refine⟨k+1,F ++ [((at0:Int),e2,e3,e4)],a59,c59,by go_num,by rw[AD,AE],by omega,rfl,by rw[AD,AE];omega,λe he=>?_,jv.out,AA yK.out (AA (by rw[A8];omega) ju.out.size),Xz kG ju.out kG.size λq hq=>AA j9.out (js.out.ge q hq)⟩;rcases AY.1 he with he | he
           · exact HF.out e he
           · rw[AF.1 he];exact⟨k0.out,rfl⟩
         ·have
             hne:((e1:Int) == (at0:Int))=false:=by rw[beq_eq_false_iff_ne];exact y3
          refine wp_region_sc wo2 (Ext.refl _) 211 [(11,aB (some ⟨g11,0,none⟩)),(18,aA aM (k:Int)),(13,aA aM (at0:Int)),(9,aB (some ⟨g9,0,none⟩))] (Zd 88 20) [11,18,13,9] (by kernel_rfl) rfl ⟨rfl,rfl,rfl,rfl,trivial⟩ rfl ?_
          repeat
              first
           | refine .skip rfl rfl ?_
           | (
             (apply Cn.op rfl rfl)
             ·intro W hS;obtain⟨q0,q1⟩:=BA (jn.out W (Ext.trans jd.out hS));obtain⟨t0,t1,t2,t3⟩:=Av ((jh.out.go (Ext.trans jp.out (Ext.trans jd.out hS))).b9);have x0:=(Zx hS (p:=⟨bb,o1+k*4,none⟩) jf.out).trans kL.out;have x2:=(Zx hS (p:=⟨bb,o1+k*4+2,none⟩) jf.out).trans jg.out;have jb:=ji.out;have kS:=kd.out;clear hS;simp[go_sem,At,lkE, *] <;> rfl)
          refine .nil λW x hS hx=>?_;have e107:x 107=aH false:=hx 107 (by decide);simp only[Zd,Zp,e107,ZE,Z5,Za,Z9];clear hx e107;have jt:Hid (Ext wo2 W):=hS;clear hS
          go_wp2_with fail
          go_roundg (E.length - (k+1))
          case measure=>have:=jD.out;omega
          case rel=>exact⟨k+1,F,a7,c7,by go_num,rfl,by omega,rfl,by omega,HF.out,js.out.later jt.out (A5 _),AA jl.out jt.out.size,Ext.trans jd.out jt.out⟩
        ·obtain rfl
               : k=E.length:=by omega
         have yk:¬ (E.length:Int)<(E.length:Int):=by omega
         by_cases YJ:F.length=0
         ·have kj:((F.length:Int) == 0)=true:=by rw[YJ];rfl
          go_wp2_with fail
          go_meet
          exact⟨_,rfl,at0,ot,sm,rfl,rfl,rfl,j5,by omega,by omega,jQ.out,jd.out⟩
         ·have kj:((F.length:Int) == 0)=false:=by rw[beq_eq_false_iff_ne];omega
          go_upto_region 20 with fail
          obtain⟨wo2,jC⟩:∃ wo2:Z0,wo2=wr:=⟨wr,rfl⟩
          rw[<- jC]at js jd jl ⊢;clear q0 q1 yk kj jC;have kY:Hid (0<F.length):=by show _<_;omega
          by_cases y7:i<yl
          ·have
              hiyI:(i:Int)<(yl:Int):=by omega
           obtain⟨by1,oy1,Yn,hyb1,Yo,z0,z1⟩:=((YF.out.later ki.out (A5 _)).later (Ext.trans jp.out jd.out) (A5 _)).at y7;have yh:=EV ya by1 oy1 yl yc i Yn y7;obtain⟨zz,hz⟩:∃ z,yZ i=z:=⟨_,rfl⟩
           rw[hz]at Yo z0 z1;obtain⟨kk,yq,jY⟩:=Tx zz F.length z0 kY.out;have YR:((F.length:Int) == 0)=false:=by rw[beq_eq_false_iff_ne];have:=kY.out;omega
           clear Yn hz
           go_upto_region 22 with fail
           clear yq YR yh Yo hiyI;have ko:=(Af.edgs js.out).1;obtain⟨bb,o1,ha,jx,x0,x1,x2,x3⟩:=ko kk jY;have jb:∀ w:Z0,(ZK 43 (aG a7 F.length c7) (aA aM (kk:Int))).run Z1 w=.ok (aB (some ⟨bb,o1+kk*4,none⟩)) w:=Cv a7 bb o1 F.length c7 kk ha jY;have jq:=HF.out F[kk] (AI jY);obtain⟨⟨e1,e2,e3,e4⟩,jL⟩:∃ x,F[kk]=x:=⟨_,rfl⟩
           rw[jL]at x0 x1 x2 x3 jq;simp only at x0 x1 x2 x3 jq;have jk:=jq.1;rw[<- kX.out]at jk;obtain⟨j,kw,ct,rfl,rfl,rfl,YP,yi,jH,je⟩:=Od kI.out jk jQ.out jq.2;have YN:ct<=1000000:=by
            obtain⟨q,hq,yr⟩:=ZH.1 jq.1;have h:=(kK.out.2.2.2 q hq hq).1;rw[yr]at h;obtain⟨-, -, -, -, -, -,h⟩:=h;simp only at h;omega
           rw[AQ]at jH;obtain⟨b2,o2,kl,kn,y0⟩:=(jh.out.mod.ws.later (Ext.trans jp.out jd.out) (A5 _)).at jH;have jj:=DC aw b2 o2 Ws.length cw kw kl jH;rw[List.getElem_map]at je;have yw:=k4.out Ws[kw] (AI jH);obtain⟨wd,kB⟩:∃ wd,Ws[kw]=wd:=⟨_,rfl⟩
           rw[kB]at y0 je yw;have jR:=A0 je;have j4:=A0 x1;have jg:=A0 x2;have jo:=A0 x3;have jf:=A0 jx;have ji:=A0 jb;have k8:=A0 y0;have kU:=A0 kn;have jN:=A0 jj;clear ha jL jq jk ko x0 x1 x2 x3 jx jb kl y0 kB kn jj je;refine wp_region_sd (Ext wo2) 211 [(17,aG a7 F.length c7),(19,aA aM (kk:Int)),(14,aI ot),(9,aB (some ⟨g9,0,none⟩)),(15,aA aM (sm:Int))] [] (Zd 131 23 ++ [13,14,15]) [17,19,14,9,15] (by kernel_rfl) rfl ⟨rfl,rfl,rfl,rfl,rfl,trivial⟩ rfl (λ_ h=>Ext.trans (Ext.refl _) h) λW hS=>?_;replace hS:=Ext.trans (Ext.refl _) hS
           repeat
               first
            | (
              apply CD.op rfl rfl
              ·intro W hS;obtain⟨t0,t1,t2,t3⟩:=Av ((jh.out.go (Ext.trans jp.out (Ext.trans jd.out hS))).b9);have x1:=(Zx hS (p:=⟨bb,o1+kk*4+1,none⟩) jf.out).trans j4.out;have x2:=(Zx hS (p:=⟨bb,o1+kk*4+2,none⟩) jf.out).trans jg.out;have x3:=(Zx hS (p:=⟨bb,o1+kk*4+3,none⟩) jf.out).trans jo.out;have y0:=(Zx hS (p:=⟨b2,o2+kw,none⟩) kU.out).trans k8.out;have jb:=ji.out;have jj:=jN.out;have ye:(Op.stringOp .add ot wd).run Z1 W=.ok (aI (ot ++ wd)) W:=run_string_add_sum W ot wd (by omega);have YX:IntKind.i64.wrap ((sm:Int)+(ct:Int))=(sm:Int)+(ct:Int):=Zq _ (by omega);clear hS;simp[go_sem,At,lkE, *] <;> rfl)
           refine .nil ?_;intro x hx;have e13:x 13=aA aM (j:Int):=hx 13 (by decide);have e14:x 14=aI (ot ++ wd):=hx 14 (by decide);have e15:x 15=aA aM ((sm:Int)+(ct:Int)):=hx 15 (by decide);simp only[Zd,ZG,ZP,Zp,e13,e14,e15,ZE,Z5,Za,Z9];clear hx e13 e14 e15;have jU:Hid (Ext wo2 W):=hS;clear hS
           go_wp2_with fail
           go_roundg (4 - (i+1))
           case measure=>have:=jM.out;omega
           case rel=>exact⟨i+1,j,ot ++ wd,sm+ct,by go_num,rfl,rfl,by go_num,by omega,rfl,yi,by rw[zv];omega,by omega,by rw[Qi];exact jR.out,Ext.trans jd.out jU.out⟩
          ·have
              hiyI:¬ (i:Int)<(yl:Int):=by omega
           go_upto_region 22 with fail
           have jY:=kY.out;clear hiyI;have ko:=(Af.edgs js.out).1;obtain⟨bb,o1,ha,jx,x0,x1,x2,x3⟩:=ko 0 jY;have jb:∀ w:Z0,(ZK 43 (aG a7 F.length c7) (aA aM 0)).run Z1 w=.ok (aB (some ⟨bb,o1+0*4,none⟩)) w:=Cv a7 bb o1 F.length c7 0 ha jY;rw[Nat.zero_mul,zl]at jb x0 x1 x2 x3;have jq:=HF.out F[0] (AI jY);obtain⟨⟨e1,e2,e3,e4⟩,jL⟩:∃ x,F[0]=x:=⟨_,rfl⟩
           rw[jL]at x0 x1 x2 x3 jq;simp only at x0 x1 x2 x3 jq;have jk:=jq.1;rw[<- kX.out]at jk;obtain⟨j,kw,ct,rfl,rfl,rfl,YP,yi,jH,je⟩:=Od kI.out jk jQ.out jq.2;have YN:ct<=1000000:=by
            obtain⟨q,hq,yr⟩:=ZH.1 jq.1;have h:=(kK.out.2.2.2 q hq hq).1;rw[yr]at h;obtain⟨-, -, -, -, -, -,h⟩:=h;simp only at h;omega
           rw[AQ]at jH;obtain⟨b2,o2,kl,kn,y0⟩:=(jh.out.mod.ws.later (Ext.trans jp.out jd.out) (A5 _)).at jH;have jj:=DC aw b2 o2 Ws.length cw kw kl jH;rw[List.getElem_map]at je;have yw:=k4.out Ws[kw] (AI jH);obtain⟨wd,kB⟩:∃ wd,Ws[kw]=wd:=⟨_,rfl⟩
           rw[kB]at y0 je yw;have jR:=A0 je;have j4:=A0 x1;have jg:=A0 x2;have jo:=A0 x3;have jf:=A0 jx;have ji:=A0 jb;have k8:=A0 y0;have kU:=A0 kn;have jN:=A0 jj;clear ha jL jq jk ko x0 x1 x2 x3 jx jb kl y0 kB kn jj je;refine wp_region_sd (Ext wo2) 211 [(17,aG a7 F.length c7),(19,aA aM 0),(14,aI ot),(9,aB (some ⟨g9,0,none⟩)),(15,aA aM (sm:Int))] [] (Zd 131 23 ++ [13,14,15]) [17,19,14,9,15] (by kernel_rfl) rfl ⟨rfl,rfl,rfl,rfl,rfl,trivial⟩ rfl (λ_ h=>Ext.trans (Ext.refl _) h) λW hS=>?_;replace hS:=Ext.trans (Ext.refl _) hS
           repeat
               first
            | (
              apply CD.op rfl rfl
              ·intro W hS;obtain⟨t0,t1,t2,t3⟩:=Av ((jh.out.go (Ext.trans jp.out (Ext.trans jd.out hS))).b9);have x1:=(Zx hS (p:=⟨bb,o1+1,none⟩) jf.out).trans j4.out;have x2:=(Zx hS (p:=⟨bb,o1+2,none⟩) jf.out).trans jg.out;have x3:=(Zx hS (p:=⟨bb,o1+3,none⟩) jf.out).trans jo.out;have y0:=(Zx hS (p:=⟨b2,o2+kw,none⟩) kU.out).trans k8.out;have jb:=ji.out;have jj:=jN.out;have ye:(Op.stringOp .add ot wd).run Z1 W=.ok (aI (ot ++ wd)) W:=run_string_add_sum W ot wd (by omega);have YX:IntKind.i64.wrap ((sm:Int)+(ct:Int))=(sm:Int)+(ct:Int):=Zq _ (by omega);clear hS;simp[go_sem,At,lkE, *] <;> rfl)
           refine .nil ?_;intro x hx;have e13:x 13=aA aM (j:Int):=hx 13 (by decide);have e14:x 14=aI (ot ++ wd):=hx 14 (by decide);have e15:x 15=aA aM ((sm:Int)+(ct:Int)):=hx 15 (by decide);simp only[Zd,ZG,ZP,Zp,e13,e14,e15,ZE,Z5,Za,Z9];clear hx e13 e14 e15;have jU:Hid (Ext wo2 W):=hS;clear hS
           go_wp2_with fail
           go_roundg (4 - (i+1))
           case measure=>have:=jM.out;omega
           case rel=>exact⟨i+1,j,ot ++ wd,sm+ct,by go_num,rfl,rfl,by go_num,by omega,rfl,yi,by rw[zv];omega,by omega,by rw[Qi];exact jR.out,Ext.trans jd.out jU.out⟩
      ·have km:¬ (at0:Int)<(L.length:Int):=by omega
       go_wp2_with fail
       go_meet
       exact⟨_,rfl,at0,ot,sm,rfl,rfl,rfl,j5,by omega,by omega,jQ.out,jG.out⟩
     ·have kq:¬ (i:Int)<4:=by omega
      go_wp2_with fail
      go_meet
      exact⟨_,rfl,at0,ot,sm,rfl,rfl,rfl,j5,by omega,by omega,jQ.out,jG.out⟩
   case rest
        =>
    obtain⟨wk,YW,at0,ot,sm,YG,YH,YI,j5,YS,YU,kx,hx⟩:=hcut;subst YW YG YH YI;have jQ:=A0 kx;have jd:=A0 hx;have jy:=k2.out.cap;have yd:at0<=4:=by omega
    obtain⟨M,hM⟩:∃ M,L.take at0=M:=⟨_,rfl⟩
    have Jx:Hid (M.length=at0):=by show _=_;rw[<- hM,AO];omega
    have kH:Hid (FZ M):=by show FZ _;rw[<- hM];exact j3.out.sub λs hs=>Xo hs
    have YC:Hid (∀ W,Ext wz W->CI W (some ⟨gL,0,none⟩) M):=λW hx=>by rw[<- hM];exact((k2.out.go hx).s).take at0
    have YD:Hid (∀ b:Int,ML S.rules S.acc M (bts ot) 81 b->0<=b/\b<=(sm:Int)):=λb hb=>by rw[<- hM]at hb;exact Tz yE.out kI.out Yp.out j3.out j5 yd jQ.out hb
    have j0:=Oe ⟨gL,0,none⟩ L.length cL at0 j5 jy;have YA:=A0 j0;clear kx hx hM j0 jy
    go_wp2_with fail
    go_loopg [20,21,22,23,24,25,26,27] 81 (λg v20 v21 v22 v23 v24 v25 v26 v27 wr=>∃ (cd:Nat) (best:Int),v20=aA aM best/\v21=aA aM (cd:Int)/\cd<=81/\g=81 - cd/\-1<=best/\best<=200000000/\ML S.rules S.acc M (bts ot) cd best/\Ext w9 wr)
    case atStart=>exact⟨0, -1,rfl,rfl,Ze _,rfl,by decide,by decide,λc hc=>absurd hc (Xj _),jd.out⟩
    case round =>
     obtain⟨cd,best,rfl,rfl,YM,jz,y2,jx,jK,hx⟩:=hrel;obtain⟨wo,kC⟩:∃ wo:Z0,wo=wr:=⟨wr,rfl⟩
     rw[<- kC]at hx ⊢;have jM:=A0 jz;have yF:=A0 jK;have k7:=A0 hx;clear jz jK hx kC;by_cases hlt:cd<81
     ·have yn
           : (cd:Int)<81:=by omega
      go_upto_region 28 with fail
      obtain⟨w13,jB⟩:∃ w13,wo.alloc (aK #[] 5)=w13:=⟨_,rfl⟩
      rw[jB];have kf:Hid (Ext w9 w13):=by show Ext _ _;rw[<- jB];exact Ext.trans k7.out ((Z2 _ _).alloc (A5 _) _)
      have jP:Hid (Af S8 w13 wo.heap.size (aG (some ⟨wo.heap.size,0,none⟩) 0 0) []):=by show Af _ _ _ _ _;rw[<- jB];exact Af.empty S8 (Z4 _ _) (A5 _)
      have jT:Hid (wo.heap.size<=w13.heap.size):=by show _<=_;rw[<- jB,A8];omega
      obtain⟨g13,jX⟩:∃ g13,wo.heap.size=g13:=⟨_,rfl⟩
      have kZ:Hid (w9.heap.size<=g13):=by show _<=_;rw[<- jX];exact k7.out.size
      rw[jX]at jP jT ⊢;clear jB jX yn
      go_wp2_with fail
      go_loopg [22,23,24] at0 (λg v22 v23 v24 wq=>∃ (i:Nat) (a2:Option Zj) (c2:Nat),v24=aA aM (i:Int)/\v23=aA aM ((cd / 3 ^ i:Nat):Int)/\v22=aG a2 (E8 i cd).length c2/\i<=at0/\g=at0 - i/\Af S8 wq g13 (aG a2 (E8 i cd).length c2) (E8 i cd)/\g13<=wq.heap.size/\Ext w9 wq)
      case atStart=>exact⟨0,_,_,rfl,by rw[Nat.pow_zero,Nat.div_one],rfl,Ze _,rfl,jP.out,jT.out,kf.out⟩
      case round =>
       clear kf jP jT;obtain⟨i,a2,c2,rfl,rfl,rfl,hi,jz,kv,kz,hx⟩:=hrel;have jD:=A0 jz;have js:=A0 kv;have jG:=A0 hx;have kb:=A0 kz;have kM:E8 (i+1) cd=E8 i cd ++ [cd / 3 ^ i % 3]:=MD i cd;have yb:cd / 3 ^ (i+1)=cd / 3 ^ i / 3:=by rw[Nat.pow_succ,Nat.div_div_eq_div_mul]
       have k9:i=at0->E8 i cd=E8 at0 cd:=λe=>by rw[e]
       obtain⟨D,hD⟩:∃ D,E8 i cd=D:=⟨_,rfl⟩
       have yV:D.length=i:=by rw[<- hD];exact OR i cd
       obtain⟨r,hr⟩:∃ r,cd / 3 ^ i=r:=⟨_,rfl⟩
       have hrl:r<=81:=by rw[<- hr];exact AA (Nat.div_le_self _ _) YM
       rw[hr]at kM yb ⊢;rw[hD]at js kM k9 ⊢;have kW:=A0 kM;have yL:=A0 yb;have Ys:=A0 k9;have yB:=A0 yV;clear jz kv hx kz kM yb k9 hD hr yV;by_cases hia:i<at0
       ·have yf:(i:Int)<(at0:Int):=by omega
        have YQ:(r:Int).tmod 3=((r % 3:Nat):Int):=Int.ofNat_tmod r 3;have YO:(r:Int).tdiv 3=((r / 3:Nat):Int):=Int.ofNat_tdiv r 3;have YT:r % 3<3:=Nat.mod_lt _ (by decide);obtain⟨q,hq⟩:∃ q,r % 3=q:=⟨_,rfl⟩
        obtain⟨p,hp⟩:∃ p,r / 3=p:=⟨_,rfl⟩
        have hp81:p<=81:=by omega
        rw[hq]at YQ YT kW;rw[hp]at YO yL;have hwu:IntKind.u8.wrap (q:Int)=(q:Int):=zi _ (by omega);clear hq hp;have hDs:D.length<=4:=by have:=yB.out;omega
        go_wp2_with (at_builtin;go_loud (refine Ah (v:=aG a2 D.length c2) Qj rfl _ _ rfl rfl (js.out.later ((Z2 _ _).alloc (A5 _) _) (A5 _)) ⟨wr.heap.size,0,none⟩ 1 [q] rfl (Ai (Z4 _ _)) (by simp only[AE];omega) (by have:=kb.out;simp only[A8];omega) ?_);intro v59 w59 jc ja jw;have jv:=A0 jc;have ju:=A0 ja;clear jc ja jw;obtain⟨a59,c59,j2, -, -⟩:=jv.out.form;subst j2)
        go_roundg (at0 - (i+1))
        case measure=>have:=jD.out;omega
        case rel =>
         have kG:Ext w9 (wr.alloc (aK #[aA aO (q:Int)] 5)):=Ext.trans jG.out ((Z2 _ _).alloc (A5 _) _);refine⟨i+1,a59,c59,by go_num,by rw[yL.out],by rw[kW.out,AD,AE],by omega,rfl,by rw[kW.out];exact jv.out,AA kb.out (AA (by rw[A8];omega) ju.out.size),Xz kG ju.out kG.size λq hq=>AA kZ.out (js.out.ge q hq)⟩
       ·obtain rfl:i=at0:=by omega
        have yf:¬ (i:Int)<(i:Int):=by omega
        have yA:=A0 (Ys.out rfl);have j0:=YA.out;have yg:=input14_any M D (some ⟨gL,0,none⟩) a2 cL c2 wr (YC.out wr (Ext.trans jp.out jG.out)) (by have:=Jx.out;omega) kH.out (js.out.bySm λd hd=>by rw[yA.out]at hd;have:=QQ _ _ d hd;omega) (by have:=yB.out;omega);rw[Jx.out]at yg;have Yt:=A0 yg;clear yg
        go_wp2_with fail
        clear j0;refine Yt.out.mono ?_;rintro e w15 ⟨si,rfl,kA,kD⟩;have jE:Hid (Ext w9 w15):=Ext.trans jG.out kD;have kO:=Kj D kH.out.ne;have y1:=J8 M D;have k1:Hid (DJ M D=DJ M (E8 M.length cd)):=by show _=_;rw[Jx.out,<- yA.out]
        obtain⟨P,hP⟩:∃ P,DJ M D=P:=⟨_,rfl⟩
        rw[hP]at kA kO y1 k1 ⊢;have YV:DK P<=40:=by
         have h1:=NL (C:=8) (P:=P) λx hx=>by
          obtain⟨s,hs,YY⟩:=kO.mem x hx;exact(kH.out.cst s hs x YY).2
         have h2:P.length*8<=4*8:=ZM _ (by have:=Jx.out;omega);omega
        have yt:si.size<=40:=by
         have h:=congrArg List.length kA;rw[B5,Fa]at h;have:=Jx.out;omega
        have jm:=cost05_any S bS cS si ot w15 (k3.out w15 (Ext.trans jp.out jE.out)) Yz.out yt (Pq kH.out kO kA) (by omega);have ks:=V9 (acc:=S.acc) (X:=bts ot) (Z:=bts si) yE.out kI.out (by rw[B5];omega) (by rw[B5];exact yt);have yG:Hid (Pp S.rules S.acc M (bts ot) cd=FY S.rules S.acc 1 (bts si) (bts ot)):=by show _=_;unfold Pp;rw[<- k1.out,kA]
        have Yb:S.modes.toNat=1:=by rw[yI.out];rfl
        rw[Yb]at jm;obtain⟨K,hK⟩:∃ K,FY S.rules S.acc 1 (bts si) (bts ot)=K:=⟨_,rfl⟩
        rw[hK]at jm ks yG;obtain⟨sp,j1⟩:∃ sp,DK P=sp:=⟨_,rfl⟩
        have YB:Hid (DK (DJ M (E8 M.length cd))=sp):=by show _=_;rw[<- k1.out];exact j1
        rw[j1]at YV ⊢;have Yr:=A0 jm;have kJ:Hid (∀ b':Int,(if 0<=K/\(best<0\/K+(sp:Int)<best) then K+(sp:Int) else best)=b'->ML S.rules S.acc M (bts ot) (cd+1) b'):=λb' h=>S7 yF.out yG.out YB.out h;clear kA kD kO y1 hP jm Yb hK j1 yt;obtain⟨s0,s1,s2⟩:=B6 (jh.out.go (Ext.trans jp.out jE.out)).b8;obtain⟨t0,t1,t2,t3⟩:=Av (jh.out.go (Ext.trans jp.out jE.out)).b9
        go_wp2_with fail
        clear s0 s1 s2 t0 t1 t2 t3;refine Yr.out.mono ?_;rintro e w16 ⟨rfl,kE⟩;have jF:Hid (Ext w9 w16):=Ext.trans jE.out kE;clear kE;obtain⟨hl0,hl1⟩:=ks;have hwk2:IntKind.i64.wrap (K+(sp:Int))=K+(sp:Int):=Zq _ (by omega);by_cases yW:0<=K
        ·by_cases YL:best<0
         ·go_wp2_with fail
          go_roundg (81 - (cd+1))
          case measure=>have:=jM.out;omega
          case rel=>exact⟨cd+1,K+(sp:Int),rfl,by go_num,by omega,rfl,by omega,by omega,kJ.out _ (if_pos ⟨yW,.inl YL⟩),jF.out⟩
         ·by_cases YK:K+(sp:Int)<best
          ·go_wp2_with fail
           go_roundg (81 - (cd+1))
           case measure=>have:=jM.out;omega
           case rel=>exact⟨cd+1,K+(sp:Int),rfl,by go_num,by omega,rfl,by omega,by omega,kJ.out _ (if_pos ⟨yW,.inr YK⟩),jF.out⟩
          ·go_wp2_with fail
           go_roundg (81 - (cd+1))
           case measure=>have:=jM.out;omega
           case rel=>exact⟨cd+1,best,rfl,by go_num,by omega,rfl,y2,jx,kJ.out _ (if_neg λh=>by omega),jF.out⟩
        ·go_wp2_with fail
         go_roundg (81 - (cd+1))
         case measure=>have:=jM.out;omega
         case rel=>exact⟨cd+1,best,rfl,by go_num,by omega,rfl,y2,jx,kJ.out _ (if_neg λh=>by omega),jF.out⟩
     ·obtain rfl:cd=81:=by omega
      obtain⟨hz0,hz1⟩:=YD.out best yF.out
      go_wp2_with fail
      go_ret;exact⟨rfl,Ext.trans ki.out (Ext.trans jp.out k7.out)⟩
 ·have kt:(S.modes == 1)=false:=by rw[beq_eq_false_iff_ne];exact jr
  have ku:(S.modes != 1)=true:=by rw[bne_iff_ne];exact jr
  go_wp2_with fail
  go_ret;exact⟨rfl,ki.out⟩
end Go.Proofs.YtpljngaejaehcaaGreatDoor
