/- Texts that the claims share. -/
import Derived.Deep.QuietTactic
import Derived.BigQuiet
import Derived.Test.YtpljngaejaehcaaGreatDoorMF2
import Derived.Test.YtpljngaejaehcaaGreatDoorMD2
import Derived.Test.YtpljngaejaehcaaGreatDoorMD1
import Derived.Test.YtpljngaejaehcaaGreatDoorMK2
import Derived.Test.YtpljngaejaehcaaGreatDoorMD4
import Derived.Test.YtpljngaejaehcaaGreatDoorMF5
import Derived.RangeFuncNested
import Derived.RangeFuncBound
import Derived.RangeFuncCalls
import Derived.RangeFuncLeaves
import Derived.RangeFuncBox
import Derived.Shelf.Abstract
import Derived.Shelf.RegionOpen
import Derived.WalkKit
import Derived.OwnWalkIn
import Derived.TacticsInMore
import Derived.LoopNIn
import Derived.LoopIn
import Derived.OrdersIn
import Derived.TacticsIn
import Derived.Test.YtpljngaejaehcaaGreatDoorMF1
open Go.Value renaming int->aA,pointer->aB,slice->aG,bool->aH,string->aI,agg->aJ
open Go.Obj renaming cells->aK
open Go.IntKind renaming i64->aM,u8->aO
open Go.Ending renaming returned->aP
open Go.Act renaming eval->Zf,put->ZE
open Go renaming Addr->Zj,Calls->Zu,Oper->ZX,Value->Z6,World->Z0,cell_of_row->Z3,heap_alloc_new->Z4,undef->Z8
open Go.RowKit.Below renaming cell->Zx,heap_setCell->Zc,mono->ZT,refl->Z2,size->XE,trans->Y9,block->Z7,heap_alloc->ZF
open Bool renaming and_eq_true->Zg,or_eq_true->Y2,true_and->zC,and_false->zM
open Go.ByteArray renaming toList_eq->ZQ
open Eq renaming trans->zX
open Go.Instr renaming indexAt->ZK,slice->Xm,sliceBound->XA,sliceBounds->Xw
open Go.IntWalk renaming i64_in->Zq
open List renaming all_eq_true->Zr,append_assoc->Zw,eq_nil_of_length_eq_zero->Zo,flatMap_cons->ZA,foldl->Zp,getElem?_eq_some_iff->Zh,getElem?_set_ne->Xy,getElem?_set_self->xg,getElem_set_self->XU,isPrefixOf_iff_prefix->zq,length_cons->Zs,length_drop->ZZ,length_nil->X7,length_set->ZD,map_cons->Y4,mem_cons_of_mem->Zm,mem_filterMap->X9,mem_flatMap->zJ,mem_iff_getElem->ZH,pairwise_append->Xx,range->Zt,range'->Zd,range_succ->z6,replicate->ZB,setIfInBounds_toArray->Z5,set_cons_succ->Za,set_cons_zero->Z9,take_length->zg,append_nil->Xe,append_toArray->XP,cons_append->ZG,eq_nil_iff_forall_not_mem->XL,flatMap_append->XB,getElem_cons_zero->zk,getElem_take->Xi,map_append->XI,mem_of_find?_eq_some->XN,mem_of_mem_drop->Xf,mem_of_mem_take->Xo,nil_append->ZP,push_toArray->zo,size_toArray->zm
open Nat renaming add_zero->zl,div_eq_of_lt->xm,le_add_right->z8,le_antisymm->xq,le_succ->za,mod_eq_of_lt->xd,mul_add_div->xr,mul_comm->zW,mul_le_mul->Y1,mul_le_mul_right->ZM,not_lt_zero->Xj,succ_mul->zp,zero_le->Ze,zero_add->ZS
open Go.Op renaming bytesLess->Zz
open Option renaming getD_some->Xh,map_eq_some_iff->zj,map_some->xh
open Go.Region renaming binds->Zl,ready->Xl,wanted->Zv
open Go.Proofs.Tryz renaming prog->Z1
open UInt8 renaming ofNat->Zy,toNat_ofNat'->zw
open Go.World renaming frozen?->Zn,size_setCell->Zb,alloc_heap_new->zh,putObj_heap_other->Xu
open Array renaming all_eq_true'->X8,getElem?_replicate->XW,getElem?_toList->ZL,mem_of_getElem?->zO,replicate->Xd,replicate_succ->zc,replicate_zero->zd
open Go.Code renaming region->zT
open Go.Fence renaming wide->xf
set_option maxHeartbeats 6400000
set_option maxRecDepth 100000
set_option linter.unusedVariables false
set_option linter.unusedSimpArgs false
set_option linter.defProp false
namespace Go.Proofs.YtpljngaejaehcaaGreatDoor
open Go.RowKit Go.WideShapes Fl
def svS (x:SV):Z6:=aG x.a x.n x.c
def DH:CB SV:=⟨103,72,1,24,aG none 0 0,λx=>[aG x.a x.n x.c]⟩
def Fz:DH.Ok:=⟨Tryz.underlying103,by kernel_rfl,rfl,by decide,λ_=>rfl,λx u hu=>by obtain rfl:u=aG x.a x.n x.c:=(AF.1 hu);rfl,by decide⟩
def Af.kc {α:Type}{T:CB α}{w w':Z0}{B:Nat}{v:Z6}{L:List α}(h:Af T w B v L)(hk:Kc w w'):Af T w' B v L:=h.keep λg hg=>by
 obtain⟨cs,hc⟩:=B3 h hg;rw[hk.block _ _ _ _ hc,hc]
def Dv {α:Type}(T:CB α)(z0:α)(hz:T.enc z0=[T.z]):∀ n,(ZB n z0).flatMap T.enc=ZB n T.z
 | 0=>rfl
 | n+1=>by rw[List.replicate_succ,ZA,Dv T z0 hz n,hz,List.replicate_succ];rfl
def LH {α:Type}{T:CB α}(hT:T.Ok)(jc:T.k=1)(z0:α)(hz:T.enc z0=[T.z])(jh:T.z.cells=#[T.z]){w:Z0}{ops:Array ZX}{rest:List ZX}{o:ZX}{a:Act}{Q:Exit->Act->Z0->Prop}
  (jb:o.guard=none) (l c:Operand) (jd:o.op=Op.makeSlice T.sl l c) (B n:Nat) (hl:a.eval l=aA aM (n:Int)) (hc:a.eval c=aA aM (n:Int)) (hn:n<=1000000) (hB:B<=w.heap.size)
  (hK:∀ w',Af T w' B (aG (some ⟨w.heap.size,0,none⟩) n n) (ZB n z0)->Below w.heap.size w w'->wpList Z1 ops Q rest (a.put o.dst (aG (some ⟨w.heap.size,0,none⟩) n n)) w'):wpList Z1 ops Q (o :: rest) a w:=by
 obtain⟨i0,hi,je,jf,jg⟩:=info_parts hT.info;have hb:i0.bytes*n<=64*1000000:=Y1 (by rw[jg];exact hT.b) hn;refine wpList_make_full w jb l c T.sl jd B T.e i0 T.z T.k hT.und hi je jf aM aM (n:Int) (n:Int) n hl hc rfl rfl (by omega) (by unfold maxLen;omega) hB ?_;intro w' ja hg;refine hK w' ?_ ⟨hg.os,hg.tape,hg.output,hg.size,λk hk=>hg.block k hk (by simp)⟩;unfold Af;rw[AW];have e:(madeCells T.z.cells (n*T.k)).toList=(ZB n z0).flatMap T.enc:=by
  rw[jc,Nat.mul_one,jh];have h1:=Dv T z0 hz n;rw[h1];apply List.ext_getElem
  · simp[madeCells]
  ·intro j h2 h3;simp[madeCells,Nat.mod_one]
 rw[<- e];exact ja
def PO (R:List Rl)(acc:Int)(L:List Slt)(W:List (List UInt8))(B:Nat)(w:Z0)(Ls:List SV)(i:Nat):Prop :=
 ∀ (k:Nat) (h:k<Ls.length),k<i->∃ l,Af CZ w B (svS Ls[k]) l/\Sx R acc L W k l
def PO.kc {R:List Rl}{acc:Int}{L:List Slt}{W:List (List UInt8)}{B:Nat}{w w':Z0}{Ls:List SV}{i:Nat}(h:PO R acc L W B w Ls i)(hk:Kc w w'):PO R acc L W B w' Ls i:=λk hl hi=>by
 obtain⟨l,h1,h2⟩:=h k hl hi;exact⟨l,h1.kc hk,h2⟩
def VJ (R:List Rl)(acc:Int)(L:List Slt)(W:List (List UInt8))(B:Nat)(e:Ending)(w':Z0):Prop :=
 ∃ g Ls,e=aP (aG (some ⟨g,0,none⟩) (L.length+1) (L.length+1))/\Af DH w' B (aG (some ⟨g,0,none⟩) (L.length+1) (L.length+1)) Ls/\Ls.length=L.length+1/\PO R acc L W B w' Ls (L.length+1)
def PQ {R:List Rl}{acc:Int}{L:List Slt}{W:List (List UInt8)}{B C g n i:Nat}{w:Z0}{Ls:List SV}{a:Option Zj}{l:List (Nat × Nat)}{c:Nat}(ho:Af DH w C (aG (some ⟨g,0,none⟩) n n) Ls)(hf:PO R acc L W B w Ls i)(hi:i<Ls.length)
  (hv:Af CZ w B (aG a l.length c) l) (hl:Sx R acc L W i l) :
  Af DH (w.setCell ⟨g,i,none⟩ (aG a l.length c)) C (aG (some ⟨g,0,none⟩) n n) (Ls.set i ⟨a,l.length,c⟩)/\PO R acc L W B (w.setCell ⟨g,i,none⟩ (aG a l.length c)) (Ls.set i ⟨a,l.length,c⟩) (i+1):=by
 have ja:∀ {v:Z6} {l2:List (Nat × Nat)},Af CZ w B v l2->Af CZ (w.setCell ⟨g,i,none⟩ (aG a l.length c)) B v l2:=λ{v l2} h=>h.keep λq hq=>Zc _ _ _ _ (by
  show q≠g;intro e;obtain⟨cs,h1⟩:=B3 h hq;obtain⟨cs2,h2⟩:=B3 ho (g:=g) rfl;rw[e,h2]at h1;injection h1 with h1;injection h1 with _ h3;exact absurd h3 (by decide))
 refine⟨ho.setCell (by simp) ?_ (by show i<Ls.length*1;omega) Fz,λk hk hki=>?_⟩
 ·have:∀ (M:List SV),M.flatMap DH.enc=M.map λx=>aG x.a x.n x.c:=λM=>by
   induction M with
   | nil=>rfl
   | cons x r ih=>rw[ZA,ih];rfl
  rw[this,this,List.map_set]
 ·have jb:k<Ls.length:=by simpa using hk
  rw[List.getElem_set];by_cases e:i=k
  ·subst e;rw[if_pos rfl];exact⟨l,ja hv,hl⟩
  ·rw[if_neg e];obtain⟨l2,h1,h2⟩:=hf k jb (by omega);exact⟨l2,ja h1,h2⟩
structure SrI (R:List Rl)(L:List Slt)(T:List Bn)(gm:Nat->Nat)(i D:Nat)(M:Nat->Ent)(w:Z0):Prop where
 maps:∀ j,i<=j->j<i+5->MpG Bp w (gm (j % 5)) (M j)
 inv:Inv R L (folT T) i M
 bnd:Bnd T.length i (i*((8*T.length+1)*D)) D M
 out:∀ j,¬ j<i+5->M j=[]
def KY (b len cap k:Nat)(hk:k<len)(w:Z0) :
  (ZK 103 (aG (some ⟨b,0,none⟩) len cap) (aA aM (k:Int))).run Z1 w=.ok (aB (some ⟨b,k,none⟩)) w:=by
 have h0:(0:Int)<=(k:Int):=by omega
 have h1:(k:Int)<(len:Int):=by omega
 simp[go_sem,h0,h1]
structure EnQ (R:List Rl)(acc:Int)(L:List Slt)(X:List (List UInt8))(T:List Bn)(gm:Nat->Nat)(D:Nat)(w1 w2:Z0)(gE i:Nat)(w:Z0):Prop where
 sr:∃ M,SrI (R.filter C5) L T gm i D M w
 row:∃ Ls,Af DH w w2.heap.size (aG (some ⟨gE,0,none⟩) (L.length+1) (L.length+1)) Ls/\Ls.length=L.length+1/\PO R acc L X w1.heap.size w Ls i
 kc:Kc w2 w
 bl:Below w1.heap.size w1 w
def ends_any (R:List Rl)(modes acc:Int)(aS:Option Zj)(cS:Nat)(D:List Nd)(aD:Option Zj)(cD:Nat)(aL:Option Zj)(L:List Slt)(cL C:Nat)(w:Z0)(hR:BC w aS R)(j4:R.length<=1000)(hO:∀ r∈R,r.out.size<=1000000)(hD:Cj w aD D)(kH:D.length<=9223372036854775807)(hC:Mg D)
  (hl:(BJ D).length<=1000) (hs:∀ x∈BJ D,x.size<=20) (jq:((BJ D).map bts).Pairwise λa b=>Zz a b=true) (hL:CI w aL L) (hLl:L.length<=1000) (j2:By C L) (kG:C<=1000000)
  (jd:∀ N i,N<=1+20*(BJ D).length->i<=L.length->8*N*(i*((8*N+1)*(1000+4*C))+(8*N+1)*(1000+4*C)+2)<=900000000000) (kJ:0<=acc) (kK:acc<=255) :
  Zu Z1 44 #[aJ #[aA aM modes,aA aO acc,aG aS R.length cS],aG aD D.length cD,aG aL L.length cL] w λe w'=>VJ R acc L ((BJ D).map bts) w.heap.size e w'/\Below w.heap.size w w':=by
 have HO:=A0 hO;have ky:=A0 hL;have kr:=A0 j2;have jR:=A0 jd;obtain⟨X,hX⟩:∃ X,(BJ D).map bts=X:=⟨_,rfl⟩
 have j6:X.length=(BJ D).length:=by rw[<- hX,AQ]
 have j1:=A0 j6;have kF:=A0 hX;have kl:=λw1 (hx:Ext w w1)=>newSearch_any R modes acc aS cS D aD cD aL L.length cL w1 (hR.later hx (A5 _)) j4 (hD.later hx (A5 _)) kH hC hl hs jq;have jW:=A0 kl;have j3:(R.filter C5).length<=1000:=AA (List.length_filter_le _ _) j4;have kC:=A0 j3;clear hR hO hD hC hs jq hL j2 jd kl j6 j3
 go_enter Tryz.func44,Tryz.ntmps44
 go_wp2_with fail
 obtain⟨w1,jP⟩:∃ w1,w.alloc (aK #[aA aM modes,aA aO acc,aG aS R.length cS] 33)=w1:=⟨_,rfl⟩
 rw[jP];have jk:Hid (Ext w w1):=by
  show Ext _ _;rw[<- jP];exact(Z2 _ _).alloc (A5 _) _
 clear jP;refine(jW.out w1 jk.out).mono ?_;rintro e w2 ⟨⟨gx,aR,cR,aT,cT,gm,T,rfl,kn,km,ko,jy,kf,ki,kk⟩,j8⟩;rw[hX]at jy;have jI:=A0 kn;have kD:=A0 km;have jZ:=A0 ko;have jj:=A0 jy;have jE:=A0 kf;have jS:=A0 ki;have jV:=A0 kk;have jl:=A0 j8;have j5:T.length<=1+20*(BJ D).length:=by have:=jy.size;have:=j1.out;omega
 have jw:=A0 j5;clear hX jW kn km ko jy kf ki kk j8 j5
 go_wp2_with (at_make;go_loud (refine LH Fz rfl ⟨none,0,0⟩ rfl rfl rfl _ _ rfl w2.heap.size (L.length+1) (by go_num) (by go_num) (by omega) (A5 _) ?_);intro w3 je j9;have jX:=A0 je;have ju:=A0 j9;clear je j9)
 have jb:Hid (EnQ R acc L X T gm (1000+4*C) w1 w2 w2.heap.size 0 w3):=by
  refine⟨⟨M0,⟨λj h1 h2=>?_,Ww _ _ _,by rw[Nat.zero_mul];exact Wx jj.out.pos,λj hj=>?_⟩⟩,⟨_,jX.out,by rw[AW],λk _ hk=>absurd hk (Xj _)⟩,Kc.of ju.out (A5 _),jl.out.trans (ju.out.mono jl.out.size)⟩
  ·have hj:j % 5=j:=xd (by omega);rw[hj];have hm:MpG Bp w2 (gm j) (M0 j):=by
    unfold M0;split
    · rename_i e;subst e;exact jS.out
    · rename_i e;exact jV.out j (by omega) (by omega)
   exact hm.kept (ju.out.block _ hm.lt)
  ·unfold M0;rw[if_neg (by omega)]
 obtain⟨gE,kd⟩:∃ gE,w2.heap.size=gE:=⟨_,rfl⟩
 have kv:Hid (w1.heap.size<=gE):=by have:=jl.out.size;show _<=_;omega
 have jD:Hid (w2.heap.size<=gE):=by show _<=_;omega
 have kx:Hid (gx<gE):=by have:=jI.out.lt;show _<_;omega
 rw[kd]at jb ⊢;clear kd jX ju jS jV
 go_loopg [20] (L.length+1) (λg v20 wr=>∃ i:Nat,v20=aA aM (i:Int)/\i<=L.length+1/\g=L.length+1 - i/\EnQ R acc L X T gm (1000+4*C) w1 w2 gE i wr)
 case atStart=>exact⟨0,rfl,Ze _,rfl,jb.out⟩
 case round =>
  clear jb;obtain⟨i,rfl,hi,ke,ka⟩:=hrel;have jb:=A0 ka;have kw:=A0 ke;clear ka ke;by_cases kN:i<L.length+1
  ·obtain⟨M,js⟩:=jb.out.sr;obtain⟨Ls,jc,jx,jp⟩:=jb.out.row;have kh:Kc w wr:=(Kc.of jk.out (A5 _)).trans ((Kc.of jl.out (A5 _)).trans jb.out.kc);have jt:=svisit_any (R.filter C5) L T C i (i*((8*T.length+1)*(1000+4*C))) (1000+4*C) w1.heap.size M (jI.out.kp jb.out.kc) (BC.kp kD.out jb.out.kc) rfl kC.out (Mi R) (λr hr=>HO.out r (AZ.1 hr).1)
    (ky.out.kp kh) rfl (by omega) (by omega) kr.out kG (jZ.out.kp jb.out.kc) rfl (by have:=jw.out;omega) jj.out.trIn jE.out jb.out.bl.size js.maps js.inv js.bnd (A5 _) (jR.out T.length i jw.out (by omega)) jj.out.pos
   have jo:=A0 jt;have jg:=A0 jc;have jB:=A0 jp;have jm:=A0 jx;have jY:=A0 js;clear jt jc jp jx js kh
   go_wp2_with fail
   refine jo.out.mono ?_;rintro e w4 ⟨rfl,M',kq⟩;have ja:=A0 kq;clear kq jo;have kz:=A0 (ja.out.vx.maps i (A5 _) (by omega));have jn:=A0 (jI.out.kp (jb.out.kc.trans ja.out.vx.kp));have jf:Hid (Below w1.heap.size w1 w4):=jb.out.bl.trans ja.out.vx.bl;have kE:Hid (WW T):=λb hb=>by have h:=jj.out.wd b hb;have:=j1.out;omega
   have jA:=A0 (found_any T i (i % 5) (M' i) (by omega) rfl jn.out (jZ.out.kp (jb.out.kc.trans ja.out.vx.kp)) rfl (by have:=jw.out;omega) kE.out kz.out (ja.out.bnd.rng i) kJ kK)
   go_wp2_with fail
   refine jA.out.mono ?_;rintro e w5 ⟨⟨v,l,rfl,ji,jO⟩,jL⟩;obtain⟨a5,c5,kO,hc5, -⟩:=ji.form;subst kO;have ku:Hid (Sx R acc L X i l):=⟨(Vl jj.out ja.out.inv ja.out.shut (ja.out.bnd.keys i) jO).fair,λp hp=>by
    obtain⟨t,ht, -⟩:=((jO.mem p.1 p.2).1 hp).1;have h1:=ja.out.bnd.here_le (Bj (ja.out.bnd.keys i) ht);have h2:=jR.out T.length i jw.out (by omega);have h3:=jj.out.pos;have h4:8*T.length*(1000+4*C)<=(8*T.length+1)*(1000+4*C):=ZM _ (za _);have h5:i*((8*T.length+1)*(1000+4*C))+(8*T.length+1)*(1000+4*C)+2<=8*T.length*(i*((8*T.length+1)*(1000+4*C))+(8*T.length+1)*(1000+4*C)+2):=Nat.le_mul_of_pos_left _ (by omega);omega⟩
   have jF:Hid (Kc wr w5):=ja.out.vx.kp.trans (Kc.of jL (A5 _));have jz:=A0 jL;have kB:=A0 (ji.mono jf.out.size);have jG:=A0 (jg.out.kc jF.out);have kt:=A0 (jB.out.kc jF.out);have kg:i<Ls.length:=by have:=jm.out;omega
   have jH:=A0 (PQ jG.out kt.out kg kB.out ku.out);obtain⟨cs5,jh⟩:=B3 jG.out (g:=gE) rfl;have kL:w5.frozen? ⟨gE,i,none⟩=false:=by simp[Zn,jh]
   have jM:=jG.out.cell Fz kg (j:=0) (by decide);have e1:i*DH.k+0=i:=by show i*1+0=i;omega
   rw[e1]at jM;have jN:w5.cell? ⟨gE,i,none⟩=some (aG Ls[i].a Ls[i].n Ls[i].c):=jM;have kM:=KY gE (L.length+1) (L.length+1) i kN;have jv:Hid (∀ q,q≠gE->(w5.setCell ⟨gE,i,none⟩ (aG a5 l.length c5)).heap[q]? = w5.heap[q]?):=λq hq=>Zc _ _ _ _ hq;have ks:=A0 jh;clear ji jO jL jM e1 jh
   go_wp2_with fail
   obtain⟨w6,jQ⟩:∃ w6,w5.setCell ⟨gE,i,none⟩ (aG a5 l.length c5)=w6:=⟨_,rfl⟩
   rw[jQ]at jH jv ⊢;have j0:=A0 jQ;clear jQ kL jN kM;have jJ:Hid (SX w6 gx acc aR (R.filter C5).length cR aT T.length cT aL L.length cL gm):=by
    have h:=jn.out.kp (Kc.of jz.out (A5 _));exact(jv.out gx (by have:=kx.out;omega)).trans h
   have jU:Hid (∀ j,i<=j->j<i+5->MpG Bp w6 (gm (j % 5)) (M' j)):=λj h1 h2=>by
    have h:=(ja.out.vx.maps j h1 h2).kept (jz.out.block _ (ja.out.vx.maps j h1 h2).lt);refine h.kept (jv.out _ λe=>?_);obtain⟨es,c,h3⟩:=h.obj;rw[e,ks.out]at h3;cases h3
   have jT:=A0 (jU.out i (A5 _) (by omega));have j7:=GL i (i % 5) (by omega) rfl jJ.out;refine j7.mono ?_;clear j7;rintro e w7 ⟨rfl,rfl⟩;obtain⟨w7,jr,kj,kb⟩:=jT.out.run_clear CU 0;have kA:=A0 kj;have jC:=A0 kb;clear kj kb;dsimp only[Bp]at jr
   go_wp2_with fail
   clear jr
   go_roundg (L.length+1 - (i+1))
   case measure=>have:=kw.out;omega
   case rel =>
    have kI:Kc w2 w6:=by
     have h:=jb.out.kc.trans jF.out;refine⟨by rw[<- j0.out,Zb];exact h.size,λq cs t f hq=>?_⟩;have hlt2:=(A7.1 hq).1;exact(jv.out q (by have:=jD.out;omega)).trans (h.block q cs t f hq)
    have jK:Kc w6 w7:=Kc.map jC.out jT.out.obj;have Jx:Below w1.heap.size w1 w6:=by
     rw[<- j0.out];exact(jf.out.trans (jz.out.mono jf.out.size)).setCell (show w1.heap.size<=(⟨gE,i,none⟩:Zj).block from kv.out) _
    refine⟨i+1,by go_num,by omega,rfl,⟨⟨nextM i M',⟨λj h1 h2=>?_,ja.out.inv.nextM ja.out.shut,by rw[zp];exact ja.out.bnd.nextM,λj hj=>?_⟩⟩,⟨_,jH.out.1.kc jK,by rw[ZD];exact jm.out,jH.out.2.kc jK⟩,kI.trans jK,Jx.grown jC.out Jx.size λq hq=>?_⟩⟩
    ·unfold nextM;rw[if_pos (show i<j by omega)];by_cases e:j=i+5
     ·subst e;rw[show(i+5) % 5=i % 5 by omega,ja.out.out _ (by omega),jY.out.out _ (by omega)];exact kA.out
     ·have h:=jU.out j (by omega) (by omega);refine h.kept (jC.out.block _ h.lt λe2=>?_);injection e2 with e2;have:=jE.out.apart (j % 5) (i % 5) (Nat.mod_lt _ (by decide)) (Nat.mod_lt _ (by decide)) e2;omega
    ·unfold nextM;rw[if_pos (show i<j by omega),ja.out.out _ (by omega),jY.out.out _ (by omega)]
    ·injection hq with hq;rw[<- hq];exact jE.out.ge _ (Nat.mod_lt _ (by decide))
  ·obtain rfl:i=L.length+1:=by omega
   obtain⟨Ls,jc,jx,jp⟩:=jb.out.row;have jg:=A0 jc;have jB:=A0 jp;clear jc jp
   go_wp2_with fail
   go_ret;exact⟨⟨gE,Ls,rfl,jg.out.mono (AA jk.out.size jl.out.size),jx,λk h hk=>by obtain⟨l,h1,h2⟩:=jB.out k h hk;exact⟨l,h1.mono jk.out.size,by rw[kF.out];exact h2⟩⟩,Y9 jk.out (jb.out.bl.mono jk.out.size)⟩
def G1:CB SV:=⟨41,81,1,24,aG none 0 0,λx=>[aG x.a x.n x.c]⟩
def Hw:G1.Ok:=⟨Tryz.underlying41,by kernel_rfl,rfl,by decide,λ_=>rfl,λx u hu=>by obtain rfl:u=aG x.a x.n x.c:=(AF.1 hu);rfl,by decide⟩
def Cc:CB Ch:=⟨81,79,2,16,aJ #[aA aO 0,aA aM 0],λx=>[aA aO (x.key.toNat:Int),aA aM x.cost]⟩
def Dw:Cc.Ok:=⟨Tryz.underlying81,by kernel_rfl,rfl,by decide,λ_=>rfl,λx u hu=>by
 have h:u=aA aO (x.key.toNat:Int)\/u=aA aM x.cost:=by simpa[Cc] using hu
 rcases h with rfl | rfl <;> rfl,by decide⟩
def Af.chs {w:Z0}{B:Nat}{a:Option Zj}{n c:Nat}{L:Slt}(h:Af Cc w B (aG a n c) L):EC w a (chA L)/\n=L.length/\L.length<=c:=by
 obtain⟨a',c',he,hc,_⟩:=h.form;injection he with e1 e2 e3;refine⟨λk hk=>?_,e2,by omega⟩;rw[Dk]at hk;rcases h.blk with⟨_,rfl⟩ | ⟨g,c2,ja,_,hg,_⟩
 · simp at hk
 ·injection ja with f1 f2 f3;subst f1;refine⟨g,0,rfl,hg,?_,?_⟩
  ·have:=h.cell Dw hk (j:=0) (by decide);simpa[Cc,chA] using this
  ·have:=h.cell Dw hk (j:=1) (by decide);simpa[Cc,chA] using this
def ElS (w:Z0)(x:SV)(s:Slt):Prop:=Af Cc w 0 (svS x) s
def ElS.kc {w w':Z0}{x:SV}{s:Slt}(h:ElS w x s)(hk:Kc w w'):ElS w' x s:=Af.kc h hk
def ElS.n {w:Z0}{x:SV}{s:Slt}(h:ElS w x s):x.n=s.length:=(Af.chs h).2.1
def ElS.arcs {w:Z0}{x:SV}{s:Slt}(h:ElS w x s):EC w x.a (chA s):=(Af.chs h).1
def ElS.le {w:Z0}{x:SV}{s:Slt}(h:ElS w x s):s.length<=9223372036854775807:=by
 obtain⟨a,c,e,h1,h2⟩:=Af.form h;unfold maxLen at h2;omega
def ElS.of {w:Z0}{B:Nat}{x:SV}{s:Slt}(h:Af Cc w B (svS x) s):ElS w x s:=h.mono (Ze _)
def ElS.keep {w w':Z0}{x:SV}{s:Slt}{B:Nat}{v:Z6}{Ls:List SV}(h:ElS w x s)(ho:Af G1 w B v Ls)(hk:∀ q,q<w.heap.size->v.ownBlock≠some q->w'.heap[q]? = w.heap[q]?):ElS w' x s:=Af.keep h λq hq=>hk q (Af.lt h q hq) λe=>by
 obtain⟨cs,h1⟩:=B3 h hq;obtain⟨cs2,h2⟩:=B3 ho e;rw[h2]at h1;injection h1 with h1;injection h1 with _ h4;exact absurd h4 (by decide)
structure Dx (w:Z0)(B:Nat)(v:Z6)(Ls:List SV)(L:List Slt):Prop where
 own:Af G1 w B v Ls
 len:Ls.length=L.length
 el:∀ (k:Nat) (x:SV) (s:Slt),Ls[k]? = some x->L[k]? = some s->ElS w x s
def DN (w:Z0)(B:Nat)(v:Z6)(L:List Slt):Prop:=∃ Ls,Dx w B v Ls L
def Dx.kc {w w':Z0}{B:Nat}{v:Z6}{Ls:List SV}{L:List Slt}(h:Dx w B v Ls L)(hk:Kc w w'):Dx w' B v Ls L :=
 ⟨h.own.kc hk,h.len,λk x s h1 h2=>(h.el k x s h1 h2).kc hk⟩
def Dx.later {w w':Z0}{B C:Nat}{v:Z6}{Ls:List SV}{L:List Slt}(h:Dx w B v Ls L)(hb:Below C w w')(hC:w.heap.size<=C):Dx w' B v Ls L:=h.kc (Kc.of hb hC)
def Dx.mono {w:Z0}{B C:Nat}{v:Z6}{Ls:List SV}{L:List Slt}(h:Dx w B v Ls L)(hC:C<=B):Dx w C v Ls L:=⟨h.own.mono hC,h.len,h.el⟩
def DN.kc {w w':Z0}{B:Nat}{v:Z6}{L:List Slt}(h:DN w B v L)(hk:Kc w w'):DN w' B v L:=h.imp λ_ h=>h.kc hk
def DN.later {w w':Z0}{B C:Nat}{v:Z6}{L:List Slt}(h:DN w B v L)(hb:Below C w w')(hC:w.heap.size<=C):DN w' B v L:=h.kc (Kc.of hb hC)
def DN.mono {w:Z0}{B C:Nat}{v:Z6}{L:List Slt}(h:DN w B v L)(hC:C<=B):DN w C v L:=h.imp λ_ h=>h.mono hC
def Dx.push {w w':Z0}{B B':Nat}{v v':Z6}{Ls:List SV}{L:List Slt}{x:SV}{s:Slt}(h:Dx w B v Ls L)(ho:Af G1 w' B' v' (Ls ++ [x]))(hg:w.grownBy w' v.ownBlock)(hx:ElS w x s):Dx w' B' v' (Ls ++ [x]) (L ++ [s]):=by
 have hk:∀ {y t},ElS w y t->ElS w' y t:=λ{y t} hy=>hy.keep h.own λq hq jb=>hg.block q hq (Ne.symm jb);refine⟨ho,by simp[h.len],λk y t h1 h2=>?_⟩;have hl:=h.len;by_cases ja:k<Ls.length
 ·rw[AK ja]at h1;rw[AK (by omega)]at h2;exact hk (h.el k y t h1 h2)
 ·rw[AM (by omega)]at h1;rw[AM (by omega)]at h2;rw[hl]at h1;cases e:k - L.length with
  | zero=>rw[e]at h1 h2;cases h1;cases h2;exact hk hx
  | succ n=>rw[e]at h1;simp at h1
def Dx.slotS {w:Z0}{B:Nat}{a:Option Zj}{n c:Nat}{Ls:List SV}{L:List Slt}(h:Dx w B (aG a n c) Ls L):CI w a L/\n=L.length/\L.length<=c:=by
 obtain⟨a',c',he,hc,_⟩:=h.own.form;injection he with e1 e2 e3;refine⟨λk hk=>?_,by rw[e2,h.len],by rw[<- h.len];omega⟩;have ja:k<Ls.length:=by rw[h.len];exact hk
 rcases h.own.blk with⟨_,e⟩ | ⟨g,c2,jc,_,hg,_⟩
 · rw[e]at ja;simp at ja
 ·injection jc with f1 f2 f3;subst f1;have jb:=h.el k _ _ (AC ja) (AC hk);have hc:=h.own.cell Hw ja (j:=0) (by decide);refine⟨g,0,rfl,hg,Ls[k].a,Ls[k].c,?_,jb.le,jb.arcs⟩;rw[<- jb.n];simpa[G1] using hc
def DN.slotS {w:Z0}{B:Nat}{a:Option Zj}{n c:Nat}{L:List Slt}(h:DN w B (aG a n c) L):CI w a L/\n=L.length/\L.length<=c:=by
 obtain⟨Ls,h⟩:=h;exact h.slotS
def Gq (l:List UInt8):List Slt:=l.map λc=>[⟨c,0⟩]
def kyA (s:Slt)(k:Nat):Nat:=((s[k]?).map λc=>c.key.toNat).getD 0
def okC (s:Slt)(k:Nat):Bool:=match s[k]? with
 | none=>true
 | some c=>decide (97<=c.key.toNat) && (decide (c.key.toNat<=122) && (decide (0<=c.cost) && (decide (c.cost<=1000) && (decide (k=0) || decide (kyA s (k - 1)<c.key.toNat)))))
def okS (s:Slt):Bool:=decide (1<=s.length) && (decide (s.length<=8) && (Zt s.length).all (okC s))
def validB (L:List Slt):Bool:=decide (L.length<=40) && L.all okS
def QM {s:Slt}{k:Nat}(hk:k<s.length):okC s k=true↔97<=s[k].key.toNat/\s[k].key.toNat<=122/\0<=s[k].cost/\s[k].cost<=1000/\(k=0\/kyA s (k - 1)<s[k].key.toNat):=by
 unfold okC;rw[AC hk];simp only[Zg,Y2,decide_eq_true_eq]
def TI {s:Slt}{k:Nat}(hk:k<s.length):kyA s k=s[k].key.toNat:=by
 unfold kyA;rw[AC hk];rfl
def H5 {p:Nat->Bool}{n:Nat}:(Zt (n+1)).all p=((Zt n).all p && p n):=by
 rw[z6,List.all_append];simp
def KZ {p:Nat->Bool}{n k:Nat}(hk:k<n)(h:p k=false):(Zt n).all p=false:=by
 cases e:(Zt n).all p with
 | false=>rfl
 | true=>rw[Zr]at e;rw[e k (Aa.2 hk)]at h;cases h
def IV {s:Slt}{k:Nat}(hk:k<s.length)(h:okC s k=false):okS s=false:=by
 unfold okS;rw[KZ hk h];simp
def Ug {s:Slt}{k:Nat}(hk:k<(chA s).length):(chA s)[k].c=((s[k]'(by rw[Dk]at hk;exact hk)).key.toNat:Int):=by simp[chA]
def TJ {s:Slt}{k:Nat}(hk:k<(chA s).length):(chA s)[k].t=(s[k]'(by rw[Dk]at hk;exact hk)).cost:=by simp[chA]
def EC.ch {w:Z0}{a:Option Zj}{s:Slt}(h:EC w a (chA s)){k:Nat}(hk:k<s.length) :
  ∃ b o,a=some ⟨b,o,none⟩/\b<w.heap.size/\w.cell? ⟨b,o+k*2,none⟩=some (aA aO (s[k].key.toNat:Int))/\w.cell? ⟨b,o+k*2+1,none⟩=some (aA aM s[k].cost):=by
 have ja:k<(chA s).length:=by rw[Dk];exact hk
 obtain⟨b,o,h1,h2,h3,h4⟩:=h k ja;rw[Ug ja]at h3;rw[TJ ja]at h4;exact⟨b,o,h1,h2,h3,h4⟩
def vslot_any (s:Slt)(a:Option Zj)(c:Nat)(w:Z0)(hA:EC w a (chA s))(hl:s.length<=9223372036854775807) :
  Zu Z1 73 #[aG a s.length c] w λe w'=>e=aP (aH (okS s))/\Below w.heap.size w w':=by
 have HA:=A0 hA;clear hA;by_cases h1:s.length<1
 ·have HR:Hid (okS s=false):=by show _=_;unfold okS;simp;omega
  have jI:(s.length:Int)<1:=by omega
  go_enter Tryz.func73,Tryz.ntmps73
  go_wp2_with fail
  go_ret;exact⟨Ad HR.out.symm,Z2 _ _⟩
 have jI:¬ (s.length:Int)<1:=by omega
 by_cases h2:8<s.length
 ·have HR:Hid (okS s=false):=by show _=_;unfold okS;simp;omega
  have jJ:(8:Int)<(s.length:Int):=by omega
  go_enter Tryz.func73,Tryz.ntmps73
  go_wp2_with fail
  go_ret;exact⟨Ad HR.out.symm,Z2 _ _⟩
 have jJ:¬ (8:Int)<(s.length:Int):=by omega
 go_enter Tryz.func73,Tryz.ntmps73
 go_wp2_with fail
 go_loopg [15] s.length (λg v15 wr=>∃ j:Nat,v15=aA aM (j:Int)/\j<=s.length/\g=s.length - j/\(Zt j).all (okC s)=true/\Below w.heap.size w wr)
 case atStart=>exact⟨0,rfl,Ze _,rfl,rfl,Z2 _ _⟩
 case round =>
  obtain⟨j,rfl,hj,jE,jo,hb⟩:=hrel;have jg:=A0 jo;have HB:=A0 hb;have jx:=A0 jE;clear jo hb jE;by_cases je:j<s.length
  ·obtain⟨
       b1,o1,ha1,hb1,q0,q1⟩:=(HA.out.later HB.out (A5 _)).ch je
   have hi1:=Gf a b1 o1 s.length c j ha1 je;have jh:=A0 (QM je);obtain⟨kI,jv⟩:∃ kI:Int,(s[j].key.toNat:Int)=kI:=⟨_,rfl⟩
   obtain⟨cI,jt⟩:∃ cI:Int,s[j].cost=cI:=⟨_,rfl⟩
   rw[jv]at q0;rw[jt]at q1;have jm:=A0 jv;have jq:=A0 jt;clear jv jt ha1;by_cases g1:kI<97
   ·have HR:Hid (okS s=false):=IV je (by
     cases e:okC s j with
     | false=>rfl
     | true=>have:=jh.out.1 e;have:=jm.out;omega)
    go_wp2_with fail
    go_ret;exact⟨Ad HR.out.symm,HB.out.trans (((Z2 _ _).alloc (A5 _) _).mono HB.out.size)⟩
   by_cases g2:122<kI
   ·have HR:Hid (okS s=false):=IV je (by
     cases e:okC s j with
     | false=>rfl
     | true=>have:=jh.out.1 e;have:=jm.out;omega)
    go_wp2_with fail
    go_ret;exact⟨Ad HR.out.symm,HB.out.trans (((Z2 _ _).alloc (A5 _) _).mono HB.out.size)⟩
   by_cases g3:cI<0
   ·have HR:Hid (okS s=false):=IV je (by
     cases e:okC s j with
     | false=>rfl
     | true=>have:=jh.out.1 e;have:=jq.out;omega)
    go_wp2_with fail
    go_ret;exact⟨Ad HR.out.symm,HB.out.trans (((Z2 _ _).alloc (A5 _) _).mono HB.out.size)⟩
   by_cases g4:1000<cI
   ·have HR:Hid (okS s=false):=IV je (by
     cases e:okC s j with
     | false=>rfl
     | true=>have:=jh.out.1 e;have:=jq.out;omega)
    go_wp2_with fail
    go_ret;exact⟨Ad HR.out.symm,HB.out.trans (((Z2 _ _).alloc (A5 _) _).mono HB.out.size)⟩
   have hK0:0<=kI:=by omega
   by_cases ju:j=0
   ·have HO:Hid (okC s j=true):=jh.out.2 (by have:=jm.out;have:=jq.out;omega);have HJ:Hid (¬ (0:Int)<(j:Int)):=by show ¬ _;omega
    clear ju
    go_wp2_with fail
    obtain⟨w5,jc⟩:∃ w5,wr.alloc (aK #[aA aO kI,aA aM cI] 79)=w5:=⟨_,rfl⟩
    have jd:Hid (Ext wr w5):=by show Ext _ _;rw[<- jc];exact(Z2 _ _).alloc (A5 _) _
    rw[jc];clear jc;refine B8 w5 (Ext.refl _) 52 (csV [aA aM (j:Int),aH false,aH false,Z8,Z8,Z8,Z8,Z8,Z8,Z8,Z8,Z8,aH false]) (Zd 38 13) (by kernel_rfl) rfl ?hop λW x hS hx=>?_
    case hop =>
     repeat' apply And.intro
     all_goals first
      | exact True.intro
      | (
        intro A W jf hS jb ja;skip;have h0:A.tmps.getD 0 Z8=aG a s.length c:=ja 0 (by kernel_rfl);have h3:A.tmps.getD 3 Z8=aA aM (j:Int):=ja 3 (by kernel_rfl);have h4:A.tmps.getD 4 Z8=aB (some ⟨wr.heap.size,0,none⟩):=ja 4 (by kernel_rfl);clear ja;simp[Ae,Zl,Vp,csV,qc]at jb
        first | (refine Ak ?_ (.inl ⟨_,W,?_,rfl,Ext.refl _⟩) <;> clear jf hS <;> simp[wS,C9,CA,Ae,go_sem,Zf, *] <;> done) | (refine Pv ?_ rfl;simp[wS,C9,CA,Ae,jb];done) | skip)
     ·refine Ak rfl (.inl ⟨_,W,?_,rfl,Ext.refl _⟩);clear jf hS;have jF:=HJ.out;simp[go_sem,Zf, *];omega
    have e50:x 50=aH false:=hx 12 (by decide);simp only[Zd,Zp,e50,ZE,Z5,Za,Z9];clear hx e50;have jn:Hid (Ext w5 W):=hS;clear hS
    go_wp2_with fail
    go_roundg (s.length - (j+1))
    case measure=>have:=jx.out;omega
    case rel=>exact⟨j+1,by go_num,by omega,rfl,by rw[H5,jg.out,HO.out];rfl,HB.out.trans (ZT (Ext.trans jd.out jn.out) HB.out.size)⟩
   ·obtain⟨p,jH⟩:∃ p,j=p+1:=⟨j - 1,by omega⟩
    have hp:p<s.length:=by omega
    have jj:(j:Int) - 1=(p:Int):=by omega
    have jk:IntKind.i64.wrap ((j:Int) - 1)=(p:Int):=by rw[jj];exact Zq _ (by omega)
    obtain⟨b2,o2,jD,jr,l0, -⟩:=(HA.out.later HB.out (A5 _)).ch hp;have hi2:=Gf a b2 o2 s.length c p jD hp;obtain⟨pI,jw⟩:∃ pI:Int,(s[p].key.toNat:Int)=pI:=⟨_,rfl⟩
    rw[jw]at l0;have jG:kyA s (j - 1)=s[p].key.toNat:=by rw[jH];exact TI hp
    have jz:=A0 jG;have jB:=A0 jw;have jA:=A0 jj;have jC:=A0 jk;have HJ:Hid ((0:Int)<(j:Int)):=by show _<_;omega
    have jp:¬ j=0:=ju;have jy:=A0 jp;clear jD jj jk jG jw jH ju jp;by_cases g5:kI<=pI
    ·have HR:Hid (okS s=false):=IV je (by
      cases e:okC s j with
      | false=>rfl
      | true=>have:=jh.out.1 e;have:=jm.out;have:=jz.out;have:=jB.out;have:=jy.out;omega)
     go_wp2_with fail
     obtain⟨w5,jc⟩:∃ w5,wr.alloc (aK #[aA aO kI,aA aM cI] 79)=w5:=⟨_,rfl⟩
     have jd:Hid (Ext wr w5):=by show Ext _ _;rw[<- jc];exact(Z2 _ _).alloc (A5 _) _
     have jl:Hid (w5.heap[wr.heap.size]? = some (aK #[aA aO kI,aA aM cI] 79 (0,0))):=by show _=_;rw[<- jc];exact Z4 _ _
     have js:Hid (w5.cell? ⟨b2,o2+p*2,none⟩=some (aA aO pI)):=zX (Zx jd.out (p:=⟨b2,o2+p*2,none⟩) jr) l0;have ji:b2<w5.heap.size:=A9 jr (XE jd.out);rw[jc];clear jc l0;refine B8 w5 (Ext.refl _) 52 (csV [aA aM (j:Int),aH true,aH true,aG a s.length c,aA aM (j:Int),aA aM (p:Int),aB (some ⟨b2,o2+p*2,none⟩),aB (some ⟨b2,o2+p*2,none⟩),aA aO pI,aB (some ⟨wr.heap.size,0,none⟩),aA aO kI,aH true,aH true]) (Zd 38 13) (by kernel_rfl) rfl ?hop λW x hS hx=>?_
     case hop =>
      repeat' apply And.intro
      all_goals first
       | exact True.intro
       | (
         intro A W jf hS jb ja;have l0:=zX (Zx hS (p:=⟨b2,o2+p*2,none⟩) ji) js.out;have d0:=zX (Zx hS (p:=⟨wr.heap.size,0,none⟩) (A7.1 jl.out).1) (Z3 w5 wr.heap.size 0 _ _ (0,0) jl.out);rw[show(#[aA aO kI,aA aM cI]:Array Z6)[0]? = some (aA aO kI) from rfl]at d0;have jj:=jA.out;have jk:=jC.out;rw[jj]at jk;have h0:A.tmps.getD 0 Z8=aG a s.length c:=ja 0 (by kernel_rfl);have h3:A.tmps.getD 3 Z8=aA aM (j:Int):=ja 3 (by kernel_rfl);have h4:A.tmps.getD 4 Z8=aB (some ⟨wr.heap.size,0,none⟩):=ja 4 (by kernel_rfl);clear ja;simp[Ae,Zl,Vp,csV,qc]at jb
         first | (refine Ak ?_ (.inl ⟨_,W,?_,rfl,Ext.refl _⟩) <;> clear jf hS <;> simp[wS,C9,CA,Ae,go_sem,Zf, *] <;> done) | skip)
      ·refine Ak rfl (.inl ⟨_,W,?_,rfl,Ext.refl _⟩);clear jf hS;have jF:=HJ.out;simp[go_sem,Zf, *];omega
     have e50:x 50=aH true:=hx 12 (by decide);simp only[Zd,Zp,e50,ZE,Z5,Za,Z9];clear hx e50;have jn:Hid (Ext w5 W):=hS;clear hS
     go_wp2_with fail
     go_ret;exact⟨Ad HR.out.symm,HB.out.trans (ZT (Ext.trans jd.out jn.out) HB.out.size)⟩
    ·have HO:Hid (okC s j=true):=jh.out.2 (by have:=jm.out;have:=jq.out;have:=jz.out;have:=jB.out;have:=jy.out;omega)
     go_wp2_with fail
     obtain⟨w5,jc⟩:∃ w5,wr.alloc (aK #[aA aO kI,aA aM cI] 79)=w5:=⟨_,rfl⟩
     have jd:Hid (Ext wr w5):=by show Ext _ _;rw[<- jc];exact(Z2 _ _).alloc (A5 _) _
     have jl:Hid (w5.heap[wr.heap.size]? = some (aK #[aA aO kI,aA aM cI] 79 (0,0))):=by show _=_;rw[<- jc];exact Z4 _ _
     have js:Hid (w5.cell? ⟨b2,o2+p*2,none⟩=some (aA aO pI)):=zX (Zx jd.out (p:=⟨b2,o2+p*2,none⟩) jr) l0;have ji:b2<w5.heap.size:=A9 jr (XE jd.out);rw[jc];clear jc l0;refine B8 w5 (Ext.refl _) 52 (csV [aA aM (j:Int),aH true,aH true,aG a s.length c,aA aM (j:Int),aA aM (p:Int),aB (some ⟨b2,o2+p*2,none⟩),aB (some ⟨b2,o2+p*2,none⟩),aA aO pI,aB (some ⟨wr.heap.size,0,none⟩),aA aO kI,aH false,aH false]) (Zd 38 13) (by kernel_rfl) rfl ?hop λW x hS hx=>?_
     case hop =>
      repeat' apply And.intro
      all_goals first
       | exact True.intro
       | (
         intro A W jf hS jb ja;have l0:=zX (Zx hS (p:=⟨b2,o2+p*2,none⟩) ji) js.out;have d0:=zX (Zx hS (p:=⟨wr.heap.size,0,none⟩) (A7.1 jl.out).1) (Z3 w5 wr.heap.size 0 _ _ (0,0) jl.out);rw[show(#[aA aO kI,aA aM cI]:Array Z6)[0]? = some (aA aO kI) from rfl]at d0;have jj:=jA.out;have jk:=jC.out;rw[jj]at jk;have h0:A.tmps.getD 0 Z8=aG a s.length c:=ja 0 (by kernel_rfl);have h3:A.tmps.getD 3 Z8=aA aM (j:Int):=ja 3 (by kernel_rfl);have h4:A.tmps.getD 4 Z8=aB (some ⟨wr.heap.size,0,none⟩):=ja 4 (by kernel_rfl);clear ja;simp[Ae,Zl,Vp,csV,qc]at jb
         first | (refine Ak ?_ (.inl ⟨_,W,?_,rfl,Ext.refl _⟩) <;> clear jf hS <;> simp[wS,C9,CA,Ae,go_sem,Zf, *] <;> done) | skip)
      ·refine Ak rfl (.inl ⟨_,W,?_,rfl,Ext.refl _⟩);clear jf hS;have jF:=HJ.out;simp[go_sem,Zf, *];omega
     have e50:x 50=aH false:=hx 12 (by decide);simp only[Zd,Zp,e50,ZE,Z5,Za,Z9];clear hx e50;have jn:Hid (Ext w5 W):=hS;clear hS
     go_wp2_with fail
     go_roundg (s.length - (j+1))
     case measure=>have:=jx.out;omega
     case rel=>exact⟨j+1,by go_num,by omega,rfl,by rw[H5,jg.out,HO.out];rfl,HB.out.trans (ZT (Ext.trans jd.out jn.out) HB.out.size)⟩
  ·have HR:Hid (okS s=true):=by
    show _=_;have e:j=s.length:=by omega
    have h:=jg.out;rw[e]at h;unfold okS;rw[h];simp;omega
   go_wp2_with fail
   go_ret;exact⟨Ad HR.out.symm,HB.out⟩
def PR (L:List Slt):Prop:=∀ s∈L,s.Pairwise λa b=>a.key≠b.key
def J3 (X:List UInt8)(n:Nat)(r:List UInt8):Option Nat:=if(X.drop n).take r.length=r then some (n+r.length) else none
def MA (X:List UInt8):UB (J3 X) where
 nil n:=by unfold J3;simp
 app
   n a b:=by
  unfold J3;rw[AD,List.take_add,List.drop_drop];by_cases h:(X.drop n).take a.length=a
  ·rw[if_pos h,h];simp only[Option.bind_some];by_cases h2:(X.drop (n+a.length)).take b.length=b
   · rw[if_pos h2,if_pos (by rw[h2]),Nat.add_assoc]
   · rw[if_neg h2,if_neg (λe=>h2 (List.append_cancel_left e))]
  ·rw[if_neg h];simp only[Option.bind_none];rw[if_neg];intro e;refine h (List.append_inj_left e ?_);have h1:=congrArg List.length e;rw[AD,AD]at h1;have h2:((X.drop n).take a.length).length<=a.length:=List.length_take_le _ _;have h3:((X.drop (n+a.length)).take b.length).length<=b.length:=List.length_take_le _ _;omega
def Uh {X:List UInt8}{n m:Nat}{r:List UInt8}(hn:n<=X.length)(h:J3 X n r=some m):m<=X.length:=by
 unfold J3 at h;split at h
 ·rename_i e;cases h;have h1:=congrArg List.length e;rw[AO,ZZ]at h1;omega
 · cases h
def TK {X o:List UInt8}(h:J3 X 0 o=some X.length):o=X:=by
 unfold J3 at h;split at h
 ·rename_i e;injection h with h;rw[List.drop_zero,AH (by omega)]at e;exact e.symm
 · cases h
def Ri (X:List UInt8):J3 X 0 X=some X.length:=by unfold J3;simp
def rtW {R:List Rl}{L:List Slt}{X:List UInt8}{i m c:Nat}:Rt R L (J3 X) i (m,X.length) c↔RtS R L i m X c:=by
 constructor
 ·intro h;obtain⟨o,h1,h2⟩:=VC (MA X) h;rw[TK h2]at h1;exact h1
 ·intro h;exact ST (MA X) h (Ri X)
def OP (X:ByteArray)(a b:Nat):bts (X.extract a b)=((bts X).drop a).take (b - a):=by
 unfold bts;rw[ByteArray.data_extract];simp[List.extract_eq_take_drop]
def Ui {a b:ByteArray}(h:bts a=bts b):a=b:=by
 unfold bts at h;cases a;cases b;simp only at h;rw[Array.toList_inj.1 h]
def QN (X:ByteArray)(a b:Nat)(h1:a<=b)(h2:b<=X.size)(w:Z0):(Xm 9 (aI X) (some (aA aM (a:Int))) (some (aA aM (b:Int))) none).run Z1 w=.ok (aI (X.extract a b)) w:=by
 have h0:(0:Int)<=(a:Int):=by omega
 have ja:(0:Int)<=(b:Int):=by omega
 have h3:(a:Int)<=(b:Int):=by omega
 have h4:(b:Int)<=(X.size:Int):=by omega
 simp[go_sem,Xm,Xw,XA,asIntOf,h0,ja,h3,h4,h1,h2]
section
variable {α:Type} {rch:α->Nat->Prop} {stp:α->α->Nat->Prop} {D:Nat}
def H9 (rch:α->Nat->Prop)(D k:Nat)(a:α):Prop:=∃ c,rch a c/\c<=k*D
def H9.up {k:Nat}{a:α}(h:H9 rch D k a):H9 rch D (k+1) a:=by
 obtain⟨c,h1,h2⟩:=h;exact⟨c,h1,by rw[zp];omega⟩
open Classical in
def near_count {s:α}(jh:∀ {a b c d},rch a c->stp a b d->rch b (c+d))(hD:∀ {a b d},stp a b d->d<=D)
  (ja:∀ (P:α->Prop),P s->(∀ a c b d,rch a c->P a->stp a b d->P b)->∀ a c,rch a c->P a) (hs:rch s 0) (code:α->Nat) (N:Nat) (hc:∀ a c,rch a c->code a<N) (jb:∀ a b c d,rch a c->rch b d->code a=code b->a=b):∀ a c,rch a c->H9 rch D N a:=by
 have key:∀ k,(∀ a c,rch a c->H9 rch D k a)\/∃ l:List α,l.length=k+1/\l.Nodup/\∀ a∈l,H9 rch D k a:=by
  intro k
  induction k with
  | zero=>exact .inr ⟨[s],rfl,by simp,λa ha=>by rw[AF.1 ha];exact⟨0,hs,by omega⟩⟩
  | succ k ih =>
   rcases ih with h | ⟨l,h1,h2,h3⟩
   · exact .inl λa c hr=>(h a c hr).up
   ·by_cases jc:∀ a,H9 rch D (k+1) a->H9 rch D k a
    ·refine .inl λa c hr=>H9.up ?_;refine ja (λa=>H9 rch D k a) ⟨0,hs,Ze _⟩ (λa c b d _ ⟨x,hx,hxk⟩ jd=>jc _ ⟨x+d,jh hx jd,?_⟩) a c hr;have:=hD jd;rw[zp];omega
    ·obtain⟨a,ha⟩:=Classical.not_forall.1 jc;obtain⟨h4,h5⟩:=Classical.not_imp.1 ha;refine .inr ⟨a :: l,by simp[h1],List.nodup_cons.2 ⟨λhm=>h5 (h3 a hm),h2⟩,λx hx=>?_⟩;rcases AX.1 hx with rfl | hx
     · exact h4
     · exact(h3 x hx).up
 rcases key N with h | ⟨l,h1,h2,h3⟩
 · exact h
 ·exfalso;have hn:(l.map code).Nodup:=by
   unfold List.Nodup at h2 ⊢;rw[AV];refine h2.imp_of_mem λ{a b} ha hb ji e=>ji ?_;obtain⟨c,je,_⟩:=h3 a ha;obtain⟨d,jg,_⟩:=h3 b hb;exact jb a b c d je jg e
  have hb:=nodup_bound N _ hn λz hz=>by
   obtain⟨a,ha,rfl⟩:=AJ.1 hz;obtain⟨c,jf,_⟩:=h3 a ha;exact hc a c jf
  rw[AQ]at hb;omega
end
def TL {R:List Rl}{L:List Slt}{fol:Nat->List UInt8->Option Nat}{i:Nat}{t:Stt}{c:Nat}(h:Rt R L fol i t c):i<=L.length:=by
 induction h with
 | start=>exact Ze _
 | step h1 _ _ _ hk _ ih =>
  have h2:=Ge hk;rw[B5,ZZ]at h2;omega
def Ka {R:List Rl}{L:List Slt}{fol:Nat->List UInt8->Option Nat}{i:Nat}{t:Stt}{c:Nat}(h:Rt R L fol i t c):t.1<8:=by
 cases h with
 | start=>decide
 | step _ _ hf _ _ _=>have:=Bd.1 hf;show Int.toNat _<8;omega
def TM {R:List Rl}{L:List Slt}{X:List UInt8}{i:Nat}{t:Stt}{c:Nat}(h:Rt R L (J3 X) i t c):t.2<=X.length:=by
 induction h with
 | start=>exact Ze _
 | step h1 _ _ _ _ hn ih=>exact Uh ih hn
def whole_low {R:List Rl}{acc:Int}{L:List Slt}{X:List UInt8}{i C c:Nat}(hL:By C L)(h:BX (Whole R acc L i X) c):c<=(L.length+1)*8*(X.length+1)*(1000+4*C):=by
 obtain⟨⟨m,h1,h2⟩,h3⟩:=h;have key:=near_count (α:=Nat × Stt) (s:=(0,(0,0))) (rch:=λa c=>Rt R L (J3 X) a.1 a.2 c) (stp:=λa b d=>∃ r,b.1=a.1+r.inp.size/\Lp R L (J3 X) a.1 a.2 r b.2 d) (D:=1000+4*C)
  (λ{a b c d} ha ⟨r,e,hs⟩=>by rw[e];exact ha.go hs)
  (λ{a b d} ⟨r,e,hs⟩=>by
   obtain⟨_,hf,_,k,n',hk,_,_,rfl⟩:=hs;have h4:=letsC_le (hL.drop a.1) hk;have h5:=Bd.1 hf;rw[B5]at h4;have h6:r.inp.size*C<=4*C:=ZM _ h5.2.2.2.2.1;omega)
  (λP hs ja a c hr=>by
   obtain⟨i,t⟩:=a;simp only at hr
   induction hr with
   | start=>exact hs
   | @step i m n n' c k r h1 hr hf hm hk hn ih=>exact ja (i,(m,n)) c _ _ h1 ih ⟨r,rfl,hr,hf,hm,k,n',hk,hn,rfl,rfl⟩)
  .start (λa=>(a.1*8+a.2.1)*(X.length+1)+a.2.2) ((L.length+1)*8*(X.length+1))
  (λa c hr=>by
   have h4:=TL hr;have h5:=Ka hr;have h6:=TM hr;have h7:(a.1*8+a.2.1+1)*(X.length+1)<=(L.length+1)*8*(X.length+1):=ZM _ (by omega);rw[zp]at h7;show(a.1*8+a.2.1)*(X.length+1)+a.2.2<_;omega)
  (λa b c d ha hb e=>by
   have h5:=Ka ha;have h6:=TM ha;have h7:=Ka hb;have h8:=TM hb;obtain⟨i,m,n⟩:=a;obtain⟨j,m',n'⟩:=b;simp only at e h5 h6 h7 h8;have e1:i*8+m=j*8+m':=by
    have:((i*8+m)*(X.length+1)+n) / (X.length+1)=((j*8+m')*(X.length+1)+n') / (X.length+1):=congrArg (· / (X.length+1)) e;have q:∀ a b,b<=X.length->(a*(X.length+1)+b) / (X.length+1)=a:=λa b hb=>by
     rw[zW,xr (Nat.succ_pos _),xm (by omega),zl]
    rw[q _ _ h6,q _ _ h8]at this;exact this
   rw[e1]at e;have e2:n=n':=by omega
   have e3:i=j:=by omega
   have e4:m=m':=by omega
   rw[e2,e3,e4])
 obtain⟨x,hx,jb⟩:=key (i,(m,X.length)) c (rtW.2 h2);exact AA (h3 x ⟨m,h1,rtW.1 hx⟩) jb
open Classical in
noncomputable def Hx (p:Nat->Prop):Option Nat:=if h:∃ c,BX p c then some h.choose else none
def J4 {p:Nat->Prop}{c d:Nat}(h:BX p c)(h2:BX p d):c=d:=xq (h.2 d h2.1) (h2.2 c h.1)
def D1 {p:Nat->Prop}{c:Nat}:Hx p=some c↔BX p c:=by
 unfold Hx;constructor
 ·intro h;split at h
  · rename_i h2;cases h;exact h2.choose_spec
  · cases h
 ·intro h;rw[dif_pos ⟨c,h⟩];exact congrArg some (J4 (Exists.choose_spec (⟨c,h⟩:∃ c,BX p c)) h)
noncomputable def J5 (R:List Rl)(acc:Int)(L:List Slt)(W:List (List UInt8))(i:Nat):List (Nat × Nat) :=
 (Zt W.length).filterMap λk=>(Hx (Whole R acc L i (W.getD k []))).map λc=>(k,c)
def IW {R:List Rl}{acc:Int}{L:List Slt}{W:List (List UInt8)}{i:Nat}:FU R acc L W i (J5 R acc L W i) where
 sorted:=by
  unfold J5;refine List.Pairwise.filterMap _ (R:=λa b:Nat=>a<b) ?_ List.pairwise_lt_range;intro a a' jd b hb b' jb;obtain⟨x,_,rfl⟩:=zj.1 hb;obtain⟨y,_,rfl⟩:=zj.1 jb;exact jd
 mem
   k c:=by
  unfold J5;rw[X9];constructor
  ·rintro⟨k',jc,h⟩;have ja:=Aa.1 jc;obtain⟨x,hx,e⟩:=zj.1 h;cases e;refine⟨ja,?_⟩;have h3:=D1.1 hx;rw[AS,AC ja]at h3;exact h3
  ·rintro⟨h,hl⟩;refine⟨k,Aa.2 h,zj.2 ⟨c,D1.2 ?_,rfl⟩⟩;rw[AS,AC h];exact hl
def FU.eqF {R:List Rl}{acc:Int}{L:List Slt}{W:List (List UInt8)}{i:Nat}{l:List (Nat × Nat)}(h:FU R acc L W i l):l=J5 R acc L W i:=h.uniq IW λ_ _ _=>Iff.rfl
def spn (n:Nat):List (Nat × Nat):=(Zt n).flatMap λi=>(Zt (n - i)).map λk=>(i,i+1+k)
abbrev Edg:=Int × Int × Int × Int
def FD (i j:Nat)(l:List (Nat × Nat)):List Edg:=l.map λp=>((i:Int),(j:Int),(p.1:Int),(p.2:Int))
noncomputable def GA (R:List Rl)(acc:Int)(L:List Slt)(W:List (List UInt8)):List Edg:=(spn L.length).flatMap λp=>FD p.1 p.2 (J5 R acc (L.drop p.1) W (p.2 - p.1))
def IX {n i j:Nat}:(i,j)∈spn n↔i<j/\j<=n:=by
 unfold spn;rw[zJ];constructor
 ·rintro⟨a,ha,h⟩;obtain⟨k,hk,e⟩:=AJ.1 h;rw[Aa]at ha hk;cases e;omega
 ·rintro⟨h1,h2⟩;exact⟨i,Aa.2 (by omega),AJ.2 ⟨j - (i+1),Aa.2 (by omega),by congr 1;omega⟩⟩
def Kb {R:List Rl}{acc:Int}{L:List Slt}{W:List (List UInt8)}{e:Edg}:e∈GA R acc L W↔∃ i j w c:Nat,e=((i:Int),(j:Int),(w:Int),(c:Int))/\i<j/\j<=L.length/\(w,c)∈J5 R acc (L.drop i) W (j - i):=by
 unfold GA FD;rw[zJ];constructor
 ·rintro⟨⟨i,j⟩,h1,h2⟩;obtain⟨⟨w,c⟩,h3,rfl⟩:=AJ.1 h2;obtain⟨h4,h5⟩:=IX.1 h1;exact⟨i,j,w,c,rfl,h4,h5,h3⟩
 ·rintro⟨i,j,w,c,rfl,h4,h5,h3⟩;exact⟨(i,j),IX.2 ⟨h4,h5⟩,AJ.2 ⟨(w,c),h3,rfl⟩⟩
def Dy (a b:Edg):Prop:=a.1<b.1\/a.1=b.1/\(a.2.1<b.2.1\/a.2.1=b.2.1/\a.2.2.1<b.2.2.1)
def Kd (n:Nat):(spn n).Pairwise λa b=>a.1<b.1\/a.1=b.1/\a.2<b.2:=by
 unfold spn;rw[List.pairwise_flatMap];refine⟨λi _=>?_,?_⟩
 ·rw[AV];exact List.pairwise_lt_range.imp λh=>.inr ⟨rfl,by omega⟩
 ·refine List.pairwise_lt_range.imp λ{a b} ja x hx y hy=>?_;obtain⟨_,_,rfl⟩:=AJ.1 hx;obtain⟨_,_,rfl⟩:=AJ.1 hy;exact .inl ja
def OQ {R:List Rl}{acc:Int}{L:List Slt}{W:List (List UInt8)}:(GA R acc L W).Pairwise Dy:=by
 unfold GA FD;rw[List.pairwise_flatMap];refine⟨λp _=>?_,?_⟩
 ·rw[AV];exact IW.sorted.imp λh=>.inr ⟨rfl,.inr ⟨rfl,by simp only;omega⟩⟩
 ·refine(Kd _).imp λ{a b} ja x hx y hy=>?_;obtain⟨_,_,rfl⟩:=AJ.1 hx;obtain⟨_,_,rfl⟩:=AJ.1 hy;rcases ja with h | ⟨h,h2⟩
  · exact .inl (by simp only;omega)
  · exact .inr ⟨by simp only;omega,.inl (by simp only;omega)⟩
def QO (n:Nat)(h:n<=6):(spn n).length<=21:=by
 rcases(show n=0\/n=1\/n=2\/n=3\/n=4\/n=5\/n=6 by omega) with rfl | rfl | rfl | rfl | rfl | rfl | rfl <;> decide
def Ke {R:List Rl}{acc:Int}{L:List Slt}{W:List (List UInt8)}{i:Nat}:(J5 R acc L W i).length<=W.length:=by
 unfold J5;exact AA (List.length_filterMap_le _ _) (by rw[List.length_range];exact A5 _)
def J6 {α β:Type}{f:α->List β}{k:Nat}:∀ {l:List α},(∀ x∈l,(f x).length<=k)->(l.flatMap f).length<=l.length*k
 | [],_=>by simp
 | x :: l,h=>by
  rw[ZA,AD,Zs,zp];have h1:=h x AB;have h2:=J6 λy hy=>h y (Zm _ hy);omega
def TN {R:List Rl}{acc:Int}{L:List Slt}{W:List (List UInt8)}:(GA R acc L W).length<=(spn L.length).length*W.length :=
 J6 λp _=>by unfold FD;rw[AQ];exact Ke
section
variable {α:Type} {stp:α->α->Nat->Prop} {s0:α}
inductive Pth (stp:α->α->Nat->Prop)(s0:α):Nat->α->Nat->Prop
 | zero:Pth stp s0 0 s0 0
 | succ {n:Nat} {a b:α} {c d:Nat}:Pth stp s0 n a c->stp a b d->Pth stp s0 (n+1) b (c+d)
structure Opt (stp:α->α->Nat->Prop)(s0:α)(n:Nat)(a:α)(c:Nat):Prop where
 pth:Pth stp s0 n a c
 cost:∀ k e,Pth stp s0 k a e->c<=e
 len:∀ k,Pth stp s0 k a c->n<=k
def Opt.one {n m:Nat}{a:α}{c d:Nat}(h:Opt stp s0 n a c)(h2:Opt stp s0 m a d):n=m/\c=d:=by
 have e:c=d:=xq (h.cost _ _ h2.pth) (h2.cost _ _ h.pth);subst e;exact⟨xq (h.len _ h2.pth) (h2.len _ h.pth),rfl⟩
def Opt.pre {n:Nat}{b:α}{c:Nat}(h:Opt stp s0 (n+1) b c):∃ a e d,stp a b d/\Opt stp s0 n a e/\c=e+d:=by
 obtain⟨a,e,d,h1,h2,rfl⟩:∃ a e d,Pth stp s0 n a e/\stp a b d/\c=e+d:=by
  cases h.pth with
  | succ h1 h2=>exact⟨_,_,_,h1,h2,rfl⟩
 refine⟨a,e,d,h2,⟨h1,λk e' hp=>?_,λk hp=>?_⟩,rfl⟩
 · have:=h.cost _ _ (.succ hp h2);omega
 · have:=h.len _ (.succ hp h2);omega
def Opt.ex {k:Nat}{a:α}{e:Nat}(h:Pth stp s0 k a e):∃ n c,Opt stp s0 n a c/\c<=e:=by
 obtain⟨c,⟨k1,h1⟩,h2⟩:=Eh (p:=λc=>∃ k,Pth stp s0 k a c) ⟨e,k,h⟩;obtain⟨n,h3,h4⟩:=Eh (p:=λn=>Pth stp s0 n a c) ⟨k1,h1⟩;exact⟨n,c,⟨h3,λk e' hp=>h2 e' ⟨k,hp⟩,λk hp=>h4 k hp⟩,h2 e ⟨k,h⟩⟩
def Opt.bound {le:α->α->Prop}{code:α->Nat}{N:Nat}(hr:∀ a,le a a)(ht:∀ {a b c},le a b->le b c->le a c)(hs:∀ {a b d},stp a b d->le a b)(hi:∀ {a b j k c d},Pth stp s0 j a c->Pth stp s0 k b d->le a b->code a=code b->a=b)(hN:∀ {k a c},Pth stp s0 k a c->code a<N){n:Nat}{a:α}{c:Nat}(h:Opt stp s0 n a c):n<N:=by
 have key:∀ n a c,Opt stp s0 n a c->∃ l:List α,l.length=n+1/\(∀ x∈l,le x a/\∃ k e,k<=n/\Opt stp s0 k x e)/\(l.map code).Nodup:=by
  intro n
  induction n with
  | zero=>exact λa c h=>⟨[a],rfl,λx hx=>by rw[AF.1 hx];exact⟨hr a,0,c,A5 _,h⟩,by simp⟩
  | succ n ih =>
   intro b c h;obtain⟨a,e,d,h1,h2,h3⟩:=h.pre;obtain⟨l,h4,h5,h6⟩:=ih a e h2;refine⟨b :: l,by simp[h4],λx hx=>?_,?_⟩
   ·rcases AX.1 hx with rfl | hx
    · exact⟨hr _,n+1,c,A5 _,h⟩
    ·obtain⟨h7,k,e',h8,h9⟩:=h5 x hx;exact⟨ht h7 (hs h1),k,e',by omega,h9⟩
   ·rw[Y4];refine List.nodup_cons.2 ⟨λhm=>?_,h6⟩;obtain⟨x,hx,hc⟩:=AJ.1 hm;obtain⟨h7,k,e',h8,h9⟩:=h5 x hx;have:=hi h9.pth h.pth (ht h7 (hs h1)) hc;subst this;have:=(h9.one h).1;omega
 obtain⟨l,h1,h2,h3⟩:=key n a c h;have:=nodup_bound N _ h3 λz hz=>by
  obtain⟨x,hx,rfl⟩:=AJ.1 hz;obtain⟨_,k,e,_,h4⟩:=h2 x hx;exact hN h4.pth
 rw[AQ]at this;omega
end
abbrev St5:=Nat × Nat × Nat
def DO (X Y:List UInt8)(r:Rl)(a:St5):Bool:=r.frm == (a.2.2:Int) && ((bts r.inp).isPrefixOf (X.drop a.1) && (bts r.out).isPrefixOf (Y.drop a.2.1))
def Dz (r:Rl)(a:St5):St5:=(a.1+r.inp.size,a.2.1+r.out.size,r.dst.toNat)
def FE (R:List Rl)(X Y:List UInt8)(a b:St5)(d:Nat):Prop:=∃ r∈R,DO X Y r a=true/\b=Dz r a/\d=r.cost.toNat
section
variable {R:List Rl} {X Y:List UInt8} {M:Nat}
def E4 (w M:Nat)(a:St5):Nat:=(a.1*w+a.2.1)*M+a.2.2
def E5 (w M i:Nat):St5:=(i / M / w,i / M % w,i % M)
def My {w M:Nat}{a:St5}(h1:a.2.1<w)(h2:a.2.2<M):E5 w M (E4 w M a)=a:=by
 obtain⟨i,o,m⟩:=a;simp only at h1 h2;unfold E4 E5;simp only;have e1:((i*w+o)*M+m) / M=i*w+o:=by rw[zW,xr (by omega),xm h2,zl]
 have e2:((i*w+o)*M+m) % M=m:=by rw[zW,Nat.mul_add_mod,xd h2]
 have e3:(i*w+o) / w=i:=by rw[zW,xr (by omega),xm h1,zl]
 have e4:(i*w+o) % w=o:=by rw[zW,Nat.mul_add_mod,xd h1]
 rw[e1,e2,e3,e4]
structure In5 (X Y:List UInt8)(M:Nat)(a:St5):Prop where
 i:a.1<=X.length
 o:a.2.1<=Y.length
 m:a.2.2<M
def Ji {p l:List UInt8}{k n:Nat}(h:p.isPrefixOf (l.drop k)=true)(hk:k<=l.length)(hn:p.length=n):k+n<=l.length:=by
 have:=(zq.1 h).length_le;rw[ZZ]at this;omega
def In5.go {a:St5}{r:Rl}(h:In5 X Y M a)(hr:DO X Y r a=true)(hd:r.dst.toNat<M):In5 X Y M (Dz r a):=by
 unfold DO at hr;simp only[Zg]at hr;exact⟨Ji hr.2.1 h.i (B5 _),Ji hr.2.2 h.o (B5 _),hd⟩
def In5.enc {a:St5}(h:In5 X Y M a):E4 (Y.length+1) M a<(X.length+1)*(Y.length+1)*M:=by
 obtain⟨i,o,m⟩:=a;obtain⟨h1,h2,h3⟩:=h;simp only at h1 h2 h3;unfold E4;simp only;have h4:i*(Y.length+1)+o<(X.length+1)*(Y.length+1):=by
  have:i*(Y.length+1)<=X.length*(Y.length+1):=ZM _ h1;rw[zp];omega
 have h5:(i*(Y.length+1)+o+1)*M<=(X.length+1)*(Y.length+1)*M:=ZM _ h4;rw[zp]at h5;omega
def GT (hM:0<M)(hR:∀ r∈R,r.dst.toNat<M){n:Nat}{a:St5}{c:Nat}(h:Pth (FE R X Y) (0,0,0) n a c):In5 X Y M a:=by
 induction h with
 | zero=>exact⟨Ze _,Ze _,hM⟩
 | succ _ hs ih =>
  obtain⟨r,hr,h1,rfl,_⟩:=hs;exact ih.go h1 (hR r hr)
def Uj (hM:0<M)(hR:∀ r∈R,r.dst.toNat<M){n:Nat}{a:St5}{c:Nat}(h:Opt (FE R X Y) (0,0,0) n a c):n<(X.length+Y.length+1)*M:=by
 refine Opt.bound (le:=λa b=>a.1<=b.1/\a.2.1<=b.2.1) (code:=λa=>(a.1+a.2.1)*M+a.2.2) (λa=>⟨A5 _,A5 _⟩) (λh1 h2=>⟨by omega,by omega⟩) (λhs=>?_) (λ{a b _ _ _ _} ha hb hl hc=>?_) (λhp=>?_) h
 ·obtain⟨r,_,_,rfl,_⟩:=hs;exact⟨z8 _ _,z8 _ _⟩
 ·have h1:=(GT hM hR ha).m;have h2:=(GT hM hR hb).m;obtain⟨i,o,m⟩:=a;obtain⟨i',o',m'⟩:=b;simp only at hl hc h1 h2;have e1:((i+o)*M+m) / M=i+o:=by rw[zW,xr hM,xm h1,zl]
  have e2:((i'+o')*M+m') / M=i'+o':=by rw[zW,xr hM,xm h2,zl]
  rw[hc,e2]at e1;have e3:i=i':=by omega
  have e4:o=o':=by omega
  subst e3;subst e4;have e5:m=m':=by omega
  rw[e5]
 ·obtain⟨h2,h3,h4⟩:=GT hM hR hp;have h5:(_+_+1)*M<=(X.length+Y.length+1)*M:=ZM M (Nat.succ_le_succ (Nat.add_le_add h2 h3));rw[zp]at h5;omega
structure Tb (R:List Rl)(X Y:List UInt8)(M:Nat)(F:List Int):Prop where
 len:F.length=(X.length+1)*(Y.length+1)*M
 snd:∀ i (h:i<F.length),F[i] = -1\/0<=F[i]/\∃ n,Pth (FE R X Y) (0,0,0) n (E5 (Y.length+1) M i) F[i].toNat
 start:∀ h:0<F.length,F[0]=0
def Le5 (F:List Int)(k c:Nat):Prop:=∃ x:Int,F[k]? = some x/\0<=x/\x<=(c:Int)
def Gd5 (R:List Rl)(X Y:List UInt8)(M t:Nat)(F:List Int):Prop:=∀ n a c,Opt (FE R X Y) (0,0,0) n a c->n<=t->Le5 F (E4 (Y.length+1) M a) c
def Ps5 (R:List Rl)(X Y:List UInt8)(M t i:Nat)(F:List Int):Prop:=∀ n a c b d,Opt (FE R X Y) (0,0,0) n a c->n<=t->E4 (Y.length+1) M a<i->FE R X Y a b d->Le5 F (E4 (Y.length+1) M b) (c+d)
def Pr5 (R:List Rl)(X Y:List UInt8)(M i k:Nat)(F:List Int):Prop:=∀ x:Int,F[i]? = some x->∀ j (h:j<R.length),j<k->DO X Y R[j] (E5 (Y.length+1) M i)=true->Le5 F (E4 (Y.length+1) M (Dz R[j] (E5 (Y.length+1) M i))) (x.toNat+R[j].cost.toNat)
def Dn5 (F G:List Int):Prop:=G.length=F.length/\∀ k c,Le5 F k c->Le5 G k c
def Dn5.refl (F:List Int):Dn5 F F:=⟨rfl,λ_ _ h=>h⟩
def Dn5.trans {F G H:List Int}(h:Dn5 F G)(h2:Dn5 G H):Dn5 F H:=⟨h2.1.trans h.1,λk c hk=>h2.2 k c (h.2 k c hk)⟩
def Gd5.dn {t:Nat}{F G:List Int}(h:Gd5 R X Y M t F)(hd:Dn5 F G):Gd5 R X Y M t G:=λn a c ho hn=>hd.2 _ _ (h n a c ho hn)
def Ps5.dn {t i:Nat}{F G:List Int}(h:Ps5 R X Y M t i F)(hd:Dn5 F G):Ps5 R X Y M t i G:=λn a c b d ho hn hi hs=>hd.2 _ _ (h n a c b d ho hn hi hs)
def Le5.up {F:List Int}{k c d:Nat}(h:Le5 F k c)(hc:c<=d):Le5 F k d:=by
 obtain⟨x,h1,h2,h3⟩:=h;exact⟨x,h1,h2,by omega⟩
def Uk (hM:0<M){F:List Int}(hF:F=(ZB ((X.length+1)*(Y.length+1)*M) (-1)).set 0 0):Tb R X Y M F:=by
 subst hF;refine⟨by simp,λi h=>?_,λh=>by rw[XU]⟩;by_cases e:i=0
 ·subst e;rw[XU];refine .inr ⟨by decide,0,?_⟩;have:E5 (Y.length+1) M 0=(0,0,0):=by unfold E5;simp
  rw[this];exact .zero
 ·rw[List.getElem_set_ne (Ne.symm e)];simp
def Ul (hM:0<M){F:List Int}(hF:F=(ZB ((X.length+1)*(Y.length+1)*M) (-1)).set 0 0):Gd5 R X Y M 0 F:=λn a c ho hn=>by
 obtain rfl:n=0:=by omega
 have hp:=ho.pth;cases hp;have hN:0<(X.length+1)*(Y.length+1)*M:=Nat.mul_pos (Nat.mul_pos (Nat.succ_pos _) (Nat.succ_pos _)) hM;refine⟨0,?_,by decide,by decide⟩;subst hF;unfold E4;simp only[Nat.zero_mul,zl];rw[xg (by simpa using hN)]
def LJ (F:List Int)(i k:Nat)(d:Int):List Int:=if F.getD k 0<0\/F.getD i 0+d<F.getD k 0 then F.set k (F.getD i 0+d) else F
def Vr {F:List Int}{i k:Nat}{d:Int}(h0:0<=F.getD i 0+d):Dn5 F (LJ F i k d):=by
 unfold LJ;split
 ·rename_i hc;refine⟨ZD,λq c hq=>?_⟩;obtain⟨x,h1,h2,h3⟩:=hq;by_cases e:k=q
  ·subst e;have hk:k<F.length:=(Zh.1 h1).1;rw[AS,h1]at hc;simp only[Xh]at hc;exact⟨_,xg hk,h0,by omega⟩
  · exact⟨x,by rw[Xy e];exact h1,h2,h3⟩
 · exact Dn5.refl F
def Vt {F:List Int}{i k:Nat}{d:Int}(hk:k<F.length)(h0:0<=F.getD i 0+d):Le5 (LJ F i k d) k (F.getD i 0+d).toNat:=by
 unfold LJ;split
 · exact⟨_,xg hk,h0,by omega⟩
 ·rename_i hc;refine⟨F.getD k 0,?_,by omega,by omega⟩;rw[AS,AC hk];rfl
def TO {F:List Int}{i k:Nat}{d:Int}(hi:i<F.length)(h0:0<=F.getD i 0)(hd:0<=d):(LJ F i k d)[i]? = F[i]?:=by
 unfold LJ;split
 ·rename_i hc;by_cases e:k=i
  · subst e;omega
  · rw[Xy e]
 · rfl
def rel_tb (hM:0<M)(hf:Ej R)(hR:∀ r∈R,r.dst.toNat<M){F:List Int}(h:Tb R X Y M F){i:Nat}(hi:i<F.length)(h0:0<=F[i]){r:Rl}(hr:r∈R)(hb:DO X Y r (E5 (Y.length+1) M i)=true) :
  E4 (Y.length+1) M (Dz r (E5 (Y.length+1) M i))<F.length/\Tb R X Y M (LJ F i (E4 (Y.length+1) M (Dz r (E5 (Y.length+1) M i))) r.cost):=by
 have hc:=(Bd.1 (hf r hr)).2.2.2.2.2.1;obtain⟨n,hp⟩:=((h.snd i hi).resolve_left (by omega)).2;have jf:=GT hM hR hp;have jb:=jf.go hb (hR r hr);have ja:E4 (Y.length+1) M (Dz r (E5 (Y.length+1) M i))<F.length:=by rw[h.len];exact jb.enc
 have je:F.getD i 0=F[i]:=by rw[AS,AC hi];rfl
 have jg:Pth (FE R X Y) (0,0,0) (n+1) (Dz r (E5 (Y.length+1) M i)) (F[i].toNat+r.cost.toNat):=.succ hp ⟨r,hr,hb,rfl,rfl⟩;refine⟨ja,?_⟩;generalize hk:E4 (Y.length+1) M (Dz r (E5 (Y.length+1) M i))=k at ja;have jd:E5 (Y.length+1) M k=Dz r (E5 (Y.length+1) M i):=by rw[<- hk];exact My (Nat.lt_succ_of_le jb.o) jb.m
 unfold LJ;rw[je];split
 ·rename_i jc;refine⟨by rw[ZD];exact h.len,λj hj=>?_,λhj=>?_⟩
  ·by_cases e:k=j
   ·subst e;rw[XU];refine .inr ⟨by omega,n+1,?_⟩;rw[jd,show(F[i]+r.cost).toNat=F[i].toNat+r.cost.toNat by omega];exact jg
   ·rw[List.getElem_set_ne e];exact h.snd j (by simpa using hj)
  ·by_cases e:k=0
   ·subst e;have h2:=h.start ja;rw[AS,AC ja]at jc;simp only[Xh]at jc;omega
   ·rw[List.getElem_set_ne e];exact h.start (by simpa using hj)
 · exact h
def GB (X Y:List UInt8)(M i:Nat)(F:List Int)(r:Rl):List Int:=if DO X Y r (E5 (Y.length+1) M i)=true then LJ F i (E4 (Y.length+1) M (Dz r (E5 (Y.length+1) M i))) r.cost else F
def getD_at {F:List Int}{i:Nat}(hi:i<F.length):F.getD i 0=F[i]:=by rw[AS,AC hi];rfl
def Vu (hM:0<M)(hf:Ej R)(hR:∀ r∈R,r.dst.toNat<M){F:List Int}(h:Tb R X Y M F){i:Nat}(hi:i<F.length)(h0:0<=F[i]){k:Nat}(hk:k<R.length)(hp:Pr5 R X Y M i k F) :
  Tb R X Y M (GB X Y M i F R[k])/\Dn5 F (GB X Y M i F R[k])/\(GB X Y M i F R[k])[i]? = F[i]?/\Pr5 R X Y M i (k+1) (GB X Y M i F R[k]):=by
 have hr:R[k]∈R:=AI hk;have hc:=(Bd.1 (hf _ hr)).2.2.2.2.2.1;unfold GB;by_cases hb:DO X Y R[k] (E5 (Y.length+1) M i)=true
 ·rw[if_pos hb];obtain⟨jc,jd⟩:=rel_tb hM hf hR h hi h0 hr hb;have hs:=TO (k:=E4 (Y.length+1) M (Dz R[k] (E5 (Y.length+1) M i))) hi (by rw[getD_at hi];exact h0) hc;have hd:=Vr (F:=F) (i:=i) (k:=E4 (Y.length+1) M (Dz R[k] (E5 (Y.length+1) M i))) (d:=R[k].cost) (by rw[getD_at hi];omega);refine⟨jd,hd,hs,λx hx j hj jb ja=>?_⟩;rw[hs]at hx;by_cases e:j<k
  · exact hd.2 _ _ (hp x hx j hj e ja)
  ·obtain rfl:j=k:=by omega
   have hl:=Vt (F:=F) (i:=i) (d:=R[j].cost) jc (by rw[getD_at hi];omega);rw[getD_at hi]at hl;rw[AC hi]at hx;cases hx;exact hl.up (by omega)
 ·rw[if_neg hb];refine⟨h,Dn5.refl F,rfl,λx hx j hj jb ja=>?_⟩;by_cases e:j<k
  · exact hp x hx j hj e ja
  ·obtain rfl:j=k:=by omega
   exact absurd ja hb
def Pr5.zero {i:Nat}{F:List Int}:Pr5 R X Y M i 0 F:=λ_ _ _ _ h=>absurd h (Xj _)
def Ps5.zero {t:Nat}{F:List Int}:Ps5 R X Y M t 0 F:=λ_ _ _ _ _ _ _ h=>absurd h (Xj _)
def Ps5.next (hM:0<M)(hR:∀ r∈R,r.dst.toNat<M){t i:Nat}{F:List Int}(hg:Gd5 R X Y M t F)(hp:Ps5 R X Y M t i F)(h:∀ x:Int,F[i]? = some x->0<=x->Pr5 R X Y M i R.length F):Ps5 R X Y M t (i+1) F:=λn a c b d ho hn hi hs=>by
 by_cases e:E4 (Y.length+1) M a<i
 · exact hp n a c b d ho hn e hs
 ·have e2:E4 (Y.length+1) M a=i:=by omega
  have jb:=GT hM hR ho.pth;have ja:E5 (Y.length+1) M i=a:=by rw[<- e2];exact My (Nat.lt_succ_of_le jb.o) jb.m
  obtain⟨x,h1,h2,h3⟩:=hg n a c ho hn;rw[e2]at h1;obtain⟨r,hr,hb,rfl,rfl⟩:=hs;obtain⟨j,hj,rfl⟩:=ZH.1 hr;have h4:=h x h1 h2 x h1 j hj hj (by rw[ja];exact hb);rw[ja]at h4;exact h4.up (by omega)
def Gd5.next (hM:0<M)(hR:∀ r∈R,r.dst.toNat<M){t:Nat}{F:List Int}(hg:Gd5 R X Y M t F)(hl:F.length=(X.length+1)*(Y.length+1)*M)(hp:Ps5 R X Y M t F.length F):Gd5 R X Y M (t+1) F:=λn b c ho hn=>by
 cases n with
 | zero=>exact hg 0 b c ho (Ze _)
 | succ n =>
  obtain⟨a,e,d,hs,ja,rfl⟩:=ho.pre;exact hp n a e b d ja (by omega) (by rw[hl];exact(GT hM hR ja.pth).enc) hs
noncomputable def EQ (R:List Rl)(X Y:List UInt8)(a:St5):Int:=match Hx (λc=>∃ n,Pth (FE R X Y) (0,0,0) n a c) with
 | some c=>(c:Int)
 | none=>-1
def Tb.val (hM:0<M)(hR:∀ r∈R,r.dst.toNat<M){F:List Int}(h:Tb R X Y M F)(hg:Gd5 R X Y M ((X.length+Y.length+1)*M) F){a:St5}(ha:In5 X Y M a):F[E4 (Y.length+1) M a]? = some (EQ R X Y a):=by
 have ja:E4 (Y.length+1) M a<F.length:=by rw[h.len];exact ha.enc
 have jc:E5 (Y.length+1) M (E4 (Y.length+1) M a)=a:=My (Nat.lt_succ_of_le ha.o) ha.m;have jb:=h.snd _ ja;rw[jc]at jb;rw[AC ja];congr 1;unfold EQ;cases hl:Hx (λc=>∃ n,Pth (FE R X Y) (0,0,0) n a c) with
 | some c =>
  have hc:=D1.1 hl;obtain⟨k,hk⟩:=hc.1;obtain⟨n,c',ho,jd⟩:=Opt.ex hk;have e:c'=c:=xq jd (hc.2 _ ⟨n,ho.pth⟩);subst e;obtain⟨x,h1,h2,h3⟩:=hg n a c' ho (Nat.le_of_lt (Uj hM hR ho));rw[AC ja]at h1;cases h1;rcases jb with h4 | ⟨h4,m,h5⟩
  · omega
  ·have:=ho.cost _ _ h5;show _=(c':Int);omega
 | none =>
  rcases jb with h4 | ⟨h4,m,h5⟩
  · exact h4
  ·exfalso;obtain⟨c,hc⟩:=Eh (p:=λc=>∃ n,Pth (FE R X Y) (0,0,0) n a c) ⟨_,m,h5⟩;rw[D1.2 hc]at hl;cases hl
def FX (acc:Int)(f:Nat->Int):Nat->Int
 | 0=>-1
 | k+1=>if CL acc k=true/\0<=f k/\(FX acc f k<0\/f k<FX acc f k) then f k else FX acc f k
def bst_ok {acc:Int}{f:Nat->Int}:∀ k,(FX acc f k = -1/\∀ m,m<k->CL acc m=true->f m<0)\/(0<=FX acc f k/\(∃ m,m<k/\CL acc m=true/\f m=FX acc f k)/\∀ m,m<k->CL acc m=true->0<=f m->FX acc f k<=f m)
 | 0=>.inl ⟨rfl,λm h=>absurd h (Xj m)⟩
 | k
   +
    1
     => by
  have ih:=bst_ok (acc:=acc) (f:=f) k;rw[FX];by_cases hc:CL acc k=true/\0<=f k/\(FX acc f k<0\/f k<FX acc f k)
  ·rw[if_pos hc];refine .inr ⟨hc.2.1,⟨k,by omega,hc.1,rfl⟩,λm hm ha h0=>?_⟩;by_cases e:m=k
   · subst e;exact Int.le_refl _
   ·rcases ih with⟨h1,h2⟩ | ⟨h1,h2,h3⟩
    · have:=h2 m (by omega) ha;omega
    ·have:=h3 m (by omega) ha h0;omega
  ·rw[if_neg hc];rcases ih with⟨h1,h2⟩ | ⟨h1,⟨m0,h2,h4,h5⟩,h3⟩
   ·refine .inl ⟨h1,λm hm ha=>?_⟩;by_cases e:m=k
    ·subst e;exact Int.lt_of_not_ge λh=>hc ⟨ha,h,.inl (by omega)⟩
    · exact h2 m (by omega) ha
   ·refine .inr ⟨h1,⟨m0,by omega,h4,h5⟩,λm hm ha h0=>?_⟩;by_cases e:m=k
    ·subst e;exact Int.le_of_not_gt λh=>hc ⟨ha,h0,.inr h⟩
    · exact h3 m (by omega) ha h0
noncomputable def FY (R:List Rl)(acc:Int)(M:Nat)(X Y:List UInt8):Int:=FX acc (λm=>EQ R X Y (X.length,Y.length,m)) M
def Mz {a:St5}{c:Nat}:EQ R X Y a=(c:Int)↔BX (λc=>∃ n,Pth (FE R X Y) (0,0,0) n a c) c:=by
 unfold EQ;cases hl:Hx (λc=>∃ n,Pth (FE R X Y) (0,0,0) n a c) with
 | some d =>
  have hd:=D1.1 hl;constructor
  ·intro h;have e:d=c:=by have h':(d:Int)=(c:Int):=h;omega
   exact e ▸ hd
  ·intro h;show(d:Int)=_;rw[J4 hd h]
 | none =>
  constructor
  ·intro h;have h':(-1:Int)=(c:Int):=h;omega
  ·intro h;rw[D1.2 h]at hl;cases hl
def Um {a:St5}:EQ R X Y a<0↔∀ n c,¬ Pth (FE R X Y) (0,0,0) n a c:=by
 constructor
 ·intro h n c hp;obtain⟨d,hd⟩:=Eh (p:=λc=>∃ n,Pth (FE R X Y) (0,0,0) n a c) ⟨c,n,hp⟩;have:=Mz.2 hd;omega
 ·intro h;unfold EQ;cases hl:Hx (λc=>∃ n,Pth (FE R X Y) (0,0,0) n a c) with
  | some d=>obtain⟨n,hn⟩:=(D1.1 hl).1;exact absurd hn (h n d)
  | none=>show(-1:Int)<0;decide
def TP {c:UInt8}:Hl [(⟨c,0⟩:Ch)] c=some 0:=by simp[Hl]
def Gi:∀ (Z r:List UInt8),letsC (Gq Z) r=if r.isPrefixOf Z then some 0 else none
 | [],[]=>rfl
 | [],_ :: _=>rfl
 | _ :: _,[]=>rfl
 | z
   :: Z,c :: r=>by
  have ih:=Gi Z r;unfold Gq at ih;simp only[Gq,Y4,letsC,List.isPrefixOf,Zg,beq_iff_eq];by_cases e:c=z
  ·subst e;rw[TP];simp only[ih];by_cases h:r.isPrefixOf Z=true
   · simp[h]
   · simp[h]
  ·have:Hl [(⟨z,0⟩:Ch)] c=none:=by simp[Hl,Ne.symm e]
   rw[this,if_neg (λh=>e h.1)]
def J7 (Z:List UInt8)(i:Nat):(Gq Z).drop i=Gq (Z.drop i):=by simp[Gq,List.map_drop]
def rts_pth (hf:Ej R){i m c:Nat}{o:List UInt8}(h:RtS R (Gq X) i m o c):∀ Z,Y=o ++ Z->∃ n,Pth (FE R X Y) (0,0,0) n (i,o.length,m) c:=by
 induction h with
 | start=>exact λZ _=>⟨0,.zero⟩
 | @step i m o c k r h0 hr hfr hm hk ih =>
  intro Z hY;obtain⟨n,hn⟩:=ih (bts r.out ++ Z) (by rw[hY,Zw]);rw[J7,Gi]at hk;by_cases hp:(bts r.inp).isPrefixOf (X.drop i)=true
  ·rw[if_pos hp]at hk;cases hk;refine⟨n+1,?_⟩;have hs:FE R X Y (i,o.length,m) (Dz r (i,o.length,m)) r.cost.toNat:=⟨r,hr,by
    unfold DO;simp only[Zg,beq_iff_eq];refine⟨hm,hp,?_⟩;rw[hY,Zw,List.drop_left' rfl];exact zq.2 ⟨Z,rfl⟩,rfl,rfl⟩
   have h2:=Pth.succ hn hs;unfold Dz at h2;simp only at h2;rw[AD,B5];exact h2
  · rw[if_neg hp]at hk;cases hk
def Un (hf:Ej R){n:Nat}{a:St5}{c:Nat}(h:Pth (FE R X Y) (0,0,0) n a c):RtS R (Gq X) a.1 a.2.2 (Y.take a.2.1) c/\a.2.1<=Y.length:=by
 induction h with
 | zero=>exact⟨.start,Ze _⟩
 | @succ n a b c d h0 hs ih =>
  obtain⟨r,hr,hb,rfl,rfl⟩:=hs;unfold DO at hb;simp only[Zg,beq_iff_eq]at hb;obtain⟨h1,h2,h3⟩:=hb;have hl:=Ji h3 ih.2 (B5 _);refine⟨?_,hl⟩;have h4:=RtS.step (k:=0) ih.1 hr (hf r hr) h1 (by rw[J7,Gi,if_pos h2]);have h5:Y.take a.2.1 ++ bts r.out=Y.take (a.2.1+r.out.size):=by
   obtain⟨Z,hZ⟩:=zq.1 h3;rw[List.take_add,<- hZ,<- B5 r.out,List.take_left' rfl]
  rw[h5]at h4;exact h4
def Vv (hf:Ej R){acc:Int}{c:Nat}:Whole R acc (Gq X) X.length Y c↔∃ m,CL acc m=true/\∃ n,Pth (FE R X Y) (0,0,0) n (X.length,Y.length,m) c:=by
 constructor
 ·rintro⟨m,ha,h⟩;exact⟨m,ha,rts_pth hf h [] (by simp)⟩
 ·rintro⟨m,ha,n,h⟩;have h2:=(Un hf h).1;simp only[zg]at h2;exact⟨m,ha,h2⟩
def MB (hM:0<M)(hf:Ej R)(hR:∀ r∈R,r.dst.toNat<M){acc:Int}{c:Nat}:FY R acc M X Y=(c:Int)↔BX (Whole R acc (Gq X) X.length Y) c:=by
 have hw:∀ d,Whole R acc (Gq X) X.length Y d↔∃ m,m<M/\CL acc m=true/\∃ n,Pth (FE R X Y) (0,0,0) n (X.length,Y.length,m) d:=λd=>by
  rw[Vv hf];exact⟨λ⟨m,ha,n,h⟩=>⟨m,(GT hM hR h).m,ha,n,h⟩,λ⟨m,_,ha,h⟩=>⟨m,ha,h⟩⟩
 unfold FY;rcases bst_ok (acc:=acc) (f:=λm=>EQ R X Y (X.length,Y.length,m)) M with⟨h1,h2⟩ | ⟨h1,⟨m0,h2,h4,h5⟩,h3⟩
 ·rw[h1];constructor
  · intro h;omega
  ·intro h;obtain⟨m,hm,ha,n,hn⟩:=(hw c).1 h.1;exact absurd hn (Um.1 (h2 m hm ha) n c)
 ·obtain⟨b,hb⟩:∃ b:Nat,FX acc (λm=>EQ R X Y (X.length,Y.length,m)) M=(b:Int):=⟨_,(Int.toNat_of_nonneg h1).symm⟩
  rw[hb]at h5 h3 ⊢;have hv:=Mz.1 h5;have hL:BX (Whole R acc (Gq X) X.length Y) b:=by
   refine⟨(hw b).2 ⟨m0,h2,h4,hv.1⟩,λd hd=>?_⟩;obtain⟨m,hm,ha,n,hn⟩:=(hw d).1 hd;obtain⟨e,he⟩:=Eh (p:=λc=>∃ n,Pth (FE R X Y) (0,0,0) n (X.length,Y.length,m) c) ⟨d,n,hn⟩;have h6:=Mz.2 he;have h7:=h3 m hm ha (by show(0:Int)<=EQ R X Y (X.length,Y.length,m);rw[h6];omega);have h8:(b:Int)<=EQ R X Y (X.length,Y.length,m):=h7;rw[h6]at h8;have:=he.2 d ⟨n,hn⟩;omega
  constructor
  ·intro h;have e:b=c:=by omega
   exact e ▸ hL
  ·intro h;rw[J4 hL h]
end
def PS (s:Slt)(a:Option Zj)(c:Nat)(w:Z0)(hA:EC w a (chA s))(hl:s.length<=9223372036854775807) :
  Zu Z1 72 #[aG a s.length c] w λe w'=>e=aP (aH (!okS s))/\Below w.heap.size w w':=by
 have hv:=vslot_any s a c w hA hl;have HV:=A0 hv;clear hA hv
 go_enter Tryz.func72,Tryz.ntmps72
 go_wp2_with fail
 refine HV.out.mono ?_;rintro e w1 ⟨rfl,hb⟩;have HB:=A0 hb;clear hb;obtain⟨r,hr⟩:∃ r,okS s=r:=⟨_,rfl⟩
 rw[hr];have HR:=A0 hr;clear hr;cases r with
 | true =>
  go_wp2_with fail
  go_ret;exact⟨Ad (by rw[HR.out];rfl),HB.out⟩
 | false =>
  go_wp2_with fail
  go_ret;exact⟨Ad (by rw[HR.out];rfl),HB.out⟩
def idx_valid_any (L:List Slt)(a:Option Zj)(cap:Nat)(w:Z0)(hX:CI w a L)(hl:L.length<=9223372036854775807) :
  Zu Z1 100 #[aG a L.length cap,.func (.func 72) #[] #[]] w λe w'=>(∃ i:Int,e=aP (aA aM i)/\decide (0<=i)=!L.all okS)/\Below w.heap.size w w':=by
 have HX:=A0 hX;clear hX
 go_enter Tryz.func100,Tryz.ntmps100
 go_wp2
 go_loopg [8] L.length (λg v8 wr=>∃ j:Nat,v8=aA aM (j:Int)/\j<=L.length/\g=L.length - j/\(L.take j).all okS=true/\Below w.heap.size w wr)
 case atStart=>exact⟨0,rfl,Ze _,rfl,rfl,Z2 _ _⟩
 case round =>
  obtain⟨j,rfl,hj,jg,ht,hB⟩:=hrel;have HT:=A0 ht;have HB:=A0 hB;have ji:=A0 jg;clear ht hB jg;by_cases jb:j<L.length
  ·obtain⟨b1,o1,jf,hb1,aa,cc,q0,jh,ja⟩:=(HX.out.later HB.out (A5 _)).at jb;have hi1:=Il a b1 o1 L.length cap j jf jb;have hv:=PS L[j] aa cc wr ja jh;have je:Hid (L.take (j+1)=L.take j ++ [L[j]]):=AR jb;have jd:Hid (L[j]∈L):=AI jb;obtain⟨s,hs⟩:∃ s,L[j]=s:=⟨_,rfl⟩
   rw[hs]at hv q0 je jd;have HV:=A0 hv;clear jf hs ja hv jh
   go_wp2_with fail
   refine HV.out.mono ?_;rintro e w1 ⟨rfl,hb⟩;have jc:Hid (Below w.heap.size w w1):=HB.out.trans (hb.mono HB.out.size);clear hb;obtain⟨r,hr⟩:∃ r,okS s=r:=⟨_,rfl⟩
   rw[hr];have HR:=A0 hr;clear hr;cases r with
   | false =>
    have HN:Hid (L.all okS=false):=by
     show _=_;cases e:L.all okS with
     | false=>rfl
     | true=>have:=Zr.1 e s jd.out;rw[HR.out]at this;cases this
    go_wp2_with fail
    go_ret;exact⟨⟨_,rfl,by rw[HN.out];simp⟩,jc.out⟩
   | true =>
    go_wp2_with fail
    go_roundg (L.length - (j+1))
    case measure=>have:=ji.out;omega
    case rel=>exact⟨j+1,by go_num,by omega,rfl,by rw[je.out,List.all_append,HT.out];simp[HR.out],jc.out⟩
  ·have HN:Hid (L.all okS=true):=by
    have h:=HT.out;rw[AH (by omega)]at h;exact h
   go_wp2_with fail
   go_ret;exact⟨⟨_,rfl,by rw[HN.out];rfl⟩,HB.out⟩
def Kf (L:List Slt)(a:Option Zj)(cap:Nat)(w:Z0)(hX:CI w a L)(hl:L.length<=9223372036854775807) :
  Zu Z1 71 #[aG a L.length cap,.func (.func 72) #[] #[]] w λe w'=>e=aP (aH (!L.all okS))/\Below w.heap.size w w':=by
 have hv:=idx_valid_any L a cap w hX hl;have HV:=A0 hv;clear hX hv
 go_enter Tryz.func71,Tryz.ntmps71
 go_wp2_with fail
 refine HV.out.mono ?_;rintro e w1 ⟨⟨i,rfl,hi⟩,hb⟩;have HB:=A0 hb;have HI:=A0 hi;clear hb hi
 go_wp2_with fail
 go_ret;exact⟨Ad HI.out,HB.out⟩
def PT (L:List Slt)(a:Option Zj)(cap:Nat)(w:Z0)(hX:CI w a L)(hl:L.length<=9223372036854775807) :
  Zu Z1 41 #[aG a L.length cap] w λe w'=>e=aP (aH (validB L))/\Below w.heap.size w w':=by
 have hv:=Kf L a cap w hX hl;have HV:=A0 hv;clear hX hv;by_cases h40:40<L.length
 ·have ja:(40:Int)<(L.length:Int):=by omega
  have HR:Hid (validB L=false):=by show _=_;unfold validB;simp;omega
  go_enter Tryz.func41,Tryz.ntmps41
  go_wp2_with fail
  go_ret;exact⟨Ad HR.out.symm,Z2 _ _⟩
 ·have ja:¬ (40:Int)<(L.length:Int):=by omega
  have HR:Hid (validB L=L.all okS):=by show _=_;unfold validB;rw[decide_eq_true (by omega)];rfl
  go_enter Tryz.func41,Tryz.ntmps41
  go_wp2_with fail
  refine HV.out.mono ?_;rintro e w1 ⟨rfl,hb⟩;have HB:=A0 hb;clear hb;obtain⟨r,hr⟩:∃ r,L.all okS=r:=⟨_,rfl⟩
  have jb:Hid (validB L=r):=HR.out.trans hr;rw[hr];clear hr HV HR;cases r with
  | true =>
   go_wp2_with fail
   go_ret;exact⟨Ad jb.out.symm,HB.out⟩
  | false =>
   go_wp2_with fail
   go_ret;exact⟨Ad jb.out.symm,HB.out⟩
def B6 {w:Z0}{g:Nat}{m a:Int}{b:Option Zj}{n c:Nat}(h:w.heap[g]? = some (aK #[aA aM m,aA aO a,aG b n c] 33 (0,0))) :
  w.cell? ⟨g,0,none⟩=some (aA aM m)/\w.cell? ⟨g,1,none⟩=some (aA aO a)/\w.cell? ⟨g,2,none⟩=some (aG b n c):=by
 refine⟨?_,?_,?_⟩ <;> (rw[Z3 w g _ _ _ (0,0) h];rfl)
def Vw (w:Z0)(a:Option Zj)(l:List (Nat × Nat)):Prop:=∀ k (hk:k<l.length),∃ b o,a=some ⟨b,o,none⟩/\b<w.heap.size/\w.cell? ⟨b,o+k*2,none⟩=some (aA aM (l[k].1:Int))/\w.cell? ⟨b,o+k*2+1,none⟩=some (aA aM (l[k].2:Int))
def Vw.at {w:Z0}{a:Option Zj}{l:List (Nat × Nat)}(h:Vw w a l){k:Nat}(hk:k<l.length):∃ b o,a=some ⟨b,o,none⟩/\b<w.heap.size/\w.cell? ⟨b,o+k*2,none⟩=some (aA aM (l[k].1:Int))/\w.cell? ⟨b,o+k*2+1,none⟩=some (aA aM (l[k].2:Int)):=h k hk
def Af.fnds {w:Z0}{B:Nat}{a:Option Zj}{n c:Nat}{L:List (Nat × Nat)}(h:Af CZ w B (aG a n c) L):Vw w a L/\n=L.length/\L.length<=c:=by
 obtain⟨a',c',he,hc,_⟩:=h.form;injection he with e1 e2 e3;refine⟨λk hk=>?_,e2,by omega⟩;rcases h.blk with⟨_,rfl⟩ | ⟨g,c2,ja,_,hg,_⟩
 · simp at hk
 ·injection ja with f1 f2 f3;subst f1;refine⟨g,0,rfl,hg,?_,?_⟩
  ·have:=h.cell Io hk (j:=0) (by decide);simpa[CZ] using this
  ·have:=h.cell Io hk (j:=1) (by decide);simpa[CZ] using this
def QP (a:Option Zj)(b o len cap k:Nat)(ha:a=some ⟨b,o,none⟩)(hk:k<len)(w:Z0) :
  (ZK 72 (aG a len cap) (aA aM (k:Int))).run Z1 w=.ok (aB (some ⟨b,o+k*2,none⟩)) w:=by
 subst ha;have h0:(0:Int)<=(k:Int):=by omega
 have h1:(k:Int)<(len:Int):=by omega
 simp[go_sem,h0,h1]
structure G2 (w:Z0)(S:Sch)(b:Option Zj)(c:Nat):Prop where
 fair:Ej S.rules
 mo:∀ r∈S.rules,r.frm<S.modes/\r.dst<S.modes
 m0:1<=S.modes
 m8:S.modes<=8
 a0:0<=S.acc
 a1:S.acc<=255
 len:S.rules.length<=64
 out:∀ r∈S.rules,r.out.size<=1000
 cap:S.rules.length<=c
 rul:BC w b S.rules
def G2.go {w w1:Z0}{S:Sch}{b:Option Zj}{c:Nat}(h:G2 w S b c)(hb:Below w.heap.size w w1):G2 w1 S b c :=
 ⟨h.fair,h.mo,h.m0,h.m8,h.a0,h.a1,h.len,h.out,h.cap,h.rul.later hb (A5 _)⟩
def Kg {S:Sch}(h:Fl.validB S=true){r:Rl}(hr:r∈S.rules):DB S.modes r=true:=by
 obtain⟨i,hi,rfl⟩:=ZH.1 hr;have hv:=((Fy S).1 h).2 i hi hi;unfold CW at hv;rw[Zg]at hv;exact hv.1
def GU {m:Int}{r:Rl}(h:DB m r=true):0<=r.frm/\r.frm<m/\0<=r.dst/\r.dst<m/\r.inp.size<=4/\r.out.size<=4/\0<=r.cost/\r.cost<=1000:=by
 unfold DB at h;simp only[Zg,decide_eq_true_eq]at h;obtain⟨h1,h2,h3,h4,h5,h6,h7,h8,h9,ja⟩:=h;exact⟨h1,h2,h3,h4,by omega,by omega,h9,ja⟩
def G2.of_valid {w:Z0}{S:Sch}{b:Option Zj}{c:Nat}(hv:Fl.validB S=true)(ha:0<=S.acc)(ja:S.acc<=255)(hc:S.rules.length<=c)(hr:BC w b S.rules):G2 w S b c:=by
 have hf:=Hv hv ha ja;have h1:=hf.m0;have h2:=hf.m1;refine⟨λr hr=>?_,λr hr=>?_,by omega,by omega,ha,ja,hf.len,λr hr=>?_,hc,hr⟩
 ·have h:=GU (Kg hv hr);exact Bd.2 ⟨h.1,by omega,h.2.2.1,by omega,h.2.2.2.2.1,h.2.2.2.2.2.2.1,h.2.2.2.2.2.2.2⟩
 · have h:=GU (Kg hv hr);exact⟨h.2.1,h.2.2.2.1⟩
 · have h:=GU (Kg hv hr);omega
structure FF (w:Z0)(a:Option Zj)(c:Nat)(L:List Slt):Prop where
 s:CI w a L
 ha:(∀ b,a=some b->∃ b' o',b=⟨b',o',none⟩)/\(a=none->L=[])
 cap:L.length<=c
 len:L.length<=40
 bnd:By 300 L
 dis:PR L
def FF.go {w w1:Z0}{a:Option Zj}{c:Nat}{L:List Slt}(h:FF w a c L)(hb:Below w.heap.size w w1):FF w1 a c L :=
 ⟨h.s.later hb (A5 _),h.ha,h.cap,h.len,h.bnd,h.dis⟩
def FF.of {w:Z0}{B:Nat}{a:Option Zj}{n c:Nat}{L:List Slt}(h:DN w B (aG a n c) L)(hl:L.length<=40)(hb:By 300 L)(hd:PR L):FF w a c L/\n=L.length:=by
 obtain⟨h1,h2,h3⟩:=h.slotS;refine⟨⟨h1,⟨λb hb=>?_,λe=>?_⟩,h3,hl,hb,hd⟩,h2⟩
 ·obtain⟨Ls,hr⟩:=h;rcases hr.own.blk with⟨e,_⟩ | ⟨g,c2,e,_⟩
  · injection e with e1;rw[e1]at hb;cases hb
  · injection e with e1;rw[e1]at hb;injection hb with hb;exact⟨g,0,hb.symm⟩
 ·obtain⟨Ls,hr⟩:=h;rcases hr.own.blk with⟨_,e2⟩ | ⟨g,c2,e2,_⟩
  · have:=hr.len;rw[e2]at this;exact Zo this.symm
  · injection e2 with e1;rw[e]at e1;cases e1
def EnP (R:List Rl)(acc:Int)(L:List Slt)(W:List (List UInt8))(w:Z0)(e:Ending)(w':Z0):Prop:=VJ R acc L W w.heap.size e w'/\Below w.heap.size w w'
def PU {N i:Nat}(hN:N<=201)(hi:i<=40):8*N*(i*((8*N+1)*(1000+4*300))+(8*N+1)*(1000+4*300)+2)<=900000000000:=by
 have h1:(8*N+1)*(1000+4*300)<=1609*2200:=Y1 (by omega) (by decide);have h2:i*((8*N+1)*(1000+4*300))<=40*(1609*2200):=Y1 hi h1;have h3:8*N*(i*((8*N+1)*(1000+4*300))+(8*N+1)*(1000+4*300)+2)<=1608*(40*(1609*2200)+1609*2200+2):=Y1 (by omega) (by omega);omega
def Cx.inc {Ws:List ByteArray}(hd:Cx Ws):(Ws.map bts).Pairwise λa b=>Zz a b=true:=by
 rw[AV];refine hd.sorted.imp λ{x y} h=>?_;unfold ltS at h;rw[ZQ,ZQ]at h;exact h
section
variable {w:World} {S:Sch} {b aD aL:Option Addr} {cS nD cD cL:Nat} {Ws:List ByteArray} {L:List Slt}
def Vx (hS:G2 w S b cS)(hD:KG w aD nD cD Ws)(hW:Ws.length<=10)(hL:FF w aL cL L) :
  Zu Z1 44 #[aJ #[aA aM S.modes,aA aO S.acc,aG b S.rules.length cS],aG aD nD cD,aG aL L.length cL] w (EnP S.rules S.acc L (Ws.map bts) w):=by
 have ja:=Sr hD.dict;have jc:∀ x∈Ws,x.size<=20:=λx hx=>(Fo (hD.dict.word x hx)).2.1;have jb:=hD.len;have h:=ends_any S.rules S.modes S.acc b cS (ofF (Am 0 Ws)) aD cD aL L cL 300 w hS.rul (by have:=hS.len;omega) (λr hr=>by have:=hS.out r hr;omega) hD.rows hD.big (UU hD.dict)
  (by rw[ja];omega) (by rw[ja];exact jc) (by rw[ja];exact hD.dict.inc) hL.s (by have:=hL.len;omega) hL.bnd (by decide) (by rw[ja];exact λN i hN hi=>PU (by omega) (by have:=hL.len;omega)) hS.a0 hS.a1
 rw[ja,<- jb]at h;exact h
end
structure EnR (R:List Rl)(acc:Int)(L:List Slt)(W:List (List UInt8))(g:Nat)(Ls:List SV)(w:Z0):Prop where
 own:Af DH w 0 (aG (some ⟨g,0,none⟩) (L.length+1) (L.length+1)) Ls
 len:Ls.length=L.length+1
 ok:∀ (k:Nat) (h:k<Ls.length),∃ l,Af CZ w 0 (svS Ls[k]) l/\Sx R acc L W k l
def EnS (R:List Rl)(acc:Int)(L:List Slt)(W:List (List UInt8))(v:Z6)(w:Z0):Prop:=∃ g Ls,v=aG (some ⟨g,0,none⟩) (L.length+1) (L.length+1)/\EnR R acc L W g Ls w
def Vy {R:List Rl}{acc:Int}{L:List Slt}{W:List (List UInt8)}{w w':Z0}{e:Ending}(h:EnP R acc L W w e w'):∃ v,e=aP v/\EnS R acc L W v w'/\Below w.heap.size w w':=by
 obtain⟨⟨g,Ls,he,h1,h2,h3⟩,hb⟩:=h;exact⟨_,he,⟨g,Ls,rfl,h1.mono (Ze _),h2,λk hk=>by obtain⟨l,h4,h5⟩:=h3 k hk (by omega);exact⟨l,h4.mono (Ze _),h5⟩⟩,hb⟩
open Go.RowKit Go.WideShapes
def s3C (z:Int)(k:Nat):Ch:=⟨Zy (97+k),z / 4 % 8⟩
def E6 (z:Int)(k:Nat)(o:Slt):Bool:=decide (0<z % 4) || (decide (k=2) && decide (o.length=0))
def EH (z:Nat->Int):Nat->Slt
 | 0=>[]
 | k+1=>EH z k ++ (if E6 (z k) k (EH z k)=true then[s3C (z k) k] else[])
def s3F (z:Nat->Int):Slt:=EH z 3
def s3s (Z:Nat->Nat->Int)(n:Nat):List Slt:=(Zt n).map λi=>s3F (Z i)
def TQ (Z:Nat->Nat->Int)(n:Nat):s3s Z (n+1)=s3s Z n ++ [s3F (Z n)]:=by simp[s3s,z6]
def N1 (Z:Nat->Nat->Int)(n:Nat):(s3s Z n).length=n:=by simp[s3s]
def Kh (z:Nat->Int):∀ k,(EH z k).length<=k
 | 0=>by simp[EH]
 | k+1=>by
  have h:=Kh z k;rw[EH,AD];split
  · simp only[AE];omega
  · simp only[X7];omega
def s3To_key (z:Nat->Int):∀ k,k<=3->∀ x∈EH z k,97<=x.key.toNat/\x.key.toNat<97+k/\0<=x.cost/\x.cost<=7
 | 0,_,x,hx=>by simp[EH]at hx
 | k
   +
    1,hk,x,hx=>by
  rw[EH]at hx;rcases AY.1 hx with hx | hx
  · have:=s3To_key z k (by omega) x hx;omega
  ·split at hx
   ·rw[AF.1 hx];have h:(Zy (97+k)).toNat=97+k:=by rw[zw];omega
    show 97<=(Zy (97+k)).toNat/\(Zy (97+k)).toNat<97+(k+1)/\0<=z k / 4 % 8/\z k / 4 % 8<=7;omega
   · cases hx
def s3To_inc (z:Nat->Int):∀ k,k<=3->(EH z k).Pairwise λa b=>a.key.toNat<b.key.toNat
 | 0,_=>by rw[EH];exact .nil
 | k
   +
    1,hk=>by
  rw[EH];refine Xx.2 ⟨s3To_inc z k (by omega),?_,λa ha b hb=>?_⟩
  ·split
   · exact List.pairwise_singleton _ _
   · exact .nil
  ·split at hb
   ·rw[AF.1 hb];have h:=(s3To_key z k (by omega) a ha).2.1;have h2:(Zy (97+k)).toNat=97+k:=by rw[zw];omega
    show a.key.toNat<(Zy (97+k)).toNat;omega
   · cases hb
def Vz (z:Nat->Int):1<=(s3F z).length:=by
 unfold s3F;rw[EH,AD];split
 · simp
 ·rename_i h;unfold E6 at h;simp only[decide_true,zC,Y2,decide_eq_true_eq]at h;omega
structure FZ (L:List Slt):Prop where
 ne:∀ s∈L,1<=s.length
 few:∀ s∈L,s.length<=8
 inc:∀ s∈L,s.Pairwise λa b=>a.key.toNat<b.key.toNat
 key:∀ s∈L,∀ x∈s,97<=x.key.toNat/\x.key.toNat<=99
 cst:∀ s∈L,∀ x∈s,0<=x.cost/\x.cost<=8
def W5 (Z:Nat->Nat->Int)(n:Nat):FZ (s3s Z n):=by
 have hm:∀ s∈s3s Z n,∃ i,s=s3F (Z i):=λs hs=>by
  obtain⟨i,_,rfl⟩:=AJ.1 hs;exact⟨i,rfl⟩
 refine⟨λs hs=>?_,λs hs=>?_,λs hs=>?_,λs hs x hx=>?_,λs hs x hx=>?_⟩ <;> obtain⟨i,rfl⟩:=hm s hs
 · exact Vz _
 · have:=Kh (Z i) 3;unfold s3F;omega
 · exact s3To_inc _ 3 (A5 _)
 · have:=s3To_key (Z i) 3 (A5 _) x hx;omega
 · have:=s3To_key (Z i) 3 (A5 _) x hx;omega
def FZ.sub {L M:List Slt}(h:FZ L)(hs:∀ s∈M,s∈L):FZ M :=
 ⟨λs h1=>h.ne s (hs s h1),λs h1=>h.few s (hs s h1),λs h1=>h.inc s (hs s h1),λs h1=>h.key s (hs s h1),λs h1=>h.cst s (hs s h1)⟩
def FZ.bnd {L:List Slt}(h:FZ L):By 300 L:=λs hs x hx=>by have:=h.cst s hs x hx;omega
def FZ.dis {L:List Slt}(h:FZ L):PR L:=λs hs=>(h.inc s hs).imp λ{a b} h1 e=>by rw[e]at h1;omega
def FZ.valid {L:List Slt}(h:FZ L)(hl:L.length<=40):validB L=true:=by
 unfold validB;rw[decide_eq_true hl,zC,Zr];intro s hs;have h1:=h.ne s hs;have h2:=h.few s hs;unfold okS;rw[decide_eq_true h1,decide_eq_true h2,zC,zC,Zr];intro k hk;have hk:=Aa.1 hk;have h3:=h.key s hs _ (AI hk);have h4:=h.cst s hs _ (AI hk);refine(QM hk).2 ⟨by omega,by omega,by omega,by omega,?_⟩;by_cases h0:k=0
 · exact .inl h0
 ·refine .inr ?_;rw[TI (show k - 1<s.length by omega)];exact List.pairwise_iff_getElem.1 (h.inc s hs) (k - 1) k (by omega) hk (by omega)
section
variable {w:World} {B:Nat} {Z:Nat->Nat->Int} {n:Nat}
def PW {v:Z6}(h:DN w B v (s3s Z n))(hn:n<=40)(jb:v≠aG none 0 0):∃ L gL cL,v=aG (some ⟨gL,0,none⟩) L.length cL/\FF w (some ⟨gL,0,none⟩) cL L/\FZ L/\DN w B (aG (some ⟨gL,0,none⟩) L.length cL) L/\L.length=n:=by
 have ja:FZ (s3s Z n):=W5 Z n;obtain⟨Ls,hr⟩:=id h;rcases hr.own.blk with⟨e,_⟩ | ⟨g,c,e,_⟩
 · exact absurd e jb
 ·rw[hr.len]at e;subst e;exact⟨_,g,c,rfl,(FF.of h (by rw[N1];exact hn) ja.bnd ja.dis).1,ja,h,N1 _ _⟩
end
inductive E7:List Slt->List Ch->Prop
 | nil (L:List Slt):E7 L []
 | cons {s:Slt} {h:Ch} {L:List Slt} {P:List Ch}:h∈s->E7 L P->E7 (s :: L) (h :: P)
def DI (P:List Ch):List UInt8:=P.map (·.key)
def DK (P:List Ch):Nat:=(P.map λh=>h.cost.toNat).sum
def Gj (A B:List Ch):DI (A ++ B)=DI A ++ DI B:=XI
def Ki (A B:List Ch):DK (A ++ B)=DK A+DK B:=by unfold DK;rw[XI,List.sum_append]
def Fa (P:List Ch):(DI P).length=P.length:=AQ _
def Rj {s:Slt}{c:UInt8}{n:Nat}(h:Hl s c=some n):∃ x∈s,x.key=c/\x.cost.toNat=n:=by
 unfold Hl at h;cases e:s.find? λh=>h.key == c with
 | none=>rw[e]at h;cases h
 | some x =>
  rw[e]at h;exact⟨x,XN e,by have:=List.find?_some e;simpa using this,by simpa using h⟩
def E7.app {L:List Slt}{P Q:List Ch}(h:E7 L P)(h2:E7 (L.drop P.length) Q):E7 L (P ++ Q):=by
 induction h with
 | nil=>simpa using h2
 | cons hm _ ih=>exact .cons hm (ih (by simpa using h2))
def E7.take {L:List Slt}{P:List Ch}(h:E7 L P):∀ n,P.length<=n->E7 (L.take n) P:=by
 induction h with
 | nil=>exact λn _=>.nil _
 | cons hm _ ih =>
  intro n hn;cases n with
  | zero=>simp at hn
  | succ n=>exact .cons hm (ih n (by simpa using hn))
def pick_letsC:∀ {L:List Slt} {r:List UInt8} {n:Nat},letsC L r=some n->∃ P,E7 L P/\DI P=r/\DK P=n
 | L,[],n,h=>by rw[Ij]at h;cases h;exact⟨[],.nil L,rfl,rfl⟩
 | [],_ :: _,n,h=>by cases h
 | s
   :: L,c :: r,n,h=>by
  simp only[letsC]at h;split at h
  · cases h
  ·rename_i a ha;cases e:letsC L r with
   | none=>rw[e]at h;cases h
   | some b =>
    rw[e]at h;obtain⟨x,h1,h2,h3⟩:=Rj ha;obtain⟨P,h4,h5,h6⟩:=pick_letsC e;refine⟨x :: P,.cons h1 h4,by rw[DI,Y4,h2];exact congrArg _ h5,?_⟩;have:a+b=n:=by simpa using h
    have h7:DK (x :: P)=x.cost.toNat+DK P:=by simp[DK]
    rw[h7,h3,h6,this]
def Uo {R:List Rl}{L:List Slt}{i m:Nat}{o:List UInt8}{c:Nat}(h:RtS R L i m o c):∃ P c',E7 L P/\P.length=i/\c=c'+DK P/\∀ W,RtS R (Gq (DI P ++ W)) i m o c':=by
 induction h with
 | start=>exact⟨[],0,.nil L,rfl,rfl,λW=>.start⟩
 | @step i m o c k r h1 hr hf hm hk ih =>
  obtain⟨P,c',h2,h3,h4,h5⟩:=ih;obtain⟨Q,h6,h7,h8⟩:=pick_letsC hk;have ja:Q.length=r.inp.size:=by rw[<- Fa,h7,B5]
  refine⟨P ++ Q,c'+(r.cost.toNat+0),h2.app (by rw[h3];exact h6),by rw[AD,h3,ja],by rw[Ki,h8];omega,λW=>?_⟩;have h9:=h5 (DI Q ++ W);rw[<- Zw,<- Gj]at h9;refine .step h9 hr hf hm ?_;rw[J7,Gj,Zw,List.drop_left' (by rw[Fa];exact h3),Gi,if_pos];rw[h7];exact zq.2 ⟨W,rfl⟩
def TR {R:List Rl}{L:List Slt}{i:Nat}{o1:List UInt8}{c1:Nat}(h1:RtS R L i 0 o1 c1){j m:Nat}{o2:List UInt8}{c2:Nat}(h2:RtS R (L.drop i) j m o2 c2):RtS R L (i+j) m (o1 ++ o2) (c1+c2):=by
 induction h2 with
 | start=>rw[Xe];exact h1
 | @step j m o c k r h hr hf hm hk ih =>
  rw[List.drop_drop]at hk;have h3:=RtS.step ih hr hf hm hk;rw[Zw,Nat.add_assoc,Nat.add_assoc]at h3;exact h3
def Up {R:List Rl}{L:List Slt}(h1:∀ r∈R,r.dst.toNat=0){i m:Nat}{o:List UInt8}{c:Nat}(h:RtS R L i m o c):m=0:=by
 cases h with
 | start=>rfl
 | step _ hr _ _ _=>exact h1 _ hr
def DJ:List Slt->List Nat->List Ch
 | [],_=>[]
 | s :: L,D=>s.getD (D.headD 0 % s.length) ⟨0,0⟩ :: DJ L D.tail
def J8:∀ (L:List Slt) (D:List Nat),(DJ L D).length=L.length
 | [],_=>rfl
 | s :: L,D=>by simp only[DJ,Zs];rw[J8 L D.tail]
def TS {s:Slt}{k:Nat}(h:k<s.length):s.getD k ⟨0,0⟩∈s:=by
 rw[AS,AC h];exact AI h
def Kj:∀ {L:List Slt} (D:List Nat),(∀ s∈L,1<=s.length)->E7 L (DJ L D)
 | [],_,_=>.nil _
 | s :: L,D,h=>.cons (TS (Nat.mod_lt _ (h s AB))) (Kj D.tail λt ht=>h t (Zm _ ht))
def MC:∀ {L:List Slt} {D:List Nat} {i:Nat} (h:i<L.length),(DJ L D)[i]? = some (L[i].getD ((if i<D.length then D.getD i 0 else 0) % L[i].length) ⟨0,0⟩)
 | s :: L,D,0,h=>by
  simp only[DJ,List.getElem?_cons_zero,zk];cases D with
  | nil=>simp
  | cons d D=>simp
 | s :: L,D,i+1,h=>by
  simp only[DJ,List.getElem?_cons_succ,List.getElem_cons_succ];rw[MC (by simpa using h)];cases D with
  | nil=>simp
  | cons d D=>simp
def E8:Nat->Nat->List Nat
 | 0,_=>[]
 | n+1,c=>c % 3 :: E8 n (c / 3)
def OR:∀ n c,(E8 n c).length=n
 | 0,_=>rfl
 | n+1,c=>by simp[E8,OR n]
def MD:∀ n c,E8 (n+1) c=E8 n c ++ [c / 3 ^ n % 3]
 | 0,c=>by simp[E8]
 | n+1,c=>by
  have ih:=MD n (c / 3);rw[show E8 (n+1+1) c=c % 3 :: E8 (n+1) (c / 3) from rfl,ih,show E8 (n+1) c=c % 3 :: E8 n (c / 3) from rfl,Nat.div_div_eq_div_mul,Nat.pow_succ,zW 3];rfl
def QQ:∀ n c,∀ d∈E8 n c,d<3
 | 0,c,d,h=>by cases h
 | n+1,c,d,h=>by
  rcases AX.1 h with rfl | h
  · exact Nat.mod_lt _ (by decide)
  · exact QQ n _ d h
def Rk {L:List Slt}{P:List Ch}(h:E7 L P)(hl:P.length=L.length)(h3:∀ s∈L,s.length<=3):∃ c,c<3 ^ L.length/\DJ L (E8 L.length c)=P:=by
 induction h with
 | nil L =>
  have:L=[]:=Zo hl.symm;subst this;exact⟨0,by decide,rfl⟩
 | @cons s x L P hm _ ih =>
  obtain⟨c,h1,h2⟩:=ih (by simpa using hl) λt ht=>h3 t (Zm _ ht);obtain⟨k,hk,rfl⟩:=ZH.1 hm;have hs:=h3 s AB;refine⟨k+3*c,by rw[Zs,Nat.pow_succ];omega,?_⟩;have e1:(k+3*c) % 3=k:=by omega
  have e2:(k+3*c) / 3=c:=by omega
  simp only[Zs,E8,DJ,List.headD_cons,List.tail_cons,e1,e2,h2,xd hk];rw[AS,AC hk];rfl
def QR:∀ {s:Slt} {a:Nat},(s.Pairwise λx y=>x.key.toNat<y.key.toNat)->(∀ x∈s,a<=x.key.toNat/\x.key.toNat<=99)->a<=100->s.length<=100 - a
 | [],_,_,_,_=>Ze _
 | x :: s,a,hp,hk,ha=>by
  obtain⟨h1,h2⟩:=AU.1 hp;have h3:=hk x AB;have:=QR (a:=x.key.toNat+1) h2 (λy hy=>⟨h1 y hy,(hk y (Zm _ hy)).2⟩) (by omega);simp only[Zs];omega
def FZ.few3 {L:List Slt}(h:FZ L):∀ s∈L,s.length<=3:=λs hs=>QR (a:=97) (h.inc s hs) (h.key s hs) (by decide)
abbrev Pnt:=Nat × Nat × List UInt8 × Nat
def We (R:List Rl)(L:List Slt)(p:Pnt):List Pnt :=
 R.filterMap λr=>if C5 r && decide (r.frm=(p.2.1:Int)) then(letsC (L.drop p.1) (bts r.inp)).map λk=>(p.1+r.inp.size,r.dst.toNat,p.2.2.1 ++ bts r.out,p.2.2.2+(r.cost.toNat+k)) else none
def Uq (R:List Rl)(L:List Slt):Nat->List Pnt
 | 0=>[(0,0,[],0)]
 | n+1=>(Uq R L n).flatMap (We R L)
def lev_rts {R:List Rl}{L:List Slt}:∀ {n i m:Nat} {o:List UInt8} {c:Nat},(i,m,o,c)∈Uq R L n->RtS R L i m o c
 | 0,i,m,o,c,h=>by
  have h2:=AF.1 h;simp only[Prod.mk.injEq]at h2;obtain⟨rfl,rfl,rfl,rfl⟩:=h2;exact .start
 | n
   +
    1,i,m,o,c,h=>by
  obtain⟨⟨i',m',o',c'⟩,h1,h2⟩:=zJ.1 h;have ih:=lev_rts h1;obtain⟨r,hr,h3⟩:=X9.1 h2;split at h3
  ·rename_i hf;simp only[Zg,decide_eq_true_eq]at hf;cases hk:letsC (L.drop i') (bts r.inp) with
   | none=>simp only[hk]at h3;cases h3
   | some k =>
    simp only[hk,xh,Option.some.injEq,Prod.mk.injEq]at h3;obtain⟨rfl,rfl,rfl,rfl⟩:=h3;exact .step ih hr hf.1 hf.2 hk
  · cases h3
def Ur {R:List Rl}{L:List Slt}(hR:∀ r∈R,1<=r.inp.size){i m:Nat}{o:List UInt8}{c:Nat}(h:RtS R L i m o c):∃ n,n<=i/\(i,m,o,c)∈Uq R L n:=by
 induction h with
 | start=>exact⟨0,A5 _,AF.2 rfl⟩
 | @step i m o c k r h1 hr hf hm hk ih =>
  obtain⟨n,hn,ja⟩:=ih;refine⟨n+1,by have:=hR _ hr;omega,zJ.2 ⟨_,ja,X9.2 ⟨r,hr,?_⟩⟩⟩;simp only[hf,hm,decide_true,Bool.and_true,if_true,hk,xh]
def Hy (R:List Rl)(L:List Slt):List Pnt:=(Zt (L.length+1)).flatMap (Uq R L)
def QS {R:List Rl}{L:List Slt}(hR:∀ r∈R,1<=r.inp.size){i m:Nat}{o:List UInt8}{c:Nat}:RtS R L i m o c↔(i,m,o,c)∈Hy R L:=by
 constructor
 ·intro h;obtain⟨n,hn,hm⟩:=Ur hR h;have:=h.place;exact zJ.2 ⟨n,Aa.2 (by omega),hm⟩
 ·intro h;obtain⟨n,_,hm⟩:=zJ.1 h;exact lev_rts hm
def J9 (P:List Pnt)(acc:Int)(i:Nat)(w:List UInt8):List Nat:=P.filterMap λp=>if decide (p.1=i) && (decide (p.2.2.1=w) && CL acc p.2.1) then some p.2.2.2 else none
def Kk {R:List Rl}{L:List Slt}(hR:∀ r∈R,1<=r.inp.size){acc:Int}{i:Nat}{w:List UInt8}{c:Nat}:Whole R acc L i w c↔c∈J9 (Hy R L) acc i w:=by
 constructor
 ·rintro⟨m,ha,h⟩;refine X9.2 ⟨_,(QS hR).1 h,?_⟩;simp[ha]
 ·intro h;obtain⟨⟨j,m,o,c'⟩,h1,h2⟩:=X9.1 h;split at h2
  ·rename_i hf;simp only[Zg,decide_eq_true_eq]at hf;obtain⟨rfl,rfl,ha⟩:=hf;injection h2 with h2;subst h2;exact⟨m,ha,(QS hR).2 h1⟩
  · cases h2
def IY:List Nat->Option Nat
 | []=>none
 | x :: r=>some (match IY r with | none=>x | some y=>min x y)
def ME:∀ {l:List Nat},IY l=none↔l=[]
 | []=>by simp[IY]
 | x :: r=>by simp[IY]
def minL_some:∀ {l:List Nat} {c:Nat},IY l=some c->c∈l/\∀ d∈l,c<=d
 | [],c,h=>by cases h
 | x
   :: r,c,h=>by
  simp only[IY,Option.some.injEq]at h;cases e:IY r with
  | none =>
   rw[e]at h;simp only at h;subst h;have:=ME.1 e;subst this;exact⟨AB,λd hd=>by rw[AF.1 hd];exact A5 _⟩
  | some y =>
   rw[e]at h;simp only at h;obtain⟨h1,h2⟩:=minL_some e;subst h;refine⟨?_,λd hd=>?_⟩
   ·rcases Nat.le_total x y with h | h
    · rw[Nat.min_eq_left h];exact AB
    · rw[Nat.min_eq_right h];exact Zm _ h1
   ·rcases AX.1 hd with rfl | hd
    · exact Nat.min_le_left _ _
    · exact AA (Nat.min_le_right _ _) (h2 d hd)
def Us (R:List Rl)(acc:Int)(L:List Slt)(W:List (List UInt8))(i:Nat):List (Nat × Nat) :=
 (Zt W.length).filterMap λk=>(IY (J9 (Hy R L) acc i (W.getD k []))).map λc=>(k,c)
def Kl {p:Nat->Prop}{l:List Nat}(h:∀ c,p c↔c∈l){c:Nat}:BX p c↔IY l=some c:=by
 constructor
 ·intro hc;cases e:IY l with
  | none =>
   have:=ME.1 e;have h2:=(h c).1 hc.1;rw[this]at h2;cases h2
  | some y =>
   obtain⟨h1,h2⟩:=minL_some e;have:=hc.2 y ((h y).2 h1);have:=h2 c ((h c).1 hc.1);congr 1;omega
 ·intro e;obtain⟨h1,h2⟩:=minL_some e;exact⟨(h c).2 h1,λd hd=>h2 d ((h d).1 hd)⟩
def fndC_ok {R:List Rl}{acc:Int}{L:List Slt}{W:List (List UInt8)}{i:Nat}(hR:∀ r∈R,1<=r.inp.size):FU R acc L W i (Us R acc L W i) where
 sorted:=by
  unfold Us;refine List.Pairwise.filterMap _ (R:=λa b:Nat=>a<b) ?_ List.pairwise_lt_range;intro a a' jd b hb b' ja;cases e:IY (J9 (Hy R L) acc i (W.getD a [])) with
  | none=>rw[e]at hb;cases hb
  | some x =>
   cases e2:IY (J9 (Hy R L) acc i (W.getD a' [])) with
   | none=>rw[e2]at ja;cases ja
   | some y =>
    rw[e]at hb;rw[e2]at ja;cases hb;cases ja;exact jd
 mem
   k
    c:=by
  unfold Us;rw[X9];constructor
  ·rintro⟨k',jc,h⟩;have jb:=Aa.1 jc;cases e:IY (J9 (Hy R L) acc i (W.getD k' [])) with
   | none=>rw[e]at h;cases h
   | some x =>
    rw[e]at h;simp only[xh,Option.some.injEq,Prod.mk.injEq]at h;obtain⟨rfl,rfl⟩:=h;refine⟨jb,(Kl λd=>?_).2 e⟩;rw[Kk hR,AS,AC jb];rfl
  ·rintro⟨h,hl⟩;refine⟨k,Aa.2 h,?_⟩;have e:IY (J9 (Hy R L) acc i (W.getD k []))=some c:=(Kl λd=>by
    rw[AS,AC h];exact Kk hR).1 hl
   rw[e];rfl
def Wf (R:List Rl)(acc:Int)(L:List Slt)(W:List (List UInt8)):List Edg:=(spn L.length).flatMap λp=>FD p.1 p.2 (Us R acc (L.drop p.1) W (p.2 - p.1))
def PX {R:List Rl}{acc:Int}{L:List Slt}{W:List (List UInt8)}(hR:∀ r∈R,1<=r.inp.size):GA R acc L W=Wf R acc L W:=by
 unfold GA Wf;congr 1;funext p;rw[(fndC_ok (acc:=acc) (L:=L.drop p.1) (W:=W) (i:=p.2 - p.1) hR).eqF]
def exR:List Rl:=[⟨0,0,⟨#[97]⟩,⟨#[97]⟩,0⟩,⟨0,0,⟨#[98]⟩,⟨#[98]⟩,1⟩,⟨0,0,⟨#[97,98]⟩,⟨#[67]⟩,2⟩]
def PY:∀ r∈exR,1<=r.inp.size:=by decide
def exW:List (List UInt8):=[[67],[97],[98]]
def Wg:GA exR 1 [[⟨97,0⟩],[⟨98,0⟩]] exW=[(0,1,1,0),(0,2,0,2),(1,2,2,1)]:=by
 rw[PX PY];decide +kernel
def Wh:GA exR 1 [[⟨97,3⟩,⟨98,0⟩]] exW=[(0,1,1,3),(0,1,2,1)]:=by
 rw[PX PY];decide +kernel
def W6:GA exR 1 [] exW=[]:=by rw[PX PY];decide +kernel
open Go.RowKit
def
  SeqAt {α:Type} (F:Fence) (n:Nat) (P:Program) (g:Nat) (lb:Array Z6) (encs:α->Array Z6) (Kp:Z0->Z0->Prop) (xs:List α) (w:Z0):Prop :=
 ∀
  (l:Nat) (J Jx:List α->Z0->Prop) (W:Z0),Below w.heap.size w W->AbidesFrom W.heap.size J->AbidesFrom W.heap.size Jx ->
  (∀ pre x rest W1,xs=pre ++ x :: rest->J pre W1->YieldAt F (n - 1) P l (encs x) W1 λe W' =>
   (e=aP (aH true)/\J (pre ++ [x]) W'/\Kp W1 W')\/(e=aP (aH false)/\Jx (pre ++ [x]) W')) ->
  J [] W ->
  CallsIn F n P g (#[.func (.yield l) #[] #[]] ++ lb) W λe W'=>(∃ v,e=aP v)/\(J xs W'\/∃ pre,pre <+: xs/\Jx pre W')
variable {F:Fence} {n:Nat} {P:Program}
def LK {α:Type}{g:Operand}{ps:Array Tmp}{assign body:Code}{Q:Exit->Act->Z0->Prop}{a:Act}{w:Z0}
  (jH:F.round=none) (h1:1<=n) {gf:Nat} {lb:Array Z6} (hg:a.eval g=.func (.func gf) #[] lb) (jw:F.fn gf) (eg:∀ args w,(callFunc gf args).run P w=.ok (.enter gf args) w)
  {encs:α->Array Z6} {Kp:Z0->Z0->Prop} {xs:List α} {w0:Z0} (jo:SeqAt F (n - 1) P gf lb encs Kp xs w0)
  (jr:∀ {A B C:Z0},Kp A B->Kp B C->Kp A C) (jq:∀ (W:Z0) (l:Nat) (o o':Obj),w.heap.size<=l->W.heap[l]? = some o->o.isCells=false->o.isWalk=false->Kp W (W.putObj l o')) (js:Below w0.heap.size w0 w) (jG:∀ x,(encs x).size=ps.size)
  (I:List α->Z0->Prop) (Ix:Code->List α->Z0->Prop) (hI:OwnFrom w.heap.size I) (jk:∀ c,OwnFrom w.heap.size (Ix c)) (h0:I [] w) (a₁:α->Act)
  (jb:∀ (l:Nat) (x:α) (W:Z0) (K:Act->Z0->Prop),K (a₁ x) W ->
   assign.wpIn (F.inRound l) (n - 1 - 1) P (Exit.then K (λ_ _ _=>False)) { tmps:=(ps.zip (encs x)).foldl (λt (p,v)=>t.setIfInBounds p v) a.tmps,defers:=[] } W)
  (je:∀ (l:Nat) (pre:List α) (x:α) (rest:List α) (W:Z0),xs=pre ++ x :: rest->I pre W->body.wpIn (F.inRound l) (n - 1 - 1) P (ownPostG w.heap.size Kp I Ix (pre ++ [x]) W) (a₁ x) W)
  (jf:∀ (D:Nat) (W:Z0),w.heap.size<=D->I xs W->W.heap[D]? = some (.deferred (some []))->Q .normal { a with defers:={ target:=.collected D,args:=#[] } :: a.defers } W)
  (ji:∀ (D:Nat) (c:Code) (pre:List α) (W:Z0),w.heap.size<=D->pre <+: xs->Ix c pre W->W.heap[D]? = some (.deferred (some []))->c.wpIn F n P Q { a with defers:={ target:=.collected D,args:=#[] } :: a.defers } W) :
  (Code.rangeFunc g ps assign body).wpIn F n P Q a w:=by
 refine wpIn_rangeFunc ?_;intro fn jz;rw[jH];obtain⟨K,hK⟩:∃ K,K=w.heap.size+1:=⟨_,rfl⟩
 obtain⟨rec,ja⟩:∃ rec:LoopState->Option Code->Loop,rec=λst pe=>{ state:=st,pending:=pe,fn,tmps:=a.tmps,params:=ps,assign,body,defers:=w.heap.size }:=⟨_,rfl⟩
 obtain⟨W1,jd⟩:∃ W1,(w.alloc (.deferred (some []))).alloc (.loop (rec .ready none))=W1:=⟨_,rfl⟩
 have hz1:W1.heap.size=w.heap.size+2:=by rw[<- jd];simp
 have jh:W1.heap[K]? = some (.loop (rec .ready none)):=by
  have h:=zh (w.alloc (.deferred (some []))) (.loop (rec .ready none));rw[A8]at h;rw[<- jd,hK];exact h
 have jm:W1.heap[w.heap.size]? = some (.deferred (some [])):=by
  rw[<- jd];exact(ZF _ _ _ (by simp)).trans (zh w _)
 have jl:Below w0.heap.size w0 W1:=by
  rw[<- jd];exact js.trans ((((Z2 _ w).alloc (A5 _) _).alloc (by simp) _).mono js.size)
 have jx:I [] W1:=by rw[<- jd];exact hI.alloc _ (hI.alloc _ h0)
 have jp:∀ {A B:Z0} {row:Option Nat},(∀ r,row=some r->W1.heap.size<=r/\∃ o:Obj,A.heap[r]? = some o/\o.isWalk=true)->∀ r,row=some r->w.heap.size<=r/\∃ o:Obj,A.heap[r]? = some o/\o.isCells=false:=λhr r e=>by
  obtain⟨hB,o,ho,hw⟩:=hr r e;exact⟨by omega,o,ho,Obj.not_cells_of_walk hw⟩
 refine⟨K,[{ target:=.collected w.heap.size,args:=#[] }],W1,{ target:=.fn (.func gf) lb,args:=#[.func (.yield K) #[] #[]] },W1,gf,#[.func (.yield K) #[] #[]] ++ lb,W1,?_,?_,?_,?_,λ_=>h1,?_⟩
 · rw[<- jd,ja,hK];exact run_enterLoop_outer _ _ _ _ _
 ·simp only[resolve,hg];simp[go_sem]
 ·intro f' ju;simp[Target.leads]at ju;subst ju;exact jw
 · simp[invoke,go_sem,eg]
 have jg:∀ (jump:Option Code) (V W3:Z0),V.heap[K]? = some (.loop { rec .ready none with state:=.busy })->V.heap[w.heap.size]? = some (.deferred (some []))->KeepsFrom w.heap.size V W3 ->
   ∃ W4,(Instr.endRound K jump).run P W3=.ok (aH jump.isNone) W4/\W4=W3.putObj K (.loop (rec (if jump.isNone then .ready else .done) jump))/\W3.heap[K]? = some (.loop { rec .ready none with state:=.busy })/\W4.heap[K]? = some (.loop (rec (if jump.isNone then .ready else .done) jump))/\W4.heap[w.heap.size]? = some (.deferred (some [])):=λjump V W3 hl hd hk=>by
  have jj:=hk.same _ _ (by omega) hl rfl;have jy:=hk.same _ _ (A5 _) hd rfl;have he:=run_endRound (P:=P) jump jj;rw[ja]at he ⊢;rw[ja]at jj;exact⟨_,he,rfl,jj,World.putObj_heap_same (A7.1 jj).1,(Xu (by omega)).trans jy⟩
 refine(jo K (λpre W=>I pre W/\W.heap[K]? = some (.loop (rec .ready none))/\W.heap[w.heap.size]? = some (.deferred (some [])))
  (λpre W=>∃ c,Ix c pre W/\W.heap[K]? = some (.loop (rec .done (some c)))/\W.heap[w.heap.size]? = some (.deferred (some []))) W1 jl ?_ ?_ ?_ ⟨jx,jh,jm⟩).mono ?_
 · exact λs A B row hs jc hr=>⟨hI s A B row hs.1 jc (jp (B:=B) hr),(grownBy_keeps jc (λr e=>(hr r e).2) hs.2.1 rfl).trans hs.2.1,(grownBy_keeps jc (λr e=>(hr r e).2) hs.2.2 rfl).trans hs.2.2⟩
 ·rintro s A B row ⟨c,hc,hl,hd⟩ jc hr;exact⟨c,jk c s A B row hc jc (jp (B:=B) hr),(grownBy_keeps jc (λr e=>(hr r e).2) hl rfl).trans hl,(grownBy_keeps jc (λr e=>(hr r e).2) hd rfl).trans hd⟩
 ·rintro pre x rest W jI ⟨hi,hl,hd⟩;have jF:K<W.heap.size:=(A7.1 hl).1;have hy:=run_yield (P:=P) (args:=encs x) hl (by rw[ja];exact jG x);rw[ja]at hy;refine⟨fn,_,assign,body,hy,roundIn_of_wpIn jz (jb _ x W _ ⟨_,run_beginRound hl (by rw[ja]),?_⟩)⟩;obtain⟨V,hV⟩:∃ V,W.putObj K (.loop { rec .ready none with state:=.busy })=V:=⟨_,rfl⟩
  have jv:V.heap[K]? = some (.loop { rec .ready none with state:=.busy }):=by rw[<- hV];exact World.putObj_heap_same jF
  have jt:V.heap[w.heap.size]? = some (.deferred (some [])):=by rw[<- hV];exact(Xu (by omega)).trans hd
  have jE:Kp W V:=by rw[<- hV];exact jq _ _ _ _ (by omega) hl rfl rfl
  have jB:I pre V:=by rw[<- hV];exact hI.putObj _ hi (by omega) hl rfl
  rw[hV];refine wpIn_mono (je _ pre x rest V jI jB) ?_;have leave:∀ (c:Code) (W3:Z0),KeepsFrom w.heap.size V W3->Ix c (pre ++ [x]) W3->∃ (b:Bool) (W4:Z0),(Instr.endRound K (some c)).run P W3=.ok (aH b) W4/\b=false/\∃ c',Ix c' (pre ++ [x]) W4/\W4.heap[K]? = some (.loop (rec .done (some c')))/\W4.heap[w.heap.size]? = some (.deferred (some [])):=λc W3 hk jC=>by
   obtain⟨W4,h3,h4,h5,h6,h7⟩:=jg (some c) V W3 jv jt hk;exact⟨_,W4,h3,rfl,c,by rw[h4];exact(jk _).putObj _ jC (by omega) h5 rfl,h6,h7⟩
  rintro e a3 W3 hp;cases e with
  | normal =>
   obtain⟨jD,jn,jA⟩:=hp;obtain⟨W4,h3,h4,h5,h6,h7⟩:=jg none V W3 jv jt jD;exact⟨_,W4,h3,.inl ⟨rfl,⟨by rw[h4];exact hI.putObj _ jA (by omega) h5 rfl,h6,h7⟩,by rw[h4];exact jr (jr jE jn) (jq _ _ _ _ (by omega) h5 rfl rfl)⟩⟩
  | ret=>obtain⟨b,W4,h3,rfl,h5⟩:=leave .ret W3 hp.1 hp.2;exact⟨_,W4,h3,.inr ⟨rfl,h5⟩⟩
  | exit id=>obtain⟨b,W4,h3,rfl,h5⟩:=leave (.exit id) W3 hp.1 hp.2;exact⟨_,W4,h3,.inr ⟨rfl,h5⟩⟩
  | goto t=>obtain⟨b,W4,h3,rfl,h5⟩:=leave (.goto t) W3 hp.1 hp.2;exact⟨_,W4,h3,.inr ⟨rfl,h5⟩⟩
  | panic ch=>exact hp.elim
  | outgrown=>exact hp.elim
 ·rintro e W2 ⟨⟨v,rfl⟩,hj⟩;have hfin:∀ (st:LoopState) (pe:Option Code),st≠.busy->W2.heap[K]? = some (.loop (rec st pe))->W2.heap[w.heap.size]? = some (.deferred (some []))->∀ D:Prop,D->D:=λ_ _ _ _ _ _ h=>h;rcases hj with⟨hi,hl,hd⟩ | ⟨pre,hp,c,hi,hl,hd⟩
  · exact⟨none,_,by have h:=run_endLoop (P:=P) hl (by rw[ja];simp);rw[ja]at h;exact h,jf _ _ (A5 _) (hI.putObj _ hi (by omega) hl rfl) ((Xu (by omega)).trans hd)⟩
  · exact⟨some c,_,by have h:=run_endLoop (P:=P) hl (by rw[ja];simp);rw[ja]at h;exact h,ji _ c pre _ (A5 _) hp ((jk c).putObj _ hi (by omega) hl rfl) ((Xu (by omega)).trans hd)⟩
open Go.RowKit Go.Shelf
attribute [local go_sem] Oper.semAt_some
def MF {n k:Nat}(h:k<n):∃ r,Zt n=Zt k ++ k :: r:=by
 obtain⟨m,rfl⟩:∃ m,n=k+(m+1):=⟨n - k - 1,by omega⟩
 exact⟨_,by rw[List.range_add,List.range_succ_eq_map,Y4,zl]⟩
def Gr (i k:Nat):List (Nat × Nat):=(Zt k).map λk=>(i,i+1+k)
def N4 (N i:Nat):List (Nat × Nat):=(Zt i).flatMap λa=>Gr a (N - a)
def TT (N:Nat):N4 N N=spn N:=rfl
def Rm (N i:Nat):N4 N (i+1)=N4 N i ++ Gr i (N - i):=by unfold N4;rw[z6,XB];simp
def Rn (i k:Nat):Gr i (k+1)=Gr i k ++ [(i,i+1+k)]:=by unfold Gr;rw[z6,XI];rfl
def MG {N i k:Nat}(hi:i<N)(hk:k<N - i):∃ rest,spn N=(N4 N i ++ Gr i k) ++ (i,i+1+k) :: rest:=by
 obtain⟨r,hr⟩:=MF hi;obtain⟨r2,ja⟩:=MF hk;refine⟨r2.map (λk=>(i,i+1+k)) ++ r.flatMap λa=>Gr a (N - a),?_⟩;have h1:spn N=N4 N i ++ (Gr i (N - i) ++ r.flatMap λa=>Gr a (N - a)):=by
  show(Zt N).flatMap (λa=>Gr a (N - a))=_;rw[hr,XB,ZA];rfl
 have h2:Gr i (N - i)=Gr i k ++ (i,i+1+k) :: r2.map (λk=>(i,i+1+k)):=by
  unfold Gr;rw[ja,XI,Y4]
 rw[h1,h2];simp
def Ut {N i k:Nat}(hi:i<N)(hk:k<N - i):N4 N i ++ Gr i k ++ [(i,i+1+k)] <+: spn N:=by
 obtain⟨rest,h⟩:=MG hi hk;exact⟨rest,by rw[h];simp⟩
def KpB (Bn:Nat)(W W':Z0):Prop:=W'.cell? ⟨Bn,0,none⟩=W.cell? ⟨Bn,0,none⟩
def KpB.trans {Bn:Nat}{A B C:Z0}(h:KpB Bn A B)(h2:KpB Bn B C):KpB Bn A C:=zX h2 h
def KpB.obj {Bn l:Nat}{W:Z0}{o':Obj}(h:Bn<l):KpB Bn W (W.putObj l o'):=by
 unfold KpB World.cell?;rw[Xu (by show Bn≠l;omega)]
def Ro (n:Int)(w:Z0):Zu Z1 43 #[aA aM n] w λe w'=>e=aP (.func (.func 77) #[] #[aB (some ⟨w.heap.size,0,none⟩)])/\w'=w.alloc (aK #[aA aM n] 3):=by
 go_enter Tryz.func43,Tryz.ntmps43
 go_wp2_with fail
 go_ret;exact⟨rfl,rfl⟩
def spans_at (N Bn:Nat)(w:Z0)(jj:Bn<w.heap.size)(hc:w.cell? ⟨Bn,0,none⟩=some (aA aM (N:Int)))(hN:N<=1000) :
  SeqAt xf 8 Z1 77 #[aB (some ⟨Bn,0,none⟩)] (λp:Nat × Nat=>#[aA aM (p.1:Int),aA aM (p.2:Int)]) (KpB Bn) (spn N) w:=by
 intro l J Jx W hW hJ hJx hY h0;refine callsIn_of_wp Tryz.func77 rfl trivial ?_ rfl;simp only[Tryz.ntmps77,zm,Zs,X7,Nat.reduceAdd,Nat.reduceSub,zc,zd,zo,XP,ZP,ZG];have jl:W.cell? ⟨Bn,0,none⟩=some (aA aM (N:Int)):=(hW.cell (p:=⟨Bn,0,none⟩) jj).trans hc
 gi_wp2
 gi_loopw [6] (λv wr=>∃ i:Nat,v=aA aM (i:Int)/\i<=N/\J (N4 N i) wr/\wr.cell? ⟨Bn,0,none⟩=some (aA aM (N:Int))) (λv _=>N - (intOf v).toNat)
 case atStart=>exact⟨0,rfl,Ze _,h0,jl⟩
 case round =>
  obtain⟨i,rfl,hi,hj,jm⟩:=hrel;have jd:=A0 hj;clear hj;by_cases jg:i<N
  ·have jc:(i:Int)<(N:Int):=by omega
   gi_wp2
   gi_loopw [4] (λv wr=>∃ k:Nat,v=aA aM ((i:Int)+1+(k:Int))/\k<=N - i/\J (N4 N i ++ Gr i k) wr/\wr.cell? ⟨Bn,0,none⟩=some (aA aM (N:Int))) (λv _=>N+1 - (intOf v).toNat)
   case atStart=>exact⟨0,by simp,Ze _,by simpa[Gr] using jd.out,jm⟩
   case round =>
    obtain⟨k,rfl,hk,hj,ja⟩:=hrel;by_cases jf:k<N - i
    ·have jn:(i:Int)+1+(k:Int)<=(N:Int):=by omega
     obtain⟨rest,jh⟩:=MG jg jf;obtain⟨fn,tmps,assign,body,hy,hR⟩:=hY _ (i,i+1+k) rest _ jh hj;have HR:=A0 hR;rw[show(((i+1+k:Nat):Nat):Int)=(i:Int)+1+(k:Int) by omega]at hy;clear hR jh
     gi_wp2
     refine HR.out.mono ?_;rintro e W2 (⟨rfl,jb,je⟩ | ⟨rfl,jb⟩)
     ·have jk:W2.cell? ⟨Bn,0,none⟩=some (aA aM (N:Int)):=zX je ja;have ji:=A0 jb;clear jb je
      gi_wp2
      go_roundw
      case rel=>exact⟨k+1,by go_num,by omega,by rw[Rn,<- Zw];exact ji.out,jk⟩
      case measure=>simp[intOf];omega
     ·gi_wp2
      refine bodyPost_ret (results_none rfl _ _ _) rfl ?_;exact⟨⟨_,rfl⟩,.inr ⟨_,Ut jg jf,jb⟩⟩
    ·have jn:¬ (i:Int)+1+(k:Int)<=(N:Int):=by omega
     obtain rfl:k=N - i:=by omega
     gi_wp2
     go_roundw
     case rel=>exact⟨i+1,by go_num,by omega,by rw[Rm];exact hj,ja⟩
     case measure=>simp[intOf];omega
  ·have jc:¬ (i:Int)<(N:Int):=by omega
   obtain rfl:i=N:=by omega
   gi_wp2
   go_end0
   exact⟨⟨_,rfl⟩,.inl (by rw[<- TT];exact jd.out)⟩
section
variable {lR nR:Nat} {P:Program} {ops:Array Oper} {V:Nat->Value->World->Prop} {X:Nat->World->World->Prop} {S:(Nat->Bool)->World->Prop} {ms:List Nat} {a0:Act} {Q:Exit->Act->World->Prop} {L:Nat} {bn:Bool}
def N7 {listed:Array Bool}(h:Xl .any ops listed=[]){a:Act}{w:Z0}(hq:Q .normal a w):∀ fuel,wpAnyIn (Fence.wide.inRound lR) nR P .any ops Q fuel listed a w
 | 0=>⟨h,hq⟩
 | fuel+1=>⟨λ_=>hq,λi hi=>by rw[h]at hi;cases hi⟩
def rvS_anyI (jt:(ops.all λo=>match o.op with | .defer _=>false | _=>true)=true)(jw:bn=true->∀ i o v w,ops[i]? = some o->o.dst=none->V i v w->V i Z8 w)(hV:∀ i j v w w',i<L->j<L->i≠j->(ms.getD j 0).testBit i=false->V j v w->X i w w'->V j v w'){n:Nat}(jb:rvOkS ops ms bn n L=true)(hn:a0.tmps.size=n)
  (jD:Hd P ops V X S ms a0 L 0 ops.toList)
  (jn:ops.size=L->∀ a w,a.tmps.size=a0.tmps.size->a.defers=a0.defers->(∀ f:Nat->Bool,(∀ i,i<L->f i=true)->S f w->(∀ i,i<L->V i (Ae ops a i) w)->(∀ t,(ops.all λo'=>o'.dst != some t)=true->a.tmps.getD t Z8=a0.tmps.getD t Z8)->Q .normal a w))
  (jk:ops.size≠L->∀ a w,a.tmps.size=a0.tmps.size->a.defers=a0.defers->(∀ f:Nat->Bool,(∀ i,i<L->f i=true)->S f w->(∀ i,i<L->V i (Ae ops a i) w)->(∀ t,(ops.all λo'=>o'.dst != some t)=true->a.tmps.getD t Z8=a0.tmps.getD t Z8)->wpOpIn (Fence.wide.inRound lR) nR P ops Q L (λa' w'=>Q .normal a' w') a w)) :
  ∀ (fuel:Nat) (listed:Array Bool) (a:Act) (w:Z0),JE ops V S a0 L listed a w->F3 ops.size (λi=>listed.getD i true)<=fuel->wpAnyIn (Fence.wide.inRound lR) nR P .any ops Q fuel listed a w:=by
 have hs:=rvOkS_size jb;have jj:∀ (listed:Array Bool) (a:Act) (w:Z0),JE ops V S a0 L listed a w->Xl .any ops listed=[]->Q .normal a w:=by
  intro listed a w h hr;have ja:=allS (Bs jb) h.ls hr;rcases hs with hs | ⟨hs,o,ho,hd,jy⟩
  · exact jn hs a w h.size h.df _ ja h.s (λi hi=>h.done i hi (ja i hi)) h.base
  ·exfalso;have hL:=h.last (by omega);have:L∈Xl .any ops listed:=BE.2 ⟨by omega,hL,o,ho,λe he hb=>by
    have h1:=jy e he hb;exact CP h.ls (by omega) (ja e.on h1)⟩
   rw[hr]at this;cases this
 intro fuel
 induction fuel with
 | zero =>
  intro listed a w h hc;have ja:=FI (f:=λi=>listed.getD i true) (Nat.le_zero.1 hc);have hr:Xl .any ops listed=[]:=by
   rw[XL];intro j hj;obtain⟨g1,g2,_⟩:=BE.1 hj;rw[ja j g1]at g2;cases g2
  exact⟨hr,jj listed a w h hr⟩
 | succ fuel ih =>
  intro listed a w h hc;refine⟨λhr=>jj listed a w h hr,λi hi=>?_⟩;obtain⟨h1,h2,o,ho,h3⟩:=BE.1 hi;by_cases jd:i<L
  ·have jl:F3 ops.size (λj=>(listed.setIfInBounds i true).getD j true)<=fuel:=by
    have:=Ev (f:=λj=>listed.getD j true) (g:=λj=>(listed.setIfInBounds i true).getD j true) (λj hj=>by
     by_cases e:i=j
     · subst e;exact Ao (by rw[h.ls];exact h1)
     ·show(listed.setIfInBounds i true).getD j true=true;rw[getD_set_ne e];exact hj) (j:=i) (Ao (by rw[h.ls];exact h1)) h2 ops.size h1
    omega
   obtain⟨o2,ju,jx,_,jm,_⟩:=EZ (Bs jb) jd;rw[ho]at ju;cases ju;have jp:∀ v w',V i v w'->o.dst=none->V i Z8 w':=λv w' hv hd=>jw (jx hd) i o v w' ho hd hv;have ji:∀ e∈o.after,Zl .any e=true->listed.getD e.on true=true:=λe he hb=>by
    have hlt2:=jm e he hb;exact Br h.ls (by omega) (h3 e he hb)
   have js:=Ce (Bs jb) h i jd (λo' je e he hb=>by rw[ho]at je;cases je;exact ji e he hb);have hO:=LX _ _ jD i o (by rw[ZL];exact ho) (by omega);rw[ZS]at hO;have jz:∀ j,j<ms.length->(ms.getD j 0).testBit i=true->listed.getD j true=false:=λj hj hb=>by
    rw[FJ (Bs jb)]at hj;cases hl:listed.getD j true with
    | false=>rfl
    | true =>
     have:=Ce (Bs jb) h j hj (λo' je e he jg=>h.closed j o' hj hl je e he jg) i hb;rw[h2]at this;cases this
   have hO:=hO a w _ h.size h2 js jz h.s (λj hj=>h.done j (by have:=Ea (Bs jb) jd hj;omega) (js j hj)) h.base (λj d hj hf=>h.und j d (by rw[FJ (Bs jb)]at hj;exact hj) hf);have jc:∀ w',X i w w'->∀ j,j<L->j≠i->listed.getD j true=true->∀ v,V j v w->V j v w':=λw' hx j hj jB hl v hv=>by
    refine hV i j v w w' jd hj (Ne.symm jB) ?_ hv hx;cases hb:(ms.getD j 0).testBit i with
    | false=>rfl
    | true =>
     have:=Ce (Bs jb) h j hj (λo' je e he jg=>h.closed j o' hj hl je e he jg) i hb;rw[h2]at this;cases this
   have jC:∀ c,o.op≠.defer c:=λc e=>by
    rw[X8]at jt;have:=jt o (zO ho);rw[e]at this;cases this
   unfold wpOpIn;rw[ho];simp only;cases hw:Zv o (yielded ops a.tmps) with
   | false =>
    rw[if_neg (by simp)];obtain⟨hv,jf⟩:=hO.2 hw;exact⟨λ_ _=>trivial,ih _ _ _ (rvAtS_put (Bs jb) hn h jd ho ji hv (jp _ _ hv) (λ_ _ _ _ _ h=>h) jf) jl⟩
   | true =>
    rw[if_pos rfl];refine⟨λ_ _=>trivial,?_⟩;rw[show(Fence.wide.inRound lR).round=some lR from rfl,Oper.semAt_some _ _ _ jC];rcases hO.1 hw with(⟨v,w',hr,hv,hx,jf⟩ | ⟨g,args,w',hr,hC⟩) | ⟨hd,w',hr,hv,hx,jf⟩
    ·rw[hr];exact ih _ _ _ (rvAtS_put (Bs jb) hn h jd ho ji hv (jp _ _ hv) (jc w' hx) jf) jl
    ·rw[hr];refine⟨λh=>(by cases h),((callsIn_wide.2 hC).inRound lR).mono ?_⟩;rintro e w'' ⟨v,rfl,hv,hx,jf⟩;exact ih _ _ _ (rvAtS_put (Bs jb) hn h jd ho ji hv (jp _ _ hv) (jc w'' hx) jf) jl
    ·rw[hr];exact ih _ _ _ (rvAtS_put (v:=Z8) (Bs jb) hn h jd ho ji hv (λ_=>hv) (jc w' hx) jf) jl
  ·rcases hs with hs | ⟨hs,oL,jv,jh,jo⟩
   · omega
   ·obtain rfl:i=L:=by omega
    rw[ho]at jv;cases jv;have ja:∀ j,j<i->listed.getD j true=true:=λj hj=>by
     obtain⟨e,he,hb,h4⟩:=jh j hj;have jq:=jo e he hb;have jr:listed.getD e.on true=true:=Br h.ls (by omega) (h3 e he hb);rcases h4 with rfl | h4
     · exact jr
     · exact Ce (Bs jb) h e.on jq (λo' je e' jA jg=>h.closed e.on o' jq jr je e' jA jg) j h4
    refine wpOpIn_mono (λa' w' hq=>N7 ?_ hq fuel) (jk (by omega) a w h.size h.df _ ja h.s (λj hj=>h.done j hj (ja j hj)) h.base);rw[XL];intro j hj;obtain⟨g1,g2,_⟩:=BE.1 hj;by_cases e:i=j
    · subst e;rw[Ao (by rw[h.ls];exact h1)]at g2;cases g2
    · rw[getD_set_ne e,ja j (by omega)]at g2;cases g2
def LM {bn:Bool}{id:Nat}(je:(ops.all λo=>match o.op with | .defer _=>false | _=>true)=true)(hm:P.follows .mixedOrders=true){w:Z0}(V:Nat->Z6->Z0->Prop)(X:Nat->Z0->Z0->Prop)(S:(Nat->Bool)->Z0->Prop)(ms:List Nat)(n L:Nat)(jc:rvOkS ops ms bn n L=true)(hn:a0.tmps.size=n)(jd:bn=true->∀ i o v w,ops[i]? = some o->o.dst=none->V i v w->V i Z8 w)
  (hV:∀ i j v w w',i<L->j<L->i≠j->(ms.getD j 0).testBit i=false->V j v w->X i w w'->V j v w') (hS:∀ f:Nat->Bool,(∀ i,i<L->f i=false)->S f { w with drawn:=w.drawn+1 })
  (jf:Hd P ops V X S ms a0 L 0 ops.toList)
  (jb:ops.size=L->∀ a w,a.tmps.size=a0.tmps.size->a.defers=a0.defers->(∀ f:Nat->Bool,(∀ i,i<L->f i=true)->S f w->(∀ i,i<L->V i (Ae ops a i) w)->(∀ t,(ops.all λo'=>o'.dst != some t)=true->a.tmps.getD t Z8=a0.tmps.getD t Z8)->Q .normal a w))
  (ja:ops.size≠L->∀ a w,a.tmps.size=a0.tmps.size->a.defers=a0.defers->(∀ f:Nat->Bool,(∀ i,i<L->f i=true)->S f w->(∀ i,i<L->V i (Ae ops a i) w)->(∀ t,(ops.all λo'=>o'.dst != some t)=true->a.tmps.getD t Z8=a0.tmps.getD t Z8)->wpOpIn (Fence.wide.inRound lR) nR P ops Q L (λa' w'=>Q .normal a' w') a w)) :
  (zT id ops true).wpIn (Fence.wide.inRound lR) nR P Q a0 w:=by
 have hs:=rvOkS_size jc;have hf:∀ i,i<ops.size->(Xd ops.size false).getD i true=false:=λi hi=>by rw[A6,XW,if_pos hi];rfl
 have h0:JE ops V S a0 L (Xd ops.size false) a0 { w with drawn:=w.drawn+1 }:=by
  refine⟨by simp,λhl=>hf L hl,rfl,rfl,hS _ λi hi=>hf i (by omega),λi o hi h=>?_,λi hi h=>?_,λ_ _=>rfl,λ_ _ _ _ _=>rfl⟩
  · rw[hf i (by omega)]at h;cases h
  · rw[hf i (by omega)]at h;cases h
 exact wpIn_region_any hm (rvS_anyI je jd hV jc hn jf jb ja ops.size (Xd ops.size false) a0 _ h0 (I1 _ _))
end
def QT (ops:Array ZX):List Nat:=(Zt ops.size).filter λi=>match ops[i]? with
 | some o=>o.dst.isNone
 | none=>false
def W7 {ops:Array ZX}{l:List (Z6->Z0->Prop)}{ks:List Nat}(hk:QT ops=ks)(h:∀ k∈ks,∀ v w,Vs l k v w->Vs l k Z8 w):true=true->∀ i o v w,ops[i]? = some o->o.dst=none->Vs l i v w->Vs l i Z8 w:=λ_ i o v w ho hd hv=>by
 refine h i ?_ v w hv;rw[<- hk];unfold QT;rw[AZ];refine⟨Aa.2 (A7.1 ho).1,?_⟩;rw[ho];simp[hd]
def BG:CB Edg:=⟨43,62,4,32,aJ #[aA aM 0,aA aM 0,aA aM 0,aA aM 0],λe=>[aA aM e.1,aA aM e.2.1,aA aM e.2.2.1,aA aM e.2.2.2]⟩
def D8:BG.Ok:=⟨Tryz.underlying43,by kernel_rfl,rfl,by decide,λ_=>rfl,λx u hu=>by
 have h:u=aA aM x.1\/u=aA aM x.2.1\/u=aA aM x.2.2.1\/u=aA aM x.2.2.2:=by simpa[BG] using hu
 rcases h with rfl | rfl | rfl | rfl <;> rfl,by decide⟩
def D3 (w:Z0)(a:Option Zj)(E:List Edg):Prop:=∀ k (hk:k<E.length),∃ b o,a=some ⟨b,o,none⟩/\b<w.heap.size/\w.cell? ⟨b,o+k*4,none⟩=some (aA aM E[k].1)/\w.cell? ⟨b,o+k*4+1,none⟩=some (aA aM E[k].2.1)/\w.cell? ⟨b,o+k*4+2,none⟩=some (aA aM E[k].2.2.1)/\w.cell? ⟨b,o+k*4+3,none⟩=some (aA aM E[k].2.2.2)
def D3.kp {w w1:Z0}{a:Option Zj}{E:List Edg}(h:D3 w a E)(hk:Kc w w1):D3 w1 a E:=λk hl=>by
 obtain⟨b,o,ha,h1,h2,h3,h4,h5⟩:=h k hl;exact⟨b,o,ha,A9 h1 hk.size,hk.cell h2,hk.cell h3,hk.cell h4,hk.cell h5⟩
def D3.later {w w1:Z0}{a:Option Zj}{E:List Edg}{B:Nat}(h:D3 w a E)(hb:Below B w w1)(hB:w.heap.size<=B):D3 w1 a E:=h.kp (Kc.of hb hB)
def D3.go {w w1:Z0}{a:Option Zj}{E:List Edg}(h:D3 w a E)(hx:Ext w w1):D3 w1 a E:=h.later hx (A5 _)
def D3.nil (w:Z0)(a:Option Zj):D3 w a []:=λk hk=>absurd hk (Xj k)
def Af.edgs {w:Z0}{B:Nat}{a:Option Zj}{n c:Nat}{L:List Edg}(h:Af BG w B (aG a n c) L):D3 w a L/\n=L.length/\L.length<=c:=by
 obtain⟨a',c',he,hc,_⟩:=h.form;injection he with e1 e2 e3;refine⟨λk hk=>?_,e2,by omega⟩;rcases h.blk with⟨_,rfl⟩ | ⟨g,c2,ja,_,hg,_⟩
 · simp at hk
 ·injection ja with f1 f2 f3;subst f1;refine⟨g,0,rfl,hg,?_,?_,?_,?_⟩
  ·have:=h.cell D8 hk (j:=0) (by decide);simpa[BG] using this
  ·have:=h.cell D8 hk (j:=1) (by decide);simpa[BG] using this
  ·have:=h.cell D8 hk (j:=2) (by decide);simpa[BG] using this
  ·have:=h.cell D8 hk (j:=3) (by decide);simpa[BG] using this
def Cv (a:Option Zj)(b o len cap k:Nat)(ha:a=some ⟨b,o,none⟩)(hk:k<len)(w:Z0) :
  (ZK 43 (aG a len cap) (aA aM (k:Int))).run Z1 w=.ok (aB (some ⟨b,o+k*4,none⟩)) w:=by
 subst ha;have h0:(0:Int)<=(k:Int):=by omega
 have h1:(k:Int)<(len:Int):=by omega
 simp[go_sem,h0,h1]
def Gs (n:Int)(a:Option Zj)(len cap:Nat):Z6:=aJ #[aA aM n,aG a len cap]
def Rq (n m:Int)(a b:Option Zj)(k c l d:Nat)(w:Z0):∃ w1,(w.alloc (aK #[aA aM n,aG a k c] 45)).alloc (aK #[aA aM m,aG b l d] 45)=w1/\Ext w w1 /\
  (∀ W,Ext w1 W->W.cell? ⟨w.heap.size,0,none⟩=some (aA aM n)/\W.cell? ⟨w.heap.size,1,none⟩=some (aG a k c))/\(∀ W,Ext w1 W->W.cell? ⟨w.heap.size+1,0,none⟩=some (aA aM m)/\W.cell? ⟨w.heap.size+1,1,none⟩=some (aG b l d)):=by
 obtain⟨wa,ja⟩:∃ wa,w.alloc (aK #[aA aM n,aG a k c] 45)=wa:=⟨_,rfl⟩
 obtain⟨w1,jb⟩:∃ w1,wa.alloc (aK #[aA aM m,aG b l d] 45)=w1:=⟨_,rfl⟩
 have hx:Ext w wa:=by rw[<- ja];exact(Z2 _ _).alloc (A5 _) _
 have hy:Ext wa w1:=by rw[<- jb];exact(Z2 _ _).alloc (A5 _) _
 have hz:wa.heap.size=w.heap.size+1:=by rw[<- ja];simp
 have h1:wa.heap[w.heap.size]? = some (aK #[aA aM n,aG a k c] 45 (0,0)):=by rw[<- ja];exact Z4 _ _
 have h2:w1.heap[w.heap.size+1]? = some (aK #[aA aM m,aG b l d] 45 (0,0)):=by rw[<- hz,<- jb];exact Z4 _ _
 refine⟨w1,by rw[ja,jb],Ext.trans hx hy,λW hW=>?_,λW hW=>?_⟩
 ·have h3:=(Z7 (Ext.trans hy hW) _ (A7.1 h1).1).trans h1;exact⟨by rw[Z3 W _ 0 _ _ _ h3];rfl,by rw[Z3 W _ 1 _ _ _ h3];rfl⟩
 ·have h3:=(Z7 hW _ (A7.1 h2).1).trans h2;exact⟨by rw[Z3 W _ 0 _ _ _ h3];rfl,by rw[Z3 W _ 1 _ _ _ h3];rfl⟩
def esame_any
         (D E:List Edg) (n m:Int) (a b:Option Zj) (c d:Nat) (w:Z0) (hX:D3 w a D) (hY:D3 w b E) (hl1:D.length<=9223372036854775807) (hl2:E.length<=9223372036854775807) :
  Zu Z1 16 #[Gs n a D.length c,Gs m b E.length d] w λe w'=>e=aP (aH (decide (n=m/\D=E)))/\Ext w w':=by
 have HX:=A0 hX;have HY:=A0 hY;clear hX hY;unfold Gs
 go_enter Tryz.func16,Tryz.ntmps16
 go_upto_region 1 with fail
 obtain⟨w1,jo,jp,jl,jm⟩:=Rq n m a b D.length c E.length d w;rw[jo];have ja:=A0 jp;have je:=A0 jl;have jf:=A0 jm;clear jo jp jl jm;obtain⟨g,hg⟩:∃ g,w.heap.size=g:=⟨_,rfl⟩
 rw[hg]at je jf ⊢;clear hg;obtain⟨p0,p1⟩:=je.out w1 (Ext.refl _);obtain⟨q0,q1⟩:=jf.out w1 (Ext.refl _);by_cases hn:n=m
 ·subst
     hn
  by_cases hl:D.length=E.length
  ·have jr:(
         (D.length:Int) != (E.length:Int))=false:=by simp[hl]
   have HL:=A0 hl;clear hl
   go_wp2_with fail
   clear p0 p1 q0 q1
   go_loopg [5] D.length (λg v5 wr=>∃ k:Nat,v5=aA aM (k:Int)/\k<=D.length/\g=D.length - k/\D.take k=E.take k/\Ext w1 wr)
   case atStart=>exact⟨0,rfl,Ze _,rfl,rfl,Ext.refl _⟩
   case round =>
    obtain⟨k,rfl,hk,jn,ht,hB⟩:=hrel;have HT:=A0 ht;have HB:=A0 hB;have jq:=A0 jn;clear ht hB jn;obtain⟨p0,p1⟩:=je.out wr HB.out;obtain⟨q0,q1⟩:=jf.out wr HB.out;have jd:Ext w wr:=Ext.trans ja.out HB.out;by_cases jg:k<D.length
    ·have jb:k<E.length:=by have:=HL.out;omega
     obtain⟨b1,o1,jj,hb1,x0,x1,x2,x3⟩:=(HX.out.go jd) k jg;obtain⟨b2,o2,jk,hb2,y0,y1,y2,y3⟩:=(HY.out.go jd) k jb;have hi1:=Cv a b1 o1 D.length c k jj jg;have hi2:=Cv b b2 o2 E.length d k jk jb;have jh:Hid (D.take (k+1)=D.take k ++ [D[k]]):=AR jg;have ji:Hid (E.take (k+1)=E.take k ++ [E[k]]):=AR jb;have jc:Hid (D[k]≠E[k]->decide (D=E)=false):=λjs=>decide_eq_false λh=>by
      subst h;exact js rfl
     have HXR:=A0 jd;obtain⟨⟨e1,e2,e3,e4⟩,hx⟩:∃ x,D[k]=x:=⟨_,rfl⟩
     obtain⟨⟨f1,f2,f3,f4⟩,hy⟩:∃ y,E[k]=y:=⟨_,rfl⟩
     rw[hx]at x0 x1 x2 x3 jh jc;rw[hy]at y0 y1 y2 y3 ji jc;simp only at x0 x1 x2 x3 y0 y1 y2 y3;clear jj jk hx hy jd;by_cases h0:e1=f1
     ·subst
         h0
      by_cases h1:e2=f2
      ·subst h1;by_cases h2:e3=f3
       ·subst h2;by_cases h3:e4=f4
        ·subst h3;go_wp2
         go_quiet (fail)
         go_wp2
         go_roundg (D.length - (k+1))
         case measure=>have:=jq.out;omega
         case rel=>exact⟨k+1,by go_num,by omega,rfl,by rw[jh.out,ji.out,HT.out],below_drewN HB.out _⟩
        ·have hg3:(e4 == f4)=false:=by rw[beq_eq_false_iff_ne];exact h3
         have HR:=A0 (jc.out λe=>h3 (by injection e with _ e;injection e with _ e;injection e with _ e));go_wp2
         go_quiet (fail)
         go_wp2;go_ret;exact⟨Ad HR.out.symm,Ext.trans ja.out (below_drewN HB.out _)⟩
       ·have hg2:(e3 == f3)=false:=by rw[beq_eq_false_iff_ne];exact h2
        have HR:=A0 (jc.out λe=>h2 (by injection e with _ e;injection e with _ e;injection e with e));go_wp2
        go_quiet (fail)
        go_wp2;go_ret;exact⟨Ad HR.out.symm,Ext.trans ja.out (below_drewN HB.out _)⟩
      ·have hg1:(e2 == f2)=false:=by rw[beq_eq_false_iff_ne];exact h1
       have HR:=A0 (jc.out λe=>h1 (by injection e with _ e;injection e with e));go_wp2
       go_quiet (fail)
       go_wp2;go_ret;exact⟨Ad HR.out.symm,Ext.trans ja.out (below_drewN HB.out _)⟩
     ·have hg0:(e1 == f1)=false:=by rw[beq_eq_false_iff_ne];exact h0
      have HR:=A0 (jc.out λe=>h0 (by injection e with e));go_wp2
      go_quiet (fail)
      go_wp2;go_ret;exact⟨Ad HR.out.symm,Ext.trans ja.out (below_drewN HB.out _)⟩
    ·have HR:Hid (decide (D=E)=true):=decide_eq_true (by
      have h:=HT.out;have h2:=HL.out;rw[AH (by omega),AH (by omega)]at h;exact h)
     go_wp2;go_ret;exact⟨Ad HR.out.symm,Ext.trans ja.out HB.out⟩
  ·have jr:((D.length:Int) == (E.length:Int))=false:=by simpa using λh=>hl (by omega)
   have HR:Hid (decide (D=E)=false):=decide_eq_false λh=>hl (by rw[h]);go_wp2;go_ret;exact⟨Ad HR.out.symm,ja.out⟩
 ·have hnI:(n == m)=false:=by rw[beq_eq_false_iff_ne];exact hn
  have HR:Hid (decide (n=m/\D=E)=false):=decide_eq_false λh=>hn h.1;go_wp2;go_ret;exact⟨Ad HR.out.symm,ja.out⟩
def TU {N i j:Nat}{pre rest:List (Nat × Nat)}(h:spn N=pre ++ (i,j) :: rest)(hne:j≠i+1):∃ p,pre=p ++ [(i,j - 1)]:=by
 have hs:=Kd N;rw[h,Xx]at hs;obtain⟨h1,h2,h3⟩:=hs;have hm:(i,j)∈spn N:=by rw[h];simp
 obtain⟨h4,h5⟩:=IX.1 hm;have jb:(i,j - 1)∈spn N:=IX.2 ⟨by omega,by omega⟩;rw[h]at jb;have ja:(i,j - 1)∈pre:=by
  rcases AY.1 jb with h6 | h6
  · exact h6
  ·rcases AX.1 h6 with h6 | h6
   · injection h6 with _ h6;omega
   · have:=(AU.1 h2).1 _ h6;simp only at this;omega
 rcases List.eq_nil_or_concat pre with rfl | ⟨p,y,rfl⟩
 · cases ja
 ·rw[List.concat_eq_append]at h1 h3 ja ⊢;refine⟨p,?_⟩;obtain⟨a,b⟩:=y;have h7:=h3 (a,b) (by simp) (i,j) AB;rw[Xx]at h1;have h8:(i,j - 1)=(a,b)\/(i<a\/i=a/\j - 1<b):=by
   rcases AY.1 ja with h8 | h8
   · exact .inr (h1.2.2 _ h8 (a,b) (by simp))
   · exact .inl (by simpa using h8)
  simp only at h7;congr 2;rcases h8 with h8 | h8
  · exact h8.symm
  · ext <;> simp only <;> omega
def Kc.walk {A B:Z0}{row:Option Nat}(hg:A.grownBy B row)(hr:∀ r,row=some r->∃ o:Obj,A.heap[r]? = some o/\o.isCells=false):Kc A B:=by
 refine⟨hg.size,λq cs t f hq=>?_⟩;refine(hg.block q (A7.1 hq).1 λe=>?_).trans hq;obtain⟨o,h1,h2⟩:=hr q e.symm;rw[hq]at h1;cases h1;cases h2
def PZ {α:Type}{B:Nat}{I:List α->Z0->Prop}(h:∀ pre A C,Kc A C->I pre A->I pre C):OwnFrom B I:=λs A C row hs hg hr=>h s A C (Kc.walk hg λr e=>(hr r e).2) hs
def JZ (b o n cap i:Nat)(hi:i<=n)(hn:n<=cap):∃ o',(i<cap->o'=o+i)/\∀ w:Z0,
  (Xm 41 (aG (some ⟨b,o,none⟩) n cap) (some (aA aM (i:Int))) none none).run Z1 w=.ok (aG (some ⟨b,o',none⟩) (n - i) (cap - i)) w:=by
 have h0:(0:Int)<=(i:Int):=by omega
 have h1:(i:Int)<=(n:Int):=by omega
 have h2:(n:Int)<=(cap:Int):=by omega
 refine⟨if cap=i then o else o+i,λh=>if_neg (by omega),λw=>?_⟩;simp[go_sem,Xm,Xw,XA,asIntOf,h0,h1,h2,Addr.add,hi];by_cases e:cap=i
 · simp[e]
 ·by_cases e0:i=0
  · simp[e0]
  · simp[e,e0]
def FF.sub {w:Z0}{b o o' c:Nat}{L:List Slt}(h:FF w (some ⟨b,o,none⟩) c L){i j:Nat}(hij:i<=j)(hj:j<=L.length)(ho:i<c->o'=o+i):FF w (some ⟨b,o',none⟩) (c - i) ((L.drop i).take (j - i)) where
 s
  := λk hk=>by
  rw[AO,ZZ]at hk;obtain⟨b',o2,e,h2,aa,cc,h3,h4,h5⟩:=h.s (i+k) (by omega);injection e with e;injection e with e1 e2;subst e1 e2;have hc:=h.cap;have ja:=ho (by omega);refine⟨b,o',rfl,h2,aa,cc,?_,?_,?_⟩
  · rw[Xi,List.getElem_drop,ja,Nat.add_assoc];exact h3
  · rw[Xi,List.getElem_drop];exact h4
  · rw[Xi,List.getElem_drop];exact h5
 ha:=⟨λb2 hb=>⟨b,o',by injection hb with hb;exact hb.symm⟩,λe=>by cases e⟩
 cap:=by rw[AO,ZZ];have:=h.cap;omega
 len:=by rw[AO,ZZ];have:=h.len;omega
 bnd:=λs hs=>h.bnd s (Xf (Xo hs))
 dis:=λs hs=>h.dis s (Xf (Xo hs))
noncomputable def FG (S:Sch):Bool:=Fl.validB S && decide (BO S=0)
def E9 {S:Sch}(h:BO S=0):Fl.validB S=true:=by
 cases e:Fl.validB S with
 | true=>rfl
 | false=>rw[BO,if_neg (by rw[e];decide)]at h;cases h
def Km {S:Sch}:FG S=true↔BO S=0:=by
 unfold FG;rw[Zg,decide_eq_true_eq];exact⟨λh=>h.2,λh=>⟨E9 h,h⟩⟩
def r5sound_any (S:Sch)(a:Option Zj)(cap:Nat)(w:Z0)(hR:BC w a S.rules)(h0:0<=S.acc)(h1:S.acc<=255)(hl:S.rules.length<=9223372036854775807)(hS:Fl.validB S=true->Fit S) :
  Zu Z1 31 #[aJ #[aA aM S.modes,aA aO S.acc,aG a S.rules.length cap]] w λe w'=>e=aP (aH (FG S))/\Below w.heap.size w w':=by
 have HR:=A0 hR;have HS:=A0 hS;clear hR hS
 go_enter Tryz.func31,Tryz.ntmps31
 go_upto_region 1 with fail
 obtain⟨w1,jd⟩:∃ w1,w.alloc (aK #[aA aM S.modes,aA aO S.acc,aG a S.rules.length cap] 33)=w1:=⟨_,rfl⟩
 rw[jd];have ja:Hid (Ext w w1):=by show Ext _ _;rw[<- jd];exact(Z2 _ _).alloc (A5 _) _
 have jc:w1.heap[w.heap.size]? = some (aK #[aA aM S.modes,aA aO S.acc,aG a S.rules.length cap] 33 (0,0)):=by rw[<- jd];exact Z4 _ _
 have jj:Hid (∀ W,Ext w1 W->W.heap[w.heap.size]? = some (aK #[aA aM S.modes,aA aO S.acc,aG a S.rules.length cap] 33 (0,0))):=λW hx=>(Z7 hx _ (A7.1 jc).1).trans jc;clear jd;obtain⟨d0,d1,d2⟩:=B6 jc;clear jc
 go_wp2_with fail
 refine(Fl.rvalid_any S a cap w1 (HR.out.later ja.out (A5 _)) h0 h1 hl).mono ?_;rintro e w2 ⟨rfl,jg⟩;have jb:Hid (Ext w1 w2):=jg;clear jg d0 d1 d2;obtain⟨d0,d1,d2⟩:=B6 (jj.out w2 jb.out);cases hv:Fl.validB S with
 | false =>
  have HE:Hid (FG S=false):=by show _=_;unfold FG;rw[hv];rfl
  clear hv
  go_wp2_with fail
  go_ret;exact⟨Ad HE.out.symm,Ext.trans ja.out jb.out⟩
 | true =>
  have HV:=A0 hv;have je:=Fl.rsound_any S a cap w2 (HR.out.later (Ext.trans ja.out jb.out) (A5 _)) h0 h1 hl HS.out;rw[Fl.rsound_eq HS.out]at je;have ji:=A0 je;clear je hv
  go_wp2_with fail
  refine ji.out.mono ?_;rintro e w3 ⟨rfl,jh⟩;have jf:Hid (Ext w2 w3):=jh;clear jh d0 d1 d2;by_cases hz:BO S=0
  ·have HE:Hid (FG S=true):=Km.2 hz;rw[hz]
   go_wp2_with fail
   go_ret;exact⟨Ad HE.out.symm,Ext.trans ja.out (Ext.trans jb.out jf.out)⟩
  ·have HE:Hid (FG S=false):=by
    show _=_;unfold FG;rw[decide_eq_false hz,zM]
   have jl:(BO S == 0)=false:=by rw[beq_eq_false_iff_ne];exact hz
   obtain⟨z,jk⟩:∃ z,BO S=z:=⟨_,rfl⟩
   rw[jk]at hz jl ⊢
   go_wp2_with fail
   go_ret;exact⟨Ad HE.out.symm,Ext.trans ja.out (Ext.trans jb.out jf.out)⟩
end Go.Proofs.YtpljngaejaehcaaGreatDoor
