/- Texts that the claims share. -/
import Derived.Deep.CutBlock
import Derived.Deep.OwnRows
import Derived.Test.YtpljngaejaehcaaGreatDoorMK8
import Derived.Test.YtpljngaejaehcaaGreatDoorMK2
import Derived.Test.YtpljngaejaehcaaGreatDoorMK6
import Derived.Test.YtpljngaejaehcaaGreatDoorMD1
import Derived.Test.YtpljngaejaehcaaGreatDoorMD4
import Derived.Test.YtpljngaejaehcaaGreatDoorMF3
import Derived.Test.YtpljngaejaehcaaGreatDoorMF4
open Go.Value renaming int->aA,pointer->aB,slice->aG,bool->aH,string->aI,agg->aJ,bool->Y7,slice->Zk,string->xB
open Go.Obj renaming cells->aK
open Go.IntKind renaming i64->aM,u8->aO
open Go.Ending renaming returned->aP
open Go.Act renaming put->ZE,eval->Zf
open Go renaming Addr->Zj,Calls->Zu,Oper->ZX,TypeId->X5,Value->Z6,World->Z0,cell_of_row->Z3,heap_alloc_new->Z4,undef->Z8
open Array renaming getElem?_modify->X6,length_toList->Xq,mem_of_getElem?->zO
open Go.RowKit.Below renaming block->Z7,grown->Xz,heap_alloc->ZF,heap_setCell->Zc,mono->ZT,refl->Z2,trans->Y9,cell->Zx,size->XE
open Go.Instr renaming indexAt->ZK
open Int renaming tdiv_eq_ediv_of_nonneg->xj,tmod_eq_emod_of_nonneg->ZJ,toNat_natCast->ZW
open Go.IntWalk renaming i64_in->Zq,u8_in->zi
open List renaming append_assoc->Zw,append_nil->Xe,cons_append->ZG,flatMap_cons->ZA,foldl->Zp,getElem?_map->XG,getElem_of_mem->zr,getElem_set_self->XU,length_set->ZD,mem_of_mem_take->Xo,nil_append->ZP,range->Zt,range'->Zd,range_succ->z6,replicate->ZB,setIfInBounds_toArray->Z5,set_cons_succ->Za,set_cons_zero->Z9,take_length->zg,not_mem_nil->ZN,getElem?_eq_some_iff->Zh,length_cons->Zs,length_drop->ZZ,mem_cons_of_mem->Zm
open Nat renaming add_mul->Xp,mul_le_mul->Y1,mul_le_mul_right->ZM,zero_add->ZS,zero_le->Ze,not_lt_zero->Xj,add_zero->zl,succ_mul->zp
open Go.RowKit renaming wrap64->Y3
open Go.Proofs.Tryz renaming prog->Z1,underlying36->Y5
open UInt8 renaming ofNat->Zy
open Go.World renaming alloc_heap_new->zh,frozen?->Zn,setCell->zy,cell?_of_block->zb,size_setCell->Zb
open Classical renaming propDecidable->Xr
open Go.Region renaming binds->Zl
open ByteArray renaming data_append->XF
set_option maxHeartbeats 12800000
set_option maxRecDepth 100000
set_option linter.unusedVariables false
set_option linter.unusedSimpArgs false
set_option linter.defProp false
namespace Go.Proofs.YtpljngaejaehcaaGreatDoor
open Go.RowKit Go.WideShapes Fl
def OY {α:Type}{f:α->List Z6}{k:Nat}(hk:∀ x,(f x).length=k):∀ (L:List α) (i j:Nat) (hi:i<L.length) (x:α) (u:Z6),j<k->f x=(f L[i]).set j u->(L.set i x).flatMap f=(L.flatMap f).set (i*k+j) u
 | y :: r,0,j,_,x,u,hj,h=>by
  rw[Z9,ZA,ZA,Nat.zero_mul,ZS,List.set_append,if_pos (by rw[hk];exact hj)];rw[h];rfl
 | y :: r,i+1,j,hi,x,u,hj,h=>by
  have e:(i+1)*k+j - k=i*k+j:=by rw[Xp];omega
  rw[Za,ZA,ZA,List.set_append,if_neg (by rw[hk,Xp];omega),hk,e,OY hk r i j (by simpa using hi) x u hj h]
def Af.put {α:Type}{T:CB α}(hT:T.Ok){w:Z0}{B g n c i j:Nat}{L:List α}{x:α}{u:Z6}(h:Af T w B (aG (some ⟨g,0,none⟩) n c) L)(hi:i<L.length)(hj:j<T.k)(hx:T.enc x=(T.enc L[i]).set j u) :
  Af T (w.setCell ⟨g,i*T.k+j,none⟩ u) B (aG (some ⟨g,0,none⟩) n c) (L.set i x):=by
 rcases h.2 with⟨h0,_⟩ | ⟨g',cap,cur,he,h1,h2,h3,h4,h5,h6⟩
 · cases h0
 ·obtain⟨rfl,rfl,rfl⟩:g=g'/\n=L.length/\c=cap:=by
   injection he with e1 e2 e3;injection e1 with e1;injection e1 with e1;exact⟨e1,e2,e3⟩
  have hlt:i*T.k+j<L.length*T.k:=by
   have:(i+1)*T.k<=L.length*T.k:=ZM _ hi;rw[Xp]at this;omega
  refine⟨by rw[FT hT],.inr ⟨g,c,cur.setIfInBounds (i*T.k+j) u,by rw[ZD],h1,Aj h2 rfl,by rw[ZD];exact h3,h4,by rw[Array.size_setIfInBounds];exact h5,?_⟩⟩;rw[Array.toList_setIfInBounds,ZD,List.take_set,h6,OY hT.len L i j hi x u hj hx]
def Af.put4 {w:Z0}{B g n c i:Nat}{L:List Edg}(h:Af BQ w B (aG (some ⟨g,0,none⟩) n c) L)(hi:i<L.length)(e1 e2 e3 e4:Int) :
  Af BQ ((((w.setCell ⟨g,i*4,none⟩ (aA aM e1)).setCell ⟨g,i*4+1,none⟩ (aA aM e2)).setCell ⟨g,i*4+2,none⟩ (aA aM e3)).setCell ⟨g,i*4+3,none⟩ (aA aM e4)) B (aG (some ⟨g,0,none⟩) n c) (L.set i (e1,e2,e3,e4)):=by
 have h1:=Af.put BW h hi (j:=0) (x:=(e1,L[i].2.1,L[i].2.2.1,L[i].2.2.2)) (u:=aA aM e1) (by decide) rfl;have h2:=Af.put BW h1 (by rw[ZD];exact hi) (j:=1) (x:=(e1,e2,L[i].2.2.1,L[i].2.2.2)) (u:=aA aM e2) (by decide) (by rw[XU];rfl);have h3:=Af.put BW h2 (by rw[ZD,ZD];exact hi) (j:=2) (x:=(e1,e2,e3,L[i].2.2.2)) (u:=aA aM e3) (by decide) (by rw[XU];rfl);have h4:=Af.put BW h3 (by rw[ZD,ZD,ZD];exact hi) (j:=3) (x:=(e1,e2,e3,e4)) (u:=aA aM e4) (by decide) (by rw[XU];rfl);rw[List.set_set,List.set_set,List.set_set]at h4;exact h4
def Tq.grow {g:Nat}{w0 w w':Z0}{v:Z6}(h:Tq g w0 w)(hg:w.grownBy w' v.ownBlock)(hv:∀ q,v.ownBlock=some q->w0.heap.size<=q):Tq g w0 w' :=
 ⟨hg.os.trans h.os,hg.tape.trans h.tape,hg.output.trans h.output,AA h.size hg.size,λk hk ja=>(hg.block k (A9 hk h.size) λe=>by have:=hv k e.symm;omega).trans (h.block k hk ja)⟩
def BA {w:Z0}{g:Nat}{a b:Z6}{t:X5}{f:Nat × Nat}(h:w.heap[g]? = some (aK #[a,b] t f)):w.cell? ⟨g,0,none⟩=some a/\w.cell? ⟨g,1,none⟩=some b:=by
 refine⟨?_,?_⟩ <;> (rw[Z3 w g _ _ _ f h];rfl)
def Wi {w w':Z0}{g:Nat}{tmp:Obj}{v0 v1:Z6}{t:X5}{v:Z6}(hg:(w.alloc tmp).grownBy w' v.ownBlock)(hm:w.heap[g]? = some (aK #[v0,v1] t (0,0)))(hn:v.ownBlock≠some g) :
  w'.cell? ⟨g,0,none⟩=some v0/\w'.cell? ⟨g,1,none⟩=some v1/\∀ i,w'.frozen? ⟨g,i,none⟩=false:=by
 have hl:=(A7.1 hm).1;have h1:w'.heap[g]? = some (aK #[v0,v1] t (0,0)):=(hg.block g (by rw[A8];omega) (Ne.symm hn)).trans ((ZF _ _ _ hl).trans hm);obtain⟨m0,m1⟩:=BA h1;exact⟨m0,m1,λi=>by simp[Zn,h1]⟩
def X1 {α:Type}{T:CB α}{w w' w0:Z0}{g n1 c1 n9 c9:Nat}{tmp:Obj}{v0:Z6}{t:X5}{a1 a9:Option Zj}{CS DS:List α}(hm:w.heap[g]? = some (aK #[v0,aG a1 n1 c1] t (0,0)))
  (ho:Af T w w0.heap.size (aG a1 n1 c1) CS) (ja:Af T w' w0.heap.size (aG a9 n9 c9) DS) (hg:(w.alloc tmp).grownBy w' (Zk a1 n1 c1).ownBlock) (ht:Tq g w0 w) (hw:g<w0.heap.size) :
  (w'.setCell ⟨g,1,none⟩ (aG a9 n9 c9)).heap[g]? = some (aK #[v0,aG a9 n9 c9] t (0,0))/\Af T (w'.setCell ⟨g,1,none⟩ (aG a9 n9 c9)) w0.heap.size (aG a9 n9 c9) DS/\Tq g w0 (w'.setCell ⟨g,1,none⟩ (aG a9 n9 c9)):=by
 have hl:=(A7.1 hm).1;have hx:Ext w (w.alloc tmp):=(Z2 _ _).alloc (A5 _) _;have h1:w'.heap[g]? = some (aK #[v0,aG a1 n1 c1] t (0,0)):=(hg.block g (by rw[A8];omega) (λe=>by have:=ho.ge g e.symm;omega)).trans ((ZF _ _ _ hl).trans hm);exact⟨Aj h1 rfl,ja.keep λq hq=>Zc _ _ _ _ (by have:=ja.ge q hq;show q≠g;omega),((ht.trans (Tq.of hx)).grow hg λq hq=>ho.ge q hq).trans (Tq.set _ _ _ _)⟩
def WA {w:Z0}{g:Nat}{u0 u1:Z6}{t:X5}(h:w.heap[g]? = some (aK #[u0,u1] t (0,0)))(v0 v1:Z6) :
  ∃ w',(w.setCell ⟨g,0,none⟩ v0).setCell ⟨g,1,none⟩ v1=w'/\Tq g w w'/\w'.cell? ⟨g,0,none⟩=some v0/\w'.cell? ⟨g,1,none⟩=some v1:=by
 have h4:((w.setCell ⟨g,0,none⟩ v0).setCell ⟨g,1,none⟩ v1).heap[g]? = some (aK #[v0,v1] t (0,0)):=Aj (Aj h rfl) rfl;obtain⟨c0,c1⟩:=BA h4;exact⟨_,rfl,(Tq.set _ _ _ _).trans (Tq.set _ _ _ _),c0,c1⟩
def GX (w:Z0)(o0 o1:Obj):∃ w2,(w.alloc o0).alloc o1=w2/\Ext w w2/\w2.heap[w.heap.size]? = some o0/\w2.heap[w.heap.size+1]? = some o1/\w2.heap.size=w.heap.size+1+1:=by
 have x:∀ (W:Z0) (o:Obj),Ext W (W.alloc o):=λW o=>(Z2 _ _).alloc (A5 _) _;have n:∀ (W:Z0) (o:Obj),(W.alloc o).heap[W.heap.size]? = some o:=λW o=>zh W o;refine⟨_,rfl,Ext.trans (x _ _) (x _ _),(Z7 (x _ _) _ (by simp)).trans (n _ _),?_,by simp⟩;have:=n (w.alloc o0) o1
 rwa [A8]at this
def WC (w:Z0)(o0 o1 o2:Obj):∃ w3,((w.alloc o0).alloc o1).alloc o2=w3/\Ext w w3/\w3.heap[w.heap.size]? = some o0/\w3.heap[w.heap.size+1]? = some o1/\w3.heap[w.heap.size+1+1]? = some o2/\w3.heap.size=w.heap.size+1+1+1:=by
 have x:∀ (W:Z0) (o:Obj),Ext W (W.alloc o):=λW o=>(Z2 _ _).alloc (A5 _) _;have n:∀ (W:Z0) (o:Obj),(W.alloc o).heap[W.heap.size]? = some o:=λW o=>zh W o;have k:∀ (W:Z0) (o p:Obj) (i:Nat),W.heap[i]? = some p->(W.alloc o).heap[i]? = some p:=λW o p i h=>(Z7 (x W o) _ (A7.1 h).1).trans h;refine⟨_,rfl,Ext.trans (x _ _) (Ext.trans (x _ _) (x _ _)),k _ _ _ _ (k _ _ _ _ (n _ _)),?_,?_,by simp⟩
 · exact k _ _ _ _ (by have:=n (w.alloc o0) o1;rwa [A8]at this)
 ·have:=n ((w.alloc o0).alloc o1) o2
  rwa [A8,A8]at this
def GrP (n:Int)(E:List Edg)(w:Z0)(e:Ending)(w':Z0):Prop:=∃ v,e=aP (aJ #[aA aM n,v])/\Af BQ w' w.heap.size v E/\Ext w w'
def Tq.own {α:Type}{T:CB α}{w w':Z0}{g B:Nat}{v:Z6}{L:List α}(ho:Af T w B v L)(ht:Tq g w w')(hg:g<B):Af T w' B v L:=ho.keep λq hq=>ht.block q (ho.lt q hq) λe=>by
 have h1:=ho.ge q hq;injection e with e;omega
def zE:Edg:=(0,0,0,0)
def Te {E:List Edg}{k:Nat}(hk:k<E.length){e:Edg}(he:E[k]=e):(E.take k ++ ZB (E.length - k) zE).set k e=E.take (k+1) ++ ZB (E.length - (k+1)) zE:=by
 have h1:(E.take k).length=k:=by rw[AO];omega
 rw[List.set_append,if_neg (by omega),h1,Nat.sub_self,AR hk,he,show E.length - k=(E.length - (k+1))+1 by omega,List.replicate_succ,Z9,Zw];rfl
def Rz {w:Z0}{ops:Array ZX}{rest:List ZX}{o:ZX}{a:Act}{Q:Exit->Act->Z0->Prop}
  (jc:o.guard=none) (l c:Operand) (jd:o.op=Op.makeSlice 51 l c) (B n:Nat) (hl:a.eval l=aA aM (n:Int)) (hc:a.eval c=aA aM (n:Int)) (hn:n<=1000000) (hB:B<=w.heap.size)
  (hK:∀ w',Af BQ w' B (aG (some ⟨w.heap.size,0,none⟩) n n) (ZB n zE)->Below w.heap.size w w'->wpList Z1 ops Q rest (a.put o.dst (aG (some ⟨w.heap.size,0,none⟩) n n)) w'):wpList Z1 ops Q (o :: rest) a w:=by
 obtain⟨i0,hi,je,jf,jg⟩:=info_parts BW.info;have hb:i0.bytes*n<=64*1000000:=Y1 (by rw[jg];decide) hn;refine wpList_make_full w jc l c BQ.sl jd B BQ.e i0 BQ.z BQ.k BW.und hi je jf aM aM (n:Int) (n:Int) n hl hc rfl rfl (by omega) (by unfold maxLen;omega) hB ?_;intro w' ja hg;refine hK w' ?_ ⟨hg.os,hg.tape,hg.output,hg.size,λk hk=>hg.block k hk (by simp)⟩;unfold Af;rw[AW];have e:(madeCells BQ.z.cells (n*BQ.k)).toList=(ZB n zE).flatMap BQ.enc:=by
  have h1:∀ m,(ZB m zE).flatMap BQ.enc=ZB (m*4) (aA aM 0):=λm=>by
   induction m with
   | zero=>rfl
   | succ m ih=>rw[List.replicate_succ,ZA,ih,show(m+1)*4=m*4+1+1+1+1 by omega];rfl
  rw[h1];apply List.ext_getElem
  · simp[madeCells,BQ]
  ·intro j h2 h3;have hm:j % 4=0\/j % 4=1\/j % 4=2\/j % 4=3:=by omega
   have jb:BQ.z.cells=#[aA aM 0,aA aM 0,aA aM 0,aA aM 0]:=rfl;rcases hm with hm | hm | hm | hm <;> simp[madeCells,hm,jb]
 rw[<- e];exact ja
def graph_any (n:Int)(E:List Edg)(a:Option Zj)(cap:Nat)(w:Z0)(hE:D3 w a E)(hl:E.length<=1000000) :
  Zu Z1 48 #[aA aM n,aG a E.length cap] w (GrP n E w):=by
 have HE:=A0 hE;clear hE
 go_enter Tryz.func48,Tryz.ntmps48
 go_upto_block 0 with(at_make;go_loud (refine Rz rfl _ _ rfl (w.heap.size+1) E.length (by go_num) (by go_num) (by omega) (by simp) ?_);intro w3 jb jz;have jd:=A0 jb;have jh:=A0 jz;clear jb jz)
 have jd:=A0 (by have h:=jd.out;rw[A8]at h;exact h);have jI:Ext w (w.alloc (aK #[aA aM 0,aG none 0 0] 53)):=(Z2 _ _).alloc (A5 _) _;have h0:=(Z7 jh.out _ (by simp)).trans (Z4 w (aK #[aA aM 0,aG none 0 0] 53));have jJ:w.heap.size+1<=w3.heap.size:=by have:=jh.out.size;rwa [A8]at this
 obtain⟨cs3,ja⟩:=B3 jd.out (g:=w.heap.size+1) rfl;have jD:=(A7.1 ja).1;obtain⟨w4,jl⟩:∃ w4,w3.alloc (aK #[aA aM n,aG (some ⟨w.heap.size+1,0,none⟩) E.length E.length] 53)=w4:=⟨_,rfl⟩
 rw[jl];have jn:Ext w3 w4:=by rw[<- jl];exact(Z2 _ _).alloc (A5 _) _
 have je:w4.heap[w3.heap.size]? = some (aK #[aA aM n,aG (some ⟨w.heap.size+1,0,none⟩) E.length E.length] 53 (0,0)):=by rw[<- jl];exact Z4 _ _
 have jQ:Hid (Ext w w4):=Ext.trans jI (Ext.trans jh.out jn);have jx:=A0 ((Z7 jn _ (A7.1 h0).1).trans h0);have jw:=A0 (jd.out.later jn (A5 _));obtain⟨gr,js⟩:∃ gr,w.heap.size=gr:=⟨_,rfl⟩
 have jp:=A0 js;obtain⟨gg,jB⟩:∃ gg,w3.heap.size=gg:=⟨_,rfl⟩
 rw[jB]at je jD jJ ⊢;rw[js]at je jD jJ jw jx ⊢;have jK:=A0 je;have jR:Hid (gg<w4.heap.size):=(A7.1 je).1;clear jI h0 ja jl jn je js jB jd jh
 go_wp2_with fail
 go_loopg [15,6,7] E.length (λg v15 v6 v7 wr=>∃ k:Nat,v15=aA aM (k:Int)/\k<=E.length/\g=E.length - k/\Af BQ wr (gr+1) (aG (some ⟨gr+1,0,none⟩) E.length E.length) (E.take k ++ ZB (E.length - k) zE)/\Tq (gr+1) w4 wr)
 case atStart=>exact⟨0,rfl,Ze _,rfl,jw.out,Tq.of (Ext.refl _)⟩
 case round =>
  obtain⟨k,rfl,hk,jC,jF,ht⟩:=hrel;have jq:=A0 jF;have HT:=A0 ht;have jL:=A0 jC;have jr:=ht.at (q:=gg) (by omega) jK.out;have jv:=A0 jr;obtain⟨m0,m1⟩:=BA jr;have jg:Ext w wr:=Y9 jQ.out (ZT (ht.below (A5 _) (by have:=jR.out;omega)) (by have:=jp.out;omega));have HXR:=A0 jg;have hgn:gr+1≠gg:=by omega
  clear jF ht jC jr;by_cases jj:k<E.length
  ·have hltI:(k:Int)<(E.length:Int):=by omega
   obtain⟨b1,o1,ha,hb1,x0,x1,x2,x3⟩:=(HE.out.go jg) k jj;have ju:=Cv a b1 o1 E.length cap k ha jj;have ji:Hid (∀ e,E[k]=e->(E.take k ++ ZB (E.length - k) zE).set k e=E.take (k+1) ++ ZB (E.length - (k+1)) zE):=λe he=>Te jj he;obtain⟨⟨e1,e2,e3,e4⟩,hx⟩:∃ x,E[k]=x:=⟨_,rfl⟩
   have ji:=A0 (ji.out _ hx);rw[hx]at x0 x1 x2 x3;simp only at x0 x1 x2 x3;obtain⟨M,hM⟩:∃ M,E.take k ++ ZB (E.length - k) zE=M:=⟨_,rfl⟩
   have jE:M.length=E.length:=by rw[<- hM,AD,AO,AW];omega
   have jf:k<M.length:=by omega
   rw[hM]at jq ji;have HML:=A0 jE;clear hM hx ha jE jg
   go_upto_region 5 with fail
   obtain⟨wq,jm⟩:∃ wq,wr.alloc (aK #[aA aM e1,aA aM e2,aA aM e3,aA aM e4] 62)=wq:=⟨_,rfl⟩
   rw[jm];have jo:Ext wr wq:=by rw[<- jm];exact(Z2 _ _).alloc (A5 _) _
   have jA:wq.heap[wr.heap.size]? = some (aK #[aA aM e1,aA aM e2,aA aM e3,aA aM e4] 62 (0,0)):=by rw[<- jm];exact Z4 _ _
   have jO:Hid (Tq (gr+1) w4 wq):=HT.out.trans (Tq.of jo);have jc:=jq.out.later jo (A5 _);have jN:=A0 jc;clear m0 m1 x0 x1 x2 x3 ju;obtain⟨m0,m1⟩:=BA ((Z7 jo _ (A7.1 jv.out).1).trans jv.out);obtain⟨u0,u1,u2,u3⟩:=Av jA;obtain⟨cs3,ja⟩:=B3 jc (g:=gr+1) rfl;have lf:∀ i,wq.frozen? ⟨gr+1,i,none⟩=false:=λi=>by simp[Zn,ja]
   have y0:wq.cell? ⟨gr+1,k*4,none⟩=some (aA aM M[k].1):=by
    have h:=jc.cell BW jf (j:=0) (by decide);simpa[BQ] using h
   have y1:wq.cell? ⟨gr+1,k*4+1,none⟩=some (aA aM M[k].2.1):=by
    have h:=jc.cell BW jf (j:=1) (by decide);simpa[BQ] using h
   have y2:wq.cell? ⟨gr+1,k*4+2,none⟩=some (aA aM M[k].2.2.1):=by
    have h:=jc.cell BW jf (j:=2) (by decide);simpa[BQ] using h
   have y3:wq.cell? ⟨gr+1,k*4+3,none⟩=some (aA aM M[k].2.2.2):=by
    have h:=jc.cell BW jf (j:=3) (by decide);simpa[BQ] using h
   have jt:=NE (some ⟨gr+1,0,none⟩) (gr+1) 0 E.length E.length k rfl jj;rw[ZS]at jt;clear jm jo jA ja jc
   go_wp2_with fail
   go_roundg (E.length - (k+1))
   case measure=>have:=jL.out;omega
   case rel =>
    have hp:=jN.out.put4 jf e1 e2 e3 e4;rw[ji.out]at hp;exact⟨k+1,by go_num,by omega,rfl,hp,(((jO.out.trans (Tq.set _ _ _ _)).trans (Tq.set _ _ _ _)).trans (Tq.set _ _ _ _)).trans (Tq.set _ _ _ _)⟩
  ·obtain rfl:k=E.length:=by omega
   have jM:Hid (Af BQ wr (gr+1) (aG (some ⟨gr+1,0,none⟩) E.length E.length) E):=by
    have h:=jq.out;rw[zg,Nat.sub_self,List.replicate_zero,Xe]at h;exact h
   have jk:=HT.out.at (q:=gr) (by omega) jx.out;obtain⟨r0,r1⟩:=BA jk;have rf:∀ i,wr.frozen? ⟨gr,i,none⟩=false:=λi=>by simp[Zn,jk]
   obtain⟨wf,jH,jG,t0,t1⟩:=WA jk (aA aM n) (aG (some ⟨gr+1,0,none⟩) E.length E.length);have jP:=A0 jH;have jy:=A0 jG;clear jk jH jG
   go_wp2_with fail
   rw[jP.out];clear m0 m1 r0 r1 rf;refine bodyPost_ret (v:=aJ #[aA aM n,aG (some ⟨gr+1,0,none⟩) E.length E.length]) (by simp[results,Tryz.results48,go_sem,t0,t1]) rfl ?_;exact⟨_,rfl,(Tq.own jM.out jy.out (by omega)).mono (by have:=jp.out;omega),Y9 jg (jy.out.below (by have:=jp.out;omega) jg.size)⟩
def Pf (n:Int)(E:List Edg)(a:Option Zj)(cap:Nat)(w:Z0)(hE:D3 w a E)(hl:E.length<=1000000)(hn0:0<=n)(hn1:n<=1000) :
  Zu Z1 18 #[Gs n a E.length cap] w (GrP (n+1) E w):=by
 have HE:=A0 hE;clear hE;have hw1:Y3 (n+1)=n+1:=by unfold Y3;omega
 have hw2:IntKind.i64.wrap (n+1)=n+1:=Zq _ (by omega);unfold Gs
 go_enter Tryz.func18,Tryz.ntmps18
 go_upto_region 1 with fail
 obtain⟨wb,je,jg,h0,h1,hz⟩:=GX w (aK #[aA aM n,aG a E.length cap] 45) (aK #[aA aM 0,aG none 0 0] 53);rw[je];obtain⟨m0,m1⟩:=BA h0;have jc:=A0 jg;have HR:=A0 h1;have HZ:=A0 hz;clear je jg h0 h1 hz
 go_wp2_with fail
 refine(graph_any (n+1) E a cap wb (HE.out.go jc.out) hl).mono ?_;rintro e w' ⟨v,rfl,hv,hx⟩;obtain⟨a9,c9,jl, -, -⟩:=hv.form;subst jl;have ja:=(Z7 hx _ (A7.1 HR.out).1).trans HR.out;obtain⟨r0,r1⟩:=BA ja;have rf:∀ i,w'.frozen? ⟨w.heap.size+1,i,none⟩=false:=λi=>by simp[Zn,ja]
 obtain⟨wf,jf,jd,t0,t1⟩:=WA ja (aA aM (n+1)) (aG a9 E.length c9);have jj:=A0 jf;have jb:=A0 jd;have ji:=A0 hv;have jk:=A0 hx;clear ja jf jd hv hx m0 m1
 go_wp2_with fail
 rw[jj.out];clear r0 r1 rf;refine bodyPost_ret (v:=aJ #[aA aM (n+1),aG a9 E.length c9]) (by simp[results,Tryz.results18,go_sem,t0,t1]) rfl ?_;have hzb:=HZ.out;have jh:=Ext.trans jc.out jk.out;exact⟨_,rfl,(Tq.own ji.out jb.out (by omega)).mono (by omega),Y9 jh (jb.out.below (by omega) jh.size)⟩
def Pg (n:Int)(E:List Edg)(a:Option Zj)(cap:Nat)(w:Z0)(hE:D3 w a E)(hl:E.length<=1000000)(hn0:0<=n)(hn1:n<=1000) :
  Zu Z1 19 #[Gs n a E.length cap] w (GrP (n+1) E w):=by
 have HE:=A0 hE;clear hE;have hw1:Y3 (n+1)=n+1:=by unfold Y3;omega
 have hw2:IntKind.i64.wrap (n+1)=n+1:=Zq _ (by omega);unfold Gs
 go_enter Tryz.func19,Tryz.ntmps19
 go_upto_block 0 with fail
 obtain⟨w0,jE,jG,h0,h1,h2,hz⟩:=WC w (aK #[aA aM n,aG a E.length cap] 45) (aK #[aA aM 0,aG none 0 0] 53) (aK #[aA aM (n+1),aG none 0 0] 53);rw[jE];obtain⟨gr,jm⟩:∃ gr,w.heap.size=gr:=⟨_,rfl⟩
 have jv:=A0 jm;rw[jm]at h0 h1 h2 hz ⊢;have jz:=A0 jG;have jH:=A0 h0;have jN:=A0 h1;have jI:=A0 h2;have HZ:=A0 hz;clear jE jG h0 h1 h2 hz jm
 go_wp2_with fail
 go_loopg [4,5] E.length (λg v4 v5 wr=>∃ (k:Nat) (a3:Option Zj) (c3:Nat),v4=aA aM (k:Int)/\k<=E.length/\g=E.length - k/\wr.heap[gr+1+1]? = some (aK #[aA aM (n+1),aG a3 (E.take k).length c3] 53 (0,0))/\Af BQ wr w0.heap.size (aG a3 (E.take k).length c3) (E.take k)/\Tq (gr+1+1) w0 wr)
 case atStart=>exact⟨0,none,0,rfl,Ze _,rfl,jI.out,Af.nil _ _ _,Tq.of (Ext.refl _)⟩
 case round =>
  obtain⟨k,a3,c3,rfl,hk,jC,jc,jq,ht⟩:=hrel;obtain⟨F,hF⟩:∃ F,E.take k=F:=⟨_,rfl⟩
  rw[hF]at jc jq;have hfl:F.length<=E.length:=by rw[<- hF,AO];omega
  have HF:=A0 hF;have jd:=A0 jq;have HT:=A0 ht;have jJ:=A0 jC;have HGB:=A0 jc;have hzz:=HZ.out;have ju:Ext w wr:=Y9 jz.out (ZT (ht.below (A5 _) (by omega)) (by have:=jv.out;omega));obtain⟨b0,b1⟩:=BA (ht.at (q:=gr) (by omega) jH.out);have jA:=A0 ju;clear jq ht jC hF;by_cases jo:k<E.length
  ·have hltI:(k:Int)<(E.length:Int):=by omega
   obtain⟨bb,o1,ha,hb1,x0,x1,x2,x3⟩:=(HE.out.go ju) k jo;have jn:=Cv a bb o1 E.length cap k ha jo;have jk:Hid (E.take (k+1)=F ++ [E[k]]):=by show _=_;rw[<- HF.out];exact AR jo
   obtain⟨⟨e1,e2,e3,e4⟩,hx⟩:∃ x,E[k]=x:=⟨_,rfl⟩
   rw[hx]at x0 x1 x2 x3 jk;simp only at x0 x1 x2 x3;clear hx ha ju
   go_upto_region 6 with fail
   obtain⟨wq,ji⟩:∃ wq,wr.alloc (aK #[aA aM e1,aA aM e2,aA aM e3,aA aM e4] 62)=wq:=⟨_,rfl⟩
   rw[ji];have jj:Ext wr wq:=by rw[<- ji];exact(Z2 _ _).alloc (A5 _) _
   have jB:wq.heap[wr.heap.size]? = some (aK #[aA aM e1,aA aM e2,aA aM e3,aA aM e4] 62 (0,0)):=by rw[<- ji];exact Z4 _ _
   have jy:Hid (Tq (gr+1+1) w0 wq):=HT.out.trans (Tq.of jj);have jd:=A0 (jd.out.later jj (A5 _));have jl:=(Z7 jj _ (A7.1 jc).1).trans jc;have jw:=A0 jl;have jL:Hid ((Zk a3 F.length c3).ownBlock≠some (gr+1+1)):=λe=>by have:=jd.out.ge _ e;omega
   clear b0 b1 x0 x1 x2 x3 jn;obtain⟨m0,m1⟩:=BA jl;obtain⟨u0,u1,u2,u3⟩:=Av jB;clear ji jj jB jl jc
   go_wp2_with (at_builtin;go_loud (refine Ah (v:=aG a3 F.length c3) BW rfl _ _ rfl rfl (jd.out.later ((Z2 _ _).alloc (A5 _) _) (A5 _)) ⟨wq.heap.size,0,none⟩ 1 [(e1,e2,e3,e4)] rfl (Ai (Z4 _ _)) (by simp only[AE];omega) (by have:=jy.out.size;simp only[A8];omega) ?_);intro v59 w59 jb ja jg;have jf:=A0 jb;have je:=A0 ja;clear jb ja jg;obtain⟨m0,m1,mf⟩:=Wi (je.out) (jw.out) (jL.out);obtain⟨a59,c59,jt, -, -⟩:=jf.out.form;subst jt)
   obtain⟨jp,jr,js⟩:=X1 jw.out jd.out jf.out je.out jy.out (by omega);simp only[AD,AE]at jp jr js;have jK:=A0 jp;have jM:=A0 jr;have jO:=A0 js;clear jp jr js
   go_roundg (E.length - (k+1))
   case measure=>have:=jJ.out;omega
   case rel=>exact⟨k+1,a59,c59,by go_num,by omega,rfl,by rw[jk.out,AD,AE];exact jK.out,by rw[jk.out,AD,AE];exact jM.out,jO.out⟩
  ·obtain rfl:k=E.length:=by omega
   have jQ:F=E:=by rw[<- HF.out,zg]
   subst jQ;obtain⟨m0,m1⟩:=BA jc;have jh:=HT.out.at (q:=gr+1) (by omega) jN.out;obtain⟨r0,r1⟩:=BA jh;have rf:∀ i,wr.frozen? ⟨gr+1,i,none⟩=false:=λi=>by simp[Zn,jh]
   obtain⟨wf,jF,jD,t0,t1⟩:=WA jh (aA aM (n+1)) (aG a3 F.length c3);have jP:=A0 jF;have jx:=A0 jD;clear jh jF jD jc
   go_wp2_with fail
   rw[jP.out];clear m0 m1 r0 r1 rf;refine bodyPost_ret (v:=aJ #[aA aM (n+1),aG a3 F.length c3]) (by simp[results,Tryz.results19,go_sem,t0,t1]) rfl ?_;exact⟨_,rfl,(Tq.own jd.out jx.out (by omega)).mono (by have:=jz.out.size;omega),Y9 jA.out (jx.out.below (by have:=jv.out;omega) jA.out.size)⟩
def QY (f:Nat->Bool)(e:Edg):Nat->Bool:=λj=>if j=e.2.1.toNat then(f j || f e.1.toNat) else f j
def LN (E:List Edg):Nat->Bool:=E.foldl QY (λj=>decide (j=0))
def S0 (n:Int)(E:List Edg):Bool:=LN E n.toNat
def Tf {E:List Edg}{k:Nat}(hk:k<E.length):LN (E.take (k+1))=QY (LN (E.take k)) E[k]:=by
 unfold LN;rw[AR hk,List.foldl_append];rfl
def S1 {f:Nat->Bool}{s t:Nat}{e3 e4:Int}(h:f s=true):QY f ((s:Int),(t:Int),e3,e4)=λj=>if j=t then true else f j:=by
 funext j;show(if j=((t:Int)).toNat then(f j || f ((s:Int)).toNat) else f j)=_;rw[ZW,ZW,h];simp
def Tg {f:Nat->Bool}{s t:Nat}{e3 e4:Int}(h:f s=false):QY f ((s:Int),(t:Int),e3,e4)=f:=by
 funext j;show(if j=((t:Int)).toNat then(f j || f ((s:Int)).toNat) else f j)=_;rw[ZW,ZW,h];simp
def C6 (n:Nat)(f:Nat->Bool):List Bool:=(Zt n).map f
def Cf (n:Nat)(f:Nat->Bool):(C6 n f).length=n:=by simp[C6]
def De {n i:Nat}{f:Nat->Bool}(h:i<n):(C6 n f)[i]? = some (f i):=by
 rw[C6,XG,List.getElem?_range h];rfl
def Iv {n t:Nat}{f:Nat->Bool}{b:Bool}:(C6 n f).set t b=C6 n (λj=>if j=t then b else f j):=by
 apply List.ext_getElem?;intro i;rw[List.getElem?_set];by_cases hi:i<n
 ·rw[De hi,De hi,Cf];by_cases e:t=i
  · subst e;simp[hi]
  · rw[if_neg e,if_neg (λh=>e h.symm)]
 ·have h1:(C6 n f)[i]? = none:=by rw[AT];rw[Cf];omega
  have h2:(C6 n (λj=>if j=t then b else f j))[i]? = none:=by rw[AT];rw[Cf];omega
  rw[h1,h2,Cf];split
  · rw[if_neg (by omega)]
  · rfl
def Gu (t:X5)(w:Z0)(g n:Nat)(f:Nat->Bool):Prop:=w.heap[g]? = some (.cells ((C6 n f).map Y7).toArray t (0,0))
section
variable {ty:TypeId} {w w1:World} {g n i:Nat} {f:Nat->Bool} {b:Bool}
def Gu.cell (h:Gu ty w g n f)(hi:i<n):w.cell? ⟨g,i,none⟩=some (aH (f i)):=by
 rw[Z3 w g i _ _ (0,0) h];rw[List.getElem?_toArray,XG,De hi];rfl
def Gu.free (h:Gu ty w g n f):w.frozen? ⟨g,i,none⟩=false:=by unfold Gu at h;simp[Zn,h]
def Gu.set (h:Gu ty w g n f):Gu ty (w.setCell ⟨g,i,none⟩ (aH b)) g n (λj=>if j=i then b else f j):=by
 unfold Gu at h ⊢;simp only[zy];rw[X6,if_pos rfl,h,<- Iv];simp[List.map_set]
def Gu.lt (h:Gu ty w g n f):g<w.heap.size:=(A7.1 h).1
def Gu.go (h:Gu ty w g n f)(hb:Ext w w1):Gu ty w1 g n f:=(Z7 hb g h.lt).trans h
end
def NF (g s:Nat)(hs:s<41)(w:Z0):(ZK 111 (aB (some ⟨g,0,none⟩)) (aA aM (s:Int))).run Z1 w=.ok (aB (some ⟨g,s,none⟩)) w:=by
 have h0:(0:Int)<=(s:Int):=by omega
 have h1:(s:Int)<41:=by omega
 simp[go_sem,h0,h1]
def Uz {n:Int}{e:Edg}(h:Cd n e)(hn:n<=40):∃ s t:Nat,e.1=(s:Int)/\e.2.1=(t:Int)/\s<t/\(t:Int)<=n/\t<41:=by
 unfold Cd at h;exact⟨e.1.toNat,e.2.1.toNat,by omega,by omega,by omega,by omega,by omega⟩
def lreach_any (n:Int)(E:List Edg)(a:Option Zj)(cap:Nat)(w:Z0)(hE:D3 w a E)(hl:E.length<=1000000)(jc:Ia n E) :
  Zu Z1 20 #[Gs n a E.length cap] w λe w'=>e=aP (aH (S0 n E))/\Ext w w':=by
 have HE:=A0 hE;have jA:=A0 jc;obtain⟨m,hm⟩:∃ m:Nat,n=(m:Int):=⟨n.toNat,by have:=jc.1;omega⟩
 have hm40:m<=40:=by have:=jc.2.1;omega
 subst hm;have HV:=A0 (GW jc);have jM:Hid (∀ k (h:k<E.length),∃ s t:Nat,E[k].1=(s:Int)/\E[k].2.1=(t:Int)/\s<t/\t<=m/\t<41):=λk h=>by
  obtain⟨s,t,h1,h2,h3,h4,h5⟩:=Uz (jA.out.2.2.2 k h h).1 jA.out.2.1;exact⟨s,t,h1,h2,h3,by omega,h5⟩
 clear hE jc;unfold Gs
 go_enter Tryz.func20,Tryz.ntmps20
 go_upto_region 1 with fail
 obtain⟨wb,jj⟩:∃ wb,w.alloc (aK #[aA aM (m:Int),aG a E.length cap] 45)=wb:=⟨_,rfl⟩
 rw[jj];have jL:Ext w wb:=by rw[<- jj];exact(Z2 _ _).alloc (A5 _) _
 have jg:wb.heap[w.heap.size]? = some (aK #[aA aM (m:Int),aG a E.length cap] 45 (0,0)):=by rw[<- jj];exact Z4 _ _
 obtain⟨gx,jp⟩:∃ gx,w.heap.size=gx:=⟨_,rfl⟩
 have HGE:=A0 jp;rw[jp]at jg ⊢;have jG:=A0 jL;have jy:=A0 jg;obtain⟨m0,m1⟩:=BA jg;clear jj jL jg jp
 go_wp2_with fail
 refine(lval_any (m:Int) E a cap wb (HE.out.go jG.out) hl).mono ?_;rintro e w1 ⟨rfl,jt⟩;rw[HV.out];have jF:Hid (Ext w w1):=Ext.trans jG.out jt;have jf:=(Z7 jt _ (A7.1 jy.out).1).trans jy.out;have jl:=A0 jf;clear jt m0 m1;obtain⟨m0,m1⟩:=BA jf;clear jf
 go_upto_region 5 with fail
 obtain⟨w4,ji⟩:∃ w4,w1.alloc (.cells ((C6 41 (λj=>decide (j=0))).map Y7).toArray 111)=w4:=⟨_,rfl⟩
 have jb:w1.alloc (aK #[aH true,aH false,aH false,aH false,aH false,aH false,aH false,aH false,aH false,aH false,aH false,aH false,aH false,aH false,aH false,aH false,aH false,aH false,aH false,aH false,aH false,aH false,aH false,aH false,aH false,aH false,aH false,aH false,aH false,aH false,aH false,aH false,aH false,aH false,aH false,aH false,aH false,aH false,aH false,aH false,aH false] 111)=w4:=by rw[<- ji];rfl
 rw[jb];have ju:Ext w1 w4:=by rw[<- ji];exact(Z2 _ _).alloc (A5 _) _
 have jr:Gu 111 w4 w1.heap.size 41 (LN (E.take 0)):=by show _=_;rw[<- ji];exact Z4 _ _
 obtain⟨gr,jK⟩:∃ gr,w1.heap.size=gr:=⟨_,rfl⟩
 rw[jK]at jr ⊢;have jB:=A0 jr;have jO:Hid (Ext w w4):=Ext.trans jF.out ju;have hgz:gx<gr:=by have:=(A7.1 jl.out).1;omega
 have jx:=A0 ((Z7 ju _ (A7.1 jl.out).1).trans jl.out);have jN:Hid (w.heap.size<=gr):=by show _<=_;have:=jF.out.size;omega
 clear m0 m1;obtain⟨m0,m1⟩:=BA jx.out;clear jb ji ju jr jK
 go_wp2_with fail
 clear m0 m1
 go_loopg [13,5] E.length (λg v13 v5 wr=>∃ k:Nat,v13=aA aM (k:Int)/\k<=E.length/\g=E.length - k/\Gu 111 wr gr 41 (LN (E.take k))/\Tq gr w4 wr)
 case atStart=>exact⟨0,rfl,Ze _,rfl,jB.out,Tq.of (Ext.refl _)⟩
 case round =>
  obtain⟨k,rfl,hk,jJ,ja,ht⟩:=hrel;have jo:=A0 ja;have HT:=A0 ht;have jz:=A0 jJ;have jI:=ht.at (q:=gx) (by omega) jx.out;have jw:Ext w wr:=Y9 jO.out (ZT (ht.below (A5 _) (by have:=jB.out.lt;omega)) jN.out);have jP:=A0 jw;obtain⟨m0,m1⟩:=BA jI;clear jJ ht;by_cases jh:k<E.length
  ·have hltI:(k:Int)<(E.length:Int):=by omega
   obtain⟨b1,o1,ha,jf,x0,x1,x2,x3⟩:=(HE.out.go jw) k jh;have jq:=Cv a b1 o1 E.length cap k ha jh;have HN:=A0 (Tf jh);obtain⟨s,t,hs,js,hst,htm,je⟩:=jM.out k jh;obtain⟨⟨e1,e2,e3,e4⟩,hx⟩:∃ x,E[k]=x:=⟨_,rfl⟩
   rw[hx]at x0 x1 x2 x3 HN hs js;simp only at x0 x1 x2 x3 hs js;subst hs js;obtain⟨f,hf⟩:∃ f,LN (E.take k)=f:=⟨_,rfl⟩
   rw[hf]at ja jo HN;obtain⟨r,hr⟩:∃ r,f s=r:=⟨_,rfl⟩
   have jD:=A0 hr;have his:=NF gr s (by omega);have hit:=NF gr t je;clear hx ha jw hf jI
   go_upto_region 8 with fail
   obtain⟨wq,jk⟩:∃ wq,wr.alloc (aK #[aA aM (s:Int),aA aM (t:Int),aA aM e3,aA aM e4] 62)=wq:=⟨_,rfl⟩
   rw[jk];have jv:Ext wr wq:=by rw[<- jk];exact(Z2 _ _).alloc (A5 _) _
   have jH:wq.heap[wr.heap.size]? = some (aK #[aA aM (s:Int),aA aM (t:Int),aA aM e3,aA aM e4] 62 (0,0)):=by rw[<- jk];exact Z4 _ _
   have jE:Hid (Tq gr w4 wq):=HT.out.trans (Tq.of jv);have jd:=ja.go jv;have jC:=A0 jd;have cs:=jd.cell (show s<41 by omega);have ct:=jd.cell je;have fz:wq.frozen? ⟨gr,t,none⟩=false:=jd.free;rw[hr]at cs;obtain⟨u0,u1,u2,u3⟩:=Av jH;clear jk jv jH jd ja m0 m1 x0 x1 x2 x3 jq hr;cases r with
   | true =>
    have jm:Hid (LN (E.take (k+1))=λj=>if j=t then true else f j):=HN.out.trans (S1 jD.out)
    go_wp2_with fail
    go_roundg (E.length - (k+1))
    case measure=>have:=jz.out;omega
    case rel=>exact⟨k+1,by go_num,by omega,rfl,by rw[jm.out];exact jC.out.set,jE.out.trans (Tq.set _ _ _ _)⟩
   | false =>
    have jm:Hid (LN (E.take (k+1))=f):=HN.out.trans (Tg jD.out)
    go_wp2_with fail
    go_roundg (E.length - (k+1))
    case measure=>have:=jz.out;omega
    case rel=>exact⟨k+1,by go_num,by omega,rfl,by rw[jm.out];exact jC.out,jE.out⟩
  ·obtain rfl:k=E.length:=by omega
   have him:=NF gr m (by omega);have cm:=ja.cell (show m<41 by omega);rw[zg]at cm;obtain⟨r,hr⟩:∃ r,LN E m=r:=⟨_,rfl⟩
   rw[hr]at cm;have jn:Hid (S0 (m:Int) E=r):=by show _=_;unfold S0;rw[ZW];exact hr
   clear hr ja
   go_wp2_with fail
   go_ret;exact⟨Ad jn.out.symm,jP.out⟩
def Es {α:Type}{T:CB α}(hT:T.Ok){w:Z0}{B g n:Nat}{cs:Array Z6}{L:List α}(h:w.heap[g]? = some (.cells cs T.e (0,0)))(jb:cs.toList=L.flatMap T.enc)(hB:B<=g)(hn:n=L.length)(hl:n<=1000000):Af T w B (aG (some ⟨g,0,none⟩) n n) L:=by
 subst hn;have ja:=FT hT L;have jc:cs.size=L.length*T.k:=by rw[<- Xq,jb,ja]
 refine⟨ja,.inr ⟨g,L.length,cs,rfl,hB,h,A5 _,by unfold maxLen;omega,jc,?_⟩⟩;rw[jb,AH (by rw[ja];exact A5 _)]
def NG {w:Z0}{g n:Nat}{cs:Array Z6}{Ls:List SV}{L:List Slt}(h:w.heap[g]? = some (.cells cs 81 (0,0)))(jb:cs.toList=Ls.flatMap G1.enc)(hn:n=Ls.length)(hl:n<=1000000)(ja:Ls.length=L.length)
  (jc:∀ (k:Nat) (x:SV) (s:Slt),Ls[k]? = some x->L[k]? = some s->Af Cc w 0 (svS x) s):DN w 0 (aG (some ⟨g,0,none⟩) n n) L :=
 ⟨Ls,Es Hw h jb (Ze _) hn hl,ja,jc⟩
def Th {w:Z0}{x:SV}{s:Slt}(h:Af Cc w 0 (svS x) s):∀ (k:Nat) (y:SV) (t:Slt),[x][k]? = some y->[s][k]? = some t->Af Cc w 0 (svS y) t:=λk y t h1 h2=>by
 rcases k with _ | k
 · cases h1;cases h2;exact h
 · simp at h1
open Go.RowKit Go.WideShapes
def mdW (Q:Nat->BR):Nat->List ByteArray
 | 0=>[⟨#[97]⟩,⟨#[98]⟩]
 | k+1=>Hz (mwF (Q k).Z (Q k).n) (mdW Q k)
def G4 (Q:Nat->BR):∀ k,2<=(mdW Q k).length/\(mdW Q k).length<=k+2
 | 0=>by simp[mdW]
 | k+1=>by
  have h:=G4 Q k;have h1:=Ks (bf:=wbf (mwF (Q k).Z (Q k).n)) (sm:=wsm (mwF (Q k).Z (Q k).n)) (mg:=id) (p:=mwF (Q k).Z (Q k).n) (mdW Q k);have h2:=TW (bf:=wbf (mwF (Q k).Z (Q k).n)) (sm:=wsm (mwF (Q k).Z (Q k).n)) (mg:=id) (p:=mwF (Q k).Z (Q k).n) (mdW Q k);rw[mdW,Hz];omega
def NH (Q:Nat->BR):∀ k,(mdW Q k).Pairwise λx y=>ltS x y=true
 | 0=>by
  rw[mdW];exact AU.2 ⟨λy hy=>by rw[AF.1 hy];kernel_rfl,List.pairwise_singleton _ _⟩
 | k+1=>by rw[mdW];exact Pb (NH Q k)
def Ph (Q:Nat->BR):∀ k,∀ x∈mdW Q k,D4 x=true/\x.size<=3
 | 0,x,hx=>by
  rw[mdW]at hx;rcases AX.1 hx with rfl | hx
  · decide
  · rw[AF.1 hx];decide
 | k+1,x,hx=>by
  rw[mdW,Hz]at hx;exact gins_all (P:=λx=>D4 x=true/\x.size<=3) (W9 _ _) (λq h=>h) (Ph Q k) x hx
def Ti (Q:Nat->BR)(k:Nat)(hk:k<=100):Cx (mdW Q k):=by
 have h:=G4 Q k;exact Ss (by omega) (by omega) (λx hx=>(Ph Q k x hx).1) (NH Q k)
def mdC (Z:Nat->Int)(nc n:Nat):List Nat:=(Zt n).map λi=>if i<nc then(Z i).toNat else 0
def QZ (Z:Nat->Int)(nc n:Nat):(mdC Z nc n).length=n:=by simp[mdC]
def OZ (Z:Nat->Int)(nc n:Nat):mdC Z nc (n+1)=mdC Z nc n ++ [if n<nc then(Z n).toNat else 0]:=by simp[mdC,z6]
def Qa (Z:Nat->Int)(nc:Nat)(hZ:∀ i,i<nc->Z i<=255):∀ n,FH (mdC Z nc n)<=255*n
 | 0=>by simp[mdC,FH]
 | n+1=>by
  have h:=Qa Z nc hZ n;rw[OZ,JA];split
  · rename_i h1;have:=hZ n h1;omega
  · omega
def mdP (n:Nat)(Z:Nat->Nat->Int):Nat->List Prs
 | 0=>[]
 | k+1=>Gt (Z k 0 % (n:Int),Z k 1 % (n:Int),1+Z k 2 % 16) (mdP n Z k)
def NI (n:Nat)(Z:Nat->Nat->Int):∀ k,(mdP n Z k).length<=k
 | 0=>by simp[mdP]
 | k+1=>by
  have h:=NI n Z k;rw[mdP,Gt];have h1:=Ks (bf:=pbf (Z k 0 % (n:Int),Z k 1 % (n:Int),1+Z k 2 % 16)) (sm:=psm (Z k 0 % (n:Int),Z k 1 % (n:Int),1+Z k 2 % 16)) (mg:=pmg (Z k 0 % (n:Int),Z k 1 % (n:Int),1+Z k 2 % 16)) (p:=(Z k 0 % (n:Int),Z k 1 % (n:Int),1+Z k 2 % 16)) (mdP n Z k);omega
def NJ (n:Nat)(hn:1<=n)(Z:Nat->Nat->Int):∀ k,GV n (mdP n Z k)
 | 0=>GV.nil n
 | k+1=>by
  rw[mdP];refine(NJ n hn Z k).add ⟨?_,?_,?_,?_,?_⟩
  · exact Int.emod_nonneg _ (by omega)
  · exact Int.emod_lt_of_pos _ (by omega)
  · exact Int.emod_nonneg _ (by omega)
  · exact Int.emod_lt_of_pos _ (by omega)
  · show 1<=1+Z k 2 % 16;omega
def NK (n:Nat)(Z:Nat->Nat->Int):∀ k:Nat,Bk (mdP n Z k)<=16*(k:Int)
 | 0=>by simp[mdP,Bk]
 | k+1=>by
  have h:=NK n Z k;rw[mdP,OW];simp only;omega
def Tj {n:Nat}(hn:1<=n)(Z:Nat->Nat->Int)(k:Nat)(hk:k<=100):∀ q∈mdP n Z k,0<=q.2.2/\q.2.2<=1000000000:=λq hq=>by
 have h1:=(NJ n hn Z k)
 have h2:=NK n Z k;obtain⟨i,hi,rfl⟩:=zr hq;have h3:=Kw hi;have h4:=OX h1 (i+1);have h5:0<=Bk ((mdP n Z k).take i):=G3 λq hq=>(h1.ok q (Xo hq)).2.2.2.2;have h6:=(h1.ok _ (AI hi)).2.2.2.2;omega
def Tk (Q:Nat->BR)(kw:Nat)(hkw:kw<=6)(Z:Nat->Int)(nc:Nat)(hZ:∀ i,i<nc->Z i<=255)(ZU:Nat->Nat->Int)(ku:Nat)(hku:ku<=8)(bk:Int)(h0:0<=bk)(h1:bk<=255) :
  Ku (mdW Q kw) (mdC Z nc (mdW Q kw).length) (mdP (mdW Q kw).length ZU ku) bk where
 dict:=Ti Q kw (by omega)
 len:=QZ _ _ _
 tot:=by have:=Qa Z nc hZ (mdW Q kw).length;have:=G4 Q kw;omega
 prs:=NJ _ (by have:=G4 Q kw;omega) _ _
 ptot:=by have:=NK (mdW Q kw).length ZU ku;omega
 plen:=by have:=NI (mdW Q kw).length ZU ku;omega
 b0:=h0
 b1:=by omega
def Qb (a:Option Zj)(b o len cap k:Nat)(ha:a=some ⟨b,o,none⟩)(hk:k<len)(w:Z0) :
  (ZK 27 (aG a len cap) (aA aM (k:Int))).run Z1 w=.ok (aB (some ⟨b,o+k*3,none⟩)) w:=by
 subst ha;have h0:(0:Int)<=(k:Int):=by omega
 have h1:(k:Int)<(len:Int):=by omega
 simp[go_sem,h0,h1]
def Dh (x:Nat->Int)(k:Nat):EH x (k+1)=EH x k ++ (if E6 (x k) k (EH x k)=true then[s3C (x k) k] else[]):=rfl
def V0 {w5:Z0}{g:Nat}{o:Obj}(h:w5.heap[g]? = some o):∀ W,Ext w5 W->W.heap[g]? = some o:=λW hx=>(Z7 hx _ (A7.1 h).1).trans h
def JC {k:IntKind}{m:Nat}{w w1:Z0}{a:Option Zj}{len:Nat}{Z:Nat->Nat->Int}{B:Nat}(h:Hi k m w a len Z)(hb:Below B w w1)(hB:w.heap.size<=B):Hi k m w1 a len Z:=by
 rcases h with h | ⟨b,o,ha,hl,hlt,hr⟩
 · exact .inl h
 · exact .inr ⟨b,o,ha,hl,by have:=hb.size;omega,λi hi j hj=>⟨(hb.cell (p:=⟨b,_,none⟩) (by show b<B;omega)).trans (hr i hi j hj).1,(hr i hi j hj).2⟩⟩
def MI {k:IntKind}{m:Nat}{w:Z0}{a:Option Zj}{len:Nat}{Z:Nat->Nat->Int}(h:Hi k m w a len Z){i:Nat}(hi:i<len) :
  ∃ b o,a=some ⟨b,o,none⟩/\b<w.heap.size/\∀ j,j<m->w.cell? ⟨b,o+i*m+j,none⟩=some (aA k (Z i j))/\(Lit.int k (Z i j)).wf=true:=by
 rcases h with h | ⟨b,o,h1,_,h3,h4⟩
 · omega
 · exact⟨b,o,h1,h3,h4 i hi⟩
def slot14_any
          (x:Nat->Int) (w:Z0) (hx:∀ i,i<3->0<=x i/\x i<=255) :
  Zu Z1 38 #[aJ #[aA aO (x 0),aA aO (x 1),aA aO (x 2)]] w λe w'=>∃ v,e=aP v/\Af Cc w' w.heap.size v (s3F x)/\Ext w w':=by
 have HX:=A0 hx;clear hx
 go_enter Tryz.func38,Tryz.ntmps38
 go_upto_region 1 with fail
 obtain⟨w0,jq⟩:∃ w0,w.alloc (aK #[aA aO (x 0),aA aO (x 1),aA aO (x 2)] 95)=w0:=⟨_,rfl⟩
 rw[jq];have jx:Hid (Ext w w0):=by show Ext _ _;rw[<- jq];exact(Z2 _ _).alloc (A5 _) _
 have jr:w0.heap[w.heap.size]? = some (aK #[aA aO (x 0),aA aO (x 1),aA aO (x 2)] 95 (0,0)):=by rw[<- jq];exact Z4 _ _
 have jn:=A0 (V0 jr);have ji:=A0 (A7.1 jr).1;obtain⟨gz,js⟩:∃ gz,w.heap.size=gz:=⟨_,rfl⟩
 rw[js]at jn ji ⊢;have jH:=A0 js;clear jq jr js
 go_wp2_with fail
 have jw:Hid (Af Cc (w0.alloc (aK #[] 79)) w0.heap.size (aG (some ⟨w0.heap.size,0,none⟩) 0 0) []):=Af.empty Cc (Z4 _ _) (A5 _);have jv:Hid (Ext w0 (w0.alloc (aK #[] 79))):=(Z2 _ _).alloc (A5 _) _
 go_loopg [3,4] 3 (λg v3 v4 wr=>∃ k:Nat,v4=aA aM (k:Int)/\k<=3/\g=3 - k/\Af Cc wr w0.heap.size v3 (EH x k)/\Ext w0 wr)
 case atStart=>exact⟨0,rfl,Ze _,rfl,jw.out,jv.out⟩
 case round =>
  clear jw jv;obtain⟨k,rfl,hk,jz,ju,hb⟩:=hrel;obtain⟨a3,c3,jK, -, -⟩:=ju.form;subst jK;have jb:=A0 ju;have HB:=A0 hb;have jj:=A0 jz;have jt:=Kh x k;obtain⟨T,hT⟩:∃ T,EH x k=T:=⟨_,rfl⟩
  rw[hT]at jb jt ⊢;have HT:=A0 hT;have h9:=jn.out wr HB.out;have z0:wr.cell? ⟨gz,0,none⟩=some (aA aO (x 0)):=by rw[Z3 _ _ 0 _ _ _ h9];rfl
  have z1:wr.cell? ⟨gz,1,none⟩=some (aA aO (x 1)):=by rw[Z3 _ _ 1 _ _ _ h9];rfl
  have z2:wr.cell? ⟨gz,2,none⟩=some (aA aO (x 2)):=by rw[Z3 _ _ 2 _ _ _ h9];rfl
  clear h9;clear ju hb jz hT;by_cases hlt:k<3
  ·have jJ
        :
         k
          =
           0\/k=1\/k=2:=by omega
   rcases jJ with rfl | rfl | rfl
   ·have jA
         :
          (x 0).tmod 4=x 0 % 4:=ZJ (HX.out 0 (by decide)).1
    have jp:(x 0).tdiv 4=x 0 / 4:=xj (HX.out 0 (by decide)).1;have jF:=(HX.out 0 (by decide)).1;have jG:=(HX.out 0 (by decide)).2;obtain⟨cq,jf⟩:∃ cq,x 0 / 4 % 8=cq:=⟨_,rfl⟩
    obtain⟨dq,jh⟩:∃ dq,x 0 / 4=dq:=⟨_,rfl⟩
    rw[jh]at jp;have jm:=A0 jf;rw[jh]at jf;have jy:dq.tmod 8=cq:=by rw[ZJ (by omega)];exact jf
    have jB:IntKind.u8.wrap (x 0 % 4)=x 0 % 4:=zi _ (by omega);have jC:IntKind.u8.wrap dq=dq:=zi _ (by omega);have jD:IntKind.u8.wrap cq=cq:=zi _ (by omega);have jE:IntKind.i64.wrap cq=cq:=Zq _ (by omega);clear jf jh;by_cases hp:0<x 0 % 4
    ·have
        je:Hid (E6 (x 0) 0 T=true):=by show _=_;unfold E6;rw[decide_eq_true hp];rfl
     have HE:Hid (EH x (0+1)=T ++ [⟨Zy (97+0),cq⟩]):=by show _=_;rw[Dh,HT.out,if_pos je.out,s3C,jm.out]
     have jd:Hid (w0.heap.size<=wr.heap.size):=HB.out.size;have jl:Hid ((Zk a3 T.length c3).ownBlock≠some gz):=λe=>by have:=jb.out.ge _ e;have:=ji.out;omega
     have jk:Hid (gz<wr.heap.size):=A9 ji.out jd.out
     go_upto_region 6 with fail
     clear z0 z1 z2;refine wp_region_sd (ApT (wr) (aG a3 T.length c3) true) 37 [(3,aG a3 T.length c3),(4,aA aM 0),(1,aB (some ⟨gz,0,none⟩))] [10,11] (Zd 24 12 ++ [3]) [3,4,1] (by kernel_rfl) rfl ⟨rfl,rfl,rfl,trivial⟩ rfl (λ_ h=>Hm h) λW hS=>?_
     repeat
         first
      | (
        refine CD.app1 ⟨Zy (97+0),cq⟩ Dw hS (jb.out) rfl rfl (by decide) ?_ rfl rfl (by decide) rfl rfl (by decide) (by simp only[AE];omega) (jd.out) λea ya yc W ja=>?_
        · simp[go_sem,At,lkE,Cc, *] <;> rfl)
      | (
        apply CD.op rfl rfl
        ·intro W jg;have z9:W.cell? ⟨gz,0,none⟩=some (aA aO (x 0)):=by
          rw[Z3 _ _ 0 _ _ _ ((ApT.old jg gz jk.out jl.out).trans (jn.out wr HB.out))];rfl
         clear jg;simp[go_sem,At,lkE, *] <;> rfl)
     refine .nil ?_;intro x hx;have e3:x 3=aG ya _ yc:=hx 3 (by decide);have jc:=A0 ja;clear ja hS;simp only[Zd,ZG,ZP,Zp,e3,ZE,Z5,Za,Z9];clear hx e3
     go_wp2_with fail
     go_roundg (3 - (0+1))
     case measure=>have:=jj.out;omega
     case rel=>exact⟨0+1,by go_num,by omega,rfl,by rw[HE.out];first | exact jc.out.own | (have h:=jc.out.own;simp only[AD,AE]at h;exact h),Y9 HB.out (jc.out.below jd.out (λq hq=>jb.out.ge q hq))⟩
    ·have jo:Hid (¬ E6 (x 0) 0 T=true):=λh=>by
      unfold E6 at h;rw[decide_eq_false hp]at h;simp at h
     have HE:Hid (EH x (0+1)=T):=by
      show _=_;rw[Dh,HT.out,if_neg jo.out,Xe]
     go_wp2_with fail
     go_roundg (3 - (0+1))
     case measure=>have:=jj.out;omega
     case rel=>exact⟨0+1,by go_num,by omega,rfl,by rw[HE.out];exact jb.out,HB.out⟩
   ·have jA
         :
          (x 1).tmod 4=x 1 % 4:=ZJ (HX.out 1 (by decide)).1
    have jp:(x 1).tdiv 4=x 1 / 4:=xj (HX.out 1 (by decide)).1;have jF:=(HX.out 1 (by decide)).1;have jG:=(HX.out 1 (by decide)).2;obtain⟨cq,jf⟩:∃ cq,x 1 / 4 % 8=cq:=⟨_,rfl⟩
    obtain⟨dq,jh⟩:∃ dq,x 1 / 4=dq:=⟨_,rfl⟩
    rw[jh]at jp;have jm:=A0 jf;rw[jh]at jf;have jy:dq.tmod 8=cq:=by rw[ZJ (by omega)];exact jf
    have jB:IntKind.u8.wrap (x 1 % 4)=x 1 % 4:=zi _ (by omega);have jC:IntKind.u8.wrap dq=dq:=zi _ (by omega);have jD:IntKind.u8.wrap cq=cq:=zi _ (by omega);have jE:IntKind.i64.wrap cq=cq:=Zq _ (by omega);clear jf jh;by_cases hp:0<x 1 % 4
    ·have
        je:Hid (E6 (x 1) 1 T=true):=by show _=_;unfold E6;rw[decide_eq_true hp];rfl
     have HE:Hid (EH x (1+1)=T ++ [⟨Zy (97+1),cq⟩]):=by show _=_;rw[Dh,HT.out,if_pos je.out,s3C,jm.out]
     have jd:Hid (w0.heap.size<=wr.heap.size):=HB.out.size;have jl:Hid ((Zk a3 T.length c3).ownBlock≠some gz):=λe=>by have:=jb.out.ge _ e;have:=ji.out;omega
     have jk:Hid (gz<wr.heap.size):=A9 ji.out jd.out
     go_upto_region 6 with fail
     clear z0 z1 z2;refine wp_region_sd (ApT (wr) (aG a3 T.length c3) true) 37 [(3,aG a3 T.length c3),(4,aA aM 1),(1,aB (some ⟨gz,0,none⟩))] [10,11] (Zd 24 12 ++ [3]) [3,4,1] (by kernel_rfl) rfl ⟨rfl,rfl,rfl,trivial⟩ rfl (λ_ h=>Hm h) λW hS=>?_
     repeat
         first
      | (
        refine CD.app1 ⟨Zy (97+1),cq⟩ Dw hS (jb.out) rfl rfl (by decide) ?_ rfl rfl (by decide) rfl rfl (by decide) (by simp only[AE];omega) (jd.out) λea ya yc W ja=>?_
        · simp[go_sem,At,lkE,Cc, *] <;> rfl)
      | (
        apply CD.op rfl rfl
        ·intro W jg;have z9:W.cell? ⟨gz,1,none⟩=some (aA aO (x 1)):=by
          rw[Z3 _ _ 1 _ _ _ ((ApT.old jg gz jk.out jl.out).trans (jn.out wr HB.out))];rfl
         clear jg;simp[go_sem,At,lkE, *] <;> rfl)
     refine .nil ?_;intro x hx;have e3:x 3=aG ya _ yc:=hx 3 (by decide);have jc:=A0 ja;clear ja hS;simp only[Zd,ZG,ZP,Zp,e3,ZE,Z5,Za,Z9];clear hx e3
     go_wp2_with fail
     go_roundg (3 - (1+1))
     case measure=>have:=jj.out;omega
     case rel=>exact⟨1+1,by go_num,by omega,rfl,by rw[HE.out];first | exact jc.out.own | (have h:=jc.out.own;simp only[AD,AE]at h;exact h),Y9 HB.out (jc.out.below jd.out (λq hq=>jb.out.ge q hq))⟩
    ·have jo:Hid (¬ E6 (x 1) 1 T=true):=λh=>by
      unfold E6 at h;rw[decide_eq_false hp]at h;simp at h
     have HE:Hid (EH x (1+1)=T):=by
      show _=_;rw[Dh,HT.out,if_neg jo.out,Xe]
     go_wp2_with fail
     go_roundg (3 - (1+1))
     case measure=>have:=jj.out;omega
     case rel=>exact⟨1+1,by go_num,by omega,rfl,by rw[HE.out];exact jb.out,HB.out⟩
   ·have jA
         :
          (x 2).tmod 4=x 2 % 4:=ZJ (HX.out 2 (by decide)).1
    have jp:(x 2).tdiv 4=x 2 / 4:=xj (HX.out 2 (by decide)).1;have jF:=(HX.out 2 (by decide)).1;have jG:=(HX.out 2 (by decide)).2;obtain⟨cq,jf⟩:∃ cq,x 2 / 4 % 8=cq:=⟨_,rfl⟩
    obtain⟨dq,jh⟩:∃ dq,x 2 / 4=dq:=⟨_,rfl⟩
    rw[jh]at jp;have jm:=A0 jf;rw[jh]at jf;have jy:dq.tmod 8=cq:=by rw[ZJ (by omega)];exact jf
    have jB:IntKind.u8.wrap (x 2 % 4)=x 2 % 4:=zi _ (by omega);have jC:IntKind.u8.wrap dq=dq:=zi _ (by omega);have jD:IntKind.u8.wrap cq=cq:=zi _ (by omega);have jE:IntKind.i64.wrap cq=cq:=Zq _ (by omega);clear jf jh;by_cases hp:0<x 2 % 4
    ·have
        je:Hid (E6 (x 2) 2 T=true):=by show _=_;unfold E6;rw[decide_eq_true hp];rfl
     have HE:Hid (EH x (2+1)=T ++ [⟨Zy (97+2),cq⟩]):=by show _=_;rw[Dh,HT.out,if_pos je.out,s3C,jm.out]
     have jd:Hid (w0.heap.size<=wr.heap.size):=HB.out.size;have jl:Hid ((Zk a3 T.length c3).ownBlock≠some gz):=λe=>by have:=jb.out.ge _ e;have:=ji.out;omega
     have jk:Hid (gz<wr.heap.size):=A9 ji.out jd.out
     go_upto_region 6 with fail
     clear z0 z1 z2;refine wp_region_sd (ApT (wr) (aG a3 T.length c3) true) 37 [(3,aG a3 T.length c3),(4,aA aM 2),(1,aB (some ⟨gz,0,none⟩))] [10,11] (Zd 24 12 ++ [3]) [3,4,1] (by kernel_rfl) rfl ⟨rfl,rfl,rfl,trivial⟩ rfl (λ_ h=>Hm h) λW hS=>?_
     repeat
         first
      | (
        refine CD.app1 ⟨Zy (97+2),cq⟩ Dw hS (jb.out) rfl rfl (by decide) ?_ rfl rfl (by decide) rfl rfl (by decide) (by simp only[AE];omega) (jd.out) λea ya yc W ja=>?_
        · simp[go_sem,At,lkE,Cc, *] <;> rfl)
      | (
        apply CD.op rfl rfl
        ·intro W jg;have z9:W.cell? ⟨gz,2,none⟩=some (aA aO (x 2)):=by
          rw[Z3 _ _ 2 _ _ _ ((ApT.old jg gz jk.out jl.out).trans (jn.out wr HB.out))];rfl
         clear jg;simp[go_sem,At,lkE, *] <;> rfl)
     refine .nil ?_;intro x hx;have e3:x 3=aG ya _ yc:=hx 3 (by decide);have jc:=A0 ja;clear ja hS;simp only[Zd,ZG,ZP,Zp,e3,ZE,Z5,Za,Z9];clear hx e3
     go_wp2_with fail
     go_roundg (3 - (2+1))
     case measure=>have:=jj.out;omega
     case rel=>exact⟨2+1,by go_num,by omega,rfl,by rw[HE.out];first | exact jc.out.own | (have h:=jc.out.own;simp only[AD,AE]at h;exact h),Y9 HB.out (jc.out.below jd.out (λq hq=>jb.out.ge q hq))⟩
    ·by_cases
          hTl:T.length=0
     ·have
         jI
           : ((T.length:Int) == 0)=true:=by rw[hTl];rfl
      have je:Hid (E6 (x 2) 2 T=true):=by show _=_;unfold E6;rw[decide_eq_true hTl];simp
      clear hTl;have HE:Hid (EH x (2+1)=T ++ [⟨Zy (97+2),cq⟩]):=by show _=_;rw[Dh,HT.out,if_pos je.out,s3C,jm.out]
      have jd:Hid (w0.heap.size<=wr.heap.size):=HB.out.size;have jl:Hid ((Zk a3 T.length c3).ownBlock≠some gz):=λe=>by have:=jb.out.ge _ e;have:=ji.out;omega
      have jk:Hid (gz<wr.heap.size):=A9 ji.out jd.out
      go_upto_region 6 with fail
      clear z0 z1 z2;refine wp_region_sd (ApT (wr) (aG a3 T.length c3) true) 37 [(3,aG a3 T.length c3),(4,aA aM 2),(1,aB (some ⟨gz,0,none⟩))] [10,11] (Zd 24 12 ++ [3]) [3,4,1] (by kernel_rfl) rfl ⟨rfl,rfl,rfl,trivial⟩ rfl (λ_ h=>Hm h) λW hS=>?_
      repeat
          first
       | (
         refine CD.app1 ⟨Zy (97+2),cq⟩ Dw hS (jb.out) rfl rfl (by decide) ?_ rfl rfl (by decide) rfl rfl (by decide) (by simp only[AE];omega) (jd.out) λea ya yc W ja=>?_
         · simp[go_sem,At,lkE,Cc, *] <;> rfl)
       | (
         apply CD.op rfl rfl
         ·intro W jg;have z9:W.cell? ⟨gz,2,none⟩=some (aA aO (x 2)):=by
           rw[Z3 _ _ 2 _ _ _ ((ApT.old jg gz jk.out jl.out).trans (jn.out wr HB.out))];rfl
          clear jg;simp[go_sem,At,lkE, *] <;> rfl)
      refine .nil ?_;intro x hx;have e3:x 3=aG ya _ yc:=hx 3 (by decide);have jc:=A0 ja;clear ja hS;simp only[Zd,ZG,ZP,Zp,e3,ZE,Z5,Za,Z9];clear hx e3
      go_wp2_with fail
      go_roundg (3 - (2+1))
      case measure=>have:=jj.out;omega
      case rel=>exact⟨2+1,by go_num,by omega,rfl,by rw[HE.out];first | exact jc.out.own | (have h:=jc.out.own;simp only[AD,AE]at h;exact h),Y9 HB.out (jc.out.below jd.out (λq hq=>jb.out.ge q hq))⟩
     ·have jI:((T.length:Int) == 0)=false:=by rw[beq_eq_false_iff_ne];omega
      have jo:Hid (¬ E6 (x 2) 2 T=true):=λh=>by
       unfold E6 at h;rw[decide_eq_false hp,decide_eq_false hTl]at h;simp at h
      clear hTl;have HE:Hid (EH x (2+1)=T):=by
       show _=_;rw[Dh,HT.out,if_neg jo.out,Xe]
      go_wp2_with fail
      go_roundg (3 - (2+1))
      case measure=>have:=jj.out;omega
      case rel=>exact⟨2+1,by go_num,by omega,rfl,by rw[HE.out];exact jb.out,HB.out⟩
  ·obtain rfl:k=3:=by omega
   go_wp2_with fail
   go_ret;refine⟨_,rfl,?_,Ext.trans jx.out HB.out⟩;have h9:s3F x=T:=HT.out;rw[h9];exact jb.out.mono (by have:=jx.out.size;have:=jH.out;omega)
def slots14_any (Z:Nat->Nat->Int)(a:Option Zj)(len cap n:Nat)(w:Z0)(hZ:Hi aO 3 w a len Z)(hl:len<=9223372036854775807)(hn:n<=1000) :
  Zu Z1 13 #[aG a len cap,aA aM (n:Int)] w λe w'=>∃ v,e=aP v/\DN w' w.heap.size v (s3s Z (min len n))/\v≠aG none 0 0/\Ext w w':=by
 have HZ:=A0 hZ;clear hZ
 go_enter Tryz.func13,Tryz.ntmps13
 go_wp2_with fail
 have jq:Hid (Dx (w.alloc (aK #[] 81)) w.heap.size (aG (some ⟨w.heap.size,0,none⟩) 0 0) [] []):=⟨Af.empty G1 (Z4 _ _) (A5 _),rfl,λk x s h=>by simp at h⟩
 have jo:Hid (Ext w (w.alloc (aK #[] 81))):=(Z2 _ _).alloc (A5 _) _
 go_loopg [5,6] n (λg v5 v6 wr=>∃ i:Nat,v6=aA aM (i:Int)/\i<=n/\i<=len/\g=n - i/\DN wr w.heap.size v5 (s3s Z i)/\v5≠aG none 0 0/\Ext w wr)
 case atStart=>exact⟨0,rfl,Ze _,Ze _,rfl,⟨_,jq.out⟩,by simp,jo.out⟩
 case round =>
  clear jq jo;obtain⟨i,rfl,hi,hil,jr,⟨Ls,hq⟩,jv,hb⟩:=hrel;obtain⟨a5,c5,jD, -, -⟩:=hq.own.form;subst jD;have HQ:=A0 hq;have jA:=A0 jr;have HB:=A0 hb;have jp:=A0 jv;have jt:Ls.length=i:=by rw[hq.len,N1]
  have jB:=A0 jt;clear hq jr hb jt jv;by_cases ju:i<len
  ·by_cases hin:i<n
   ·have jm:(i:Int)<(n:Int):=by omega
    have js:(i:Int)<(len:Int):=by omega
    have jz:=JC HZ.out HB.out (A5 _);obtain⟨b,o,ha,hb1,jf⟩:=MI jz ju;have jw:wr.cell? ⟨b,o+i*3,none⟩=some (aA aO (Z i 0)):=(jf 0 (by decide)).1;have jx:=(jf 1 (by decide)).1;have jy:=(jf 2 (by decide)).1;have HR:Hid (∀ j,j<3->0<=Z i j/\Z i j<=255):=λj hj=>bounds_u8 (jf j hj).2;have jl:=Qb a b o len cap i ha ju;have jk:=A0 (TQ Z i);obtain⟨x,hx⟩:∃ x,Z i=x:=⟨_,rfl⟩
    rw[hx]at jw jx jy HR jk;clear hx ha jf jz
    go_wp2_with fail
    refine(slot14_any x wr HR.out).mono ?_;rintro e w1 ⟨v,rfl,hv,jn⟩;obtain⟨a8,c8,jE, -, -⟩:=hv.form;subst jE;have jj:=A0 (HQ.out.later jn (A5 _));have jh:Hid (Ext w w1):=Ext.trans HB.out jn;obtain⟨T,hT⟩:∃ T,s3F x=T:=⟨_,rfl⟩
    rw[hT]at hv jk ⊢;have jC:Hid (ElS w1 ⟨a8,T.length,c8⟩ T):=ElS.of hv;clear hT hv jn jw jx jy jl
    go_wp2_with (at_builtin;go_loud (refine Ah (v:=aG a5 Ls.length c5) Hw rfl _ _ rfl rfl (jj.out.own.later ((Z2 _ _).alloc (A5 _) _) (A5 _)) ⟨w1.heap.size,0,none⟩ 1 [⟨a8,T.length,c8⟩] rfl (Ai (Z4 _ _)) (by have:=jB.out;simp only[AE];omega) (by have:=jh.out.size;simp only[A8];omega) ?_);intro v16 w16 jb ja je;have ji:=A0 jb;have jd:=A0 ja;clear jb ja je)
    go_roundg (n - (i+1))
    case measure=>have:=jA.out;omega
    case rel =>
     have jg:Ext w1 (w1.alloc (aK #[aG a8 T.length c8] 81)):=(Z2 _ _).alloc (A5 _) _;have jc:=Dx.push (jj.out.later jg (A5 _)) ji.out jd.out (jC.out.kc (Kc.of jg (A5 _)));rw[<- jk.out]at jc;exact⟨i+1,by go_num,by omega,by omega,rfl,⟨_,jc⟩,(λe=>by
      have h9:=jc.len;rcases jc.own.blk with⟨_,h⟩ | ⟨g,c,h,_⟩
      · simp at h
      · rw[h]at e;simp at e),Xz (Ext.trans jh.out jg) jd.out (by have:=jh.out.size;have:=jg.size;omega) λq hq=>jj.out.own.ge q hq⟩
   ·have jm:¬ (i:Int)<(n:Int):=by omega
    have js:(i:Int)<(len:Int):=by omega
    have HR:Hid (s3s Z (min len n)=s3s Z i):=by show _=_;rw[show min len n=i by omega]
    go_wp2_with fail
    go_ret;exact⟨_,rfl,by rw[HR.out];exact⟨_,HQ.out⟩,jp.out,HB.out⟩
  ·have js:¬ (i:Int)<(len:Int):=by omega
   have HR:Hid (s3s Z (min len n)=s3s Z i):=by show _=_;rw[show min len n=i by omega]
   go_wp2_with fail
   go_ret;exact⟨_,rfl,by rw[HR.out];exact⟨_,HQ.out⟩,jp.out,HB.out⟩
def Pi (w:Z0)(o0 o1 o2 o3:Obj):∃ w4,((((w.alloc o0).alloc o1).alloc o2).alloc o3)=w4/\Ext w w4/\w4.heap[w.heap.size]? = some o0/\w4.heap[w.heap.size+1]? = some o1/\w4.heap[w.heap.size+1+1]? = some o2/\w4.heap[w.heap.size+1+1+1]? = some o3/\w4.heap.size=w.heap.size+1+1+1+1:=by
 have x:∀ (W:Z0) (o:Obj),Ext W (W.alloc o):=λW o=>(Z2 _ _).alloc (A5 _) _;have n:∀ (W:Z0) (o:Obj),(W.alloc o).heap[W.heap.size]? = some o:=λW o=>zh W o;have k:∀ (W:Z0) (o p:Obj) (i:Nat),W.heap[i]? = some p->(W.alloc o).heap[i]? = some p:=λW o p i h=>(Z7 (x W o) _ (A7.1 h).1).trans h;refine⟨_,rfl,Ext.trans (x _ _) (Ext.trans (x _ _) (Ext.trans (x _ _) (x _ _))),k _ _ _ _ (k _ _ _ _ (k _ _ _ _ (n _ _))),?_,?_,?_,by simp⟩
 · exact k _ _ _ _ (k _ _ _ _ (by have:=n (w.alloc o0) o1;rwa [A8]at this))
 · exact k _ _ _ _ (by have:=n ((w.alloc o0).alloc o1) o2;rwa [A8,A8]at this)
 ·have:=n (((w.alloc o0).alloc o1).alloc o2) o3
  rwa [A8,A8,A8]at this
def BZ.mov {w w':Z0}{a:Option Zj}{L:List ByteArray}(h:BZ w a L)(hz:w.heap.size<=w'.heap.size)(hk:∀ q,q<w.heap.size->(∃ i s,w.cell? ⟨q,i,none⟩=some (aI s))->w'.heap[q]? = w.heap[q]?):BZ w' a L:=λk hl=>by
 obtain⟨b,o,ha,h1,h2⟩:=h k hl;exact⟨b,o,ha,A9 h1 hz,(zb (hk b h1 ⟨_,_,h2⟩)).trans h2⟩
def MJ {w:Z0}{g i:Nat}{cs:Array Z6}{t:X5}{f:Nat × Nat}{s:ByteArray}(hg:w.heap[g]? = some (.cells cs t f))(hn:∀ s,xB s ∉ cs.toList)(h:w.cell? ⟨g,i,none⟩=some (aI s)):False:=by
 rw[Z3 w g i _ _ f hg]at h;exact hn s (Array.mem_toList_iff.2 (zO h))
def BZ.set {w:Z0}{a:Option Zj}{L:List ByteArray}(h:BZ w a L){g:Nat}{cs:Array Z6}{t:X5}{f:Nat × Nat}(hg:w.heap[g]? = some (.cells cs t f))(hn:∀ s,xB s ∉ cs.toList)(j:Nat)(u:Z6):BZ (w.setCell ⟨g,j,none⟩ u) a L :=
 h.mov (by rw[Zb];exact A5 _) λq hq ⟨i,s,hc⟩=>Zc _ _ _ _ λe=>by
  have e2:q=g:=e;subst e2;exact MJ hg hn hc
def BT:CB Nat:=⟨36,3,1,8,aA aM 0,λx=>[aA aM (x:Int)]⟩
def Di:BT.Ok:=⟨Y5,by kernel_rfl,rfl,by decide,λ_=>rfl,λx u hu=>by obtain rfl:u=aA aM (x:Int):=(AF.1 hu);rfl,by decide⟩
def Af.cnts {w:Z0}{B:Nat}{a:Option Zj}{n c:Nat}{L:List Nat}(h:Af BT w B (aG a n c) L):Rw w a L/\n=L.length/\L.length<=c:=by
 obtain⟨a',c',he,hc,_⟩:=h.form;injection he with e1 e2 e3;refine⟨λk hk=>?_,e2,by omega⟩;rcases h.blk with⟨_,rfl⟩ | ⟨g,c2,ja,_,hg,_⟩
 · simp at hk
 ·injection ja with f1 f2 f3;subst f1;have:=h.cell Di hk (j:=0) (by decide);exact⟨g,0,rfl,hg,by simpa[BT] using this⟩
def BZ.tq {w w':Z0}{a:Option Zj}{L:List ByteArray}(h:BZ w a L){g:Nat}{cs:Array Z6}{t:X5}{f:Nat × Nat}(hg:w.heap[g]? = some (.cells cs t f))(hn:∀ s,xB s ∉ cs.toList)(ht:Tq g w w'):BZ w' a L :=
 h.mov ht.size λq hq ⟨i,s,hc⟩=>ht.block q hq λe=>by
  have e2:q=g:=by injection e
  subst e2;exact MJ hg hn hc
def PrS.tq {w w':Z0}{a:Option Zj}{E:List Prs}(h:PrS w a E){g:Nat}{a0 a1 a2:Option Zj}{n0 c0 n1 c1 n2 c2:Nat}{bk:Int}{t:X5}{f:Nat × Nat}(hg:w.heap[g]? = some (aK #[aG a0 n0 c0,aG a1 n1 c1,aG a2 n2 c2,aA aM bk] t f))(ht:Tq g w w'):PrS w' a E:=λk hl=>by
 obtain⟨b,o,ha,h1,h2,h3,h4⟩:=h k hl;have ja:b≠g:=λe=>by
  subst e;rw[Z3 w b _ _ _ _ hg]at h3;have hi:∀ i,(#[aG a0 n0 c0,aG a1 n1 c1,aG a2 n2 c2,aA aM bk]:Array Z6)[i]? = some (aA aM E[k].2.1)->i=3:=λi hi=>by
   match i with
   | 0=>simp at hi
   | 1=>simp at hi
   | 2=>simp at hi
   | 3=>rfl
   | i+4=>simp at hi
  have h5:=hi _ h3;rw[Z3 w b _ _ _ _ hg,show o+k*3=2 by omega]at h2;simp at h2
 have hk:w'.heap[b]? = w.heap[b]?:=ht.block b h1 λe=>ja (by injection e);exact⟨b,o,ha,A9 h1 ht.size,(zb hk).trans h2,(zb hk).trans h3,(zb hk).trans h4⟩
def WD (M:List ByteArray)(v:Z6)(w:Z0):Prop:=∃ a c,v=aG a M.length c/\BZ w a M/\M.length<=c
def Pj (M:List ByteArray):Bq (WD M):=by
 rintro v w w' ⟨a,c,h1,h2,h3⟩ hx;exact⟨a,c,h1,h2.later hx (A5 _),h3⟩
def PrV (M:List Prs)(v:Z6)(w:Z0):Prop:=∃ a c,v=aG a M.length c/\PrS w a M/\M.length<=c
def S2 (M:List Prs):Bq (PrV M):=by
 rintro v w w' ⟨a,c,h1,h2,h3⟩ hx;exact⟨a,c,h1,h2.go hx,h3⟩
def JD (a0 a1 a2:Option Zj)(n0 c0 n1 c1 n2 c2:Nat)(bk:Int):∀ s,xB s ∉ (#[aG a0 n0 c0,aG a1 n1 c1,aG a2 n2 c2,aA aM bk]:Array Z6).toList:=λs h=>by simp at h
def Tl (Q:Nat->BR)(kw:Nat)(w:Z0)(e:Ending)(w':Z0):Prop :=
 ∃ (a0 a1 a2:Option Zj) (c0 c1 c2:Nat) (Ws:List ByteArray) (cs:List Nat) (ps:List Prs) (bk:Int),e=aP (Pd a0 Ws.length c0 a1 cs.length c1 a2 ps.length c2 bk)/\Kx w' a0 a1 a2 c0 c1 c2 Ws cs ps bk/\Ku Ws cs ps bk/\Ws=mdW Q kw/\Af BT w' 0 (aG a1 cs.length c1) cs/\Ext w w'
def Ky {w w':Z0}{g:Nat}{tmp:Obj}{v0 v1 v2:Z6}{bk:Int}{v:Z6}(hg:(w.alloc tmp).grownBy w' v.ownBlock)(hm:w.heap[g]? = some (aK #[v0,v1,v2,aA aM bk] 39 (0,0)))(hn:v.ownBlock≠some g) :
  w'.cell? ⟨g,0,none⟩=some v0/\w'.cell? ⟨g,1,none⟩=some v1/\w'.cell? ⟨g,2,none⟩=some v2/\w'.cell? ⟨g,3,none⟩=some (aA aM bk)/\∀ i,w'.frozen? ⟨g,i,none⟩=false:=by
 have hl:=(A7.1 hm).1;have h1:w'.heap[g]? = some (aK #[v0,v1,v2,aA aM bk] 39 (0,0)):=(hg.block g (by rw[A8];omega) (Ne.symm hn)).trans ((ZF _ _ _ hl).trans hm);obtain⟨m0,m1,m2,m3⟩:=Av h1;exact⟨m0,m1,m2,m3,λi=>by simp[Zn,h1]⟩
def Qc {w w' w0:Z0}{g n0 c0 n1 c1 n9 c9:Nat}{tmp:Obj}{a0 a1 a9:Option Zj}{bk:Int}{CS DS:List Nat}(hm:w.heap[g]? = some (aK #[aG a0 n0 c0,aG a1 n1 c1,aG none 0 0,aA aM bk] 39 (0,0)))
  (ho:Af BT w w0.heap.size (aG a1 n1 c1) CS) (ja:Af BT w' w0.heap.size (aG a9 n9 c9) DS) (hg:(w.alloc tmp).grownBy w' (Zk a1 n1 c1).ownBlock) (ht:Tq g w0 w) (hw:g<w0.heap.size) :
  (w'.setCell ⟨g,1,none⟩ (aG a9 n9 c9)).heap[g]? = some (aK #[aG a0 n0 c0,aG a9 n9 c9,aG none 0 0,aA aM bk] 39 (0,0))/\Af BT (w'.setCell ⟨g,1,none⟩ (aG a9 n9 c9)) w0.heap.size (aG a9 n9 c9) DS/\Tq g w0 (w'.setCell ⟨g,1,none⟩ (aG a9 n9 c9)):=by
 have hl:=(A7.1 hm).1;have hx:Ext w (w.alloc tmp):=(Z2 _ _).alloc (A5 _) _;have h1:w'.heap[g]? = some (aK #[aG a0 n0 c0,aG a1 n1 c1,aG none 0 0,aA aM bk] 39 (0,0)):=(hg.block g (by rw[A8];omega) (λe=>by have:=ho.ge g e.symm;omega)).trans ((ZF _ _ _ hl).trans hm);exact⟨Aj h1 rfl,ja.keep λq hq=>Zc _ _ _ _ (by have:=ja.ge q hq;show q≠g;omega),((ht.trans (Tq.of hx)).grow hg λq hq=>ho.ge q hq).trans (Tq.set _ _ _ _)⟩
def V1 {w:Z0}{g:Nat}{u0 u1 u2 u3:Z6}{t:X5}(h:w.heap[g]? = some (aK #[u0,u1,u2,u3] t (0,0)))(v0 v1 v2 v3:Z6) :
  ∃ w',(((w.setCell ⟨g,0,none⟩ v0).setCell ⟨g,1,none⟩ v1).setCell ⟨g,2,none⟩ v2).setCell ⟨g,3,none⟩ v3=w'/\Tq g w w'/\w'.cell? ⟨g,0,none⟩=some v0/\w'.cell? ⟨g,1,none⟩=some v1/\w'.cell? ⟨g,2,none⟩=some v2/\w'.cell? ⟨g,3,none⟩=some v3:=by
 have h4:((((w.setCell ⟨g,0,none⟩ v0).setCell ⟨g,1,none⟩ v1).setCell ⟨g,2,none⟩ v2).setCell ⟨g,3,none⟩ v3).heap[g]? = some (aK #[v0,v1,v2,v3] t (0,0)):=Aj (Aj (Aj (Aj h rfl) rfl) rfl) rfl;obtain⟨c0,c1,c2,c3⟩:=Av h4;exact⟨_,rfl,(((Tq.set _ _ _ _).trans (Tq.set _ _ _ _)).trans (Tq.set _ _ _ _)).trans (Tq.set _ _ _ _),c0,c1,c2,c3⟩
def Tm {Q:Nat->BR}{kw k gr gm:Nat}{w w0 we wf:Z0}{M:List ByteArray}{CS:List Nat}{P:List Prs}{a a1 ap:Option Zj}{c c1 cp B:Nat}{bk:Int}(hn:M.length=k)(hM:mdW Q kw=M)(hcl:CS.length=k)(hc:k<=c)(jb:Ku M CS P bk)(hs:BZ we a M)(ho:Af BT we B (aG a1 CS.length c1) CS)(hp:PrS we ap P)
  (hg:we.heap[gr+1]? = some (aK #[aG none 0 0,aG none 0 0,aG none 0 0,aA aM 0] 39 (0,0))) (ht:Tq (gr+1) we wf) (jc:Ext w w0) (hb:Below gm w0 we) (hgr:w.heap.size=gr) (hgm:gr+1+1+1=gm) (hB:gm<B) :
  Tl Q kw w (aP (aJ #[aG a k c,aG a1 CS.length c1,aG ap P.length cp,aA aM bk])) wf:=by
 subst hn;have ja:Af BT wf B (aG a1 CS.length c1) CS:=ho.keep λq hq=>ht.block q (ho.lt q hq) λe=>by
  have h1:=ho.ge q hq;injection e with e;omega
 refine⟨a,a1,ap,c,c1,cp,M,CS,P,bk,rfl,⟨hs.tq hg (JD _ _ _ _ _ _ _ _ _ _) ht,hc,(Af.cnts ja).1,hp.tq hg ht⟩,jb,hM.symm,ja.mono (Ze _),?_⟩;have h1:Below w.heap.size w we:=Y9 jc (ZT hb (by omega));exact Y9 h1 (ht.below (by omega) h1.size)
def made11_any (
          Q:Nat->BR) (aW aC aU:Option Zj) (lW cW lC cC lU cU:Nat) (ZC:Nat->Int) (ZU:Nat->Nat->Int) (bk:Int) (w:Z0) (hQ:GP w aW lW Q) (hlW:lW<=9223372036854775807) (hC:Bt w aC lC ZC) (hlC:lC<=9223372036854775807) (hU:Hi aO 3 w aU lU ZU) (hlU:lU<=9223372036854775807) (yr:0<=bk) (jW:bk<=255) :
  Zu Z1 12 #[aJ #[aG aW lW cW,aG aC lC cC,aG aU lU cU,aA aO bk]] w (Tl Q (min lW 6) w):=by
 have HQ:=A0 hQ;have HC:=A0 hC;have HU:=A0 hU;clear hQ hC hU;have kM:Y3 bk=bk:=by unfold Y3;omega
 have HWB:=A0 kM
 go_enter Tryz.func12,Tryz.ntmps12
 go_upto_block 0 with fail
 obtain⟨w0,kL,j1,h0,h1,h2,h3,kd⟩:=Pi w (aK #[aG aW lW cW,aG aC lC cC,aG aU lU cU,aA aO bk] 29) (aK #[aG none 0 0,aG none 0 0,aG none 0 0,aA aM 0] 39) (aK #[aI ⟨#[97]⟩,aI ⟨#[98]⟩] 9) (aK #[aG (some ⟨w.heap.size+1+1,0,none⟩) 2 2,aG none 0 0,aG none 0 0,aA aM bk] 39);rw[kL];have kG:=A0 j1;have jK:BZ w0 (some ⟨w.heap.size+1+1,0,none⟩) (mdW Q 0):=by
  intro k hk;refine⟨_,_,rfl,(A7.1 h2).1,?_⟩;rw[Z3 _ _ _ _ _ _ h2];have yu:k=0\/k=1:=by have:k<2:=hk;omega
  rcases yu with rfl | rfl <;> rfl
 obtain⟨gr,kn⟩:∃ gr,w.heap.size=gr:=⟨_,rfl⟩
 have jP:=A0 kn;rw[kn]at h0 h1 h2 h3 kd jK ⊢;obtain⟨gm,km⟩:∃ gm,gr+1+1+1=gm:=⟨_,rfl⟩
 rw[km]at h3 kd ⊢;have k2:=A0 km;have j4:Hid (∀ W,Below gm w0 W->W.heap[gr]? = some (aK #[aG aW lW cW,aG aC lC cC,aG aU lU cU,aA aO bk] 29 (0,0))):=λW hx=>(Z7 hx _ (by omega)).trans h0;have yg:Hid (∀ W,Below gm w0 W->W.heap[gr+1]? = some (aK #[aG none 0 0,aG none 0 0,aG none 0 0,aA aM 0] 39 (0,0))):=λW hx=>(Z7 hx _ (by omega)).trans h1;have k4:=A0 h3;have kj:=A0 jK;have HZ4:Hid (w0.heap.size=gm+1):=kd;have jT:Hid (∀ W,Below gm w0 W->Below gr w W):=λW hx=>Y9 (ZT kG.out (by have:=jP.out;omega)) (ZT hx (by omega));clear kL j1 h0 h1 h2 h3 kd jK kn km kM
 go_cut [] (λwx=>∃ wc:Z0,wc=wx/\∃ (a:Option Zj) (c:Nat),wc.heap[gm]? = some (aK #[aG a (mdW Q (min lW 6)).length c,aG none 0 0,aG none 0 0,aA aM bk] 39 (0,0))/\BZ wc a (mdW Q (min lW 6))/\(mdW Q (min lW 6)).length<=c/\Below gm w0 wc)
 case first =>
  go_wp2_with fail
  go_loopg [4] 6 (λg v4 wr=>∃ (k:Nat) (a:Option Zj) (c:Nat),v4=aA aM (k:Int)/\k<=6/\k<=lW/\g=6 - k/\wr.heap[gm]? = some (aK #[aG a (mdW Q k).length c,aG none 0 0,aG none 0 0,aA aM bk] 39 (0,0))/\BZ wr a (mdW Q k)/\(mdW Q k).length<=c/\Below gm w0 wr)
  case atStart=>exact⟨0,_,_,rfl,Ze _,Ze _,rfl,k4.out,kj.out,A5 _,Z2 _ _⟩
  case round =>
   obtain⟨k,a,c,rfl,hk6,hkl,jy,jb,jj,jA,hb⟩:=hrel;have yy:=(G4 Q k).2;have jQ:=A0 (NH Q k);have jd:Hid (mdW Q (k+1)=Hz (mwF (Q k).Z (Q k).n) (mdW Q k)):=rfl;have jh:Hid (¬ (k<lW/\k<6)->mdW Q (min lW 6)=mdW Q k):=λh=>by rw[show min lW 6=k by omega]
   obtain⟨M,hM⟩:∃ M,mdW Q k=M:=⟨_,rfl⟩
   rw[hM]at jb jj jA yy jQ jd jh;have jg:=A0 jb;have jU:=A0 jj;have jR:=A0 jA;have HB:=A0 hb;have jN:=A0 jy;have j3:=A0 (A7.1 jb).1;have k5:Hid (M.length<=1000):=by show _<=_;omega
   have ky:Hid (gm<=wr.heap.size):=Nat.le_of_lt j3.out;clear jb jj jA hb jy hM;obtain⟨r0,r1,r2,r3⟩:=Av (j4.out wr (HB.out));by_cases jz:k<lW
   ·have ju:(k:Int)<(lW:Int):=by omega
    by_cases h6:k<6
    ·have yp:(k:Int)<6:=by omega
     obtain⟨b1,o1,ha,jW,ka,j7,j6⟩:=(HQ.out.later (jT.out wr HB.out) (by have:=jP.out;omega)) k jz;have jG:=Mh aW b1 o1 lW cW k ha jz;obtain⟨q,hq⟩:∃ q,Q k=q:=⟨_,rfl⟩
     rw[hq]at ka j7 j6 jd;obtain⟨qa,qn,qc,qZ⟩:=q;simp only at ka j7 j6;have jd:Hid (mdW Q (k+1)=Hz (mwF qZ qn) M):=jd;obtain⟨x,hx⟩:∃ x,mwF qZ qn=x:=⟨_,rfl⟩
     rw[hx]at jd;have ym:=A0 hx;have jT:=A0 ka;have k0:=A0 j7;have ye:=A0 j6;clear hx hq ha ka j7 j6
     go_upto_region 5 with fail
     clear r0 r1 r2 r3;refine Ay (by kernel_rfl) (Vs [vq (aB (some ⟨gm,0,none⟩)),vq (aG a M.length c),vq (aB (some ⟨gr,0,none⟩)),vq (aG aW lW cW),vq (aA aM (k:Int)),vq (aB (some ⟨b1,o1+k,none⟩)),vq (aG qa qn qc),vq (aI x),WD (Hz x M),vq (aB (some ⟨gm,0,none⟩))]) (Xs []) (λfL=>(λW=>Ext wr W) ) [0,1,0,4,0,28,60,124,255,0] 97 10 (by kernel_rfl) rfl ?hV ?hS ?hop ?hfin ?hlast
     case hV =>
      refine Bi (BB (by simp only[AX,ZN,or_false,forall_eq_or_imp,forall_eq];exact⟨Ab _,Ab _,Ab _,Ab _,Ab _,Ab _,Ab _,Ab _,Pj _,Ab _⟩)) ?_;exact trivial
     case hS =>
      intro fL hf;show(λW=>Ext wr W)  _
      first | exact Ext.refl _ | exact Dr _
     case hop =>
      refine⟨?_,?_,?_,?_,?_,?_,?_,?c7,?c8,?_,?_,trivial⟩
      all_goals first | rw[if_neg (by decide)] | rw[if_pos (by decide)]
      all_goals try exact True.intro
      all_goals try intro ac W fL jm jO kp kl jf ji ja jL
      all_goals try have hS:(λW=>Ext wr W)  W:=jf
      all_goals try (
       have jw:Ext wr W:=hS;obtain⟨r0,r1,r2,r3⟩:=Av (j4.out W (Y9 HB.out (ZT jw ky.out)));have g9:=(Z7 jw gm j3.out).trans jg.out;obtain⟨m0,m1,m2,m3⟩:=Av g9;have q0:=(Zx jw (p:=⟨b1,o1+k,none⟩) jW).trans jT.out;clear g9)
      all_goals try have yt:=gdA ac 3 (aB (some ⟨gm,0,none⟩)) (ja 3 (by kernel_rfl))
      all_goals try have hh1:=gdA ac 1 (aB (some ⟨gr,0,none⟩)) (ja 1 (by kernel_rfl))
      all_goals try have hh4:=gdA ac 4 (aA aM (k:Int)) (ja 4 (by kernel_rfl))
      all_goals try (have ji:=GC ji;simp[FK,Ae,vq]at ji)
      all_goals try clear ja kp kl jL
      case c7 =>
       refine Ag rfl (.inr ⟨36,#[aG qa qn qc],W,by(clear jm hS jf jO;simp[go_sem,Zf, *]),?_⟩);refine(word11_any qZ qa qn qc W (k0.out.later jw (A5 _)) ye.out).mono ?_;rintro e w' ⟨he,hx⟩;rw[ym.out]at he;exact⟨_,he,rfl,hx,Ext.trans jf hx⟩
      case c8 =>
       refine Ag rfl (.inr ⟨35,#[aG a M.length c,aI x],W,by(clear jm hS jf jO;simp[go_sem,Zf, *]),?_⟩);refine(insert11_any M a c x W (jU.out.later jw (A5 _)) jQ.out k5.out).mono ?_;rintro e w' ⟨nb,no,nc,he,hs,hc,hx⟩;exact⟨_,he,⟨_,_,rfl,hs,hc⟩,hx,Ext.trans jf hx⟩
      all_goals (refine Ag rfl (.inl ⟨_,W,?_,rfl,Ext.refl _,jf⟩);clear jm hS jf jO;simp[go_sem,Zf, *];done)
     case hfin =>
      intro h;exact absurd h (by decide)
     case hlast =>
      intro _ ac W jm jX fL hf jf hv ja;have hS:(λW=>Ext wr W)  W:=jf;clear jf;have jj:ac.tmps.getD 35 Z8=aB (some ⟨gm,0,none⟩):=hv 9 (by decide);have ks:WD (Hz x M) (ac.tmps.getD 34 Z8) W:=hv 8 (by decide);obtain⟨na,nc,js,jY,Jx⟩:=ks;have jB:Ext wr W:=hS;have jb:=(Z7 jB gm j3.out).trans jg.out;refine Bw rfl rfl rfl rfl (Al jj) (Al js) (by simp[Zn,jb]) (Av jb).1 (by kernel_rfl) ?_;obtain⟨wz,jl⟩:∃ wz,W.setCell ⟨gm,0,none⟩ (aG na (Hz x M).length nc)=wz:=⟨_,rfl⟩
      rw[jl];have jE:Hid (wz.heap[gm]? = some (aK #[aG na (Hz x M).length nc,aG none 0 0,aG none 0 0,aA aM bk] 39 (0,0))):=by show _=_;rw[<- jl];exact Aj jb rfl
      have yi:Hid (BZ wz na (Hz x M)):=by show BZ _ _ _;rw[<- jl];exact jY.set jb (JD _ _ _ _ _ _ _ _ _ _) 0 _
      have jD:Hid (Below gm w0 wz):=by show Below _ _ _;rw[<- jl];exact(Y9 HB.out (ZT jB ky.out)).setCell (p:=⟨gm,0,none⟩) (A5 _) _
      have k6:=A0 Jx;clear hS jB jb jY Jx jl jj;obtain⟨sx,kv,j0⟩:=B7 [26,27,28,29,30,31,32,33,34,35] (by kernel_rfl) jm jX ja;clear js;rw[j0];simp only[Zp];simp only[ZE,Z5,Za,Z9];clear j0 kv hv ja jm jX hf
      go_wp2_with fail
      go_roundg (6 - (k+1))
      case measure=>have:=jN.out;omega
      case rel=>exact⟨k+1,na,nc,by go_num,by omega,by omega,rfl,by rw[jd.out];exact jE.out,by rw[jd.out];exact yi.out,by rw[jd.out];exact k6.out,jD.out⟩
    ·have yp:¬ (k:Int)<6:=by omega
     have HE:=A0 (jh.out λh=>h6 h.2)
     go_wp2_with fail
     go_meet
     rw[HE.out];exact⟨_,rfl,a,c,jg.out,jU.out,jR.out,HB.out⟩
   ·have ju:¬ (k:Int)<(lW:Int):=by omega
    have HE:=A0 (jh.out λh=>jz h.1)
    go_wp2_with fail
    go_meet
    rw[HE.out];exact⟨_,rfl,a,c,jg.out,jU.out,jR.out,HB.out⟩
 case rest
      =>
  obtain⟨wc,yA,a,c,jb,jj,jA,hb⟩:=hcut;subst yA;obtain⟨kr,j9⟩:=G4 Q (min lW 6);have kg:Hid (min lW 6<=6):=Nat.min_le_right _ _;obtain⟨kw,ko⟩:∃ kw,min lW 6=kw:=⟨_,rfl⟩
  rw[ko]at jb jj jA kr j9 kg;have k3:=A0 ko;have yo:Hid (∀ i,i<lC->ZC i<=255):=λi hi=>by obtain⟨_,_,_,_,_,_,h⟩:=HC.out.at hi;exact h
  obtain⟨M,hM⟩:∃ M,mdW Q kw=M:=⟨_,rfl⟩
  have kB:=A0 hM;rw[hM]at jb jj jA kr j9;have j5:=A0 jb;have jU:=A0 jj;have jR:=A0 jA;have ke:=A0 hb;have jx:Hid (gm<wc.heap.size):=(A7.1 jb).1;obtain⟨n,hn⟩:∃ n,M.length=n:=⟨_,rfl⟩
  have kE:=A0 hn;rw[hn]at j5 jR kr j9;obtain⟨m0,m1,m2,m3⟩:=Av j5.out;have hn8':n<=8:=by have:=kg.out;omega
  clear jb jj jA hb ko hM hn j9
  go_upto_block 2 with fail
  go_wp2_with fail
  clear m0 m1 m2 m3
  go_loopg [6,7] n (λg v6 v7 wr=>∃ (k:Nat) (a1:Option Zj) (c1:Nat),v6=aA aM (k:Int)/\k<=n/\g=n - k/\wr.heap[gm]? = some (aK #[aG a n c,aG a1 (mdC ZC lC k).length c1,aG none 0 0,aA aM bk] 39 (0,0))/\Af BT wr wc.heap.size (aG a1 (mdC ZC lC k).length c1) (mdC ZC lC k)/\Tq gm wc wr)
  case atStart=>exact⟨0,none,0,rfl,Ze _,rfl,j5.out,Af.nil _ _ _,Tq.of (Ext.refl _)⟩
  case round =>
   obtain⟨k,a1,c1,rfl,hk,jy,jb,jv,hb⟩:=hrel;have jk:(mdC ZC lC k).length=k:=QZ _ _ _;have jd:=A0 (OZ ZC lC k);obtain⟨CS,kk⟩:∃ CS,mdC ZC lC k=CS:=⟨_,rfl⟩
   rw[kk]at jb jv jk jd;have k1:=A0 kk;have jg:=A0 jb;have jp:=A0 jv;have HB:=A0 hb;have jN:=A0 jy;have j3:=A0 (A7.1 jb).1;have kD:Hid ((Zk a1 CS.length c1).ownBlock≠some gm):=λe=>by have:=jp.out.ge _ e;have:=jx.out;omega
   have jt:Below gm w0 wr:=ke.out.trans (HB.out.below (A5 _) (Nat.le_of_lt jx.out));have jC:=A0 jt;obtain⟨m0,m1,m2,m3⟩:=Av jb;obtain⟨r0,r1,r2,r3⟩:=Av (j4.out wr (jC.out));clear jb jv hb jy kk jt;by_cases jz:k<n
   ·have ju:(k:Int)<(n:Int):=by omega
    have hcs:CS.length<=8:=by omega
    by_cases j8:k<lC
    ·have ys:(k:Int)<(lC:Int):=by omega
     obtain⟨b1,o1,ha,jW,hz,z0,z1⟩:=(HC.out.later (jT.out wr jC.out) (by have:=jP.out;omega)).at j8;have jG:=EV aC b1 o1 lC cC k ha j8;obtain⟨zn,kx⟩:∃ zn:Nat,ZC k=(zn:Int):=⟨(ZC k).toNat,by omega⟩
     have jV:Hid (mdC ZC lC (k+1)=CS ++ [zn]):=by show _=_;rw[jd.out,if_pos j8,kx];rfl
     have jd:=jV;rw[kx]at hz z0 z1;have jl:Y3 (zn:Int)=(zn:Int):=by unfold Y3;omega
     clear ha kx jk jV
     go_wp2_with (at_builtin;go_loud (refine Ah (v:=aG a1 CS.length c1) Di rfl _ _ rfl rfl (jp.out.later ((Z2 _ _).alloc (A5 _) _) (A5 _)) ⟨wr.heap.size,0,none⟩ 1 [zn] rfl (Ai (Z4 _ _)) (by simp only[AE];omega) (by have:=HB.out.size;simp only[A8];omega) ?_);intro v59 w59 je jc jq;have jo:=A0 je;have jn:=A0 jc;clear je jc jq;obtain⟨m0,m1,m2,m3,mf⟩:=Ky (jn.out) (jg.out) (kD.out);obtain⟨a59,c59,jM, -, -⟩:=jo.out.form;subst jM)
     obtain⟨jH,jI,jF⟩:=Qc jg.out jp.out jo.out jn.out HB.out jx.out;simp only[AD,AE]at jH jI jF;have jE:=A0 jH;have jS:=A0 jI;have jD:=A0 jF;clear jH jI jF m0 m1 m2 m3 mf
     go_wp2_with fail
     go_roundg (n - (k+1))
     case measure=>have:=jN.out;omega
     case rel=>exact⟨k+1,a59,c59,by go_num,by omega,rfl,by rw[jd.out,AD,AE];exact jE.out,by rw[jd.out,AD,AE];exact jS.out,jD.out⟩
    ·have ys:¬ (k:Int)<(lC:Int):=by omega
     have jV:Hid (mdC ZC lC (k+1)=CS ++ [0]):=by show _=_;rw[jd.out,if_neg j8]
     have jd:=jV;clear jk jV
     go_wp2_with (at_builtin;go_loud (refine Ah (v:=aG a1 CS.length c1) Di rfl _ _ rfl rfl (jp.out.later ((Z2 _ _).alloc (A5 _) _) (A5 _)) ⟨wr.heap.size,0,none⟩ 1 [0] rfl (Ai (Z4 _ _)) (by simp only[AE];omega) (by have:=HB.out.size;simp only[A8];omega) ?_);intro v59 w59 je jc jq;have jo:=A0 je;have jn:=A0 jc;clear je jc jq;obtain⟨m0,m1,m2,m3,mf⟩:=Ky (jn.out) (jg.out) (kD.out);obtain⟨a59,c59,jM, -, -⟩:=jo.out.form;subst jM)
     obtain⟨jH,jI,jF⟩:=Qc jg.out jp.out jo.out jn.out HB.out jx.out;simp only[AD,AE]at jH jI jF;have jE:=A0 jH;have jS:=A0 jI;have jD:=A0 jF;clear jH jI jF m0 m1 m2 m3 mf
     go_wp2_with fail
     go_roundg (n - (k+1))
     case measure=>have:=jN.out;omega
     case rel=>exact⟨k+1,a59,c59,by go_num,by omega,rfl,by rw[jd.out,AD,AE];exact jE.out,by rw[jd.out,AD,AE];exact jS.out,jD.out⟩
   ·obtain rfl:k=n:=by omega
    have kf:Hid (CS.length=k):=jk;clear jk
    go_upto_block 4 with fail
    clear m0 m1 m2 m3 r0 r1 r2 r3;obtain⟨wd,kN⟩:∃ wd,wr=wd:=⟨_,rfl⟩
    have HWD:=A0 kN;rw[kN]at jg jp HB jC ⊢
    go_cut [] (λwx=>∃ we:Z0,we=wx/\∃ (ap:Option Zj) (cp:Nat),we.heap[gm]? = some (aK #[aG a k c,aG a1 CS.length c1,aG ap (mdP k ZU (min lU 8)).length cp,aA aM bk] 39 (0,0))/\Af BT we wc.heap.size (aG a1 CS.length c1) CS/\PrS we ap (mdP k ZU (min lU 8))/\Tq gm wc we)
    case first =>
     go_wp2_with fail
     go_loopg [8,9] 8 (λg v8 v9 wr=>∃ (i:Nat) (ap:Option Zj) (cp:Nat),v8=aA aM (i:Int)/\i<=8/\i<=lU/\g=8 - i/\wr.heap[gm]? = some (aK #[aG a k c,aG a1 CS.length c1,aG ap (mdP k ZU i).length cp,aA aM bk] 39 (0,0))/\Af BT wr wc.heap.size (aG a1 CS.length c1) CS/\PrS wr ap (mdP k ZU i)/\Tq gm wc wr)
     case atStart=>exact⟨0,none,0,rfl,Ze _,Ze _,rfl,jg.out,jp.out,PrS.nil _ _,HB.out⟩
     case round =>
      obtain⟨i,ap,cp,rfl,hi8,hil,jy,jb,jv,jJ,hb⟩:=hrel;have yz:=NI k ZU i;have ku:=NJ k (by omega) ZU i;have kt:=Tj (n:=k) (by omega) ZU i (by omega);have jd:Hid (mdP k ZU (i+1)=Gt (ZU i 0 % (k:Int),ZU i 1 % (k:Int),1+ZU i 2 % 16) (mdP k ZU i)):=rfl;have jh:Hid (¬ (i<lU/\i<8)->mdP k ZU (min lU 8)=mdP k ZU i):=λh=>by rw[show min lU 8=i by omega]
      obtain⟨P,hP⟩:∃ P,mdP k ZU i=P:=⟨_,rfl⟩
      rw[hP]at jb jJ yz ku kt jd jh;have jg:=A0 jb;have jp:=A0 jv;have ki:=A0 jJ;have HB:=A0 hb;have jN:=A0 jy;have ya:=A0 ku.inc;have kh:=A0 kt;have yb:Hid (P.length<=1000):=by show _<=_;omega
      have jt:Below gm w0 wr:=ke.out.trans (HB.out.below (A5 _) (Nat.le_of_lt jx.out));have jC:=A0 jt;clear jb jv jJ hb jy hP ku kt;obtain⟨r0,r1,r2,r3⟩:=Av (j4.out wr (jC.out));by_cases jz:i<lU
      ·have ju:(i:Int)<(lU:Int):=by omega
       by_cases h8:i<8
       ·have yq:(i:Int)<8:=by omega
        have kY:=JC HU.out (jT.out wr jt) (by have:=jP.out;omega);obtain⟨b1,o1,ha,jW,jk⟩:=MI kY jz;have kV:wr.cell? ⟨b1,o1+i*3,none⟩=some (aA aO (ZU i 0)):=(jk 0 (by decide)).1;have kW:=(jk 1 (by decide)).1;have kX:=(jk 2 (by decide)).1;have kS:=bounds_u8 (jk 0 (by decide)).2;have kT:=bounds_u8 (jk 1 (by decide)).2;have kU:=bounds_u8 (jk 2 (by decide)).2;have jG:=Qb aU b1 o1 lU cU i ha jz;obtain⟨x0,j1⟩:∃ x,ZU i 0=x:=⟨_,rfl⟩
        obtain⟨x1,kP⟩:∃ x,ZU i 1=x:=⟨_,rfl⟩
        obtain⟨x2,kQ⟩:∃ x,ZU i 2=x:=⟨_,rfl⟩
        rw[j1]at kV kS jd;rw[kP]at kW kT jd;rw[kQ]at kX kU jd;have hk0:((k:Int) == 0)=false:=by rw[beq_eq_false_iff_ne];omega
        have hk00:¬ k=0:=by omega
        have i0:IntKind.i64.wrap x0=x0:=Zq _ (by omega);have i1:IntKind.i64.wrap x1=x1:=Zq _ (by omega);have yv:x0.tmod (k:Int)=x0 % (k:Int):=ZJ kS.1;have yw:x1.tmod (k:Int)=x1 % (k:Int):=ZJ kT.1;have yx:x2.tmod 16=x2 % 16:=ZJ kU.1;have l0:0<=x0 % (k:Int)/\x0 % (k:Int)<(k:Int):=⟨Int.emod_nonneg _ (by omega),Int.emod_lt_of_pos _ (by omega)⟩
        have l1:0<=x1 % (k:Int)/\x1 % (k:Int)<(k:Int):=⟨Int.emod_nonneg _ (by omega),Int.emod_lt_of_pos _ (by omega)⟩
        obtain⟨p0,kI⟩:∃ p,x0 % (k:Int)=p:=⟨_,rfl⟩
        obtain⟨p1,kJ⟩:∃ p,x1 % (k:Int)=p:=⟨_,rfl⟩
        obtain⟨p2,kK⟩:∃ p,x2 % 16=p:=⟨_,rfl⟩
        have l2:0<=p2/\p2<=15:=by omega
        rw[kI]at yv l0 jd;rw[kJ]at yw l1 jd;rw[kK]at yx jd;have i2:IntKind.i64.wrap p2=p2:=Zq _ (by omega);have i3:IntKind.i64.wrap (1+p2)=1+p2:=Zq _ (by omega);have i4:IntKind.i64.wrap p0=p0:=Zq _ (by omega);have i5:IntKind.i64.wrap p1=p1:=Zq _ (by omega);have v0:Y3 x0=x0:=by unfold Y3;omega
        have v1:Y3 x1=x1:=by unfold Y3;omega
        have v2:Y3 p2=p2:=by unfold Y3;omega
        have v3:Y3 p0=p0:=by unfold Y3;omega
        have v4:Y3 p1=p1:=by unfold Y3;omega
        have v5:Y3 (1+p2)=1+p2:=by unfold Y3;omega
        have v6:IntKind.u8.wrap p2=p2:=zi _ (by omega);have k8:Hid (0<=(p0,p1,1+p2).2.2):=by show(0:Int)<=1+p2;omega
        have k9:Hid ((p0,p1,1+p2).2.2<=1000000000):=by show(1:Int)+p2<=1000000000;omega
        clear j1 kP kQ jk kY ha kI kJ kK jt
        go_upto_region 18 with fail
        obtain⟨wu,kc⟩:∃ wu,wr.alloc (aK #[aA aO x0,aA aO x1,aA aO x2] 95)=wu:=⟨_,rfl⟩
        rw[kc];have j2:Ext wr wu:=by rw[<- kc];exact(Z2 _ _).alloc (A5 _) _
        have kb:wu.heap[wr.heap.size]? = some (aK #[aA aO x0,aA aO x1,aA aO x2] 95 (0,0)):=by rw[<- kc];exact Z4 _ _
        obtain⟨gu,kH⟩:∃ gu,wr.heap.size=gu:=⟨_,rfl⟩
        rw[kH]at kb ⊢;have yj:=A0 kb;have yk:=A0 (A7.1 kb).1;have kq:=(Z7 j2 gm (A7.1 jg.out).1).trans jg.out;have kC:=A0 kq;have kz:=A0 (A7.1 kq).1;have yc:=A0 (ki.out.go j2);have kF:=A0 (Af.later jp.out j2 (A5 _));have kZ:Hid (Tq gm wc wu):=HB.out.trans (Tq.of j2);clear kc j2 kb kH kq r0 r1 r2 r3 kV kW kX jG;refine Ay (by kernel_rfl) (Vs [vq (aJ #[aG a k c,aG a1 CS.length c1,aG ap P.length cp,aA aM bk]),vq (aB (some ⟨gu,0,none⟩)),vq (aA aO x0),vq (aA aM x0),vq (aA aM (k:Int)),vq (aA aM p0),vq (aB (some ⟨gu,1,none⟩)),vq (aA aO x1),vq (aA aM x1),vq (aA aM (k:Int)),vq (aA aM p1),vq (aB (some ⟨gu,2,none⟩)),vq (aA aO x2),vq (aA aO p2),vq (aA aM p2),vq (aA aM (1+p2)),vq (aJ #[aA aM p0,aA aM p1,aA aM (1+p2)]),PrV (Gt (p0,p1,1+p2) P),vq (aB (some ⟨gm,2,none⟩))]) (Xs []) (λfL=>(λW=>Ext wu W) ) [0,0,2,6,0,30,0,64,192,0,960,0,2048,6144,14336,30720,65534,131071,0] 97 19 (by kernel_rfl) rfl ?hV ?hS ?hop ?hfin ?hlast
        case hV =>
         refine Bi (BB (by simp only[AX,ZN,or_false,forall_eq_or_imp,forall_eq];exact⟨Ab _,Ab _,Ab _,Ab _,Ab _,Ab _,Ab _,Ab _,Ab _,Ab _,Ab _,Ab _,Ab _,Ab _,Ab _,Ab _,Ab _,S2 _,Ab _⟩)) ?_;exact trivial
        case hS =>
         intro fL hf;show(λW=>Ext wu W)  _
         first | exact Ext.refl _ | exact Dr _
        case hop =>
         refine⟨?_,?_,?_,?_,?_,?_,?_,?_,?_,?_,?_,?_,?_,?_,?_,?_,?_,?c17,?_,?_,trivial⟩
         all_goals first | rw[if_neg (by decide)] | rw[if_pos (by decide)]
         all_goals try exact True.intro
         all_goals try intro ac W fL jm jO kp kl jf ji ja jL
         all_goals try have hS:(λW=>Ext wu W)  W:=jf
         all_goals try (
          have jw:Ext wu W:=hS;have g9:=(Z7 jw gm kz.out).trans kC.out;obtain⟨m0,m1,m2,m3⟩:=Av g9;have g8:=(Z7 jw gu yk.out).trans yj.out;have u0:W.cell? ⟨gu,0,none⟩=some (aA aO x0):=by rw[Z3 _ _ 0 _ _ _ g8];rfl
          have u1:W.cell? ⟨gu,1,none⟩=some (aA aO x1):=by rw[Z3 _ _ 1 _ _ _ g8];rfl
          have u2:W.cell? ⟨gu,2,none⟩=some (aA aO x2):=by rw[Z3 _ _ 2 _ _ _ g8];rfl
          clear g9 g8)
         all_goals try have yt:=gdA ac 3 (aB (some ⟨gm,0,none⟩)) (ja 3 (by kernel_rfl))
         all_goals try have hh9:=gdA ac 9 (aB (some ⟨gu,0,none⟩)) (ja 9 (by kernel_rfl))
         all_goals try have hh5:=gdA ac 5 (aA aM (k:Int)) (ja 5 (by kernel_rfl))
         all_goals try (have ji:=GC ji;simp[FK,Ae,vq]at ji)
         all_goals try clear ja kp kl jL
         case c17 =>
          refine Ag rfl (.inr ⟨37,#[aJ #[aG a k c,aG a1 CS.length c1,aG ap P.length cp,aA aM bk],aJ #[aA aM p0,aA aM p1,aA aM (1+p2)]],W,by(clear jm hS jf jO;simp[go_sem,Zf, *]),?_⟩);refine(add11_any P (p0,p1,1+p2) a a1 ap k c CS.length c1 cp bk W (yc.out.go jw) ya.out yb.out kh.out k8.out k9.out).mono ?_;rintro e w' ⟨na,nc,he,hs,hc,hx⟩;exact⟨_,he,⟨_,_,rfl,hs,hc⟩,hx,Ext.trans jf hx⟩
         all_goals (refine Ag rfl (.inl ⟨_,W,?_,rfl,Ext.refl _,jf⟩);clear jm hS jf jO;simp[go_sem,Zf, *];done)
        case hfin =>
         intro h;exact absurd h (by decide)
        case hlast =>
         intro _ ac W jm jX fL hf jf hv ja;have hS:(λW=>Ext wu W)  W:=jf;clear jf;have jj:ac.tmps.getD 95 Z8=aB (some ⟨gm,2,none⟩):=hv 18 (by decide);have ks:PrV (Gt (p0,p1,1+p2) P) (ac.tmps.getD 94 Z8) W:=hv 17 (by decide);obtain⟨na,nc,js,jY,Jx⟩:=ks;have jB:Ext wu W:=hS;have jb:=(Z7 jB gm kz.out).trans kC.out;refine Bw rfl rfl rfl rfl (Al jj) (Al js) (by simp[Zn,jb]) (Av jb).2.2.1 (by kernel_rfl) ?_;obtain⟨wz,jl⟩:∃ wz,W.setCell ⟨gm,2,none⟩ (aG na (Gt (p0,p1,1+p2) P).length nc)=wz:=⟨_,rfl⟩
         rw[jl];have jE:Hid (wz.heap[gm]? = some (aK #[aG a k c,aG a1 CS.length c1,aG na (Gt (p0,p1,1+p2) P).length nc,aA aM bk] 39 (0,0))):=by show _=_;rw[<- jl];exact Aj jb rfl
         have yd:Hid (PrS wz na (Gt (p0,p1,1+p2) P)):=by show PrS _ _ _;rw[<- jl];exact jY.tq jb (Tq.set _ _ _ _)
         have jS:Hid (Af BT wz wc.heap.size (aG a1 CS.length c1) CS):=by show Af _ _ _ _ _;rw[<- jl];exact(Af.later kF.out jB (A5 _)).keep λq hq=>Zc _ _ _ _ (by have:=kF.out.ge q hq;have:=jx.out;show q≠gm;omega)
         have jD:Hid (Tq gm wc wz):=by show Tq _ _ _;rw[<- jl];exact(kZ.out.trans (Tq.of jB)).trans (Tq.set _ _ _ _)
         clear hS jB jb jY Jx jl jj;obtain⟨sx,kv,j0⟩:=B7 [77,78,79,80,81,82,83,84,85,86,87,88,89,90,91,92,93,94,95] (by kernel_rfl) jm jX ja;clear js;rw[j0];simp only[Zp];simp only[ZE,Z5,Za,Z9];clear j0 kv hv ja jm jX hf
         go_wp2_with fail
         go_roundg (8 - (i+1))
         case measure=>have:=jN.out;omega
         case rel=>exact⟨i+1,na,nc,by go_num,by omega,by omega,rfl,by rw[jd.out];exact jE.out,jS.out,by rw[jd.out];exact yd.out,jD.out⟩
       ·have yq:¬ (i:Int)<8:=by omega
        have HE:=A0 (jh.out λh=>h8 h.2)
        go_wp2_with fail
        go_meet
        rw[HE.out];exact⟨_,rfl,ap,cp,jg.out,jp.out,ki.out,HB.out⟩
      ·have ju:¬ (i:Int)<(lU:Int):=by omega
       have HE:=A0 (jh.out λh=>jz h.1)
       go_wp2_with fail
       go_meet
       rw[HE.out];exact⟨_,rfl,ap,cp,jg.out,jp.out,ki.out,HB.out⟩
    case rest =>
     obtain⟨we,yB,ap,cp,jb,jv,jJ,hb⟩:=hcut;subst yB;have jt:Below gm w0 we:=ke.out.trans (hb.below (A5 _) (Nat.le_of_lt jx.out));have jZ:=yg.out we jt;have jr:=Tk Q kw kg.out ZC lC yo.out ZU (min lU 8) (Nat.min_le_right _ _) bk yr jW;rw[kB.out,kE.out,k1.out]at jr;have kA:=A0 jr;obtain⟨P,hP⟩:∃ P,mdP k ZU (min lU 8)=P:=⟨_,rfl⟩
     rw[hP]at jb jJ kA;have jC:=A0 jt;have HMBE:=A0 jb;have k7:=A0 jv;have kh:=A0 jJ;have yh:Hid (BZ we a M):=jU.out.tq j5.out (JD _ _ _ _ _ _ _ _ _ _) hb;obtain⟨m0,m1,m2,m3⟩:=Av jb;obtain⟨s0,s1,s2,s3⟩:=Av jZ;have sf:∀ i,we.frozen? ⟨gr+1,i,none⟩=false:=λi=>by simp[Zn,jZ]
     obtain⟨wf,kO,kR,t0,t1,t2,t3⟩:=V1 jZ (aG a k c) (aG a1 CS.length c1) (aG ap P.length cp) (aA aM bk);have yl:=A0 kO;have yn:=A0 kR;have yf:=A0 jZ;clear jt jZ jr jb jv jJ hb hP kO kR
     go_wp2_with fail
     rw[yl.out];clear m0 m1 m2 m3 s0 s1 s2 s3 sf;refine bodyPost_ret (v:=aJ #[aG a k c,aG a1 CS.length c1,aG ap P.length cp,aA aM bk]) (by simp[results,Tryz.results12,go_sem,t0,t1,t2,t3]) rfl ?_;rw[k3.out];exact Tm kE.out kB.out kf.out jR.out kA.out yh.out k7.out kh.out yf.out yn.out kG.out jC.out jP.out k2.out jx.out
def exS:Sch:=⟨1,1,exR⟩
def LO:List ByteArray:=[⟨#[67]⟩,⟨#[97]⟩,⟨#[98]⟩]
def WE:LO.map bts=exW:=by decide
def exV:Fl.validB exS=true:=Fl.valid_of (by decide +kernel)
def Tn:BO exS=0:=by
 rw[BO,if_pos exV,if_pos (by decide +kernel),if_neg (by decide +kernel),if_pos (by decide +kernel)]
def To:Cx LO:=UX (by decide) (by decide) (by decide)
def VL:Ku LO [0,0,0] [] 0:=⟨To,rfl,by decide,GV.nil _,by decide,by decide,by decide,by decide⟩
def X2 (w:Z0)(e:Ending)(w':Z0):Prop:=∃ gR gW gC:Nat,e=aP (.tuple #[aJ #[aA aM 1,aA aO 1,aG (some ⟨gR,0,none⟩) 3 3],aJ #[aG (some ⟨gW,0,none⟩) 3 3,aG (some ⟨gC,0,none⟩) 3 3,aG none 0 0,aA aM 0]]) /\
 G2 w' exS (some ⟨gR,0,none⟩) 3/\Kx w' (some ⟨gW,0,none⟩) (some ⟨gC,0,none⟩) none 3 3 0 LO [0,0,0] [] 0/\Ext w w'
def Pk (w:Z0):Zu Z1 32 #[] w (X2 w):=by
 go_enter Tryz.func32,Tryz.ntmps32
 go_wp2_with fail
 obtain⟨wA,hA,jb,a0,a1,a2,a3,zA⟩:=Pi w (aK #[aA aM 1,aA aO 1,aG (some ⟨w.heap.size+1+1,0,none⟩) 3 3] 33) (aK #[aG (some ⟨w.heap.size+1+1+1+1,0,none⟩) 3 3,aG (some ⟨w.heap.size+1+1+1+1+1,0,none⟩) 3 3,aG none 0 0,aA aM 0] 39)
  (aK #[aA aM 0,aA aM 0,aI ⟨#[97]⟩,aI ⟨#[97]⟩,aA aM 0,aA aM 0,aA aM 0,aI ⟨#[98]⟩,aI ⟨#[98]⟩,aA aM 1,aA aM 0,aA aM 0,aI ⟨#[97,98]⟩,aI ⟨#[67]⟩,aA aM 2] 88) (aK #[aA aM 1,aA aO 1,aG (some ⟨w.heap.size+1+1,0,none⟩) 3 3] 33)
 obtain⟨wB,hB,ja,b0,b1,zB⟩:=GX wA (aK #[aI ⟨#[67]⟩,aI ⟨#[97]⟩,aI ⟨#[98]⟩] 9) (aK #[aA aM 0,aA aM 0,aA aM 0] 3);rw[hA,hB];rw[zA]at b0 b1;have hx:Ext w wB:=Ext.trans jb ja;have c0:=(Z7 ja _ (A7.1 a0).1).trans a0;have c1:=(Z7 ja _ (A7.1 a1).1).trans a1;have c2:=(Z7 ja _ (A7.1 a2).1).trans a2;obtain⟨q0,q1,q2,q3⟩:=Av c1;obtain⟨p0,p1,p2⟩:=B6 c0;have jd:Af Dc wB 0 (aG (some ⟨w.heap.size+1+1,0,none⟩) 3 3) exR:=Es Gg c2 rfl (Ze _) rfl (by decide);have jc:Af BT wB 0 (aG (some ⟨w.heap.size+1+1+1+1+1,0,none⟩) 3 3) [0,0,0]:=Es Di b1 rfl (Ze _) rfl (by decide);clear hA hB jb ja a0 a1 a2 a3 zA zB c0 c1 c2;refine bodyPost_ret (v:=.tuple #[aJ #[aA aM 1,aA aO 1,aG (some ⟨w.heap.size+1+1,0,none⟩) 3 3],aJ #[aG (some ⟨w.heap.size+1+1+1+1,0,none⟩) 3 3,aG (some ⟨w.heap.size+1+1+1+1+1,0,none⟩) 3 3,aG none 0 0,aA aM 0]]) (by simp[results,Tryz.results32,go_sem,p0,p1,p2,q0,q1,q2,q3]) rfl ?_;exact⟨_,_,_,rfl,G2.of_valid exV (by decide) (by decide) (by decide) jd.ruls.1,⟨St b0 rfl,A5 _,jc.cnts.1,PrS.nil _ _⟩,hx⟩
def Tp {w:Z0}{a:Option Zj}{c:Nat}{L:List Slt}{r:Bool}(h:CI w a L)(hl:L.length<=1000)(hv:validB L=r):∀ W,Ext w W->Zu Z1 41 #[aG a L.length c] W λe w'=>e=aP (aH r)/\Ext W w':=λW hx=>by
 subst hv;exact PT L a c W (h.later hx (A5 _)) (by omega)
section
variable {aR aW aC aL:Option Addr} {cL:Nat} {L:List Slt} {W:World}
def Kz (hS:G2 W exS aR 3)(hM:Kx W aW aC none 3 3 0 LO [0,0,0] [] 0)(hT:Tab W)(hL:FF W aL cL L)(hv:validB L=true)(h6:L.length<=6) :
  Zu Z1 14 #[aJ #[aA aM 1,aA aO 1,aG aR 3 3],aJ #[aG aW 3 3,aG aC 3 3,aG none 0 0,aA aM 0],aG aL L.length cL] W (W8 L.length (GA exR 1 L exW) W):=by
 rw[<- WE];exact lbuild_ok exS aR aW aL 3 3 cL (aG aC 3 3) (aG none 0 0) (aA aM 0) LO L W hS exV Tn hT (λW' hx=>JB aW aC none 3 3 0 LO [0,0,0] [] 0 W' (hM.go hx) VL) (Tp hL.s (by omega) hv) hM.ws To (by decide) (by decide) hL h6
def S3:Zu Z1 14 #[aJ #[aA aM 0,aA aO 0,aG none 0 0],aJ #[aG aW 3 3,aG aC 3 3,aG none 0 0,aA aM 0],aG none 0 0] W (Rs 20 W) :=
 Kq ⟨0,0,[]⟩ none aW none 0 3 0 (aG aC 3 3) (aG none 0 0) (aA aM 0) 3 0 W (.inl rfl) (by decide) (by decide) (by decide) (by decide) (λh=>by
  have hv:=E9 h;have h2:=@of_decide_eq_true _ (Xr _) hv;exact absurd h2.1 (by decide))
def Oa:Zu Z1 40 #[aJ #[aG none 0 0,aG none 0 0,aG none 0 0,aA aM 0]] W λe w'=>e=aP (aH false)/\Ext W w':=by
 have HD:Hid (Ee []=false):=Cq λh=>by have:=h.1;simp at this
 go_enter Tryz.func40,Tryz.ntmps40
 go_wp2_with fail
 refine(vwords_any [] 0 none 0 _ (λk hk=>absurd hk (Xj _)) rfl (by decide)).mono ?_;rintro e w' ⟨rfl,rfl⟩;rw[HD.out]
 go_wp2_with fail
 go_ret;exact⟨rfl,(Z2 _ _).alloc (A5 _) _⟩
def Tr (hS:G2 W exS aR 3):Zu Z1 14 #[aJ #[aA aM 1,aA aO 1,aG aR 3 3],aJ #[aG none 0 0,aG none 0 0,aG none 0 0,aA aM 0],aG none 0 0] W (Rs 110 W) :=
 NA exS aR none none 3 0 0 (aG none 0 0) (aG none 0 0) (aA aM 0) 0 0 W hS exV Tn λW' _=>Oa
def V2 (hS:G2 W exS aR 3)(hM:Kx W aW aC none 3 3 0 LO [0,0,0] [] 0)(hL:CI W aL L)(hl:L.length<=1000)(hv:validB L=false):Zu Z1 14 #[aJ #[aA aM 1,aA aO 1,aG aR 3 3],aJ #[aG aW 3 3,aG aC 3 3,aG none 0 0,aA aM 0],aG aL L.length cL] W (Rs 130 W) :=
 NB exS aR aW aL 3 3 cL (aG aC 3 3) (aG none 0 0) (aA aM 0) 3 L.length W hS exV Tn (λW' hx=>JB aW aC none 3 3 0 LO [0,0,0] [] 0 W' (hM.go hx) VL) (Tp hL hl hv)
end
def GrV (n:Int)(E:List Edg)(v:Z6)(w:Z0):Prop:=∃ a c,v=aJ #[aA aM n,aG a E.length c]/\D3 w a E
def MK (n:Int)(E:List Edg):Bq (GrV n E):=by
 rintro v w w' ⟨a,c,h1,h2⟩ hx;exact⟨a,c,h1,h2.go hx⟩
def Ts {n:Int}{E:List Edg}{w w':Z0}{e:Ending}(h:GrP n E w e w'):∃ v,e=aP v/\GrV n E v w'/\Ext w w':=by
 obtain⟨v,rfl,hv,hx⟩:=h;obtain⟨a,c,ja, -, -⟩:=hv.form;subst ja;exact⟨_,rfl,⟨a,c,rfl,(Af.lnks hv).1⟩,hx⟩
def DQ:List Edg:=[(0,1,1,0),(0,2,0,2),(1,2,2,1)]
def Qd:Ia 2 DQ:=by
 refine⟨by decide,by decide,by decide,λi hi _=>⟨?_,λh0=>?_⟩⟩
 ·have h:∀ e∈DQ,0<=e.1/\e.1<e.2.1/\e.2.1<=2/\0<=e.2.2.1/\e.2.2.1<200/\0<=e.2.2.2/\e.2.2.2<=1000000:=by decide
  exact h _ (AI hi)
 ·have h:DQ.Pairwise λa b=>a.1<b.1\/a.1=b.1/\(a.2.1<b.2.1\/a.2.1=b.2.1/\a.2.2.1<b.2.2.1):=by decide
  exact List.pairwise_iff_getElem.1 h (i - 1) i (by omega) hi (by omega)
def Qe (n:Int)(h0:0<=n)(h1:n<=40):Ia n []:=⟨h0,h1,by decide,λi hi=>absurd hi (Xj _)⟩
def Wj:S0 2 DQ=true:=by decide
def Wl:S0 0 []=true:=by decide
def Wm:S0 1 []=false:=by decide
def Wn:Dg 2 DQ=true:=GW Qd
def WF:Dg 41 []=false:=Bg λh=>absurd h.2.1 (by decide)
def Tt {w:Z0}{g:Nat}{k:UInt8}{c z:Int}(h:w.heap[g]? = some (aK #[aA aO z,aA aM c] 79 (0,0)))(hz:z=(k.toNat:Int)):Af Cc w 0 (svS ⟨some ⟨g,0,none⟩,1,1⟩) [⟨k,c⟩]:=by
 subst hz;exact Es Dw h rfl (Ze _) rfl (show(1:Nat)<=1000000 by decide)
def WG {w:Z0}{x y:SV}{s t:Slt}(h:Af Cc w 0 (svS x) s)(h2:Af Cc w 0 (svS y) t):∀ (k:Nat) (u:SV) (v:Slt),[x,y][k]? = some u->[s,t][k]? = some v->Af Cc w 0 (svS u) v:=λk u v h3 h4=>by
 rcases k with _ | _ | k
 · cases h3;cases h4;exact h
 · cases h3;cases h4;exact h2
 · simp at h3
def WH:By 300 [[⟨97,0⟩],[⟨98,0⟩]]:=by unfold By;decide
def WI:PR [[⟨97,0⟩],[⟨98,0⟩]]:=by unfold PR;decide
def WJ:By 300 [[⟨97,3⟩,⟨98,0⟩]]:=by unfold By;decide
def WK:PR [[⟨97,3⟩,⟨98,0⟩]]:=by unfold PR;decide
def WL:validB [[⟨97,0⟩],[⟨98,0⟩]]=true:=by decide
def WM:validB [[⟨97,3⟩,⟨98,0⟩]]=true:=by decide
def Wo:validB [[]]=false:=by decide
def V3:validB []=true:=by decide
def V4 (w:Z0):FF w none 0 []:=⟨λk hk=>absurd hk (Xj _),⟨(λb h=>by cases h),λ_=>rfl⟩,A5 _,by decide,(λs hs=>by cases hs),(λs hs=>by cases hs)⟩
def Pm (w:Z0)(hT:Tab w):Zu Z1 10 #[] w λe w'=>e=aP (aH true)/\Ext w w':=by
 have HT:=A0 hT;clear hT
 go_enter Tryz.func10,Tryz.ntmps10
 go_wp2_with fail
 refine(Pk w).mono ?_;rintro e w1 ⟨gR,gW,gC,rfl,hS,hM,kD⟩;obtain⟨aR,kr⟩:∃ aR,(some ⟨gR,0,none⟩:Option Zj)=aR:=⟨_,rfl⟩
 obtain⟨aW,ki⟩:∃ aW,(some ⟨gW,0,none⟩:Option Zj)=aW:=⟨_,rfl⟩
 obtain⟨aC,kh⟩:∃ aC,(some ⟨gC,0,none⟩:Option Zj)=aC:=⟨_,rfl⟩
 rw[kr]at hS ⊢;rw[ki,kh]at hM;rw[ki,kh];clear kr ki kh
 go_upto_region 2 with fail
 obtain⟨w2,kA,j6,b1,b2,kQ⟩:=GX w1 (aK #[aA aM 1,aA aO 1,aG aR 3 3] 33) (aK #[aG aW 3 3,aG aC 3 3,aG none 0 0,aA aM 0] 39);rw[kA];obtain⟨gs,kx⟩:∃ gs,w1.heap.size=gs:=⟨_,rfl⟩
 rw[kx]at b1 b2 ⊢;have HS:Hid (∀ W,Ext w2 W->G2 W exS aR 3):=λW hx=>(hS.go j6).go hx;have HM:Hid (∀ W,Ext w2 W->Kx W aW aC none 3 3 0 LO [0,0,0] [] 0):=λW hx=>(hM.go j6).go hx;have kq:Hid (Ext w w2):=Ext.trans kD j6;have j8:Hid (∀ W,Ext w2 W->Tab W):=λW hx=>HT.out.go (Ext.trans kq.out hx);have jt:=A0 (An b1);have ju:=A0 (An b2);clear kA j6 b1 b2 kx hS hM kD HT kQ
 go_upto_region 3 with fail
 obtain⟨w3,kB,kE,b1,b2,kR⟩:=GX w2 (aK #[aA aO 97,aA aM 0] 79) (aK #[aA aO 98,aA aM 0] 79);rw[kB];obtain⟨ga,kw⟩:∃ ga,w2.heap.size=ga:=⟨_,rfl⟩
 rw[kw]at b1 b2 ⊢;have j9:=A0 kE;have kJ:=A0 b1;have kK:=A0 b2;clear kB kE b1 b2 kR kw;obtain⟨d0,d1,d2⟩:=B6 (jt.out w3 j9.out);obtain⟨m0,m1,m2,m3⟩:=Av (ju.out w3 j9.out)
 go_wp2_with fail
 obtain⟨w4,j3⟩:∃ w4,w3.alloc (aK #[aG (some ⟨ga,0,none⟩) 1 1,aG (some ⟨ga+1,0,none⟩) 1 1] 81)=w4:=⟨_,rfl⟩
 rw[j3];have jo:Hid (Ext w3 w4):=by show Ext _ _;rw[<- j3];exact(Z2 _ _).alloc (A5 _) _
 have j1:Hid (Ext w2 w4):=Ext.trans j9.out jo.out;have ji:FF w4 (some ⟨w3.heap.size,0,none⟩) 2 [[⟨97,0⟩],[⟨98,0⟩]]:=(FF.of (NG (Ls:=[⟨some ⟨ga,0,none⟩,1,1⟩,⟨some ⟨ga+1,0,none⟩,1,1⟩]) (g:=w3.heap.size) (n:=2) (by rw[<- j3];exact Z4 _ _) rfl rfl (by decide) rfl
  (WG (Tt (An kJ.out w4 jo.out) rfl) (Tt (An kK.out w4 jo.out) rfl))) (by decide) WH WI).1
 clear d0 d1 d2 m0 m1 m2 m3;clear j3;refine(Kz (HS.out w4 j1.out) (HM.out w4 j1.out) (j8.out w4 j1.out) ji WL (by decide)).mono ?_;rw[Wg];rintro e w5 ⟨v5,rfl,kj,kF⟩;obtain⟨a5,c5,kl, -, -⟩:=kj.form;subst kl;have kL:=A0 (Af.edgs kj).1;have kP:Hid (Ext w2 w5):=Ext.trans j1.out kF;clear kj kF ji
 go_upto_region 4 with fail
 obtain⟨w6,j4⟩:∃ w6,w5.alloc (aK #[aA aM 2,aG a5 3 c5] 45)=w6:=⟨_,rfl⟩
 rw[j4];have jL:Hid (Ext w5 w6):=by show Ext _ _;rw[<- j4];exact(Z2 _ _).alloc (A5 _) _
 have b1:w6.heap[w5.heap.size]? = some (aK #[aA aM 2,aG a5 3 c5] 45 (0,0)):=by rw[<- j4];exact Z4 _ _
 obtain⟨g5,ku⟩:∃ g5,w5.heap.size=g5:=⟨_,rfl⟩
 rw[ku]at b1 ⊢;have kH:=A0 (An b1);have j2:Hid (Ext w2 w6):=Ext.trans kP.out jL.out;clear j4 b1 ku;obtain⟨d0,d1,d2⟩:=B6 (jt.out w6 j2.out);obtain⟨m0,m1,m2,m3⟩:=Av (ju.out w6 j2.out)
 go_wp2_with fail
 obtain⟨w7,kC,kn,b1,b2,kS⟩:=GX w6 (aK #[aA aO 97,aA aM 3,aA aO 98,aA aM 0] 79) (aK #[aG (some ⟨w6.heap.size,0,none⟩) 2 2] 81);rw[kC];have kb:Hid (Ext w2 w7):=Ext.trans j2.out kn;have Jx:=A0 kn;have ji:FF w7 (some ⟨w6.heap.size+1,0,none⟩) 1 [[⟨97,3⟩,⟨98,0⟩]]:=(FF.of (NG (Ls:=[⟨some ⟨w6.heap.size,0,none⟩,2,2⟩]) (n:=1) b2 rfl rfl (by decide) rfl
  (Th (Es Dw b1 rfl (Ze _) rfl (show(2:Nat)<=1000000 by decide)))) (by decide) WJ WK).1
 clear d0 d1 d2 m0 m1 m2 m3;clear kC kn b1 b2 kS;refine(Kz (HS.out w7 kb.out) (HM.out w7 kb.out) (j8.out w7 kb.out) ji WM (by decide)).mono ?_;rw[Wh];rintro e w8 ⟨v8,rfl,kk,kG⟩;obtain⟨a8,c8,km, -, -⟩:=kk.form;subst km;have kM:=A0 (Af.edgs kk).1;have ka:Hid (Ext w6 w8):=Ext.trans Jx.out kG;clear kk kG ji
 go_upto_region 5 with fail
 obtain⟨w9,j5⟩:∃ w9,w8.alloc (aK #[aA aM 1,aG a8 2 c8] 45)=w9:=⟨_,rfl⟩
 rw[j5];have jM:Hid (Ext w8 w9):=by show Ext _ _;rw[<- j5];exact(Z2 _ _).alloc (A5 _) _
 have b1:w9.heap[w8.heap.size]? = some (aK #[aA aM 1,aG a8 2 c8] 45 (0,0)):=by rw[<- j5];exact Z4 _ _
 obtain⟨g7,kv⟩:∃ g7,w8.heap.size=g7:=⟨_,rfl⟩
 rw[kv]at b1 ⊢;have kI:=A0 (An b1);have jm:Hid (Ext w6 w9):=Ext.trans ka.out jM.out;have jn:Hid (Ext w2 w9):=Ext.trans j2.out jm.out;clear j5 b1 kv;obtain⟨d0,d1,d2⟩:=B6 (jt.out w9 jn.out);obtain⟨m0,m1,m2,m3⟩:=Av (ju.out w9 jn.out)
 go_wp2_with fail
 clear d0 d1 d2 m0 m1 m2 m3;refine S3.mono ?_;rintro e w10 ⟨rfl,jT⟩;have kc:Hid (Ext w9 w10):=jT;clear jT
 go_upto_region 6 with fail
 obtain⟨w11,jp⟩:∃ w11,w10.alloc (aK #[aA aM 0,aG none 0 0] 45)=w11:=⟨_,rfl⟩
 rw[jp];have jG:Hid (Ext w10 w11):=by show Ext _ _;rw[<- jp];exact(Z2 _ _).alloc (A5 _) _
 have jC:Hid (Ext w9 w11):=Ext.trans kc.out jG.out;have jk:Hid (Ext w2 w11):=Ext.trans jn.out jC.out;clear jp;obtain⟨d0,d1,d2⟩:=B6 (jt.out w11 jk.out);obtain⟨m0,m1,m2,m3⟩:=Av (ju.out w11 jk.out)
 go_wp2_with fail
 clear d0 d1 d2 m0 m1 m2 m3;refine(Tr (HS.out w11 jk.out)).mono ?_;rintro e w12 ⟨rfl,jU⟩;have kd:Hid (Ext w9 w12):=Ext.trans jC.out jU;clear jU
 go_upto_region 7 with fail
 obtain⟨w13,jq⟩:∃ w13,w12.alloc (aK #[aA aM 0,aG none 0 0] 45)=w13:=⟨_,rfl⟩
 rw[jq];have jH:Hid (Ext w12 w13):=by show Ext _ _;rw[<- jq];exact(Z2 _ _).alloc (A5 _) _
 have jD:Hid (Ext w9 w13):=Ext.trans kd.out jH.out;have jx:Hid (Ext w2 w13):=Ext.trans jn.out jD.out;clear jq;obtain⟨d0,d1,d2⟩:=B6 (jt.out w13 jx.out);obtain⟨m0,m1,m2,m3⟩:=Av (ju.out w13 jx.out)
 go_wp2_with fail
 obtain⟨w14,jR,jV,b1,b2,ko⟩:=GX w13 (aK #[] 79) (aK #[aG (some ⟨w13.heap.size,0,none⟩) 0 0] 81);rw[jR];have jE:Hid (Ext w9 w14):=Ext.trans jD.out jV;have jy:Hid (Ext w2 w14):=Ext.trans jn.out jE.out;have ji:CI w14 (some ⟨w13.heap.size+1,0,none⟩) [[]]:=(NG (L:=[[]]) (Ls:=[⟨some ⟨w13.heap.size,0,none⟩,0,0⟩]) (n:=1) b2 rfl rfl (by decide) rfl (Th (Af.empty Cc b1 (Ze _)))).slotS.1;clear d0 d1 d2 m0 m1 m2 m3;clear jR jV b1 b2 ko;refine(V2 (HS.out w14 jy.out) (HM.out w14 jy.out) ji (by decide) Wo).mono ?_;rintro e w15 ⟨rfl,jW⟩;have ke:Hid (Ext w9 w15):=Ext.trans jE.out jW;clear jW ji
 go_upto_region 8 with fail
 obtain⟨w16,jr⟩:∃ w16,w15.alloc (aK #[aA aM 0,aG none 0 0] 45)=w16:=⟨_,rfl⟩
 rw[jr];have jI:Hid (Ext w15 w16):=by show Ext _ _;rw[<- jr];exact(Z2 _ _).alloc (A5 _) _
 have jF:Hid (Ext w9 w16):=Ext.trans ke.out jI.out;have jd:Hid (Ext w2 w16):=Ext.trans jn.out jF.out;clear jr;obtain⟨d0,d1,d2⟩:=B6 (jt.out w16 jd.out);obtain⟨m0,m1,m2,m3⟩:=Av (ju.out w16 jd.out)
 go_wp2_with fail
 clear d0 d1 d2 m0 m1 m2 m3;refine(Kz (HS.out w16 jd.out) (HM.out w16 jd.out) (j8.out w16 jd.out) (V4 w16) V3 (by decide)).mono ?_;rw[W6];rintro e w17 ⟨v17,rfl,jP,jX⟩;obtain⟨a17,c17,jQ, -, -⟩:=jP.form;subst jQ;have kf:Hid (Ext w9 w17):=Ext.trans jF.out jX;clear jP jX
 go_upto_region 9 with fail
 obtain⟨w18,jg⟩:∃ w18,w17.alloc (aK #[aA aM 0,aG a17 0 c17] 45)=w18:=⟨_,rfl⟩
 rw[jg];have jJ:Hid (Ext w17 w18):=by show Ext _ _;rw[<- jg];exact(Z2 _ _).alloc (A5 _) _
 have b1:w18.heap[w17.heap.size]? = some (aK #[aA aM 0,aG a17 0 c17] 45 (0,0)):=by rw[<- jg];exact Z4 _ _
 obtain⟨g15,jN⟩:∃ g15,w17.heap.size=g15:=⟨_,rfl⟩
 rw[jN]at b1 ⊢;have j7:=A0 (An b1);have kg:Hid (Ext w9 w18):=Ext.trans kf.out jJ.out;clear jg b1 jN
 go_upto_region 10 with fail
 obtain⟨w19,jS,js,b1,b2,kp⟩:=GX w18 (aK #[aA aM 0,aA aM 1,aA aM 1,aA aM 0,aA aM 0,aA aM 2,aA aM 0,aA aM 2,aA aM 1,aA aM 2,aA aM 2,aA aM 1] 62) (aK #[aA aM 2,aG (some ⟨w18.heap.size,0,none⟩) 3 3] 45);rw[jS];have jv:Hid (D3 w19 (some ⟨w18.heap.size,0,none⟩) DQ):=(Af.edgs (Es D8 (B:=0) (n:=3) b1 rfl (Ze _) rfl (by decide))).1;obtain⟨aq,ks⟩:∃ aq,(some ⟨w18.heap.size,0,none⟩:Option Zj)=aq:=⟨_,rfl⟩
 rw[ks]at b2 jv ⊢;obtain⟨g17,jO⟩:∃ g17,w18.heap.size+1=g17:=⟨_,rfl⟩
 rw[jO]at b2 ⊢;have jw:=A0 (An b2);have je:Hid (Ext w9 w19):=Ext.trans kg.out js;have jl:=A0 js;clear jS js b1 b2 kp ks jO;obtain⟨x0,x1⟩:=BA (kH.out w19 (Ext.trans jm.out je.out));obtain⟨y0,y1⟩:=BA (jw.out w19 (Ext.refl _))
 go_wp2_with fail
 clear x0 x1 y0 y1;have jj:=esame_any [(0,1,1,0),(0,2,0,2),(1,2,2,1)] DQ 2 2 a5 aq c5 3 w19 (kL.out.go (Ext.trans jL.out (Ext.trans jm.out je.out))) jv.out (by decide) (by decide);refine jj.mono ?_;clear jj;rintro e w20 ⟨rfl,jY⟩;have jz:Hid (Ext w19 w20):=jY;clear jY;rw[show decide ((2:Int)=2/\[(0,1,1,0),(0,2,0,2),(1,2,2,1)]=DQ)=true by decide];obtain⟨x0,x1⟩:=BA (kI.out w20 (Ext.trans je.out jz.out))
 go_wp2_with fail
 clear x0 x1;obtain⟨w21,jh⟩:∃ w21,w20.alloc (aK #[aA aM 0,aA aM 1,aA aM 1,aA aM 3,aA aM 0,aA aM 1,aA aM 2,aA aM 1] 62)=w21:=⟨_,rfl⟩
 rw[jh];have jK:Hid (Ext w20 w21):=by show Ext _ _;rw[<- jh];exact(Z2 _ _).alloc (A5 _) _
 have jA:Hid (Ext w19 w21):=Ext.trans jz.out jK.out;have kt:D3 w21 (some ⟨w20.heap.size,0,none⟩) [(0,1,1,3),(0,1,2,1)]:=(Af.edgs (Es D8 (B:=0) (n:=2) (by rw[<- jh];exact Z4 _ _) rfl (Ze _) rfl (by decide))).1;have jj:=esame_any [(0,1,1,3),(0,1,2,1)] [(0,1,1,3),(0,1,2,1)] 1 1 a8 (some ⟨w20.heap.size,0,none⟩) c8 2 w21 (kM.out.go (Ext.trans jM.out (Ext.trans je.out jA.out))) kt (by decide) (by decide);clear jh kt;refine jj.mono ?_;clear jj;rintro e w22 ⟨rfl,jZ⟩;have jB:Hid (Ext w19 w22):=Ext.trans jA.out jZ;clear jZ;rw[show decide ((1:Int)=1/\[((0,1,1,3):Edg),(0,1,2,1)]=[(0,1,1,3),(0,1,2,1)])=true by decide];obtain⟨x0,x1⟩:=BA (j7.out w22 (Ext.trans jl.out jB.out))
 go_wp2_with fail
 clear x0 x1;have jj:=esame_any [] [] 0 0 a17 none c17 0 w22 (D3.nil _ _) (D3.nil _ _) (by decide) (by decide);refine jj.mono ?_;clear jj;rintro e w23 ⟨rfl,j0⟩;have jc:Hid (Ext w19 w23):=Ext.trans jB.out j0;clear j0;rw[show decide ((0:Int)=0/\([]:List Edg)=[])=true by decide]
 go_upto_region 12 with fail
 refine B8 w23 (Ext.refl _) 149 ([qc (aH true),qc (aH true),qc (aH true),qc (aH true),qc (aH true),qc (aJ #[aA aM 2,aG aq 3 3]),qc (aH true),qc (aH true),qc (aH true),qc (aJ #[aA aM 0,aG none 0 0]),qc (aH true),qc (aH true),qc (aH true),qc (aJ #[aA aM 1,aG none 0 0]),qc (aH false),qc (aH true),qc (aH true),qc (aH true),qc (aJ #[aA aM 2,aG aq 3 3]),qc (aH true),qc (aH true),qc (aH true),qc (aJ #[aA aM 41,aG none 0 0]),qc (aH false),qc (aH true),qc (aH true),qc (aH true),qc (aJ #[aA aM 2,aG aq 3 3]),⟨GrV 3 DQ,MK _ _⟩,qc (aJ #[aA aM 2,aG aq 3 3]),⟨GrV 3 DQ,MK _ _⟩,qc (aH true),qc (aH true),qc (aH true)]) (Zd 116 33 ++ [0]) (by kernel_rfl) rfl ?hop λW x hS hx=>?_
 case hop =>
  repeat' apply And.intro
  all_goals first
   | exact True.intro
   | (
     intro A W jf hS ja jb;obtain⟨y0,y1⟩:=BA (jw.out W (Ext.trans jc.out hS));have h18:A.tmps.getD 18 Z8=aH true:=jb 18 (by kernel_rfl);have h19:A.tmps.getD 19 Z8=aH true:=jb 19 (by kernel_rfl);have h17:A.tmps.getD 17 Z8=aB (some ⟨g17,0,none⟩):=jb 17 (by kernel_rfl);clear jb;simp[Ae,Zl,Vp,csV,qc]at ja
     first | (refine Ak ?_ (.inl ⟨_,W,?_,rfl,Ext.refl _⟩) <;> clear jf hS <;> simp[wS,C9,CA,Ae,go_sem,Zf, *] <;> done) | skip)
  ·refine Ak (by simp[wS,C9,CA,Ae,ja]) (.inr ⟨20,#[aJ #[aA aM 2,aG aq 3 3]],W,by(clear jf hS;simp[go_sem,Zf, *]),?_⟩);refine(lreach_any 2 DQ aq 3 W (jv.out.go (Ext.trans jc.out hS)) (by decide) Qd).mono ?_;rintro e w' ⟨he,hx⟩;rw[Wj]at he;exact⟨_,he,rfl,hx⟩
  ·refine Ak (by simp[wS,C9,CA,Ae,ja]) (.inr ⟨20,#[aJ #[aA aM 0,aG none 0 0]],W,by(clear jf hS;simp[go_sem,Zf, *]),?_⟩);refine(lreach_any 0 [] none 0 W (D3.nil _ _) (by decide) (Qe 0 (by decide) (by decide))).mono ?_;rintro e w' ⟨he,hx⟩;rw[Wl]at he;exact⟨_,he,rfl,hx⟩
  ·refine Ak (by simp[wS,C9,CA,Ae,ja]) (.inr ⟨20,#[aJ #[aA aM 1,aG none 0 0]],W,by(clear jf hS;simp[go_sem,Zf, *]),?_⟩);refine(lreach_any 1 [] none 0 W (D3.nil _ _) (by decide) (Qe 1 (by decide) (by decide))).mono ?_;rintro e w' ⟨he,hx⟩;rw[Wm]at he;exact⟨_,he,rfl,hx⟩
  ·refine Ak (by simp[wS,C9,CA,Ae,ja]) (.inr ⟨22,#[aJ #[aA aM 2,aG aq 3 3]],W,by(clear jf hS;simp[go_sem,Zf, *]),?_⟩);refine(lval_any 2 DQ aq 3 W (jv.out.go (Ext.trans jc.out hS)) (by decide)).mono ?_;rintro e w' ⟨he,hx⟩;rw[Wn]at he;exact⟨_,he,rfl,hx⟩
  ·refine Ak (by simp[wS,C9,CA,Ae,ja]) (.inr ⟨22,#[aJ #[aA aM 41,aG none 0 0]],W,by(clear jf hS;simp[go_sem,Zf, *]),?_⟩);refine(lval_any 41 [] none 0 W (D3.nil _ _) (by decide)).mono ?_;rintro e w' ⟨he,hx⟩;rw[WF]at he;exact⟨_,he,rfl,hx⟩
  ·refine Ak (by simp[wS,C9,CA,Ae,ja]) (.inr ⟨18,#[aJ #[aA aM 2,aG aq 3 3]],W,by(clear jf hS;simp[go_sem,Zf, *]),?_⟩);refine(Pf 2 DQ aq 3 W (jv.out.go (Ext.trans jc.out hS)) (by decide) (by decide) (by decide)).mono ?_;rintro e w' hp;obtain⟨v,rfl,hv,hx⟩:=Ts hp;exact⟨_,rfl,hv,hx⟩
  ·refine Ak (by simp[wS,C9,CA,Ae,ja]) (.inr ⟨19,#[aJ #[aA aM 2,aG aq 3 3]],W,by(clear jf hS;simp[go_sem,Zf, *]),?_⟩);refine(Pg 2 DQ aq 3 W (jv.out.go (Ext.trans jc.out hS)) (by decide) (by decide) (by decide)).mono ?_;rintro e w' hp;obtain⟨v,rfl,hv,hx⟩:=Ts hp;exact⟨_,rfl,hv,hx⟩
  ·obtain⟨⟨p1,q1,hv1,ky⟩,⟨p2,q2,hv2,kz⟩,ja⟩:=ja;have kN:=A0 ky;have kO:=A0 kz;clear ky kz;refine Ak (by simp[wS,C9,CA,Ae,ja]) (.inr ⟨17,#[aJ #[aA aM 3,aG p1 3 q1],aJ #[aA aM 3,aG p2 3 q2]],W,by(clear jf hS;simp[go_sem,Zf, *];rfl),?_⟩);refine(gsame_any DQ DQ 3 3 p1 p2 q1 q2 W kN.out kO.out (by decide) (by decide)).mono ?_;rintro e w' ⟨he,hx⟩;rw[show decide ((3:Int)=3/\DQ=DQ)=true by decide]at he;exact⟨_,he,rfl,hx⟩
 have e0:x 0=aH true:=hx 33 (by decide);simp only[Zd,ZG,ZP,Zp,e0,ZE,Z5,Za,Z9];clear hx e0
 go_wp2_with fail
 go_ret;exact⟨rfl,Ext.trans kq.out (Ext.trans jn.out (Ext.trans je.out (Ext.trans jc.out hS)))⟩
def MdV (Ws:List ByteArray)(v:Z6)(w:Z0):Prop:=∃ (a0 a1 a2:Option Zj) (c0 c1 c2:Nat) (cs:List Nat) (ps:List Prs) (bk:Int),v=Pd a0 Ws.length c0 a1 cs.length c1 a2 ps.length c2 bk/\Kx w a0 a1 a2 c0 c1 c2 Ws cs ps bk/\Ku Ws cs ps bk/\Af BT w 0 (aG a1 cs.length c1) cs
def WN {Q:Nat->BR}{kw:Nat}{w w':Z0}{e:Ending}(h:Tl Q kw w e w'):∃ v,e=aP v/\MdV (mdW Q kw) v w'/\Ext w w':=by
 obtain⟨a0,a1,a2,c0,c1,c2,Ws,cs,ps,bk,h1,h2,h3,h4,h5,h6⟩:=h;subst h4;exact⟨_,h1,⟨a0,a1,a2,c0,c1,c2,cs,ps,bk,rfl,h2,h3,h5⟩,h6⟩
structure Tu (S:Sch)(b:Option Zj)(cS:Nat)(aw ac ap:Option Zj)(cw cc cp:Nat)(Ws:List ByteArray)(cs:List Nat)(ps:List Prs)(bk:Int)(g8 g9:Nat)(v:Z6)(L:List Slt)(w:Z0):Prop where
 b8:w.heap[g8]? = some (aK #[aA aM S.modes,aA aO S.acc,aG b S.rules.length cS] 33 (0,0))
 b9:w.heap[g9]? = some (aK #[aG aw Ws.length cw,aG ac cs.length cc,aG ap ps.length cp,aA aM bk] 39 (0,0))
 rul:BC w b S.rules
 mod:Kx w aw ac ap cw cc cp Ws cs ps bk
 slt:DN w 0 v L
def Tu.go {S:Sch}{b aw ac ap:Option Zj}{cS cw cc cp g8 g9:Nat}{Ws:List ByteArray}{cs:List Nat}{ps:List Prs}{bk:Int}{v:Z6}{L:List Slt}{w w':Z0}(h:Tu S b cS aw ac ap cw cc cp Ws cs ps bk g8 g9 v L w)(hx:Ext w w'):Tu S b cS aw ac ap cw cc cp Ws cs ps bk g8 g9 v L w' :=
 ⟨An h.b8 w' hx,An h.b9 w' hx,h.rul.later hx (A5 _),h.mod.go hx,h.slt.later hx (A5 _)⟩
def spot (x e:Edg):Bool:=x.1 == e.1 && (x.2.1 == e.2.1 && x.2.2.1 == e.2.2.1)
def rval14_any
          (
          n
           :
            Int)
               (E:List Edg) (a:Option Zj) (cap:Nat) (w:Z0) (hE:D3 w a E) (hl:E.length<=1000000) :
  Zu Z1 24 #[Gs n a E.length cap] w λe w'=>e=aP (aH (Dg n E))/\Ext w w':=by
 have HE:=A0 hE;clear hE;unfold Gs
 go_enter Tryz.func24,Tryz.ntmps24
 go_upto_region 1 with fail
 obtain⟨wb,jt⟩:∃ wb,w.alloc (aK #[aA aM n,aG a E.length cap] 45)=wb:=⟨_,rfl⟩
 rw[jt];have jK:Ext w wb:=by rw[<- jt];exact(Z2 _ _).alloc (A5 _) _
 have bb:wb.heap[w.heap.size]? = some (aK #[aA aM n,aG a E.length cap] 45 (0,0)):=by rw[<- jt];exact Z4 _ _
 obtain⟨g,hg⟩:∃ g,w.heap.size=g:=⟨_,rfl⟩
 rw[hg]at bb ⊢;have HX:=A0 jK;have jh:=A0 bb;have ji:=A0 (A7.1 bb).1;clear jt jK bb hg;have h9:=(Z7 (Ext.refl _) _ ji.out).trans jh.out;have m0:wb.cell? ⟨g,0,none⟩=some (aA aM n):=by rw[Z3 _ _ 0 _ _ _ h9];rfl
 have m1:wb.cell? ⟨g,1,none⟩=some (aG a E.length cap):=by rw[Z3 _ _ 1 _ _ _ h9];rfl
 clear h9;by_cases n0:0<=n/\n<=40
 ·have js :
        Hid
          (
          inB
            n
             0 40=true):=Ex n0.1 n0.2
  have N0:=A0 n0;clear n0;by_cases n2:(20000:Int)<(E.length:Int)
  ·have HN:Hid (Dg n E=false):=Bg λh=>by
    have h3:=h.2.2.1;omega
   go_wp2_with (go_at_call 51;refine(CR _ _ _ _).mono ?_;rintro e w' ⟨he,jr⟩;obtain rfl:wb=w':=jr.symm;rw[js.out]at he;subst he)
   go_ret;exact⟨Ad HN.out.symm,HX.out⟩
  have jw:Hid (0<=n/\n<=40/\E.length<=20000):=⟨N0.out.1,N0.out.2,by omega⟩
  go_wp2_with (go_at_call 51;refine(CR _ _ _ _).mono ?_;rintro e w' ⟨he,jr⟩;obtain rfl:wb=w':=jr.symm;rw[js.out]at he;subst he)
  clear n2 m0 m1
  go_loopw [3] (λi wr=>∃ k:Nat,k<=E.length/\i=aA aM (k:Int)/\Ha n E k/\Ext wb wr) (λi _=>E.length - (intOf i).toNat)
  case atStart=>exact⟨0,Ze _,rfl,λi _ h=>by omega,Ext.refl _⟩
  case round
        =>
   obtain⟨k,hk,rfl,hu,hb⟩:=hrel;have HB:=A0 hb;have HU:=A0 hu;clear hb hu;have h9:=(Z7 HB.out _ ji.out).trans jh.out;have m0:wr.cell? ⟨g,0,none⟩=some (aA aM n):=by rw[Z3 _ _ 0 _ _ _ h9];rfl
   have m1:wr.cell? ⟨g,1,none⟩=some (aG a E.length cap):=by rw[Z3 _ _ 1 _ _ _ h9];rfl
   clear h9;by_cases jn:k<E.length
   ·have jA
         :
          (
           k
            :
             Int)<(E.length:Int):=by omega
    obtain⟨b1,o1,ha,hb1,x0,x1,x2,x3⟩:=(HE.out.later (Ext.trans HX.out HB.out) (A5 _)) k jn;have jy:=Cv a b1 o1 E.length cap k ha jn;obtain⟨⟨e1,e2,e3,e4⟩,hx⟩:∃ x,E[k]'jn=x:=⟨_,rfl⟩
    have jl:=A0 hx;rw[hx]at x0 x1 x2 x3;simp only at x0 x1 x2 x3;have jg:Hid (k<E.length):=jn;clear hx ha
    go_upto_region 7 with fail
    obtain⟨wq,ju⟩:∃ wq,wr.alloc (aK #[aA aM e1,aA aM e2,aA aM e3,aA aM e4] 62)=wq:=⟨_,rfl⟩
    rw[ju];have jL:Ext wr wq:=by rw[<- ju];exact(Z2 _ _).alloc (A5 _) _
    have bq:wq.heap[wr.heap.size]? = some (aK #[aA aM e1,aA aM e2,aA aM e3,aA aM e4] 62 (0,0)):=by rw[<- ju];exact Z4 _ _
    obtain⟨gq,jI⟩:∃ gq,wr.heap.size=gq:=⟨_,rfl⟩
    rw[jI]at bq ⊢;have jd:=A0 jL;have jj:=A0 bq;have jk:=A0 (A7.1 bq).1;have u0:wq.cell? ⟨gq,0,none⟩=some (aA aM e1):=by rw[Z3 _ _ 0 _ _ _ bq];rfl
    have u1:wq.cell? ⟨gq,1,none⟩=some (aA aM e2):=by rw[Z3 _ _ 1 _ _ _ bq];rfl
    have u2:wq.cell? ⟨gq,2,none⟩=some (aA aM e3):=by rw[Z3 _ _ 2 _ _ _ bq];rfl
    have u3:wq.cell? ⟨gq,3,none⟩=some (aA aM e4):=by rw[Z3 _ _ 3 _ _ _ bq];rfl
    clear ju jL bq jI jy x0 x1 x2 x3;clear m0 m1 u0 u1 u2 u3;by_cases a0:e1<0
    ·have
        HN:Hid (Dg n E=false):=Bg λh=>by
      have:=(h.2.2.2 k jg.out jg.out).1;rw[jl.out]at this;unfold Cd at this;simp only at this;omega
     refine wp_region_sc wq (Ext.refl _) 71 [(4,aB (some ⟨gq,0,none⟩)),(1,aB (some ⟨g,0,none⟩)),(3,aA aM (k:Int))] (Zd 27 44) [4,1,3] (by kernel_rfl) rfl ⟨rfl,rfl,rfl,trivial⟩ rfl ?_
     repeat
         first
      | refine .skip rfl rfl ?_
      | (
        (apply Cn.op rfl rfl)
        ·intro W hS;have jc:Ext wq W:=hS;have h9:=(Z7 (Ext.trans HB.out (Ext.trans jd.out jc)) _ ji.out).trans jh.out;have m0:W.cell? ⟨g,0,none⟩=some (aA aM n):=by rw[Z3 _ _ 0 _ _ _ h9];rfl
         have m1:W.cell? ⟨g,1,none⟩=some (aG a E.length cap):=by rw[Z3 _ _ 1 _ _ _ h9];rfl
         clear h9;have h8:=(Z7 jc _ jk.out).trans jj.out;have u0:W.cell? ⟨gq,0,none⟩=some (aA aM e1):=by rw[Z3 _ _ 0 _ _ _ h8];rfl
         have u1:W.cell? ⟨gq,1,none⟩=some (aA aM e2):=by rw[Z3 _ _ 1 _ _ _ h8];rfl
         have u2:W.cell? ⟨gq,2,none⟩=some (aA aM e3):=by rw[Z3 _ _ 2 _ _ _ h8];rfl
         have u3:W.cell? ⟨gq,3,none⟩=some (aA aM e4):=by rw[Z3 _ _ 3 _ _ _ h8];rfl
         clear h8 jc;clear hS;simp[go_sem,At,lkE, *] <;> first | (with_reducible apply bF;omega) | (with_reducible apply bT;omega) | rfl)
     refine .nil λW x hS hx=>?_;have e70:x 70=aH true:=hx 70 (by decide);simp only[Zd,Zp,e70,ZE,Z5,Za,Z9];clear hx e70;have jf:=A0 (Ext.trans HX.out (Ext.trans HB.out (Ext.trans jd.out hS)));clear hS
     go_wp2_with fail
     go_ret;exact⟨Ad HN.out.symm,jf.out⟩
    ·by_cases
          a1
           :
            e2
              <=
               e1
     ·have
         HN:Hid (Dg n E=false):=Bg λh=>by
       have:=(h.2.2.2 k jg.out jg.out).1;rw[jl.out]at this;unfold Cd at this;simp only at this;omega
      refine wp_region_sc wq (Ext.refl _) 71 [(4,aB (some ⟨gq,0,none⟩)),(1,aB (some ⟨g,0,none⟩)),(3,aA aM (k:Int))] (Zd 27 44) [4,1,3] (by kernel_rfl) rfl ⟨rfl,rfl,rfl,trivial⟩ rfl ?_
      repeat
          first
       | refine .skip rfl rfl ?_
       | (
         (apply Cn.op rfl rfl)
         ·intro W hS;have jc:Ext wq W:=hS;have h9:=(Z7 (Ext.trans HB.out (Ext.trans jd.out jc)) _ ji.out).trans jh.out;have m0:W.cell? ⟨g,0,none⟩=some (aA aM n):=by rw[Z3 _ _ 0 _ _ _ h9];rfl
          have m1:W.cell? ⟨g,1,none⟩=some (aG a E.length cap):=by rw[Z3 _ _ 1 _ _ _ h9];rfl
          clear h9;have h8:=(Z7 jc _ jk.out).trans jj.out;have u0:W.cell? ⟨gq,0,none⟩=some (aA aM e1):=by rw[Z3 _ _ 0 _ _ _ h8];rfl
          have u1:W.cell? ⟨gq,1,none⟩=some (aA aM e2):=by rw[Z3 _ _ 1 _ _ _ h8];rfl
          have u2:W.cell? ⟨gq,2,none⟩=some (aA aM e3):=by rw[Z3 _ _ 2 _ _ _ h8];rfl
          have u3:W.cell? ⟨gq,3,none⟩=some (aA aM e4):=by rw[Z3 _ _ 3 _ _ _ h8];rfl
          clear h8 jc;clear hS;simp[go_sem,At,lkE, *] <;> first | (with_reducible apply bF;omega) | (with_reducible apply bT;omega) | rfl)
      refine .nil λW x hS hx=>?_;have e70:x 70=aH true:=hx 70 (by decide);simp only[Zd,Zp,e70,ZE,Z5,Za,Z9];clear hx e70;have jf:=A0 (Ext.trans HX.out (Ext.trans HB.out (Ext.trans jd.out hS)));clear hS
      go_wp2_with fail
      go_ret;exact⟨Ad HN.out.symm,jf.out⟩
     ·by_cases
           a2
            :
             n<e2
      ·have
          HN:Hid (Dg n E=false):=Bg λh=>by
        have:=(h.2.2.2 k jg.out jg.out).1;rw[jl.out]at this;unfold Cd at this;simp only at this;omega
       refine wp_region_sc wq (Ext.refl _) 71 [(4,aB (some ⟨gq,0,none⟩)),(1,aB (some ⟨g,0,none⟩)),(3,aA aM (k:Int))] (Zd 27 44) [4,1,3] (by kernel_rfl) rfl ⟨rfl,rfl,rfl,trivial⟩ rfl ?_
       repeat
           first
        | refine .skip rfl rfl ?_
        | (
          (apply Cn.op rfl rfl)
          ·intro W hS;have jc:Ext wq W:=hS;have h9:=(Z7 (Ext.trans HB.out (Ext.trans jd.out jc)) _ ji.out).trans jh.out;have m0:W.cell? ⟨g,0,none⟩=some (aA aM n):=by rw[Z3 _ _ 0 _ _ _ h9];rfl
           have m1:W.cell? ⟨g,1,none⟩=some (aG a E.length cap):=by rw[Z3 _ _ 1 _ _ _ h9];rfl
           clear h9;have h8:=(Z7 jc _ jk.out).trans jj.out;have u0:W.cell? ⟨gq,0,none⟩=some (aA aM e1):=by rw[Z3 _ _ 0 _ _ _ h8];rfl
           have u1:W.cell? ⟨gq,1,none⟩=some (aA aM e2):=by rw[Z3 _ _ 1 _ _ _ h8];rfl
           have u2:W.cell? ⟨gq,2,none⟩=some (aA aM e3):=by rw[Z3 _ _ 2 _ _ _ h8];rfl
           have u3:W.cell? ⟨gq,3,none⟩=some (aA aM e4):=by rw[Z3 _ _ 3 _ _ _ h8];rfl
           clear h8 jc;clear hS;simp[go_sem,At,lkE, *] <;> first | (with_reducible apply bF;omega) | (with_reducible apply bT;omega) | rfl)
       refine .nil λW x hS hx=>?_;have e70:x 70=aH true:=hx 70 (by decide);simp only[Zd,Zp,e70,ZE,Z5,Za,Z9];clear hx e70;have jf:=A0 (Ext.trans HX.out (Ext.trans HB.out (Ext.trans jd.out hS)));clear hS
       go_wp2_with fail
       go_ret;exact⟨Ad HN.out.symm,jf.out⟩
      ·by_cases
            a3
             : ¬ (0<=e3/\e3<=199)
       ·have
           HN:Hid (Dg n E=false):=Bg λh=>by
         have:=(h.2.2.2 k jg.out jg.out).1;rw[jl.out]at this;unfold Cd at this;simp only at this;omega
        have jo:Hid (inB e3 0 199=false):=F5 a3;clear a3;have jC47:∀ W,Ext wq W->Zu Z1 51 #[aA aM (e3),aA aM (0),aA aM (199)] W λe w'=>e=aP (aH false)/\Ext W w':=by
         intro W hS;refine(CR _ _ _ W).mono ?_;rintro e w' ⟨he,rfl⟩;rw[jo.out]at he;exact⟨he,Ext.refl _⟩
        refine wp_region_sc wq (Ext.refl _) 71 [(4,aB (some ⟨gq,0,none⟩)),(1,aB (some ⟨g,0,none⟩)),(3,aA aM (k:Int))] (Zd 27 44) [4,1,3] (by kernel_rfl) rfl ⟨rfl,rfl,rfl,trivial⟩ rfl ?_
        repeat
            first
         | refine .skip rfl rfl ?_
         | (
           (first | refine .call (d:=47) rfl rfl ?_ jC47 ?_ | apply Cn.op rfl rfl)
           ·intro W hS;have jc:Ext wq W:=hS;have h9:=(Z7 (Ext.trans HB.out (Ext.trans jd.out jc)) _ ji.out).trans jh.out;have m0:W.cell? ⟨g,0,none⟩=some (aA aM n):=by rw[Z3 _ _ 0 _ _ _ h9];rfl
            have m1:W.cell? ⟨g,1,none⟩=some (aG a E.length cap):=by rw[Z3 _ _ 1 _ _ _ h9];rfl
            clear h9;have h8:=(Z7 jc _ jk.out).trans jj.out;have u0:W.cell? ⟨gq,0,none⟩=some (aA aM e1):=by rw[Z3 _ _ 0 _ _ _ h8];rfl
            have u1:W.cell? ⟨gq,1,none⟩=some (aA aM e2):=by rw[Z3 _ _ 1 _ _ _ h8];rfl
            have u2:W.cell? ⟨gq,2,none⟩=some (aA aM e3):=by rw[Z3 _ _ 2 _ _ _ h8];rfl
            have u3:W.cell? ⟨gq,3,none⟩=some (aA aM e4):=by rw[Z3 _ _ 3 _ _ _ h8];rfl
            clear h8 jc;clear hS;simp[go_sem,At,lkE, *] <;> first | (with_reducible apply bF;omega) | (with_reducible apply bT;omega) | rfl)
        refine .nil λW x hS hx=>?_;clear jC47;have e70:x 70=aH true:=hx 70 (by decide);simp only[Zd,Zp,e70,ZE,Z5,Za,Z9];clear hx e70;have jf:=A0 (Ext.trans HX.out (Ext.trans HB.out (Ext.trans jd.out hS)));clear hS
        go_wp2_with fail
        go_ret;exact⟨Ad HN.out.symm,jf.out⟩
       ·have a3
            :=
              Classical.not_not.1 a3
        have jo:Hid (inB e3 0 199=true):=Ex a3.1 a3.2;have A3:=A0 a3;clear a3;by_cases a4:¬ (0<=e4/\e4<=1000000)
        ·have
            HN:Hid (Dg n E=false):=Bg λh=>by
          have:=(h.2.2.2 k jg.out jg.out).1;rw[jl.out]at this;unfold Cd at this;simp only at this;omega
         have jp:Hid (inB e4 0 1000000=false):=F5 a4;clear a4;have jC47:∀ W,Ext wq W->Zu Z1 51 #[aA aM (e3),aA aM (0),aA aM (199)] W λe w'=>e=aP (aH true)/\Ext W w':=by
          intro W hS;refine(CR _ _ _ W).mono ?_;rintro e w' ⟨he,rfl⟩;rw[jo.out]at he;exact⟨he,Ext.refl _⟩
         have jC53:∀ W,Ext wq W->Zu Z1 51 #[aA aM (e4),aA aM (0),aA aM (1000000)] W λe w'=>e=aP (aH false)/\Ext W w':=by
          intro W hS;refine(CR _ _ _ W).mono ?_;rintro e w' ⟨he,rfl⟩;rw[jp.out]at he;exact⟨he,Ext.refl _⟩
         refine wp_region_sc wq (Ext.refl _) 71 [(4,aB (some ⟨gq,0,none⟩)),(1,aB (some ⟨g,0,none⟩)),(3,aA aM (k:Int))] (Zd 27 44) [4,1,3] (by kernel_rfl) rfl ⟨rfl,rfl,rfl,trivial⟩ rfl ?_
         repeat
             first
          | refine .skip rfl rfl ?_
          | (
            (first | refine .call (d:=47) rfl rfl ?_ jC47 ?_ | refine .call (d:=53) rfl rfl ?_ jC53 ?_ | apply Cn.op rfl rfl)
            ·intro W hS;have jc:Ext wq W:=hS;have h9:=(Z7 (Ext.trans HB.out (Ext.trans jd.out jc)) _ ji.out).trans jh.out;have m0:W.cell? ⟨g,0,none⟩=some (aA aM n):=by rw[Z3 _ _ 0 _ _ _ h9];rfl
             have m1:W.cell? ⟨g,1,none⟩=some (aG a E.length cap):=by rw[Z3 _ _ 1 _ _ _ h9];rfl
             clear h9;have h8:=(Z7 jc _ jk.out).trans jj.out;have u0:W.cell? ⟨gq,0,none⟩=some (aA aM e1):=by rw[Z3 _ _ 0 _ _ _ h8];rfl
             have u1:W.cell? ⟨gq,1,none⟩=some (aA aM e2):=by rw[Z3 _ _ 1 _ _ _ h8];rfl
             have u2:W.cell? ⟨gq,2,none⟩=some (aA aM e3):=by rw[Z3 _ _ 2 _ _ _ h8];rfl
             have u3:W.cell? ⟨gq,3,none⟩=some (aA aM e4):=by rw[Z3 _ _ 3 _ _ _ h8];rfl
             clear h8 jc;clear hS;simp[go_sem,At,lkE, *] <;> first | (with_reducible apply bF;omega) | (with_reducible apply bT;omega) | rfl)
         refine .nil λW x hS hx=>?_;clear jC47 jC53;have e70:x 70=aH true:=hx 70 (by decide);simp only[Zd,Zp,e70,ZE,Z5,Za,Z9];clear hx e70;have jf:=A0 (Ext.trans HX.out (Ext.trans HB.out (Ext.trans jd.out hS)));clear hS
         go_wp2_with fail
         go_ret;exact⟨Ad HN.out.symm,jf.out⟩
        ·have a4
             :=
               Classical.not_not.1 a4
         have jp:Hid (inB e4 0 1000000=true):=Ex a4.1 a4.2;have A4:=A0 a4;clear a4;have jB:Hid (Cd n (E[k]'jn)):=by
          show Cd n (E[k]'jn);rw[jl.out];unfold Cd;simp only;have:=A3.out;have:=A4.out;omega
         by_cases jz:k=0
         ·have jx:¬ (0:Int)<(k:Int):=by omega
          have jM:=A0 jz;have HS:Hid (Ha n E (k+1)):=HU.out.step jg.out jB.out (λh=>by omega);clear jz;refine B8 wq (Ext.refl _) 71 (csV [aB (some ⟨gq,0,none⟩),aA aM e1,aH false,aH false,aB (some ⟨gq,0,none⟩),aA aM e1,aB (some ⟨gq,1,none⟩),aA aM e2,aH false,aH false,aH false,aB (some ⟨gq,1,none⟩),aA aM e2,aB (some ⟨g,0,none⟩),aA aM n,aH false,aH false,aH false,aB (some ⟨gq,2,none⟩),aA aM e3,aH true,aH false,aH false,aH false,aB (some ⟨gq,3,none⟩),aA aM e4,aH true,aH false,aH false,aH false,aA aM (k:Int),aH false,aH false,Z8,Z8,Z8,Z8,Z8,Z8,Z8,Z8,Z8,aH false,aH false]) (Zd 27 44) (by kernel_rfl) rfl ?hop λW x hS hx=>?_
          case hop =>
           repeat' apply And.intro
           all_goals first
            | exact True.intro
            | (
              intro A W je hS jb ja;have jc:Ext wq W:=hS;have h9:=(Z7 (Ext.trans HB.out (Ext.trans jd.out jc)) _ ji.out).trans jh.out;have m0:W.cell? ⟨g,0,none⟩=some (aA aM n):=by rw[Z3 _ _ 0 _ _ _ h9];rfl
              have m1:W.cell? ⟨g,1,none⟩=some (aG a E.length cap):=by rw[Z3 _ _ 1 _ _ _ h9];rfl
              clear h9;have h8:=(Z7 jc _ jk.out).trans jj.out;have u0:W.cell? ⟨gq,0,none⟩=some (aA aM e1):=by rw[Z3 _ _ 0 _ _ _ h8];rfl
              have u1:W.cell? ⟨gq,1,none⟩=some (aA aM e2):=by rw[Z3 _ _ 1 _ _ _ h8];rfl
              have u2:W.cell? ⟨gq,2,none⟩=some (aA aM e3):=by rw[Z3 _ _ 2 _ _ _ h8];rfl
              have u3:W.cell? ⟨gq,3,none⟩=some (aA aM e4):=by rw[Z3 _ _ 3 _ _ _ h8];rfl
              clear h8 jc;have h1:A.tmps.getD 1 Z8=aB (some ⟨g,0,none⟩):=ja 1 (by kernel_rfl);have h3:A.tmps.getD 3 Z8=aA aM (k:Int):=ja 3 (by kernel_rfl);have h4:A.tmps.getD 4 Z8=aB (some ⟨gq,0,none⟩):=ja 4 (by kernel_rfl);clear ja;simp[Ae,Zl,Vp,csV,qc]at jb
              first | (refine Ak ?_ (.inl ⟨_,W,?_,rfl,Ext.refl _⟩) <;> clear je hS <;> simp[wS,C9,CA,Ae,go_sem,Zf, *] <;> done) | (refine Pv ?_ rfl;simp[wS,C9,CA,Ae,jb];done) | skip)
           ·refine Ak (by simp[wS,C9,CA,Ae,jb]) (.inr ⟨51,#[aA aM (e3),aA aM (0),aA aM (199)],W,by(clear je hS;simp[go_sem,Zf, *]),?_⟩);refine(CR _ _ _ W).mono ?_;rintro e w' ⟨he,rfl⟩;rw[jo.out]at he;exact⟨_,he,rfl,Ext.refl _⟩
           ·refine Ak (by simp[wS,C9,CA,Ae,jb]) (.inr ⟨51,#[aA aM (e4),aA aM (0),aA aM (1000000)],W,by(clear je hS;simp[go_sem,Zf, *]),?_⟩);refine(CR _ _ _ W).mono ?_;rintro e w' ⟨he,rfl⟩;rw[jp.out]at he;exact⟨_,he,rfl,Ext.refl _⟩
           · refine Ak (by simp[wS,C9,CA,Ae,jb]) (.inl ⟨_,W,?_,rfl,Ext.refl _⟩);clear je hS;simp[go_sem,Zf, *];exact jM.out
          have e70:x 70=aH false:=hx 43 (by decide);simp only[Zd,Zp,e70,ZE,Z5,Za,Z9];clear hx e70;have jf:=A0 (Ext.trans HB.out (Ext.trans jd.out hS));clear hS
          go_wp2_with fail
          go_roundw
          case rel=>exact⟨k+1,by omega,by go_num,HS.out,jf.out⟩
          case measure=>simp[intOf];omega
         ·have jx
               : (0:Int)<(k:Int):=by omega
          have jv:Hid (0<k):=by show 0<k;omega
          have hj:k - 1<E.length:=by omega
          obtain⟨b2,o2,jH,jm,y0,y1,y2,y3⟩:=(HE.out.later (Ext.trans HX.out (Ext.trans HB.out jd.out)) (A5 _)) (k - 1) hj;have jq:=Cv a b2 o2 E.length cap (k - 1) jH hj;obtain⟨⟨q1,q2,q3,q4⟩,hy⟩:∃ y,E[k - 1]'hj=y:=⟨_,rfl⟩
          have jG:Hid (E[k - 1]'(Nat.lt_of_le_of_lt (Nat.sub_le k 1) jn)=(q1,q2,q3,q4)):=hy;simp only[hy]at y0 y1 y2 y3;obtain⟨j,jJ⟩:∃ j,k - 1=j:=⟨_,rfl⟩
          have hwk:IntKind.i64.wrap ((k:Int) - 1)=(j:Int):=by rw[Zq _ (by omega)];omega
          rw[jJ]at jq y0 y1 y2 y3;have jC:=A0 y0;have jD:=A0 y1;have jE:=A0 y2;have jF:=A0 y3;obtain⟨z,hz⟩:∃ z,decide (Dy (q1,q2,q3,q4) (e1,e2,e3,e4))=z:=⟨_,rfl⟩
          have HZ:=A0 hz;clear hy jH jJ hj y0 y1 y2 y3 jz hz;cases z with
          | false =>
           have HN:Hid (Dg n E=false):=Bg λh=>by
            have h1:=(h.2.2.2 k jg.out jg.out).2 jv.out;rw[jl.out,jG.out]at h1;exact absurd h1 (of_decide_eq_false HZ.out)
           refine B8 wq (Ext.refl _) 71 (csV [aB (some ⟨gq,0,none⟩),aA aM e1,aH false,aH false,aB (some ⟨gq,0,none⟩),aA aM e1,aB (some ⟨gq,1,none⟩),aA aM e2,aH false,aH false,aH false,aB (some ⟨gq,1,none⟩),aA aM e2,aB (some ⟨g,0,none⟩),aA aM n,aH false,aH false,aH false,aB (some ⟨gq,2,none⟩),aA aM e3,aH true,aH false,aH false,aH false,aB (some ⟨gq,3,none⟩),aA aM e4,aH true,aH false,aH false,aH false,aA aM (k:Int),aH true,aH true,aB (some ⟨g,1,none⟩),aG a E.length cap,aA aM (k:Int),aA aM (j:Int),aB (some ⟨b2,o2+j*4,none⟩),aJ #[aA aM q1,aA aM q2,aA aM q3,aA aM q4],aJ #[aA aM e1,aA aM e2,aA aM e3,aA aM e4],aH false,aH true,aH true,aH true]) (Zd 27 44) (by kernel_rfl) rfl ?hop λW x hS hx=>?_
           case hop =>
            repeat' apply And.intro
            all_goals first
             | exact True.intro
             | (
               intro A W je hS jb ja;have jc:Ext wq W:=hS;have h9:=(Z7 (Ext.trans HB.out (Ext.trans jd.out jc)) _ ji.out).trans jh.out;have m0:W.cell? ⟨g,0,none⟩=some (aA aM n):=by rw[Z3 _ _ 0 _ _ _ h9];rfl
               have m1:W.cell? ⟨g,1,none⟩=some (aG a E.length cap):=by rw[Z3 _ _ 1 _ _ _ h9];rfl
               clear h9;have h8:=(Z7 jc _ jk.out).trans jj.out;have u0:W.cell? ⟨gq,0,none⟩=some (aA aM e1):=by rw[Z3 _ _ 0 _ _ _ h8];rfl
               have u1:W.cell? ⟨gq,1,none⟩=some (aA aM e2):=by rw[Z3 _ _ 1 _ _ _ h8];rfl
               have u2:W.cell? ⟨gq,2,none⟩=some (aA aM e3):=by rw[Z3 _ _ 2 _ _ _ h8];rfl
               have u3:W.cell? ⟨gq,3,none⟩=some (aA aM e4):=by rw[Z3 _ _ 3 _ _ _ h8];rfl
               clear h8 jc;have y0:=(Zx hS (p:=⟨b2,o2+j*4,none⟩) jm).trans jC.out;have y1:=(Zx hS (p:=⟨b2,o2+j*4+1,none⟩) jm).trans jD.out;have y2:=(Zx hS (p:=⟨b2,o2+j*4+2,none⟩) jm).trans jE.out;have y3:=(Zx hS (p:=⟨b2,o2+j*4+3,none⟩) jm).trans jF.out;have h1:A.tmps.getD 1 Z8=aB (some ⟨g,0,none⟩):=ja 1 (by kernel_rfl);have h3:A.tmps.getD 3 Z8=aA aM (k:Int):=ja 3 (by kernel_rfl);have h4:A.tmps.getD 4 Z8=aB (some ⟨gq,0,none⟩):=ja 4 (by kernel_rfl);clear ja;simp[Ae,Zl,Vp,csV,qc]at jb
               first | (refine Ak ?_ (.inl ⟨_,W,?_,rfl,Ext.refl _⟩) <;> clear je hS <;> simp[wS,C9,CA,Ae,go_sem,Zf, *] <;> done) | skip)
            ·refine Ak (by simp[wS,C9,CA,Ae,jb]) (.inr ⟨51,#[aA aM (e3),aA aM (0),aA aM (199)],W,by(clear je hS;simp[go_sem,Zf, *]),?_⟩);refine(CR _ _ _ W).mono ?_;rintro e w' ⟨he,rfl⟩;rw[jo.out]at he;exact⟨_,he,rfl,Ext.refl _⟩
            ·refine Ak (by simp[wS,C9,CA,Ae,jb]) (.inr ⟨51,#[aA aM (e4),aA aM (0),aA aM (1000000)],W,by(clear je hS;simp[go_sem,Zf, *]),?_⟩);refine(CR _ _ _ W).mono ?_;rintro e w' ⟨he,rfl⟩;rw[jp.out]at he;exact⟨_,he,rfl,Ext.refl _⟩
            · refine Ak (by simp[wS,C9,CA,Ae,jb]) (.inl ⟨_,W,?_,rfl,Ext.refl _⟩);clear je hS jx;simp[go_sem,Zf, *];have:=jv.out;omega
            ·refine Ak (by simp[wS,C9,CA,Ae,jb]) (.inr ⟨52,#[aJ #[aA aM q1,aA aM q2,aA aM q3,aA aM q4],aJ #[aA aM e1,aA aM e2,aA aM e3,aA aM e4]],W,by(clear je hS;simp[go_sem,Zf, *]),?_⟩);refine(less14_any (q1,q2,q3,q4) (e1,e2,e3,e4) W).mono ?_;rintro e w' ⟨he,hx⟩;rw[HZ.out]at he;exact⟨_,he,rfl,hx⟩
           have e70:x 70=aH true:=hx 43 (by decide);simp only[Zd,Zp,e70,ZE,Z5,Za,Z9];clear hx e70;have jf:=A0 (Ext.trans HX.out (Ext.trans HB.out (Ext.trans jd.out hS)));clear hS
           go_wp2_with fail
           go_ret;exact⟨Ad HN.out.symm,jf.out⟩
          | true =>
           have HS:Hid (Ha n E (k+1)):=HU.out.step jg.out jB.out (λ_=>by rw[jl.out,jG.out];exact of_decide_eq_true HZ.out);refine B8 wq (Ext.refl _) 71 (csV [aB (some ⟨gq,0,none⟩),aA aM e1,aH false,aH false,aB (some ⟨gq,0,none⟩),aA aM e1,aB (some ⟨gq,1,none⟩),aA aM e2,aH false,aH false,aH false,aB (some ⟨gq,1,none⟩),aA aM e2,aB (some ⟨g,0,none⟩),aA aM n,aH false,aH false,aH false,aB (some ⟨gq,2,none⟩),aA aM e3,aH true,aH false,aH false,aH false,aB (some ⟨gq,3,none⟩),aA aM e4,aH true,aH false,aH false,aH false,aA aM (k:Int),aH true,aH true,aB (some ⟨g,1,none⟩),aG a E.length cap,aA aM (k:Int),aA aM (j:Int),aB (some ⟨b2,o2+j*4,none⟩),aJ #[aA aM q1,aA aM q2,aA aM q3,aA aM q4],aJ #[aA aM e1,aA aM e2,aA aM e3,aA aM e4],aH true,aH false,aH false,aH false]) (Zd 27 44) (by kernel_rfl) rfl ?hop λW x hS hx=>?_
           case hop =>
            repeat' apply And.intro
            all_goals first
             | exact True.intro
             | (
               intro A W je hS jb ja;have jc:Ext wq W:=hS;have h9:=(Z7 (Ext.trans HB.out (Ext.trans jd.out jc)) _ ji.out).trans jh.out;have m0:W.cell? ⟨g,0,none⟩=some (aA aM n):=by rw[Z3 _ _ 0 _ _ _ h9];rfl
               have m1:W.cell? ⟨g,1,none⟩=some (aG a E.length cap):=by rw[Z3 _ _ 1 _ _ _ h9];rfl
               clear h9;have h8:=(Z7 jc _ jk.out).trans jj.out;have u0:W.cell? ⟨gq,0,none⟩=some (aA aM e1):=by rw[Z3 _ _ 0 _ _ _ h8];rfl
               have u1:W.cell? ⟨gq,1,none⟩=some (aA aM e2):=by rw[Z3 _ _ 1 _ _ _ h8];rfl
               have u2:W.cell? ⟨gq,2,none⟩=some (aA aM e3):=by rw[Z3 _ _ 2 _ _ _ h8];rfl
               have u3:W.cell? ⟨gq,3,none⟩=some (aA aM e4):=by rw[Z3 _ _ 3 _ _ _ h8];rfl
               clear h8 jc;have y0:=(Zx hS (p:=⟨b2,o2+j*4,none⟩) jm).trans jC.out;have y1:=(Zx hS (p:=⟨b2,o2+j*4+1,none⟩) jm).trans jD.out;have y2:=(Zx hS (p:=⟨b2,o2+j*4+2,none⟩) jm).trans jE.out;have y3:=(Zx hS (p:=⟨b2,o2+j*4+3,none⟩) jm).trans jF.out;have h1:A.tmps.getD 1 Z8=aB (some ⟨g,0,none⟩):=ja 1 (by kernel_rfl);have h3:A.tmps.getD 3 Z8=aA aM (k:Int):=ja 3 (by kernel_rfl);have h4:A.tmps.getD 4 Z8=aB (some ⟨gq,0,none⟩):=ja 4 (by kernel_rfl);clear ja;simp[Ae,Zl,Vp,csV,qc]at jb
               first | (refine Ak ?_ (.inl ⟨_,W,?_,rfl,Ext.refl _⟩) <;> clear je hS <;> simp[wS,C9,CA,Ae,go_sem,Zf, *] <;> done) | skip)
            ·refine Ak (by simp[wS,C9,CA,Ae,jb]) (.inr ⟨51,#[aA aM (e3),aA aM (0),aA aM (199)],W,by(clear je hS;simp[go_sem,Zf, *]),?_⟩);refine(CR _ _ _ W).mono ?_;rintro e w' ⟨he,rfl⟩;rw[jo.out]at he;exact⟨_,he,rfl,Ext.refl _⟩
            ·refine Ak (by simp[wS,C9,CA,Ae,jb]) (.inr ⟨51,#[aA aM (e4),aA aM (0),aA aM (1000000)],W,by(clear je hS;simp[go_sem,Zf, *]),?_⟩);refine(CR _ _ _ W).mono ?_;rintro e w' ⟨he,rfl⟩;rw[jp.out]at he;exact⟨_,he,rfl,Ext.refl _⟩
            · refine Ak (by simp[wS,C9,CA,Ae,jb]) (.inl ⟨_,W,?_,rfl,Ext.refl _⟩);clear je hS jx;simp[go_sem,Zf, *];have:=jv.out;omega
            ·refine Ak (by simp[wS,C9,CA,Ae,jb]) (.inr ⟨52,#[aJ #[aA aM q1,aA aM q2,aA aM q3,aA aM q4],aJ #[aA aM e1,aA aM e2,aA aM e3,aA aM e4]],W,by(clear je hS;simp[go_sem,Zf, *]),?_⟩);refine(less14_any (q1,q2,q3,q4) (e1,e2,e3,e4) W).mono ?_;rintro e w' ⟨he,hx⟩;rw[HZ.out]at he;exact⟨_,he,rfl,hx⟩
           have e70:x 70=aH false:=hx 43 (by decide);simp only[Zd,Zp,e70,ZE,Z5,Za,Z9];clear hx e70;have jf:=A0 (Ext.trans HB.out (Ext.trans jd.out hS));clear hS
           go_wp2_with fail
           go_roundw
           case rel=>exact⟨k+1,by omega,by go_num,HS.out,jf.out⟩
           case measure=>simp[intOf];omega
   ·have jA:¬ (k:Int)<(E.length:Int):=by omega
    have HN:Hid (Dg n E=true):=GW ⟨jw.out.1,jw.out.2.1,jw.out.2.2,λi hi _=>HU.out i hi (by omega)⟩
    go_wp2_with fail
    go_ret;exact⟨Ad HN.out.symm,Ext.trans HX.out HB.out⟩
 ·have js:Hid (inB n 0 40=false):=F5 n0;have HN:Hid (Dg n E=false):=Bg λh=>n0 ⟨h.1,h.2.1⟩;clear n0
  go_wp2_with (go_at_call 51;refine(CR _ _ _ _).mono ?_;rintro e w' ⟨he,jr⟩;obtain rfl:wb=w':=jr.symm;rw[js.out]at he;subst he)
  go_ret;exact⟨Ad HN.out.symm,HX.out⟩
def WO {R:List Rl}{acc:Int}{L:List Slt}{Ws:List ByteArray}(hl:L.length<=6)(hb:By 8 L)(hw:Ws.length<=10)(h3:∀ x∈Ws,x.size<=3):Ia (L.length:Int) (GA R acc L (Ws.map bts)):=by
 have hlen:(GA R acc L (Ws.map bts)).length<=210:=by
  have h1:=TN (R:=R) (acc:=acc) (L:=L) (W:=Ws.map bts);have h2:=QO _ hl;have h3:(spn L.length).length*(Ws.map bts).length<=21*10:=Y1 h2 (by rw[AQ];exact hw);omega
 refine⟨by omega,by omega,by omega,λk hk _=>⟨?_,λh0=>List.pairwise_iff_getElem.1 OQ (k - 1) k (by omega) hk (by omega)⟩⟩;obtain⟨i,j,w,c,he,hij,hj,hf⟩:=Kb.1 (AI hk);obtain⟨jb,jc⟩:=(IW.mem w c).1 hf;rw[AQ]at jb;have hX:(Ws.map bts)[w].length<=3:=by
  rw[List.getElem_map,B5];exact h3 _ (AI jb)
 have ja:=whole_low (C:=8) (hb.drop i) jc;have hdl:(L.drop i).length<=6:=by rw[ZZ];omega
 have hc:((L.drop i).length+1)*8*((Ws.map bts)[w].length+1)*(1000+4*8)<=7*8*4*(1000+4*8):=Y1 (Y1 (Y1 (by omega) (A5 _)) (by omega)) (A5 _);have hc2:c<=7*8*4*(1000+4*8):=AA ja hc;rw[he];unfold Cd;simp only;omega
section
variable {S:Sch} {b aw ac ap aL:Option Addr} {cS cw cc cp cL g8 g9:Nat} {Ws:List ByteArray} {cs:List Nat} {ps:List Prs} {bk:Int} {v0:Value} {L L0:List Slt} {W:World}
def V5 (h:Tu S b cS aw ac ap cw cc cp Ws cs ps bk g8 g9 v0 L0 W)(hs:BO S=0)(jb:S.acc=1)(ja:S.rules.length<=cS)(jc:Ku Ws cs ps bk)(jd:Ws.length<=10)(hT:Tab W)(hL:FF W aL cL L)(h3:FZ L)(h6:L.length<=6) :
  Zu Z1 14 #[aJ #[aA aM S.modes,aA aO S.acc,aG b S.rules.length cS],aJ #[aG aw Ws.length cw,aG ac cs.length cc,aG ap ps.length cp,aA aM bk],aG aL L.length cL] W (W8 L.length (GA S.rules S.acc L (Ws.map bts)) W) :=
 lbuild_ok S b aw aL cS cw cL (aG ac cs.length cc) (aG ap ps.length cp) (aA aM bk) Ws L W (G2.of_valid (E9 hs) (by rw[jb];decide) (by rw[jb];decide) ja h.rul) (E9 hs) hs hT
  (λW' hx=>JB aw ac ap cw cc cp Ws cs ps bk W' (h.mod.go hx) jc) (Tp hL.s (by omega) (h3.valid (by omega))) h.mod.ws jc.dict h.mod.wc jd hL h6
end
def S4 (w:Z0)(n:Nat)(hn:n<=1000000):∃ w',(Instr.makeSlice 36 (aA aM (n:Int)) (aA aM (n:Int))).run Z1 w=.ok (aG (some ⟨w.heap.size,0,none⟩) n n) w'/\Af BT w' w.heap.size (aG (some ⟨w.heap.size,0,none⟩) n n) (ZB n 0)/\Ext w w':=by
 obtain⟨i0,hi,jb,jc,jd⟩:=info_parts Di.info;have hb:i0.bytes*n<=64*1000000:=Y1 (by rw[jd];exact Di.b) hn;obtain⟨w',ja,r1,r2⟩:=run_make_full (P:=Z1) w w.heap.size BT.sl BT.e i0 BT.z BT.k Di.und hi jb jc aM aM n (by omega) (by unfold maxLen;omega) (A5 _);refine⟨w',ja,?_,⟨r2.os,r2.tape,r2.output,r2.size,λk hk=>r2.block k hk (by simp)⟩⟩;unfold Af;rw[AW];have e:(madeCells BT.z.cells (n*BT.k)).toList=(ZB n 0).flatMap BT.enc:=by
  rw[Dv BT 0 rfl n];apply List.ext_getElem
  · simp[madeCells,BT]
  ·intro j h2 h3;simp[madeCells,BT,Nat.mod_one,Value.cells]
 rw[<- e];exact r1
def Tv (w:Z0)(a:Option Zj)(D:List Nat):Prop:=∀ i (h:i<D.length),∃ b o,a=some ⟨b,o,none⟩/\b<w.heap.size/\w.cell? ⟨b,o+i,none⟩=some (aA aO (D[i]:Int))/\D[i]<256
def Tv.go {w w':Z0}{a:Option Zj}{D:List Nat}(h:Tv w a D)(hx:Ext w w'):Tv w' a D:=λi hi=>by
 obtain⟨b,o,h1,h2,h3,h4⟩:=h i hi;exact⟨b,o,h1,A9 h2 (XE hx),(Zx hx (p:=⟨b,o+i,none⟩) h2).trans h3,h4⟩
def Ob (t:ByteArray)(c:UInt8):bts (t ++ ⟨#[c]⟩)=bts t ++ [c]:=by simp[bts,XF]
def Oc (c:UInt8)(w:Z0):(convert 26 9 (aG (some ⟨w.heap.size,0,none⟩) 1 1)).run Z1 (w.alloc (aK #[aA aO (c.toNat:Int)] 5))=.ok (aI ⟨#[c]⟩) (w.alloc (aK #[aA aO (c.toNat:Int)] 5)):=by
 have ja:DF (w.alloc (aK #[aA aO (c.toNat:Int)] 5)) (some ⟨w.heap.size,0,none⟩) [c]:=.inr ⟨w.heap.size,_,rfl,Z4 _ _,by simp⟩;exact conv_bytes ja 1
def NL {C:Nat}:∀ {P:List Ch},(∀ h∈P,h.cost<=(C:Int))->DK P<=P.length*C
 | [],_=>Ze _
 | h :: P,hc=>by
  have h1:=hc h AB;have h2:=NL λx hx=>hc x (Zm _ hx);have e:DK (h :: P)=h.cost.toNat+DK P:=by simp[DK]
  rw[e,Zs,zp];omega
def E7.mem {L:List Slt}{P:List Ch}(h:E7 L P):∀ x∈P,∃ s∈L,x∈s:=by
 induction h with
 | nil=>intro x hx;cases hx
 | @cons s y L P hm _ ih =>
  intro x hx;rcases AX.1 hx with rfl | hx
  · exact⟨s,AB,hm⟩
  ·obtain⟨t,h1,h2⟩:=ih x hx;exact⟨t,Zm _ h1,h2⟩
def input14_any (L:List Slt)(D:List Nat)(aL aD:Option Zj)(cL cD:Nat)(w:Z0)(hL:CI w aL L)(hn:L.length<=40)(h3:FZ L)(hD:Tv w aD D)(hDn:D.length<=1000000) :
  Zu Z1 25 #[aG aL L.length cL,aG aD D.length cD] w λe w'=>∃ t:ByteArray,e=aP (.tuple #[aI t,aA aM (DK (DJ L D):Int)])/\bts t=DI (DJ L D)/\Ext w w':=by
 have HL:=A0 hL;have H3:=A0 h3;have HD:=A0 hD;have jq:=Kj D h3.ne;obtain⟨P,hP⟩:∃ P,DJ L D=P:=⟨_,rfl⟩
 have HG:Hid (∀ i (h:i<L.length),P[i]? = some (L[i].getD ((if i<D.length then D.getD i 0 else 0) % L[i].length) ⟨0,0⟩)):=λi h=>by rw[<- hP];exact MC h
 have jI:P.length=L.length:=by rw[<- hP];exact J8 L D
 rw[hP]at jq ⊢;have jo:∀ i,DK (P.take i)<=320:=λi=>by
  have h1:=NL (C:=8) (P:=P.take i) λx hx=>by
   obtain⟨s,hs,jY⟩:=jq.mem x (Xo hx);exact(h3.cst s hs x jY).2
  have h2:(P.take i).length*8<=40*8:=ZM _ (by rw[AO];omega);omega
 have jG:=A0 jo;have jQ:=A0 jI;have HPK:=A0 jq;clear hL h3 hD hP jI jo jq
 go_enter Tryz.func25,Tryz.ntmps25
 go_wp2_with fail
 go_loopg [6,7,8,9] L.length (λg v6 v7 v8 v9 wr=>∃ (i:Nat) (t:ByteArray),v8=aA aM (i:Int)/\v6=aI t/\v7=aA aM (DK (P.take i):Int)/\bts t=DI (P.take i)/\i<=L.length/\g=L.length - i/\Ext w wr)
 case atStart=>exact⟨0,⟨#[]⟩,rfl,rfl,rfl,rfl,Ze _,rfl,Ext.refl _⟩
 case round =>
  obtain⟨i,t,rfl,rfl,rfl,ht,hi,jM,hx⟩:=hrel;have jv:=A0 ht;have jF:=A0 jM;have ji:=A0 hx;have hts:t.size<=40:=by have h:=congrArg List.length ht;rw[B5,Fa,AO]at h;omega
  clear ht jM hx;by_cases jm:i<L.length
  ·have jB:(i:Int)<(L.length:Int):=by omega
   obtain⟨b1,o1,jJ,jg,aa,cc,q0,jV,jd⟩:=(HL.out.later ji.out (A5 _)).at jm;have hi1:=Il aL b1 o1 L.length cL i jJ jm;have jC:=H3.out.ne L[i] (AI jm);have jz:=HG.out i jm;have jw:=H3.out.cst L[i] (AI jm);obtain⟨s,hs⟩:∃ s,L[i]=s:=⟨_,rfl⟩
   rw[hs]at q0 jV jd jC jz jw;have jh:=A0 jd;have jR:=A0 q0;have jE:=A0 jz;have jD:=A0 jw;have jr:=A0 jg;have jb:∀ h,P[i]? = some h->P.take (i+1)=P.take i ++ [h]:=λh e=>by
    obtain⟨e1,e2⟩:=Zh.1 e;rw[AR e1,e2]
   have jH:=A0 jb;clear jJ hs jd jz jw jb jg;have hsz:(s.length:Int)<=9223372036854775807:=by omega
   by_cases jl:i<D.length
   ·have jA:(i:Int)<(D.length:Int):=by omega
    obtain⟨b2,o2,jK,hb2,z0,z1⟩:=(HD.out.go ji.out) i jl;have jU:=EV aD b2 o2 D.length cD i jK jl;obtain⟨d,hd⟩:∃ d,D[i]=d:=⟨_,rfl⟩
    rw[hd]at z0 z1;have hk:d % s.length<s.length:=Nat.mod_lt _ jC;have jn:(d:Int).tmod (s.length:Int)=((d % s.length:Nat):Int):=Int.ofNat_tmod d s.length;have jL:P[i]? = some (s.getD (d % s.length) ⟨0,0⟩):=by
     have h:=jE.out;rw[if_pos jl,show D.getD i 0=d by rw[AS,AC jl,hd];rfl]at h;exact h
    have jp:=A0 jL;have jW:((s.length:Int) == 0)=false:=by rw[beq_eq_false_iff_ne];omega
    have jy:IntKind.i64.wrap (d:Int)=(d:Int):=Zq _ (by omega);obtain⟨k,jO⟩:∃ k,d % s.length=k:=⟨_,rfl⟩
    rw[jO]at hk jn jp;clear jK hd jL jO
    go_wp2_with fail
    go_quiet (fail)
    have HQ:Hid (Ext wr (wr.drewN nq)):=below_drewN (Z2 _ _) _;clear jn jW jU z0 jy q0;have q0:=(Zx HQ.out (p:=⟨b1,o1+i,none⟩) jr.out).trans jR.out;obtain⟨b3,o3,jj,jk,p0,p1⟩:=(jh.out.later HQ.out (A5 _)).ch hk;have jN:∀ w:Z0,(ZK 81 (aG aa s.length cc) (aA aM (k:Int))).run Z1 w=.ok (aB (some ⟨b3,o3+k*2,none⟩)) w:=Gf aa b3 o3 s.length cc k jj hk;have jg:=jr.out;replace jk:b3<wr.heap.size:=jk;obtain⟨hh,je⟩:∃ hh,s[k]=hh:=⟨_,rfl⟩
    have ja:=jD.out s[k] (AI hk);have js:Hid (P[i]? = some hh):=by
     have h:=jp.out;rw[AS,AC hk,je]at h;exact h
    rw[je]at p0 p1 ja;have jx:(convert 26 9 (aG (some ⟨wr.heap.size,0,none⟩) 1 1)).run Z1 ((wr.drewN nq).alloc (aK #[aA aO (hh.key.toNat:Int)] 5))=.ok (aI ⟨#[hh.key]⟩) ((wr.drewN nq).alloc (aK #[aA aO (hh.key.toNat:Int)] 5)):=Oc hh.key (wr.drewN nq);have jb:=jH.out hh js.out;have jX:=jG.out i;have ju:Hid (DK (P.take (i+1))=DK (P.take i)+hh.cost.toNat):=by show _=_;rw[jb,Ki];simp[DK]
    have jt:Hid (DI (P.take (i+1))=DI (P.take i) ++ [hh.key]):=by show _=_;rw[jb,Gj];rfl
    have jP:=A0 ja;have jT:hh.cost<=8:=ja.2;have jS:0<=hh.cost:=ja.1;clear jj je jb ja
    go_upto_region 9 with fail
    obtain⟨w9,jf⟩:∃ w9,(wr.drewN nq).alloc (aK #[aA aO (hh.key.toNat:Int)] 5)=w9:=⟨_,rfl⟩
    rw[jf];have jc:Hid (Ext (wr.drewN nq) w9):=by show Ext _ _;rw[<- jf];exact(Z2 _ _).alloc (A5 _) _
    have q0:=(Zx jc.out (p:=⟨b1,o1+i,none⟩) jg).trans q0;have p1:=(Zx jc.out (p:=⟨b3,o3+k*2+1,none⟩) jk).trans p1;clear jf jx p0
    go_wp2_with fail
    go_roundg (L.length - (i+1))
    case measure=>have:=jF.out;omega
    case rel=>exact⟨i+1,_,by go_num,rfl,by rw[ju.out];go_num,by rw[Ob,jv.out,jt.out],by omega,rfl,Ext.trans ji.out (Ext.trans HQ.out jc.out)⟩
   ·have jA:¬ (i:Int)<(D.length:Int):=by omega
    have hk:0<s.length:=jC;have jp:Hid (P[i]? = some (s.getD 0 ⟨0,0⟩)):=by
     have h:=jE.out;rw[if_neg jl,Nat.zero_mod]at h;exact h
    obtain⟨b3,o3,jj,jk,p0,p1⟩:=(jh.out).ch hk;have jN:∀ w:Z0,(ZK 81 (aG aa s.length cc) (aA aM 0)).run Z1 w=.ok (aB (some ⟨b3,o3+0*2,none⟩)) w:=Gf aa b3 o3 s.length cc 0 jj hk;have jg:=jr.out;rw[Nat.zero_mul,zl]at jN p0 p1;obtain⟨hh,je⟩:∃ hh,s[0]=hh:=⟨_,rfl⟩
    have ja:=jD.out s[0] (AI hk);have js:Hid (P[i]? = some hh):=by
     have h:=jp.out;rw[AS,AC hk,je]at h;exact h
    rw[je]at p0 p1 ja;have jx:(convert 26 9 (aG (some ⟨wr.heap.size,0,none⟩) 1 1)).run Z1 (wr.alloc (aK #[aA aO (hh.key.toNat:Int)] 5))=.ok (aI ⟨#[hh.key]⟩) (wr.alloc (aK #[aA aO (hh.key.toNat:Int)] 5)):=Oc hh.key wr;have jb:=jH.out hh js.out;have jX:=jG.out i;have ju:Hid (DK (P.take (i+1))=DK (P.take i)+hh.cost.toNat):=by show _=_;rw[jb,Ki];simp[DK]
    have jt:Hid (DI (P.take (i+1))=DI (P.take i) ++ [hh.key]):=by show _=_;rw[jb,Gj];rfl
    have jP:=A0 ja;have jT:hh.cost<=8:=ja.2;have jS:0<=hh.cost:=ja.1;clear jj je jb ja
    go_upto_region 9 with fail
    obtain⟨w9,jf⟩:∃ w9,wr.alloc (aK #[aA aO (hh.key.toNat:Int)] 5)=w9:=⟨_,rfl⟩
    rw[jf];have jc:Hid (Ext wr w9):=by show Ext _ _;rw[<- jf];exact(Z2 _ _).alloc (A5 _) _
    have q0:=(Zx jc.out (p:=⟨b1,o1+i,none⟩) jg).trans q0;have p1:=(Zx jc.out (p:=⟨b3,o3+1,none⟩) jk).trans p1;clear jf jx p0
    go_wp2_with fail
    go_roundg (L.length - (i+1))
    case measure=>have:=jF.out;omega
    case rel=>exact⟨i+1,_,by go_num,rfl,by rw[ju.out];go_num,by rw[Ob,jv.out,jt.out],by omega,rfl,Ext.trans ji.out (jc.out)⟩
  ·obtain rfl:i=L.length:=by omega
   have jB:¬ (L.length:Int)<(L.length:Int):=by omega
   go_wp2_with fail
   have e1:P.take L.length=P:=AH (by rw[jQ.out];exact A5 _);refine bodyPost_ret (v:=.tuple #[aI t,aA aM (DK (P.take L.length):Int)]) (by simp[results,Tryz.results25,go_sem]) rfl ⟨t,?_,?_,ji.out⟩
   · rw[e1]
   · rw[jv.out,e1]
end Go.Proofs.YtpljngaejaehcaaGreatDoor
