/- Texts that the claims share. -/
import Derived.Test.YtpljngaejaehcaaGreatDoorMK6
import Derived.Test.YtpljngaejaehcaaGreatDoorMK2
import Derived.Test.YtpljngaejaehcaaGreatDoorMD1
open Go.Value renaming int->aA,pointer->aB,slice->aG,bool->aH,string->aI,agg->aJ,slice->Zk
open Go.Obj renaming cells->aK
open Go.IntKind renaming i64->aM,u8->aO
open Go.Ending renaming returned->aP
open Go.Act renaming eval->Zf,put->ZE
open Go renaming Addr->Zj,Calls->Zu,TypeId->X5,Value->Z6,World->Z0,cell_of_row->Z3,heap_alloc_new->Z4,undef->Z8
open Array renaming replicate_succ->zc,replicate_zero->zd,toList_append->XQ
open Go.RowKit.Below renaming block->Z7,grown->Xz,heap_alloc->ZF,heap_setCell->Zc,refl->Z2,size->XE,trans->Y9,cell->Zx
open Bool renaming and_eq_false_iff->Xc,and_eq_true->Zg,true_and->zC
open ByteArray renaming data_append->XF,extract->zY
open Go.ByteArray renaming toList_eq->ZQ
open Go.Instr renaming indexAt->ZK
open Int renaming tmod_eq_emod_of_nonneg->ZJ
open Go.IntWalk renaming i64_in->Zq
open Go.KeepsOthers renaming of_grownBy->xC,setCell->XR
open List renaming all_eq_true->Zr,append_assoc->Zw,append_nil->Xe,append_toArray->XP,cons_append->ZG,flatMap_append->XB,flatMap_cons->ZA,foldl->Zp,foldl_cons->zQ,length_cons->Zs,length_drop->ZZ,length_nil->X7,map_append->XI,mem_cons_of_mem->Zm,nil_append->ZP,not_mem_nil->ZN,push_toArray->zo,range->Zt,range_succ->z6,setIfInBounds_toArray->Z5,set_cons_succ->Za,set_cons_zero->Z9,size_toArray->zm,take_length->zg,take_succ_cons->zG,drop_eq_nil_of_le->Xn,mem_of_mem_drop->Xf,range'->Zd
open Nat renaming mul_le_mul->Y1,zero_le->Ze,not_lt_zero->Xj,zero_add->ZS
open Go.Op renaming bytesLess->Zz
open Go.Proofs.Tryz renaming prog->Z1,ntmps85->xy
open Go.World renaming alloc_heap_new->zh,frozen?->Zn,putObj_heap_other->Xu,size_setCell->Zb
open Classical renaming propDecidable->Xr
open Go.Region renaming binds->Zl
set_option maxHeartbeats 12800000
set_option maxRecDepth 100000
set_option linter.unusedVariables false
set_option linter.unusedSimpArgs false
set_option linter.defProp false
namespace Go.Proofs.YtpljngaejaehcaaGreatDoor
open Go.RowKit Go.WideShapes Fl
attribute [local go_sem] Oper.semAt_some
def N8 (w:Z0)(o0 o1 o2 o3 o4:Obj):∃ w5,(((((w.alloc o0).alloc o1).alloc o2).alloc o3).alloc o4)=w5/\Ext w w5/\w5.heap[w.heap.size]? = some o0/\w5.heap[w.heap.size+1]? = some o1/\w5.heap[w.heap.size+2]? = some o2/\w5.heap[w.heap.size+3]? = some o3/\w5.heap[w.heap.size+4]? = some o4/\w5.heap.size=w.heap.size+5:=by
 have x:∀ (W:Z0) (o:Obj),Ext W (W.alloc o):=λW o=>(Z2 _ _).alloc (A5 _) _;have n:∀ (W:Z0) (o:Obj),(W.alloc o).heap[W.heap.size]? = some o:=λW o=>zh W o;have k:∀ (W:Z0) (o p:Obj) (i:Nat),W.heap[i]? = some p->(W.alloc o).heap[i]? = some p:=λW o p i h=>(Z7 (x W o) _ (A7.1 h).1).trans h;refine⟨_,rfl,Ext.trans (x _ _) (Ext.trans (x _ _) (Ext.trans (x _ _) (Ext.trans (x _ _) (x _ _)))),k _ _ _ _ (k _ _ _ _ (k _ _ _ _ (k _ _ _ _ (n _ _)))),?_,?_,?_,?_,by simp⟩
 · exact k _ _ _ _ (k _ _ _ _ (k _ _ _ _ (by have:=n (w.alloc o0) o1;rwa [A8]at this)))
 · exact k _ _ _ _ (k _ _ _ _ (by have:=n ((w.alloc o0).alloc o1) o2;rwa [A8,A8]at this))
 · exact k _ _ _ _ (by have:=n (((w.alloc o0).alloc o1).alloc o2) o3;rwa [A8,A8,A8]at this)
 ·have:=n ((((w.alloc o0).alloc o1).alloc o2).alloc o3) o4
  rwa [A8,A8,A8,A8]at this
def An {w5:Z0}{g:Nat}{o:Obj}(h:w5.heap[g]? = some o):∀ W,Ext w5 W->W.heap[g]? = some o:=λW hx=>(Z7 hx _ (A7.1 h).1).trans h
def Av {w:Z0}{g:Nat}{a b c d:Z6}{t:X5}{f:Nat × Nat}(h:w.heap[g]? = some (aK #[a,b,c,d] t f)):w.cell? ⟨g,0,none⟩=some a/\w.cell? ⟨g,1,none⟩=some b/\w.cell? ⟨g,2,none⟩=some c/\w.cell? ⟨g,3,none⟩=some d:=by
 refine⟨?_,?_,?_,?_⟩ <;> (rw[Z3 w g _ _ _ f h];rfl)
def BN {w:Z0}{g:Nat}{a:Z6}{t:X5}{f:Nat × Nat}(h:w.heap[g]? = some (aK #[a] t f)):w.cell? ⟨g,0,none⟩=some a:=by rw[Z3 w g _ _ _ f h];rfl
def EnR.kc {R:List Rl}{acc:Int}{L:List Slt}{W:List (List UInt8)}{g:Nat}{Ls:List SV}{w w':Z0}(h:EnR R acc L W g Ls w)(hk:Kc w w'):EnR R acc L W g Ls w' :=
 ⟨h.own.kc hk,h.len,λk hl=>by obtain⟨l,h1,h2⟩:=h.ok k hl;exact⟨l,h1.kc hk,h2⟩⟩
def EnS.kc {R:List Rl}{acc:Int}{L:List Slt}{W:List (List UInt8)}{v:Z6}{w w':Z0}(h:EnS R acc L W v w)(hk:Kc w w'):EnS R acc L W v w':=by
 obtain⟨g,Ls,h1,h2⟩:=h;exact⟨g,Ls,h1,h2.kc hk⟩
noncomputable def Fb (R:List Rl)(acc:Int)(L:List Slt)(Wb:List (List UInt8))(pre:List (Nat × Nat)):List Edg:=pre.flatMap λp=>FD p.1 p.2 (J5 R acc (L.drop p.1) Wb (p.2 - p.1))
structure LI (R:List Rl)(acc:Int)(L:List Slt)(Wb:List (List UInt8))(gs g10:Nat)(pre:List (Nat × Nat))(W:Z0):Prop where
 sp:W.heap[g10+1+1]? = some (aK #[aA aM (L.length:Int)] 3 (0,0))
 ed:∃ vE,W.heap[g10]? = some (aK #[aA aM (L.length:Int),vE] 45 (0,0))/\Af BG W g10 vE (Fb R acc L Wb pre)
 en:∃ vN,W.heap[g10+1]? = some (aK #[vN] 103 (0,0))/\∀ p i j,pre=p ++ [(i,j)]->EnS R acc (L.drop i) Wb vN W
def LI.kc {R:List Rl}{acc:Int}{L:List Slt}{Wb:List (List UInt8)}{gs g10:Nat}{pre:List (Nat × Nat)}{A C:Z0}(hk:Kc A C)(h:LI R acc L Wb gs g10 pre A):LI R acc L Wb gs g10 pre C where
 sp:=hk.block _ _ _ _ h.sp
 ed:=by obtain⟨v,h1,h2⟩:=h.ed;exact⟨v,hk.block _ _ _ _ h1,h2.kc hk⟩
 en:=by obtain⟨v,h1,h2⟩:=h.en;exact⟨v,hk.block _ _ _ _ h1,λp i j e=>(h2 p i j e).kc hk⟩
def Tq (g:Nat)(w w':Z0):Prop:=w.grownBy w' (some g)
section
variable {g:Nat} {w w1 w2:World}
def Tq.of (h:Ext w w1):Tq g w w1:=⟨Below.os h,Below.tape h,Below.output h,XE h,λk hk _=>Z7 h k hk⟩
def Tq.trans (h:Tq g w w1)(h2:Tq g w1 w2):Tq g w w2 :=
 ⟨h2.os.trans h.os,h2.tape.trans h.tape,h2.output.trans h.output,AA h.size h2.size,λk hk ja=>(h2.block k (A9 hk h.size) ja).trans (h.block k hk ja)⟩
def Tq.below (h:Tq g w w1){B:Nat}(hB:B<=g)(hw:B<=w.heap.size):Below B w w1 :=
 ⟨h.os,h.tape,h.output,h.size,λk hk=>h.block k (by omega) λe=>by injection e with e;omega⟩
def Tq.set (w:Z0)(g i:Nat)(v:Z6):Tq g w (w.setCell ⟨g,i,none⟩ v) :=
 ⟨rfl,rfl,rfl,by rw[Zb];exact A5 _,λk hk ja=>Zc _ _ _ _ λe=>ja (by rw[e])⟩
def Tq.at (h:Tq g w w1){q:Nat}(hq:q≠g){o:Obj}(ho:w.heap[q]? = some o):w1.heap[q]? = some o:=(h.block q (A7.1 ho).1 (λe=>hq (by cases e;rfl))).trans ho
def Tq.row {α:Type}{T:CB α}{B:Nat}{v:Z6}{L:List α}(ho:Af T w B v L){cs:Array Z6}{t:X5}{f:Nat × Nat}(hg:w.heap[g]? = some (.cells cs t f))(ht:t≠T.e)(h:Tq g w w1):Af T w1 B v L:=ho.keep λq hq=>by
 obtain⟨cs2,h1⟩:=B3 ho hq;have ja:q≠g:=λe=>by
  rw[e,hg]at h1;injection h1 with h1;injection h1 with _ h2;exact ht h2
 rw[h.at ja h1,h1]
def Tq.ends {R:List Rl}{acc:Int}{L:List Slt}{W:List (List UInt8)}{v:Z6}(he:EnS R acc L W v w){cs:Array Z6}{t:X5}{f:Nat × Nat}(hg:w.heap[g]? = some (.cells cs t f))(h1:t≠CZ.e)(h2:t≠DH.e)(h:Tq g w w1):EnS R acc L W v w1:=by
 obtain⟨gN,Ls,e,hr⟩:=he;exact⟨gN,Ls,e,h.row hr.own hg h2,hr.len,λk hk=>by obtain⟨l,h3,h4⟩:=hr.ok k hk;exact⟨l,h.row h3 hg h1,h4⟩⟩
end
structure Rb (g:Nat)(A B:Z0):Prop where
 os:B.os=A.os
 tape:B.tape=A.tape
 output:B.output=A.output
 size:A.heap.size<=B.heap.size
 low:∀ q,q<g->q<A.heap.size->B.heap[q]? = A.heap[q]?
 keep:∀ q o,A.heap[q]? = some o->q≠g->(∀ cs f,o≠.cells cs BG.e f)->B.heap[q]? = some o
section
variable {g:Nat} {A B C:World}
def Rb.of (h:Ext A B):Rb g A B:=⟨Below.os h,Below.tape h,Below.output h,XE h,λq _ hq=>Z7 h q hq,λq o hq _ _=>(Z7 h q (A7.1 hq).1).trans hq⟩
def Rb.trans (h:Rb g A B)(k:Rb g B C):Rb g A C:=⟨k.os.trans h.os,k.tape.trans h.tape,k.output.trans h.output,AA h.size k.size,λq hq hl=>(k.low q hq (A9 hl h.size)).trans (h.low q hq hl),λq o hq ja ho=>k.keep q o (h.keep q o hq ja ho) ja ho⟩
def Rb.set (W:Z0)(g i:Nat)(v:Z6):Rb g W (W.setCell ⟨g,i,none⟩ v):=⟨rfl,rfl,rfl,by rw[Zb];exact A5 _,λq hq _=>Zc _ _ _ _ (by show q≠g;omega),λq o hq ja _=>(Zc _ _ _ _ ja).trans hq⟩
def Rb.grown {v:Z6}{E:List Edg}(ho:Af BG A g v E)(hg:A.grownBy B v.ownBlock):Rb g A B:=⟨hg.os,hg.tape,hg.output,hg.size,λq hq hl=>hg.block q hl λe=>by have:=ho.ge q e.symm;omega,λq o hq _ ja=>(hg.block q (A7.1 hq).1 λe=>by
 obtain⟨cs,h1⟩:=B3 ho e.symm;rw[hq]at h1;injection h1 with h1;exact ja _ _ h1).trans hq⟩
def Rb.below (h:Rb g A B)(hA:g<=A.heap.size):Below g A B:=⟨h.os,h.tape,h.output,h.size,λq hq=>h.low q hq (by omega)⟩
def Rb.row {α:Type}{T:CB α}{D:Nat}{v:Z6}{L:List α}(h:Rb g A B)(ho:Af T A D v L){cs:Array Z6}{t:X5}{f:Nat × Nat}(hg:A.heap[g]? = some (.cells cs t f))(ht:t≠T.e)(hT:T.e≠BG.e):Af T B D v L:=ho.keep λq hq=>by
 obtain⟨cs2,h1⟩:=B3 ho hq;have ja:q≠g:=λe=>by
  rw[e,hg]at h1;injection h1 with h1;injection h1 with _ h2;exact ht h2
 rw[h.keep q _ h1 ja (λcs3 f3 e=>by injection e with _ e;exact hT e),h1]
def Rb.ends {R:List Rl}{acc:Int}{L:List Slt}{W:List (List UInt8)}{v:Z6}(h:Rb g A B)(he:EnS R acc L W v A){cs:Array Z6}{t:X5}{f:Nat × Nat}(hg:A.heap[g]? = some (.cells cs t f))(h1:t≠CZ.e)(h2:t≠DH.e):EnS R acc L W v B:=by
 obtain⟨gN,Ls,e,hr⟩:=he;exact⟨gN,Ls,e,h.row hr.own hg h2 (by decide),hr.len,λk hk=>by obtain⟨l,h3,h4⟩:=hr.ok k hk;exact⟨l,h.row h3 hg h1 (by decide),h4⟩⟩
end
def Kn (W:Z0)(a b c d:Z6)(t:X5):∀ (j:Nat) (u:Z6),[a,b,c,d][j]? = some u->(W.alloc (aK #[a,b,c,d] t (0,0))).cell? ((⟨W.heap.size,0,none⟩:Zj).add j)=some u:=λj u h=>by
 have hn:=Z4 W (aK #[a,b,c,d] t (0,0));rw[show((⟨W.heap.size,0,none⟩:Zj).add j)=⟨W.heap.size,j,none⟩ by cases j <;> simp[Addr.add],Z3 _ _ j _ _ _ hn];simpa[eq_comm] using h
def OS {W w3:Z0}{g:Nat}{tmp:Obj}{n:Z6}{aX a1:Option Zj}{cX n1 c1:Nat}{E F:List Edg}
  (hc:W.heap[g]? = some (aK #[n,aG aX E.length cX] 45 (0,0))) (jc:Af BG W g (aG aX E.length cX) E)
  (ja:Af BG w3 g (aG a1 n1 c1) F) (jb:(W.alloc tmp).grownBy w3 (Zk aX E.length cX).ownBlock) :
  w3.heap[g]? = some (aK #[n,aG aX E.length cX] 45 (0,0))/\(w3.setCell ⟨g,1,none⟩ (aG a1 n1 c1)).heap[g]? = some (aK #[n,aG a1 n1 c1] 45 (0,0))/\Af BG (w3.setCell ⟨g,1,none⟩ (aG a1 n1 c1)) g (aG a1 n1 c1) F/\Rb g W (w3.setCell ⟨g,1,none⟩ (aG a1 n1 c1))/\KeepsOthers W (w3.setCell ⟨g,1,none⟩ (aG a1 n1 c1)):=by
 have je:=(A7.1 hc).1;have jd:Af BG (W.alloc tmp) g (aG aX E.length cX) E:=jc.alloc _;have jf:∀ q,(Zk aX E.length cX).ownBlock=some q->q≠g:=λq e h=>by
  obtain⟨cs,h1⟩:=B3 jc e;rw[h,hc]at h1;injection h1 with h1;injection h1 with _ h2;exact absurd h2 (by decide)
 have h3:w3.heap[g]? = some (aK #[n,aG aX E.length cX] 45 (0,0)):=(jb.block g (by rw[A8];omega) (λe=>jf g e.symm rfl)).trans ((ZF _ _ _ je).trans hc);have hr:Rb g W w3:=(Rb.of ((Z2 _ _).alloc (A5 _) _)).trans (Rb.grown jd jb);refine⟨h3,Aj h3 rfl,ja.keep λq hq=>Zc _ _ _ _ ?_,hr.trans (Rb.set _ _ _ _),((KeepsOthers.alloc _ _).trans (xC jb λq o hq ho=>?_)).trans (XR _ _ _)⟩
 ·intro e;obtain⟨cs,h1⟩:=B3 ja hq;rw[show q=g from e,h3]at h1;injection h1 with h1;injection h1 with _ h2;exact absurd h2 (by decide)
 ·obtain⟨cs,h1⟩:=B3 jd hq;rw[ho]at h1;injection h1 with h1;rw[h1];rfl
def EnR.at2 {R:List Rl}{acc:Int}{L:List Slt}{W:List (List UInt8)}{g:Nat}{Ls:List SV}{w:Z0}(h:EnR R acc L W g Ls w){k:Nat}(hk:k<L.length+1) :
  ∃ a c l,w.cell? ⟨g,k,none⟩=some (aG a l.length c)/\Af CZ w 0 (aG a l.length c) l/\Sx R acc L W k l:=by
 have jc:k<Ls.length:=by rw[h.len];exact hk
 obtain⟨l,h1,h2⟩:=h.ok k jc;obtain⟨a,c,he, -, -⟩:=h1.form;have jb:=h.own.cell Fz jc (j:=0) (by decide);have e1:k*DH.k+0=k:=by show k*1+0=k;omega
 rw[e1]at jb;have ja:w.cell? ⟨g,k,none⟩=some (svS Ls[k]):=jb;rw[he]at ja h1;exact⟨a,c,l,ja,h1,h2⟩
def EnV (R:List Rl)(acc:Int)(L:List Slt)(Wb:List (List UInt8))(Wr:Z0)(g:Nat)(v:Z6)(W:Z0):Prop:=∃ W0,Ext Wr W0/\EnS R acc L Wb v W0/\Tq g W0 W
def Rr (R:List Rl)(acc:Int)(L:List Slt)(Wb:List (List UInt8))(Wr:Z0)(g:Nat):Bq (EnV R acc L Wb Wr g):=by
 rintro v w w' ⟨W0,h1,h2,h3⟩ hx;exact⟨W0,h1,h2,h3.trans (Tq.of hx)⟩
def Uu {R:List Rl}{acc:Int}{L:List Slt}{Wb:List (List UInt8)}{Wr:Z0}{g:Nat}:∀ v w w',EnV R acc L Wb Wr g v w->Tq g w w'->EnV R acc L Wb Wr g v w':=by
 rintro v w w' ⟨W0,h1,h2,h3⟩ hx;exact⟨W0,h1,h2,h3.trans hx⟩
def Ko (R:List Rl)(acc:Int)(L:List Slt)(Wb:List (List UInt8))(Wr:Z0)(g:Nat)(b:Bool)(W:Z0):Prop:=match b with
 | false=>Ext Wr W
 | true=>∃ v W0,Ext Wr W0/\EnS R acc L Wb v W0/\Tq g W0 W/\W.heap[g]? = some (aK #[v] 103 (0,0))
def Ko.ext {R:List Rl}{acc:Int}{L:List Slt}{Wb:List (List UInt8)}{Wr:Z0}{g:Nat}:∀ (b:Bool) (W W':Z0),Ko R acc L Wb Wr g b W->Ext W W'->Ko R acc L Wb Wr g b W':=λb W W' h hx=>by
 cases b with
 | false=>exact Ext.trans h hx
 | true =>
  obtain⟨v,W0,h1,h2,h3,h4⟩:=h;exact⟨v,W0,h1,h2,h3.trans (Tq.of hx),(Z7 hx _ (A7.1 h4).1).trans h4⟩
def OT {R:List Rl}{acc:Int}{L:List Slt}{W:List (List UInt8)}{i:Nat}{l:List (Nat × Nat)}(h:FU R acc L W i l):l.length<=W.length:=by
 rw[h.eqF];exact Ke
def OU {R:List Rl}{acc:Int}{L:List Slt}{Wb:List (List UInt8)}{pre rest:List (Nat × Nat)}(h:spn L.length=pre ++ rest)(hl:L.length<=6)(hw:Wb.length<=10):(Fb R acc L Wb pre).length<=210:=by
 have h1:(Fb R acc L Wb pre).length<=pre.length*Wb.length:=J6 λp _=>by unfold FD;rw[AQ];exact Ke
 have h2:=QO _ hl;rw[h,AD]at h2;have h3:pre.length*Wb.length<=21*10:=Y1 (by omega) hw;omega
def W8 (n:Nat)(E:List Edg)(w:Z0)(e:Ending)(w':Z0):Prop:=∃ v,e=aP (.tuple #[aJ #[aA aM (n:Int),v],aA aM 0])/\Af BG w' w.heap.size v E/\Ext w w'
def lbuild_ok (S:Sch)(b aw aL:Option Zj)(cS cw cL:Nat)(mv1 mv2 mv3:Z6)(Ws:List ByteArray)(L:List Slt)(w:Z0)(hS:G2 w S b cS)(hv:Fl.validB S=true)(hs:BO S=0)(hT:Tab w)
  (hM:∀ W,Ext w W->Zu Z1 40 #[aJ #[aG aw Ws.length cw,mv1,mv2,mv3]] W λe w'=>e=aP (aH true)/\Ext W w')
  (k8:∀ W,Ext w W->Zu Z1 41 #[aG aL L.length cL] W λe w'=>e=aP (aH true)/\Ext W w')
  (hW:BZ w aw Ws) (hd:Cx Ws) (yL:Ws.length<=cw) (jg:Ws.length<=10) (hL:FF w aL cL L) (yi:L.length<=6) :
  Zu Z1 14 #[aJ #[aA aM S.modes,aA aO S.acc,aG b S.rules.length cS],aJ #[aG aw Ws.length cw,mv1,mv2,mv3],aG aL L.length cL] w (W8 L.length (GA S.rules S.acc L (Ws.map bts)) w):=by
 have HS:=A0 hS;have HM:=A0 hM;have yw:=A0 k8;have HW:=A0 hW;have HD:=A0 hd;have HL:=A0 hL;have HT:=A0 hT;have kd:=Hv hv hS.a0 hS.a1;have kt:=A0 kd;have yx:=A0 hs;have kH:=hS.cap;have hl64:=hS.len;have yC:=hS.a0;have jL:=hS.a1;clear hS hM k8 hW hd hL hT kd hs;obtain⟨i0,ye,yq,yr,ys⟩:=info_parts D8.info;refine(callsIn_wide (n:=9)).1 ?_;refine callsIn_of_wp_marks Tryz.func14 rfl trivial ?_ rfl;simp only[Tryz.ntmps14,zm,Zs,X7,Nat.reduceAdd,Nat.reduceSub,zc,zd,zo,XP,ZP,ZG]
 gi_wp2_with fail
 refine⟨trivial,?_⟩;obtain⟨w5,ym,yn,h0,h1,h2,h3,h4,kZ⟩:=N8 w (aK #[aA aM S.modes,aA aO S.acc,aG b S.rules.length cS] 33) (aK #[aG aw Ws.length cw,mv1,mv2,mv3] 39) (aK #[aG aL L.length cL] 41) (aK #[aA aM 0,aG none 0 0] 45) (aK #[aA aM 0] 46);rw[ym];have j0:=A0 yn;have H0:=A0 (An h0);have H1:=A0 (An h1);have H2:=A0 (An h2);have H3:=A0 (An h3);have H4:=A0 (An h4);obtain⟨gs,kL⟩:∃ gs,w.heap.size=gs:=⟨_,rfl⟩
 have yv:=A0 kL;rw[kL]at H0 H1 H2 H3 H4 kZ ⊢;have yz:=A0 kZ;clear ym yn h0 h1 h2 h3 h4 kL kZ;have kR:=Fl.sound_any S b cS w5 (HS.out.rul.later j0.out (A5 _)) yC jL (by omega) kH (λ_=>kt.out);rw[yx.out]at kR;refine(callsIn_wide.2 kR).mono ?_;clear kR;rintro e w6 ⟨rfl,ya⟩;have kz:Hid (Ext w5 w6):=ya;clear ya;obtain⟨m0,m1,m2,m3⟩:=Av (H1.out w6 kz.out)
 gi_wp2_with fail
 refine⟨trivial,?_⟩;refine(callsIn_wide.2 (HM.out w6 (Ext.trans j0.out kz.out))).mono ?_;rintro e w7 ⟨rfl,yo⟩;have kA:Hid (Ext w5 w7):=Ext.trans kz.out yo;clear yo m0 m1 m2 m3;have l0:=BN (H2.out w7 kA.out)
 gi_wp2_with fail
 refine⟨trivial,?_⟩;refine(callsIn_wide.2 (yw.out w7 (Ext.trans j0.out kA.out))).mono ?_;rintro e w8 ⟨rfl,yp⟩;have kB:Hid (Ext w5 w8):=Ext.trans kA.out yp;clear yp l0;obtain⟨m0,m1,m2,m3⟩:=Av (H1.out w8 kB.out)
 gi_wp2_with fail
 refine⟨trivial,?_⟩;have jY:Ext w w8:=Ext.trans j0.out kB.out;refine(callsIn_wide.2 (UY HD.out (HW.out.later jY (A5 _)) rfl yL (HT.out.go jY))).mono ?_;clear jY;rintro e w9 ⟨aD,nD,cD,rfl,k9,yb⟩;have kl:Hid (Ext w5 w9):=Ext.trans kB.out yb;have yt:Hid (∀ W,Ext w9 W->KG W aD nD cD Ws):=λW hx=>k9.go hx;clear yb k9 m0 m1 m2 m3;have l0:=BN (H2.out w9 kl.out);have yM:gs+5<=w9.heap.size:=by have:=yz.out;have:=kl.out.size;omega
 gi_wp2_with fail
 refine⟨trivial,?_⟩;clear l0;obtain⟨w10,jg⟩:∃ w10,w9.alloc (aK #[aG aD nD cD] 69)=w10:=⟨_,rfl⟩
 have kY:w10.heap.size=w9.heap.size+1:=by rw[<- jg];simp
 have jX:Ext w9 w10:=by rw[<- jg];exact(Z2 _ _).alloc (A5 _) _
 have h8:w10.heap[w9.heap.size]? = some (aK #[aG aD nD cD] 69 (0,0)):=by rw[<- jg];exact Z4 _ _
 rw[jg];obtain⟨g10,jz⟩:∃ g10,w10.heap.size=g10:=⟨_,rfl⟩
 have yG:w9.heap.size+1=g10:=by omega
 obtain⟨g9,kI⟩:∃ g9,w9.heap.size=g9:=⟨_,rfl⟩
 have jw:Hid (Ext w5 w10):=Ext.trans kl.out jX;have jD:=A0 jX;rw[kI]at yG h8 yM kY ⊢;have H8:=A0 (An h8);clear jg jX h8;refine(callsIn_wide.2 (Ro (L.length:Int) _)).mono ?_;rintro e w' ⟨rfl,rfl⟩
 gi_wp2_with fail
 obtain⟨w13,jo⟩:∃ w13,((w10.alloc (aK #[aA aM (L.length:Int),aG none 0 0] 45)).alloc (aK #[aG none 0 0] 103)).alloc (aK #[aA aM (L.length:Int)] 3)=w13:=⟨_,rfl⟩
 have x:∀ (W:Z0) (o:Obj),Ext W (W.alloc o):=λW o=>(Z2 _ _).alloc (A5 _) _;have n:∀ (W:Z0) (o:Obj),(W.alloc o).heap[W.heap.size]? = some o:=λW o=>zh W o;have k:∀ (W:Z0) (o p:Obj) (i:Nat),W.heap[i]? = some p->(W.alloc o).heap[i]? = some p:=λW o p i h=>(Z7 (x W o) _ (A7.1 h).1).trans h;have k10:w13.heap[g10]? = some (aK #[aA aM (L.length:Int),aG none 0 0] 45 (0,0)):=by rw[<- jo,<- jz];exact k _ _ _ _ (k _ _ _ _ (n _ _))
 have k11:w13.heap[g10+1]? = some (aK #[aG none 0 0] 103 (0,0)):=by
  rw[<- jo,<- jz];exact k _ _ _ _ (by have:=n (w10.alloc (aK #[aA aM (L.length:Int),aG none 0 0] 45)) (aK #[aG none 0 0] 103);rwa [A8]at this)
 have k12:w13.heap[g10+1+1]? = some (aK #[aA aM (L.length:Int)] 3 (0,0)):=by
  rw[<- jo,<- jz];have:=n ((w10.alloc (aK #[aA aM (L.length:Int),aG none 0 0] 45)).alloc (aK #[aG none 0 0] 103)) (aK #[aA aM (L.length:Int)] 3);rwa [A8,A8]at this
 have ki:Ext w10 w13:=by rw[<- jo];exact Ext.trans (x _ _) (Ext.trans (x _ _) (x _ _))
 have hz13:w13.heap.size=g10+3:=by rw[<- jo,<- jz];simp
 rw[jo];clear jo x n k;have HX13:=A0 ki;refine LK (w0:=w13) rfl (by omega) (gf:=77) (lb:=#[aB (some ⟨g10+1+1,0,none⟩)]) rfl trivial (enters_of Tryz.func77 (by kernel_rfl) rfl)
  (spans_at L.length (g10+1+1) w13 (by omega) (BN k12) (by omega)) (λh k=>h.trans k) (λW l o o' hl _ _ _=>KpB.obj (by omega)) (Z2 _ _) (λ_=>rfl)
  (λpre W=>LI S.rules S.acc L (Ws.map bts) gs g10 pre W/\Below g10 w10 W) (λ_ _ _=>False) (OwnFrom.and (PZ λpre A C hk h=>h.kc hk) (ownFrom_below (by omega) (by omega))) (λ_ _ _ _ _ h=>h.elim)
  ⟨⟨k12,⟨_,k10,Af.nil BG _ _⟩,⟨_,k11,λp i j e=>by simp at e⟩⟩,by rw[<- jz];exact ki⟩
  (λx=>{ tmps:=#[aJ #[aA aM S.modes,aA aO S.acc,aG b S.rules.length cS],aJ #[aG aw Ws.length cw,mv1,mv2,mv3],aG aL L.length cL,aB (some ⟨gs,0,none⟩),aB (some ⟨gs+1,0,none⟩),aB (some ⟨gs+1+1,0,none⟩),aB (some ⟨gs+1+1+1,0,none⟩),aB (some ⟨gs+1+1+1+1,0,none⟩),aB (some ⟨g9,0,none⟩),aA aM 0,aB (some ⟨g10,0,none⟩),aB (some ⟨g10+1,0,none⟩),aA aM (x.1:Int),aA aM (x.2:Int),Z8,Z8,aH false,aJ #[aA aM S.modes,aA aO S.acc,aG b S.rules.length cS],aA aM 0,aH false,Z8,aH false,aJ #[aG aw Ws.length cw,mv1,mv2,mv3],aH true,aH false,Z8,aH false,aG aL L.length cL,aH true,aH false,Z8,.tuple #[aG aD nD cD,aA aM 0],aB (some ⟨gs+1,0,none⟩),aG aw Ws.length cw,.tuple #[aG aD nD cD,aA aM 0],aG aD nD cD,aA aM 0,aA aM 0,aH false,Z8,aG aL L.length cL,aA aM (L.length:Int),aJ #[aA aM (L.length:Int),aG none 0 0],aG aL L.length cL,aA aM (L.length:Int),.func (.func 77) #[] #[aB (some ⟨g10+1+1,0,none⟩)],aA aM (x.1:Int),aA aM (x.2:Int),Z8,Z8,Z8,Z8,Z8,Z8,Z8,Z8,Z8,Z8,Z8,Z8,Z8,Z8,Z8,Z8,Z8,Z8,Z8,Z8,Z8,Z8,Z8,Z8,Z8,Z8,Z8,Z8,Z8,Z8,Z8,Z8,Z8,Z8,Z8,Z8,Z8,Z8,Z8,Z8],defers:=[] }) ?assign ?body ?done ?stop
 case assign =>
  intro l x W K hK
  gi_wp2
  exact hK
 case body
      =>
  rintro l pre ⟨i,j⟩ rest Wr kX ⟨jS,jE⟩;have yf:=IX.1 (show(i,j)∈spn L.length by rw[kX];simp);obtain⟨yf,yh⟩:=yf;obtain⟨bL,oL,km⟩:∃ bL oL,aL=some ⟨bL,oL,none⟩:=by
   cases km:aL with
   | none=>rw[HL.out.ha.2 km]at yh;simp at yh;omega
   | some b2 =>
    obtain⟨b',o',h⟩:=HL.out.ha.1 b2 km;exact⟨b',o',by rw[h]⟩
  subst km;obtain⟨vE,e10,jj⟩:=jS.ed;obtain⟨vN,e11,kb⟩:=jS.en;have e12:=jS.sp;obtain⟨aE,cE,kS, -, -⟩:=jj.form;subst kS;have hwz:g10+1+1<Wr.heap.size:=(A7.1 e12).1;have kM:gs+5<=g10:=by omega
  have blk:∀ q o,q<g10->w10.heap[q]? = some o->Wr.heap[q]? = some o:=λq o hq h=>(jE.block q hq).trans h;have b0:=blk gs _ (by omega) (H0.out w10 jw.out);have b2:=blk (gs+1+1) _ (by omega) (H2.out w10 jw.out);have b9:=blk g9 _ (by omega) (H8.out w10 (Ext.refl _));have k6:Hid (Ext w9 Wr):=Y9 jD.out (jE.mono (by have:=jD.out.size;omega));have k7:Hid (Ext w Wr):=Ext.trans j0.out (Ext.trans kl.out k6.out);have j3:=A0 e10;have jh:=A0 e11;have jB:=A0 e12;have j8:=A0 jj;have yu:=A0 kb;have kk:=A0 jE;have kC:=A0 kX;have k0:=A0 b0;have k1:=A0 b2;have k4:=A0 b9;have j7:Hid ((L.drop i).length=L.length - i):=ZZ;have yc:=HL.out.cap;obtain⟨oI,yj,ko⟩:=JZ bL oL L.length cL i (by omega) yc;have k5:=A0 ko;have ky:Hid (∀ W,Ext Wr W->FF W (some ⟨bL,oI,none⟩) (cL - i) (L.drop i)):=λW hx=>by
   have h:=(HL.out.go (Ext.trans k7.out hx)).sub (o':=oI) (i:=i) (j:=L.length) (by omega) (A5 _) yj
   rwa [AH (by rw[ZZ];exact A5 _)]at h
  clear jS jE e10 e11 e12 jj kb kX blk b0 b2 b9 ko yj yc;have hw1:IntKind.i64.wrap ((i:Int)+1)=(i:Int)+1:=Zq _ (by omega);by_cases yg:j=i+1
  ·subst
      yg
   have yJ:(((i+1:Nat):Int) == (i:Int)+1)=true:=by rw[beq_iff_eq];omega
   gi_wp2_with fail
   refine LM (bn:=true) (by kernel_rfl) (by kernel_rfl) (Vs [vq (aJ #[aA aM S.modes,aA aO S.acc,aG b S.rules.length cS]),vq (aG aD nD cD),vq (aG (some ⟨bL,oL,none⟩) L.length cL),vq (aA aM (i:Int)),vq (aG (some ⟨bL,oI,none⟩) (L.length - i) (cL - i)),EnV S.rules S.acc (L.drop i) (Ws.map bts) Wr (g10+1),λ_ _=>True]) (Xs [Ext,Ext,Ext,Ext,Ext,Ext,(Tq (g10+1))]) (λfL=>(Ko S.rules S.acc (L.drop i) (Ws.map bts) Wr (g10+1)) (fL 6)) [0,0,0,0,12,31,63] 88 7 (by kernel_rfl) rfl ?hVn ?hV ?hS ?hop ?hfin ?hlast
   case hVn=>exact W7 (ks:=[6]) (by kernel_rfl) (by intro k hk;simp at hk;subst hk;intro v w _;trivial)
   case hV =>
    refine Bi (BB (by simp only[AX,ZN,or_false,forall_eq_or_imp,forall_eq];exact⟨Ab _,Ab _,Ab _,Ab _,Ab _,Rr _ _ _ _ _ _,Of (λ_=>True)⟩)) ?_;exact⟨.inl rfl,.inl rfl,.inl rfl,.inl rfl,.inl rfl,.inl rfl,.inr (BU ⟨λ_ _=>λ_ _ _ h _=>h,λ_ _=>λ_ _ _ h _=>h,λ_ _=>λ_ _ _ h _=>h,λ_ _=>λ_ _ _ h _=>h,λ_ _=>λ_ _ _ h _=>h,λ_ _=>Uu,λh=>absurd rfl h,trivial⟩),trivial⟩
   case hS =>
    intro fL hf;show(Ko S.rules S.acc (L.drop i) (Ws.map bts) Wr (g10+1)) (fL 6) _;rw[hf 6 (by decide)]
    first | exact Ext.refl _ | exact Dr _
   case hop =>
    refine⟨?_,?_,?_,?_,?_,?c5,?c6,trivial⟩
    all_goals first | rw[if_neg (by decide)] | rw[if_pos (by decide)]
    case c6 =>
     intro ac W fL jV j2 kn Jx js jc ja jW;have hS:(Ko S.rules S.acc (L.drop i) (Ws.map bts) Wr (g10+1)) (fL 6) W:=js;have jy:fL 6=false:=(by first | exact j2 | exact Jx 6 (by decide) (by decide));rw[jy]at hS
     have jp:Ext Wr W:=hS;obtain⟨d0,d1,d2⟩:=B6 ((Z7 jp gs (by omega)).trans k0.out);have y0:=BN ((Z7 jp g9 (by omega)).trans k4.out);have l0:=BN ((Z7 jp (gs+1+1) (by omega)).trans k1.out);have ko:=k5.out
     try have d57:EnV S.rules S.acc (L.drop i) (Ws.map bts) Wr (g10+1) (ac.tmps.getD 57 Z8) W:=jc 5 (by decide)
     have jd:=(Z7 jp (g10+1) (by omega)).trans jh.out;have c11:=BN jd;have fz:W.frozen? ⟨g10+1,0,none⟩=false:=by simp[Zn,jd]
     have kO:=gdA ac 11 (aB (some ⟨g10+1,0,none⟩)) (ja 11 (by kernel_rfl));have jc:=GC jc;simp[FK,Ae,vq]at jc;clear ja kn Jx jW;obtain⟨W0,kj,⟨gN,LsN,e57,kh⟩,jn⟩:=d57;rw[A6]at e57;refine Ag rfl (.inr ⟨rfl,W.setCell ⟨g10+1,0,none⟩ (aG (some ⟨gN,0,none⟩) ((L.drop i).length+1) ((L.drop i).length+1)),?r1,?r2,?r3,?r4⟩)
     case r2=>trivial
     case r3=>exact Tq.set _ _ _ _
     case r1=>clear jV hS js j2 jp jd kh jc kj jn;simp[go_sem,Zf, *]
     case r4 =>
      show Ko S.rules S.acc (L.drop i) (Ws.map bts) Wr (g10+1) (upd fL 6 6) _;rw[show upd fL 6 6=true from if_pos rfl];exact⟨_,W0,kj,⟨gN,LsN,rfl,kh⟩,jn.trans (Tq.set _ _ _ _),Aj jd rfl⟩
    all_goals refine SF _ _ _ _ _ _ _ ?_
    all_goals try intro ac W fL jV j2 kn Jx js jc ja jW
    all_goals try have hS:(Ko S.rules S.acc (L.drop i) (Ws.map bts) Wr (g10+1)) (fL 6) W:=js
    all_goals try (have jy:fL 6=true:=kn 6 (by decide);rw[jy]at hS)
    all_goals try (have jy:fL 6=false:=(by first | exact j2 | exact Jx 6 (by decide) (by decide));rw[jy]at hS)
    all_goals try (
     have jp:Ext Wr W:=hS;obtain⟨d0,d1,d2⟩:=B6 ((Z7 jp gs (by omega)).trans k0.out);have y0:=BN ((Z7 jp g9 (by omega)).trans k4.out);have l0:=BN ((Z7 jp (gs+1+1) (by omega)).trans k1.out);have ko:=k5.out
     try have d57:EnV S.rules S.acc (L.drop i) (Ws.map bts) Wr (g10+1) (ac.tmps.getD 57 Z8) W:=jc 5 (by decide)
     have jd:=(Z7 jp (g10+1) (by omega)).trans jh.out;have c11:=BN jd;have fz:W.frozen? ⟨g10+1,0,none⟩=false:=by simp[Zn,jd])
    all_goals try have hh3:=gdA ac 3 (aB (some ⟨gs,0,none⟩)) (ja 3 (by kernel_rfl))
    all_goals try have hh8:=gdA ac 8 (aB (some ⟨g9,0,none⟩)) (ja 8 (by kernel_rfl))
    all_goals try have hh5:=gdA ac 5 (aB (some ⟨gs+1+1,0,none⟩)) (ja 5 (by kernel_rfl))
    all_goals try have hh12:=gdA ac 12 (aA aM (i:Int)) (ja 12 (by kernel_rfl))
    all_goals try have kO:=gdA ac 11 (aB (some ⟨g10+1,0,none⟩)) (ja 11 (by kernel_rfl))
    all_goals try have d57:(EnV S.rules S.acc (L.drop i) (Ws.map bts) Wr (g10+1)) (ac.tmps.getD 57 Z8) W:=jc 5 (by decide)
    all_goals try (have jc:=GC jc;simp[FK,Ae,vq]at jc)
    all_goals try clear ja kn Jx jW
    case c5 =>
     have yB:(Ko S.rules S.acc (L.drop i) (Ws.map bts) Wr (g10+1)) ((upd fL 5) 6) W:=js;refine Ag rfl (.inr ⟨44,#[aJ #[aA aM S.modes,aA aO S.acc,aG b S.rules.length cS],aG aD nD cD,aG (some ⟨bL,oI,none⟩) (L.length - i) (cL - i)],W,by(clear jV hS js yB j2 jp jd;simp[go_sem,Zf, *]),?_⟩);have kb:=Vx (HS.out.go (Ext.trans k7.out jp)) (yt.out W (Ext.trans k6.out jp)) jg (ky.out W jp);rw[j7.out]at kb;refine kb.mono ?_;rintro e w' hp;obtain⟨v,rfl,hv,hb⟩:=Vy hp;exact⟨_,rfl,⟨⟨w',Ext.trans jp hb,hv,Tq.of (Ext.refl _)⟩,hb,Ko.ext _ _ _ js hb⟩⟩
    all_goals (refine Ag rfl (.inl ⟨_,W,?_,rfl,Ext.refl _,js⟩);clear jV hS js j2;simp[go_sem,Zf, *];done)
   case hlast =>
    intro h;exact absurd rfl h
   case hfin
        =>
    intro _ ac W jV yd fL hf js hv ja;have hS:(Ko S.rules S.acc (L.drop i) (Ws.map bts) Wr (g10+1)) (fL 6) W:=js;clear js;rw[hf 6 (by decide)]at hS;obtain⟨sx,yK,yl⟩:=B7 [52,53,54,55,56,57] (by kernel_rfl) jV yd ja;rw[yl];simp only[Zp];simp only[ZE,Z5,Za,Z9];clear yl yK hv ja jV yd hf;obtain⟨v57,W0,kW,ka,jn,jN⟩:=hS;obtain⟨W1,jK⟩:∃ W1:Z0,W1=W:=⟨W,rfl⟩
    rw[<- jK]at jn jN ⊢;clear jK;have jd:=(Z7 kW (g10+1) (by omega)).trans jh.out;have jq:Hid (EnS S.rules S.acc (L.drop i) (Ws.map bts) v57 W1):=jn.ends ka jd (by decide) (by decide);have jr:Hid (Tq (g10+1) Wr W1):=(Tq.of kW).trans jn;have jZ:=A0 jN;obtain⟨d,hd⟩:∃ d:Nat,d=1:=⟨_,rfl⟩
    have HJ:Hid (i+1=i+d):=by show _=_;omega
    have yF:d<=L.length - i:=by omega
    clear kW ka jn jN jd;subst hd;obtain⟨gN,LsN,kT,jT⟩:=jq.out;subst kT;obtain⟨aF,cF,lF,yE,kg,jM⟩:=jT.at2 (k:=1) (by have:=j7.out;omega);have kP:∀ W,(ZK 103 (aG (some ⟨gN,0,none⟩) ((L.drop i).length+1) ((L.drop i).length+1)) (aA aM 1)).run Z1 W=.ok (aB (some ⟨gN,1,none⟩)) W:=λW=>KY gN _ _ 1 (by have:=j7.out;omega) W;have kQ:=OT jM.toFU;rw[AQ]at kQ;have kw:=A0 kg;have kv:Hid (lF=J5 S.rules S.acc (L.drop i) (Ws.map bts) 1):=jM.toFU.eqF;have c11:=BN jZ.out;have e12:=jr.out.at (by omega) jB.out;have e10:=jr.out.at (by omega) j3.out;have ji:=A0 e12;have jb:=A0 e10;have jt:Hid (Af BG W1 g10 (aG aE (Fb S.rules S.acc L (Ws.map bts) pre).length cE) (Fb S.rules S.acc L (Ws.map bts) pre)):=jr.out.row j8.out jh.out (by decide);have kx:Hid (Below g10 w10 W1):=kk.out.trans (jr.out.below (by omega) (by omega));have kV:g10+1+1<W1.heap.size:=(A7.1 e12).1;have kJ:gN<W1.heap.size:=jT.own.lt _ rfl;have kG:(Fb S.rules S.acc L (Ws.map bts) pre).length<=210:=OU kC.out yi (by rw[AQ];exact jg);obtain⟨EP,jJ⟩:∃ EP,Fb S.rules S.acc L (Ws.map bts) pre=EP:=⟨_,rfl⟩
    rw[jJ]at jt kG jb;have kp:=A0 jJ;clear kg jM e12 e10 jT jJ
    gi_wp2_with fail
    gi_loopw [65] (λv W2=>∃ (k:Nat) (vE2:Z6),v=aA aM (k:Int)/\k<=lF.length/\W2.heap[g10]? = some (aK #[aA aM (L.length:Int),vE2] 45 (0,0))/\Af BG W2 g10 vE2 (EP ++ FD i (i+1) (lF.take k))/\Rb g10 W1 W2/\KeepsOthers W1 W2) (λv _=>lF.length - (intOf v).toNat)
    case atStart=>exact⟨0,_,rfl,Ze _,jb.out,by simpa[FD] using jt.out,Rb.of (Ext.refl _),KeepsOthers.refl _⟩
    case round =>
     obtain⟨k,vE2,rfl,hk,jx,jf,jU,kf⟩:=hrel;obtain⟨aX,cX,kU, -, -⟩:=jf.form;subst kU;obtain⟨EE,jC⟩:∃ EE,EP ++ FD i (i+1) (lF.take k)=EE:=⟨_,rfl⟩
     have j9:EE.length=EP.length+k:=by rw[<- jC];simp[FD];omega
     rw[jC]at jx jf;have ju:=A0 jf;have jv:=A0 jU;have jG:=A0 kf;have j4:=A0 jx;have j5:=A0 jC;have j6:=A0 j9;have jH:Hid (Af CZ wr 0 (aG aF lF.length cF) lF):=jU.row kw.out jb.out (by decide) (by decide);have kK:g10<wr.heap.size:=(A7.1 jx).1;have x1:wr.cell? ⟨g10,1,none⟩=some (aG aX EE.length cX):=by rw[Z3 _ _ 1 _ _ _ jx];rfl
     clear jf jU kf jx jC;by_cases jQ:k<lF.length
     ·have
         jR:(k:Int)<(lF.length:Int):=by omega
      obtain⟨b1,o1,jL,yD,y0,y1⟩:=jH.out.fnds.1.at jQ;have yI:=QP aF b1 o1 lF.length cF k jL jQ;obtain⟨f1,jO⟩:∃ f1,lF[k].1=f1:=⟨_,rfl⟩
      obtain⟨f2,jP⟩:∃ f2,lF[k].2=f2:=⟨_,rfl⟩
      rw[jO]at y0;rw[jP]at y1;have kq:=A0 jO;have kr:=A0 jP;clear jO jP jL;clear j9
      gi_wp2_with (first
       | (
         gi_at_builtin
         have jl:=Kn (wr.alloc (aK #[aA aM (f1:Int),aA aM (f2:Int)] 75 (0,0))) (aA aM (i:Int)) (aA aM ((i:Int)+1)) (aA aM (f1:Int)) (aA aM (f2:Int)) 62;rw[A8]at jl;have jm:Af BG (wr.alloc (aK #[aA aM (f1:Int),aA aM (f2:Int)] 75 (0,0))) g10 (aG aX EE.length cX) EE:=ju.out.alloc _;refine wpListIn_append_own _ rfl _ _ 43 rfl g10 62 i0 BG.z 4 32 Tryz.underlying43 ye yq yr ys rfl (by decide) _ _ _ rfl (jm.alloc _) ⟨wr.heap.size+1,0,none⟩ 1 1 [aA aM (i:Int),aA aM ((i:Int)+1),aA aM (f1:Int),aA aM (f2:Int)] rfl rfl jl (by simp[Value.oneCell']) (by unfold maxLen;have:=j6.out;omega) (by have:=j6.out;omega) (by simp;omega) ?_;intro v' w3 je ke jA;have jk:Af BG w3 g10 v' (EE ++ [((i:Int),((i:Int)+1:Int),(f1:Int),(f2:Int))]):=by unfold Af;rw[AD,XB];exact je
         obtain⟨g1,c1,rfl⟩:=ownsRow_succ je;obtain⟨h3,q1,q2,q3,q4⟩:=OS ((ZF _ _ _ kK).trans j4.out) jm jk ke;have c3:w3.cell? ⟨g10,1,none⟩=some (aG aX EE.length cX):=by rw[Z3 _ _ 1 _ _ _ h3];rfl
         have z3:w3.frozen? ⟨g10,1,none⟩=false:=by simp[Zn,h3]
         have HR:=A0 (And.intro q1 (And.intro q2 (And.intro q3 q4)));clear q1 q2 q3 q4 h3 ke jA jk je jl jm))
      go_roundw
      case rel =>
       obtain⟨q1,q2,q3,q4⟩:=HR.out;have kD:EP ++ FD i (i+1) (lF.take (k+1))=EE ++ [((i:Int),((i:Int)+1:Int),(f1:Int),(f2:Int))]:=by
        rw[<- j5.out,Zw,AR jQ];unfold FD;rw[XI];simp[kq.out,kr.out]
       have hx:Ext wr (wr.alloc (aK #[aA aM (f1:Int),aA aM (f2:Int)] 75 (0,0))):=(Z2 _ _).alloc (A5 _) _;exact⟨k+1,_,by go_num,by omega,q1,by rw[kD];exact q2,jv.out.trans ((Rb.of hx).trans q3),jG.out.trans ((KeepsOthers.alloc _ _).trans q4)⟩
      case measure=>simp[intOf];omega
     ·have jR:¬ (k:Int)<(lF.length:Int):=by omega
      obtain rfl:k=lF.length:=by omega
      have yH:¬ (20000:Int)<(EE.length:Int):=by omega
      gi_wp2
      have kE:i+1 - i=1:=by have:=HJ.out;omega
      have jI:Fb S.rules S.acc L (Ws.map bts) (pre ++ [(i,i+1)])=EE:=by
       have h1:Fb S.rules S.acc L (Ws.map bts) (pre ++ [(i,i+1)])=Fb S.rules S.acc L (Ws.map bts) pre ++ FD i (i+1) (J5 S.rules S.acc (L.drop i) (Ws.map bts) (i+1 - i)):=by
        unfold Fb;rw[XB,ZA,List.flatMap_nil,Xe]
       rw[h1,kE,<- kv.out,kp.out,<- j5.out,zg]
      have k11:=jv.out.keep _ _ jZ.out (by omega) (λcs f e=>by injection e with _ e;exact absurd e (by decide));have k12:=jv.out.keep _ _ ji.out (by omega) (λcs f e=>by injection e with _ e;exact absurd e (by decide));have kF:KeepsOthers Wr W1:=xC jr.out λq o hq ho=>by
       obtain rfl:g10+1=q:=by injection hq
       rw[jh.out]at ho;injection ho with ho;rw[<- ho];rfl
      refine⟨by first | exact KeepsOthers.from jG.out _ | exact KeepsOthers.from (kF.trans jG.out) _,?_,⟨k12,⟨_,j4.out,by rw[jI];exact ju.out⟩,⟨_,k11,λp i' j' e=>?_⟩⟩,kx.out.trans (jv.out.below (by omega))⟩
      ·unfold KpB;rw[BN k12]
       first | rw[BN ji.out] | rw[BN jB.out]
      ·have h2:=(List.append_inj' e rfl).2;injection h2 with h2;injection h2 with h2 h3;rw[<- h2];exact jv.out.ends jq.out jb.out (by decide) (by decide)
  ·have yJ
        : ((j:Int) == (i:Int)+1)=false:=by rw[beq_eq_false_iff_ne];omega
   obtain⟨pp,yk⟩:=TU kC.out yg;have jq:Hid (EnS S.rules S.acc (L.drop i) (Ws.map bts) vN Wr):=yu.out pp i (j - 1) yk;have jr:Hid (Tq (g10+1) Wr Wr):=Tq.of (Ext.refl _);have jZ:=A0 jh.out;obtain⟨W1,jK⟩:∃ W1:Z0,W1=Wr:=⟨Wr,rfl⟩
   rw[<- jK]at jq jZ;have jr:Hid (Tq (g10+1) Wr W1):=by show Tq _ _ _;rw[jK];exact jr.out
   obtain⟨d,hd⟩:∃ d:Nat,j - i=d:=⟨_,rfl⟩
   have hwd:IntKind.i64.wrap ((j:Int) - (i:Int))=(d:Int):=by rw[Zq _ (by omega)];omega
   have HJ:Hid (j=i+d):=by show _=_;omega
   have yF:d<=L.length - i:=by omega
   rw[<- jK];clear jK hd yk;obtain⟨gN,LsN,kT,jT⟩:=jq.out;subst kT;obtain⟨aF,cF,lF,yE,kg,jM⟩:=jT.at2 (k:=d) (by have:=j7.out;omega);have kP:∀ W,(ZK 103 (aG (some ⟨gN,0,none⟩) ((L.drop i).length+1) ((L.drop i).length+1)) (aA aM (d:Int))).run Z1 W=.ok (aB (some ⟨gN,d,none⟩)) W:=λW=>KY gN _ _ d (by have:=j7.out;omega) W;have kQ:=OT jM.toFU;rw[AQ]at kQ;have kw:=A0 kg;have kv:Hid (lF=J5 S.rules S.acc (L.drop i) (Ws.map bts) d):=jM.toFU.eqF;have c11:=BN jZ.out;have e12:=jr.out.at (by omega) jB.out;have e10:=jr.out.at (by omega) j3.out;have ji:=A0 e12;have jb:=A0 e10;have jt:Hid (Af BG W1 g10 (aG aE (Fb S.rules S.acc L (Ws.map bts) pre).length cE) (Fb S.rules S.acc L (Ws.map bts) pre)):=jr.out.row j8.out jh.out (by decide);have kx:Hid (Below g10 w10 W1):=kk.out.trans (jr.out.below (by omega) (by omega));have kV:g10+1+1<W1.heap.size:=(A7.1 e12).1;have kJ:gN<W1.heap.size:=jT.own.lt _ rfl;have kG:(Fb S.rules S.acc L (Ws.map bts) pre).length<=210:=OU kC.out yi (by rw[AQ];exact jg);obtain⟨EP,jJ⟩:∃ EP,Fb S.rules S.acc L (Ws.map bts) pre=EP:=⟨_,rfl⟩
   rw[jJ]at jt kG jb;have kp:=A0 jJ;clear kg jM e12 e10 jT jJ
   gi_wp2_with fail
   gi_loopw [65] (λv W2=>∃ (k:Nat) (vE2:Z6),v=aA aM (k:Int)/\k<=lF.length/\W2.heap[g10]? = some (aK #[aA aM (L.length:Int),vE2] 45 (0,0))/\Af BG W2 g10 vE2 (EP ++ FD i (j) (lF.take k))/\Rb g10 W1 W2/\KeepsOthers W1 W2) (λv _=>lF.length - (intOf v).toNat)
   case atStart=>exact⟨0,_,rfl,Ze _,jb.out,by simpa[FD] using jt.out,Rb.of (Ext.refl _),KeepsOthers.refl _⟩
   case round =>
    obtain⟨k,vE2,rfl,hk,jx,jf,jU,kf⟩:=hrel;obtain⟨aX,cX,kU, -, -⟩:=jf.form;subst kU;obtain⟨EE,jC⟩:∃ EE,EP ++ FD i (j) (lF.take k)=EE:=⟨_,rfl⟩
    have j9:EE.length=EP.length+k:=by rw[<- jC];simp[FD];omega
    rw[jC]at jx jf;have ju:=A0 jf;have jv:=A0 jU;have jG:=A0 kf;have j4:=A0 jx;have j5:=A0 jC;have j6:=A0 j9;have jH:Hid (Af CZ wr 0 (aG aF lF.length cF) lF):=jU.row kw.out jb.out (by decide) (by decide);have kK:g10<wr.heap.size:=(A7.1 jx).1;have x1:wr.cell? ⟨g10,1,none⟩=some (aG aX EE.length cX):=by rw[Z3 _ _ 1 _ _ _ jx];rfl
    clear jf jU kf jx jC;by_cases jQ:k<lF.length
    ·have
        jR:(k:Int)<(lF.length:Int):=by omega
     obtain⟨b1,o1,jL,yD,y0,y1⟩:=jH.out.fnds.1.at jQ;have yI:=QP aF b1 o1 lF.length cF k jL jQ;obtain⟨f1,jO⟩:∃ f1,lF[k].1=f1:=⟨_,rfl⟩
     obtain⟨f2,jP⟩:∃ f2,lF[k].2=f2:=⟨_,rfl⟩
     rw[jO]at y0;rw[jP]at y1;have kq:=A0 jO;have kr:=A0 jP;clear jO jP jL;clear j9
     gi_wp2_with (first
      | (
        gi_at_builtin
        have jl:=Kn (wr.alloc (aK #[aA aM (f1:Int),aA aM (f2:Int)] 75 (0,0))) (aA aM (i:Int)) (aA aM ((j:Int))) (aA aM (f1:Int)) (aA aM (f2:Int)) 62;rw[A8]at jl;have jm:Af BG (wr.alloc (aK #[aA aM (f1:Int),aA aM (f2:Int)] 75 (0,0))) g10 (aG aX EE.length cX) EE:=ju.out.alloc _;refine wpListIn_append_own _ rfl _ _ 43 rfl g10 62 i0 BG.z 4 32 Tryz.underlying43 ye yq yr ys rfl (by decide) _ _ _ rfl (jm.alloc _) ⟨wr.heap.size+1,0,none⟩ 1 1 [aA aM (i:Int),aA aM ((j:Int)),aA aM (f1:Int),aA aM (f2:Int)] rfl rfl jl (by simp[Value.oneCell']) (by unfold maxLen;have:=j6.out;omega) (by have:=j6.out;omega) (by simp;omega) ?_;intro v' w3 je ke jA;have jk:Af BG w3 g10 v' (EE ++ [((i:Int),((j:Int):Int),(f1:Int),(f2:Int))]):=by unfold Af;rw[AD,XB];exact je
        obtain⟨g1,c1,rfl⟩:=ownsRow_succ je;obtain⟨h3,q1,q2,q3,q4⟩:=OS ((ZF _ _ _ kK).trans j4.out) jm jk ke;have c3:w3.cell? ⟨g10,1,none⟩=some (aG aX EE.length cX):=by rw[Z3 _ _ 1 _ _ _ h3];rfl
        have z3:w3.frozen? ⟨g10,1,none⟩=false:=by simp[Zn,h3]
        have HR:=A0 (And.intro q1 (And.intro q2 (And.intro q3 q4)));clear q1 q2 q3 q4 h3 ke jA jk je jl jm))
     go_roundw
     case rel =>
      obtain⟨q1,q2,q3,q4⟩:=HR.out;have kD:EP ++ FD i (j) (lF.take (k+1))=EE ++ [((i:Int),((j:Int):Int),(f1:Int),(f2:Int))]:=by
       rw[<- j5.out,Zw,AR jQ];unfold FD;rw[XI];simp[kq.out,kr.out]
      have hx:Ext wr (wr.alloc (aK #[aA aM (f1:Int),aA aM (f2:Int)] 75 (0,0))):=(Z2 _ _).alloc (A5 _) _;exact⟨k+1,_,by go_num,by omega,q1,by rw[kD];exact q2,jv.out.trans ((Rb.of hx).trans q3),jG.out.trans ((KeepsOthers.alloc _ _).trans q4)⟩
     case measure=>simp[intOf];omega
    ·have jR:¬ (k:Int)<(lF.length:Int):=by omega
     obtain rfl:k=lF.length:=by omega
     have yH:¬ (20000:Int)<(EE.length:Int):=by omega
     gi_wp2
     have kE:j - i=d:=by have:=HJ.out;omega
     have jI:Fb S.rules S.acc L (Ws.map bts) (pre ++ [(i,j)])=EE:=by
      have h1:Fb S.rules S.acc L (Ws.map bts) (pre ++ [(i,j)])=Fb S.rules S.acc L (Ws.map bts) pre ++ FD i (j) (J5 S.rules S.acc (L.drop i) (Ws.map bts) (j - i)):=by
       unfold Fb;rw[XB,ZA,List.flatMap_nil,Xe]
      rw[h1,kE,<- kv.out,kp.out,<- j5.out,zg]
     have k11:=jv.out.keep _ _ jZ.out (by omega) (λcs f e=>by injection e with _ e;exact absurd e (by decide));have k12:=jv.out.keep _ _ ji.out (by omega) (λcs f e=>by injection e with _ e;exact absurd e (by decide));have kF:KeepsOthers Wr W1:=xC jr.out λq o hq ho=>by
      obtain rfl:g10+1=q:=by injection hq
      rw[jh.out]at ho;injection ho with ho;rw[<- ho];rfl
     refine⟨by first | exact KeepsOthers.from jG.out _ | exact KeepsOthers.from (kF.trans jG.out) _,?_,⟨k12,⟨_,j4.out,by rw[jI];exact ju.out⟩,⟨_,k11,λp i' j' e=>?_⟩⟩,kx.out.trans (jv.out.below (by omega))⟩
     ·unfold KpB;rw[BN k12]
      first | rw[BN ji.out] | rw[BN jB.out]
     ·have h2:=(List.append_inj' e rfl).2;injection h2 with h2;injection h2 with h2 h3;rw[<- h2];exact jv.out.ends jq.out jb.out (by decide) (by decide)
 case done =>
  rintro D W hD ⟨jS,jE⟩ hK;obtain⟨vE,e10,jj⟩:=jS.ed;obtain⟨aE,cE,kS, -, -⟩:=jj.form;subst kS;obtain⟨E,hE⟩:∃ E,Fb S.rules S.acc L (Ws.map bts) (spn L.length)=E:=⟨_,rfl⟩
  have HE:Hid (GA S.rules S.acc L (Ws.map bts)=E):=hE;rw[hE]at jj e10;have jF:Ext w w10:=Ext.trans j0.out jw.out;have kM:gs+5<=g10:=by omega
  have blk:∀ q o,q<g10->w10.heap[q]? = some o->W.heap[q]? = some o:=λq o hq h=>(jE.block q hq).trans h;have b3:W.heap[gs+1+1+1]? = some (aK #[aA aM 0,aG none 0 0] 45 (0,0)):=blk _ _ (by omega) (H3.out w10 jw.out);have b4:W.heap[gs+1+1+1+1]? = some (aK #[aA aM 0] 46 (0,0)):=blk _ _ (by omega) (H4.out w10 jw.out);have x0:W.cell? ⟨g10,0,none⟩=some (aA aM (L.length:Int)):=by rw[Z3 W _ 0 _ _ _ e10];rfl
  have x1:W.cell? ⟨g10,1,none⟩=some (aG aE E.length cE):=by rw[Z3 W _ 1 _ _ _ e10];rfl
  have f3:∀ i,W.frozen? ⟨gs+1+1+1,i,none⟩=false:=λi=>by simp[Zn,b3]
  have f4:∀ i,W.frozen? ⟨gs+1+1+1+1,i,none⟩=false:=λi=>by simp[Zn,b4]
  have c30:W.cell? ⟨gs+1+1+1,0,none⟩=some (aA aM 0):=by rw[Z3 W _ 0 _ _ _ b3];rfl
  have c31:W.cell? ⟨gs+1+1+1,1,none⟩=some (aG none 0 0):=by rw[Z3 W _ 1 _ _ _ b3];rfl
  have c40:=BN b4;have hgw:w.heap.size<=gs:=Nat.le_of_eq yv.out;have kN:w.heap.size<=g10:=by omega
  have j8:=A0 jj;have k2:=A0 b3;have k3:=A0 b4;have HK:=A0 hK;have kk:=A0 jE;have yy:=A0 jF;clear jj b3 b4 hK jE jF blk e10 jS hE
  gi_wp2
  obtain⟨W2,j1⟩:∃ W2,((W.setCell ⟨gs+1+1+1,0,none⟩ (aA aM (L.length:Int))).setCell ⟨gs+1+1+1,1,none⟩ (aG aE E.length cE)).setCell ⟨gs+1+1+1+1,0,none⟩ (aA aM 0)=W2:=⟨_,rfl⟩
  rw[j1];have ku:W2.heap[D]? = some (.deferred (some [])):=by
   rw[<- j1];exact((XR W _ _).trans ((XR _ _ _).trans (XR _ _ _))).same D _ HK.out rfl
  have b32:W2.heap[gs+1+1+1]? = some (aK #[aA aM (L.length:Int),aG aE E.length cE] 45 (0,0)):=by
   rw[<- j1,Zc _ _ _ _ (by show gs+1+1+1≠gs+1+1+1+1;omega)];exact Aj (Aj k2.out rfl) rfl
  have b42:W2.heap[gs+1+1+1+1]? = some (aK #[aA aM 0] 46 (0,0)):=by
   rw[<- j1];exact Aj (by rw[Zc _ _ _ _ (by show gs+1+1+1+1≠gs+1+1+1;omega),Zc _ _ _ _ (by show gs+1+1+1+1≠gs+1+1+1;omega)];exact k3.out) rfl
  have yA:Below w.heap.size w W2:=by
   rw[<- j1];exact(((Y9 yy.out (kk.out.mono (by omega))).setCell (p:=⟨gs+1+1+1,0,none⟩) (by show w.heap.size<=gs+1+1+1;omega) _).setCell (p:=⟨gs+1+1+1,1,none⟩) (by show w.heap.size<=gs+1+1+1;omega) _).setCell (p:=⟨gs+1+1+1+1,0,none⟩) (by show w.heap.size<=gs+1+1+1+1;omega) _
  have own2:Af BG W2 g10 (aG aE E.length cE) E:=j8.out.keep λq hq=>by
   obtain⟨cs,h1⟩:=B3 j8.out hq;have n3:q≠gs+1+1+1:=λe=>by
    rw[e,k2.out]at h1;injection h1 with h1;injection h1 with _ h2;exact absurd h2 (by decide)
   have n4:q≠gs+1+1+1+1:=λe=>by
    rw[e,k3.out]at h1;injection h1 with h1;injection h1 with _ h2;exact absurd h2 (by decide)
   rw[<- j1,Zc _ _ _ _ n4,Zc _ _ _ _ n3,Zc _ _ _ _ n3]
  have own3:Af BG (W2.putObj D (.deferred none)) g10 (aG aE E.length cE) E:=ownsRow_putObj own2 _ ku rfl;have q3:(W2.putObj D (.deferred none)).heap[gs+1+1+1]? = some (aK #[aA aM (L.length:Int),aG aE E.length cE] 45 (0,0)):=(Xu (by omega)).trans b32;have q4:(W2.putObj D (.deferred none)).heap[gs+1+1+1+1]? = some (aK #[aA aM 0] 46 (0,0)):=(Xu (by omega)).trans b42;have r30:(W2.putObj D (.deferred none)).cell? ⟨gs+1+1+1,0,none⟩=some (aA aM (L.length:Int)):=by rw[Z3 _ _ 0 _ _ _ q3];rfl
  have r31:(W2.putObj D (.deferred none)).cell? ⟨gs+1+1+1,1,none⟩=some (aG aE E.length cE):=by rw[Z3 _ _ 1 _ _ _ q3];rfl
  have r40:=BN q4;refine⟨by simp,.inl ⟨_,_,rfl,run_takeDeferred ku,?_⟩⟩;refine⟨.tuple #[aJ #[aA aM (L.length:Int),aG aE E.length cE],aA aM 0],by simp[results,Tryz.f14,go_sem,r30,r31,r40],?_⟩;rw[HE.out];exact⟨_,rfl,own3.mono kN,yA.trans (belowK_b (w:=w) (A5 _) W2 D _ _ (by omega) ku rfl rfl)⟩
 case stop =>
  rintro D c pre W _ _ h _;exact h.elim
attribute [local go_sem] Oper.semAt_some
def Rs (n:Int)(w:Z0)(e:Ending)(w':Z0):Prop:=e=aP (.tuple #[aJ #[aA aM 0,aG none 0 0],aA aM n])/\Ext w w'
def N9 {w w5 W:Z0}{gs:Nat}{m:Int}(ja:Ext w w5)(hgs:w.heap.size=gs)(hx:Ext w5 W)
  (b3:W.heap[gs+1+1+1]? = some (aK #[aA aM 0,aG none 0 0] 45 (0,0))) (b4:W.heap[gs+1+1+1+1]? = some (aK #[aA aM 0] 46 (0,0))) :
  ∃ W2,((W.setCell ⟨gs+1+1+1,0,none⟩ (aA aM 0)).setCell ⟨gs+1+1+1,1,none⟩ (aG none 0 0)).setCell ⟨gs+1+1+1+1,0,none⟩ (aA aM m)=W2/\Ext w W2/\W2.cell? ⟨gs+1+1+1,0,none⟩=some (aA aM 0)/\W2.cell? ⟨gs+1+1+1,1,none⟩=some (aG none 0 0)/\W2.cell? ⟨gs+1+1+1+1,0,none⟩=some (aA aM m):=by
 have b32:(((W.setCell ⟨gs+1+1+1,0,none⟩ (aA aM 0)).setCell ⟨gs+1+1+1,1,none⟩ (aG none 0 0)).setCell ⟨gs+1+1+1+1,0,none⟩ (aA aM m)).heap[gs+1+1+1]? = some (aK #[aA aM 0,aG none 0 0] 45 (0,0)):=by
  rw[Zc _ _ _ _ (by show gs+1+1+1≠gs+1+1+1+1;omega)];exact Aj (Aj b3 rfl) rfl
 have b42:(((W.setCell ⟨gs+1+1+1,0,none⟩ (aA aM 0)).setCell ⟨gs+1+1+1,1,none⟩ (aG none 0 0)).setCell ⟨gs+1+1+1+1,0,none⟩ (aA aM m)).heap[gs+1+1+1+1]? = some (aK #[aA aM m] 46 (0,0)) :=
  Aj (by rw[Zc _ _ _ _ (by show gs+1+1+1+1≠gs+1+1+1;omega),Zc _ _ _ _ (by show gs+1+1+1+1≠gs+1+1+1;omega)];exact b4) rfl
 refine⟨_,rfl,?_,?_,?_,BN b42⟩
 · exact(((Ext.trans ja hx).setCell (p:=⟨gs+1+1+1,0,none⟩) (by show w.heap.size<=gs+1+1+1;omega) _).setCell (p:=⟨gs+1+1+1,1,none⟩) (by show w.heap.size<=gs+1+1+1;omega) _).setCell (p:=⟨gs+1+1+1+1,0,none⟩) (by show w.heap.size<=gs+1+1+1+1;omega) _
 · rw[Z3 _ _ 0 _ _ _ b32];rfl
 · rw[Z3 _ _ 1 _ _ _ b32];rfl
def Kq (S:Sch)(b aw aL:Option Zj)(cS cw cL:Nat)(mv1 mv2 mv3:Z6)(nw nL:Nat)(w:Z0)(hR:BC w b S.rules)(jb:S.rules.length<=cS)(hl64:S.rules.length<=64)(jf:0<=S.acc)(jg:S.acc<=255)(hs:BO S≠0) :
  Zu Z1 14 #[aJ #[aA aM S.modes,aA aO S.acc,aG b S.rules.length cS],aJ #[aG aw nw cw,mv1,mv2,mv3],aG aL nL cL] w (Rs 20 w):=by
 have HR:=A0 hR;have jo:=A0 hs;clear hR hs;refine(callsIn_wide (n:=9)).1 ?_;refine callsIn_of_wp_marks Tryz.func14 rfl trivial ?_ rfl;simp only[Tryz.ntmps14,zm,Zs,X7,Nat.reduceAdd,Nat.reduceSub,zc,zd,zo,XP,ZP,ZG]
 gi_wp2_with fail
 refine⟨trivial,?_⟩;obtain⟨w5,jj,jk,h0,h1,h2,h3,h4,jd⟩:=N8 w (aK #[aA aM S.modes,aA aO S.acc,aG b S.rules.length cS] 33) (aK #[aG aw nw cw,mv1,mv2,mv3] 39) (aK #[aG aL nL cL] 41) (aK #[aA aM 0,aG none 0 0] 45) (aK #[aA aM 0] 46);rw[jj];have je:=A0 jk;have H0:=A0 (An h0);have H1:=A0 (An h1);have H2:=A0 (An h2);have H3:=A0 (An h3);have H4:=A0 (An h4);obtain⟨gs,jc⟩:∃ gs,w.heap.size=gs:=⟨_,rfl⟩
 have jn:=A0 jc;rw[jc]at H0 H1 H2 H3 H4 jd ⊢;have HZ5:=A0 jd;clear jj jk h0 h1 h2 h3 h4 jc jd;have ji:=Fl.sound_any S b cS w5 (HR.out.later je.out (A5 _)) jf jg (by omega) jb (λh=>Hv h jf jg);refine(callsIn_wide.2 ji).mono ?_;clear ji;rintro e w6 ⟨rfl,jh⟩;have ja:Hid (Ext w5 w6):=jh;clear jh;have hne:(BO S == 0)=false:=by rw[beq_eq_false_iff_ne];exact jo.out
 have b3:w6.heap[gs+1+1+1]? = some (aK #[aA aM 0,aG none 0 0] 45 (0,0)):=H3.out w6 ja.out;have b4:w6.heap[gs+1+1+1+1]? = some (aK #[aA aM 0] 46 (0,0)):=H4.out w6 ja.out;have f3:∀ i,w6.frozen? ⟨gs+1+1+1,i,none⟩=false:=λi=>by simp[Zn,b3]
 have f4:∀ i,w6.frozen? ⟨gs+1+1+1+1,i,none⟩=false:=λi=>by simp[Zn,b4]
 have c30:w6.cell? ⟨gs+1+1+1,0,none⟩=some (aA aM 0):=by rw[Z3 w6 _ 0 _ _ _ b3];rfl
 have c31:w6.cell? ⟨gs+1+1+1,1,none⟩=some (aG none 0 0):=by rw[Z3 w6 _ 1 _ _ _ b3];rfl
 have c40:=BN b4;have jl:=A0 b3;have jm:=A0 b4;clear b3 b4
 gi_wp2
 obtain⟨W2,jq,jp,r30,r31,r40⟩:=N9 (m:=20) je.out jn.out ja.out jl.out jm.out;rw[jq];refine⟨.tuple #[aJ #[aA aM 0,aG none 0 0],aA aM 20],by simp[results,Tryz.f14,go_sem,r30,r31,r40],rfl,jp⟩
def NA (S:Sch)(b aw aL:Option Zj)(cS cw cL:Nat)(mv1 mv2 mv3:Z6)(nw nL:Nat)(w:Z0)(hS:G2 w S b cS)(hv:Fl.validB S=true)(hs:BO S=0)
  (hM:∀ W,Ext w W->Zu Z1 40 #[aJ #[aG aw nw cw,mv1,mv2,mv3]] W λe w'=>e=aP (aH false)/\Ext W w') :
  Zu Z1 14 #[aJ #[aA aM S.modes,aA aO S.acc,aG b S.rules.length cS],aJ #[aG aw nw cw,mv1,mv2,mv3],aG aL nL cL] w (Rs 110 w):=by
 have HS:=A0 hS;have HM:=A0 hM;have ja:=Hv hv hS.a0 hS.a1;have jb:=A0 ja;have jq:=A0 hs;have jf:=hS.cap;have hl64:=hS.len;have jt:=hS.a0;have ju:=hS.a1;clear hS hM ja hs;refine(callsIn_wide (n:=9)).1 ?_;refine callsIn_of_wp_marks Tryz.func14 rfl trivial ?_ rfl;simp only[Tryz.ntmps14,zm,Zs,X7,Nat.reduceAdd,Nat.reduceSub,zc,zd,zo,XP,ZP,ZG]
 gi_wp2_with fail
 refine⟨trivial,?_⟩;obtain⟨w5,jk,jl,h0,h1,h2,h3,h4,ji⟩:=N8 w (aK #[aA aM S.modes,aA aO S.acc,aG b S.rules.length cS] 33) (aK #[aG aw nw cw,mv1,mv2,mv3] 39) (aK #[aG aL nL cL] 41) (aK #[aA aM 0,aG none 0 0] 45) (aK #[aA aM 0] 46);rw[jk];have jc:=A0 jl;have H0:=A0 (An h0);have H1:=A0 (An h1);have H2:=A0 (An h2);have H3:=A0 (An h3);have H4:=A0 (An h4);obtain⟨gs,jg⟩:∃ gs,w.heap.size=gs:=⟨_,rfl⟩
 have jp:=A0 jg;rw[jg]at H0 H1 H2 H3 H4 ji ⊢;have HZ5:=A0 ji;clear jk jl h0 h1 h2 h3 h4 jg ji;have jh:=Fl.sound_any S b cS w5 (HS.out.rul.later jc.out (A5 _)) jt ju (by omega) jf (λ_=>jb.out);rw[jq.out]at jh;refine(callsIn_wide.2 jh).mono ?_;clear jh;rintro e w6 ⟨rfl,jj⟩;have jd:Hid (Ext w5 w6):=jj;clear jj;obtain⟨m0,m1,m2,m3⟩:=Av (H1.out w6 jd.out)
 gi_wp2_with fail
 refine⟨trivial,?_⟩;refine(callsIn_wide.2 (HM.out w6 (Ext.trans jc.out jd.out))).mono ?_;rintro e w7 ⟨rfl,jm⟩;have je:Hid (Ext w5 w7):=Ext.trans jd.out jm;clear jm m0 m1 m2 m3;have b3:w7.heap[gs+1+1+1]? = some (aK #[aA aM 0,aG none 0 0] 45 (0,0)):=H3.out w7 je.out;have b4:w7.heap[gs+1+1+1+1]? = some (aK #[aA aM 0] 46 (0,0)):=H4.out w7 je.out;have f3:∀ i,w7.frozen? ⟨gs+1+1+1,i,none⟩=false:=λi=>by simp[Zn,b3]
 have f4:∀ i,w7.frozen? ⟨gs+1+1+1+1,i,none⟩=false:=λi=>by simp[Zn,b4]
 have c30:w7.cell? ⟨gs+1+1+1,0,none⟩=some (aA aM 0):=by rw[Z3 w7 _ 0 _ _ _ b3];rfl
 have c31:w7.cell? ⟨gs+1+1+1,1,none⟩=some (aG none 0 0):=by rw[Z3 w7 _ 1 _ _ _ b3];rfl
 have c40:=BN b4;have jn:=A0 b3;have jo:=A0 b4;clear b3 b4
 gi_wp2
 obtain⟨W2,js,jr,r30,r31,r40⟩:=N9 (m:=110) jc.out jp.out je.out jn.out jo.out;rw[js];refine⟨.tuple #[aJ #[aA aM 0,aG none 0 0],aA aM 110],by simp[results,Tryz.f14,go_sem,r30,r31,r40],rfl,jr⟩
def NB (S:Sch)(b aw aL:Option Zj)(cS cw cL:Nat)(mv1 mv2 mv3:Z6)(nw nL:Nat)(w:Z0)(hS:G2 w S b cS)(hv:Fl.validB S=true)(hs:BO S=0)
  (hM:∀ W,Ext w W->Zu Z1 40 #[aJ #[aG aw nw cw,mv1,mv2,mv3]] W λe w'=>e=aP (aH true)/\Ext W w')
  (jk:∀ W,Ext w W->Zu Z1 41 #[aG aL nL cL] W λe w'=>e=aP (aH false)/\Ext W w') :
  Zu Z1 14 #[aJ #[aA aM S.modes,aA aO S.acc,aG b S.rules.length cS],aJ #[aG aw nw cw,mv1,mv2,mv3],aG aL nL cL] w (Rs 130 w):=by
 have HS:=A0 hS;have HM:=A0 hM;have jt:=A0 jk;have ja:=Hv hv hS.a0 hS.a1;have jc:=A0 ja;have ju:=A0 hs;have jg:=hS.cap;have hl64:=hS.len;have jx:=hS.a0;have jy:=hS.a1;clear hS hM jk ja hs;refine(callsIn_wide (n:=9)).1 ?_;refine callsIn_of_wp_marks Tryz.func14 rfl trivial ?_ rfl;simp only[Tryz.ntmps14,zm,Zs,X7,Nat.reduceAdd,Nat.reduceSub,zc,zd,zo,XP,ZP,ZG]
 gi_wp2_with fail
 refine⟨trivial,?_⟩;obtain⟨w5,jm,jn,h0,h1,h2,h3,h4,jj⟩:=N8 w (aK #[aA aM S.modes,aA aO S.acc,aG b S.rules.length cS] 33) (aK #[aG aw nw cw,mv1,mv2,mv3] 39) (aK #[aG aL nL cL] 41) (aK #[aA aM 0,aG none 0 0] 45) (aK #[aA aM 0] 46);rw[jm];have jb:=A0 jn;have H0:=A0 (An h0);have H1:=A0 (An h1);have H2:=A0 (An h2);have H3:=A0 (An h3);have H4:=A0 (An h4);obtain⟨gs,jh⟩:∃ gs,w.heap.size=gs:=⟨_,rfl⟩
 have js:=A0 jh;rw[jh]at H0 H1 H2 H3 H4 jj ⊢;have HZ5:=A0 jj;clear jm jn h0 h1 h2 h3 h4 jh jj;have ji:=Fl.sound_any S b cS w5 (HS.out.rul.later jb.out (A5 _)) jx jy (by omega) jg (λ_=>jc.out);rw[ju.out]at ji;refine(callsIn_wide.2 ji).mono ?_;clear ji;rintro e w6 ⟨rfl,jl⟩;have jd:Hid (Ext w5 w6):=jl;clear jl;obtain⟨m0,m1,m2,m3⟩:=Av (H1.out w6 jd.out)
 gi_wp2_with fail
 refine⟨trivial,?_⟩;refine(callsIn_wide.2 (HM.out w6 (Ext.trans jb.out jd.out))).mono ?_;rintro e w7 ⟨rfl,jo⟩;have je:Hid (Ext w5 w7):=Ext.trans jd.out jo;clear jo m0 m1 m2 m3;have l0:=BN (H2.out w7 je.out)
 gi_wp2_with fail
 refine⟨trivial,?_⟩;refine(callsIn_wide.2 (jt.out w7 (Ext.trans jb.out je.out))).mono ?_;rintro e w8 ⟨rfl,jp⟩;have jf:Hid (Ext w5 w8):=Ext.trans je.out jp;clear jp l0;have b3:w8.heap[gs+1+1+1]? = some (aK #[aA aM 0,aG none 0 0] 45 (0,0)):=H3.out w8 jf.out;have b4:w8.heap[gs+1+1+1+1]? = some (aK #[aA aM 0] 46 (0,0)):=H4.out w8 jf.out;have f3:∀ i,w8.frozen? ⟨gs+1+1+1,i,none⟩=false:=λi=>by simp[Zn,b3]
 have f4:∀ i,w8.frozen? ⟨gs+1+1+1+1,i,none⟩=false:=λi=>by simp[Zn,b4]
 have c30:w8.cell? ⟨gs+1+1+1,0,none⟩=some (aA aM 0):=by rw[Z3 w8 _ 0 _ _ _ b3];rfl
 have c31:w8.cell? ⟨gs+1+1+1,1,none⟩=some (aG none 0 0):=by rw[Z3 w8 _ 1 _ _ _ b3];rfl
 have c40:=BN b4;have jq:=A0 b3;have jr:=A0 b4;clear b3 b4
 gi_wp2
 obtain⟨W2,jw,jv,r30,r31,r40⟩:=N9 (m:=130) jb.out js.out jf.out jq.out jr.out;rw[jw];refine⟨.tuple #[aJ #[aA aM 0,aG none 0 0],aA aM 130],by simp[results,Tryz.f14,go_sem,r30,r31,r40],rfl,jv⟩
open Go.RowKit Go.WideShapes
section
variable {α:Type} (bf sm:α->Bool) (mg:α->α) (p:α)
def gst (st:List α × Bool)(q:α):List α × Bool:=((if !st.2 && bf q then st.1 ++ [p] else st.1) ++ [if sm q then mg q else q],st.2 || bf q || sm q)
def Ru (st:List α × Bool):List α:=if st.2 then st.1 else st.1 ++ [p]
def EA:List α->List α
 | []=>[p]
 | q :: r=>if bf q then p :: q :: r else if sm q then mg q :: r else q :: EA r
variable {bf sm mg p}
def Kr:∀ (L:List α) (out:List α),(∀ q∈L,sm q=false)->L.foldl (gst bf sm mg p) (out,true)=(out ++ L,true)
 | [],out,_=>by simp
 | q :: r,out,h=>by
  have h1:=h q AB;have e:gst bf sm mg p (out,true) q=(out ++ [q],true):=by simp[gst,h1]
  rw[zQ,e,Kr r _ λx hx=>h x (Zm _ hx)];simp
def gst_ins:∀ (L:List α) (out:List α),L.Pairwise (λq x=>bf q=true\/sm q=true->sm x=false)->(∀ q∈L,bf q=true->sm q=false)->Ru p (L.foldl (gst bf sm mg p) (out,false))=out ++ EA bf sm mg p L
 | [],out,_,_=>by simp[Ru,EA]
 | q
   :: r,out,h,h2=>by
  obtain⟨h3,h4⟩:=AU.1 h;rw[zQ];cases hb:bf q with
  | true =>
   have hs:=h2 q AB hb;have e:gst bf sm mg p (out,false) q=(out ++ [p] ++ [q],true):=by simp[gst,hb,hs]
   rw[e,Kr r _ λx hx=>h3 x hx (.inl hb)];simp[Ru,EA,hb]
  | false =>
   cases hs:sm q with
   | true =>
    have e:gst bf sm mg p (out,false) q=(out ++ [mg q],true):=by simp[gst,hb,hs]
    rw[e,Kr r _ λx hx=>h3 x hx (.inr hs)];simp[Ru,EA,hb,hs]
   | false =>
    have e:gst bf sm mg p (out,false) q=(out ++ [q],false):=by simp[gst,hb,hs]
    rw[e,gst_ins r _ h4 λx hx=>h2 x (Zm _ hx)];simp[EA,hb,hs]
def gins_sorted {R:α->α->Prop}(ht:∀ {a b c},R a b->R b c->R a c)(h1:∀ q,bf q=true->R p q)(h2:∀ q,bf q=false->sm q=false->R q p)(h3:∀ q x,sm q=true->R q x->R (mg q) x)(h4:∀ q x,sm q=true->R x q->R x (mg q)) :
  ∀ {L:List α},L.Pairwise R->(EA bf sm mg p L).Pairwise R/\∀ x,(∀ q∈L,R x q)->R x p->∀ q∈EA bf sm mg p L,R x q
 | [],_=>⟨by simp[EA],λx _ hx q hq=>by simp[EA]at hq;subst hq;exact hx⟩
 | q
   :: r,h=>by
  obtain⟨h5,h6⟩:=AU.1 h;have ih:=gins_sorted (R:=R) ht h1 h2 h3 h4 h6;unfold EA;cases hb:bf q with
  | true =>
   refine⟨AU.2 ⟨λx hx=>?_,h⟩,λx hx hp z hz=>?_⟩
   ·rcases AX.1 hx with rfl | hx
    · exact h1 _ hb
    · exact ht (h1 _ hb) (h5 x hx)
   ·rcases AX.1 hz with rfl | hz
    · exact hp
    · exact hx z hz
  | false =>
   cases hs:sm q with
   | true =>
    refine⟨AU.2 ⟨λx hx=>h3 _ _ hs (h5 x hx),h6⟩,λx hx hp z hz=>?_⟩;rcases AX.1 hz with rfl | hz
    · exact h4 _ _ hs (hx _ AB)
    · exact hx z (Zm _ hz)
   | false =>
    refine⟨AU.2 ⟨ih.2 q h5 (h2 _ hb hs),ih.1⟩,λx hx hp z hz=>?_⟩;rcases AX.1 hz with rfl | hz
    · exact hx _ AB
    · exact ih.2 x (λy hy=>hx y (Zm _ hy)) hp z hz
def Ks:∀ (L:List α),(EA bf sm mg p L).length<=L.length+1
 | []=>by simp[EA]
 | q
   :: r=>by
  have:=Ks r;unfold EA;split
  · simp
  ·split
   · simp
   · simp only[Zs];omega
def TW (L:List α):L.length<=(EA bf sm mg p L).length:=by
 induction L with
 | nil=>simp
 | cons q r ih =>
  unfold EA;split
  · simp
  ·split
   · simp
   · simp only[Zs];omega
def Uv (L:List α):EA bf sm mg p L≠[]:=by
 cases L with
 | nil=>simp[EA]
 | cons q r =>
  unfold EA;split
  · simp
  · split <;> simp
def gins_all {P:α->Prop}(hp:P p)(hm:∀ q,P q->P (mg q)):∀ {L:List α},(∀ q∈L,P q)->∀ q∈EA bf sm mg p L,P q
 | [],_,q,hq=>by simp[EA]at hq;subst hq;exact hp
 | x
   :: r,h,q,hq=>by
  unfold EA at hq;split at hq
  ·rcases AX.1 hq with rfl | hq
   · exact hp
   · exact h q hq
  ·split at hq
   ·rcases AX.1 hq with rfl | hq
    · exact hm _ (h _ AB)
    · exact h q (Zm _ hq)
   ·rcases AX.1 hq with rfl | hq
    · exact h _ AB
    · exact gins_all hp hm (λy hy=>h y (Zm _ hy)) q hq
end
def NC {α:Type}{bf sm:α->Bool}{mg:α->α}{p:α}:∀ (L:List α) (st:List α × Bool),(L.foldl (gst bf sm mg p) st).1.length<=st.1.length+2*L.length
 | [],st=>by simp
 | q
   :: r,st=>by
  have h:=NC (bf:=bf) (sm:=sm) (mg:=mg) (p:=p) r (gst bf sm mg p st q);have h2:(gst bf sm mg p st q).1.length<=st.1.length+2:=by
   unfold gst;simp only[AD,AE];split
   · simp
   · omega
  rw[zQ,Zs];omega
def OV {α:Type}{bf sm:α->Bool}{mg:α->α}{p:α}{L:List α}{k:Nat}(hk:k<L.length){st:List α × Bool}(h:(L.take k).foldl (gst bf sm mg p) ([],false)=st):(L.take (k+1)).foldl (gst bf sm mg p) ([],false)=gst bf sm mg p st L[k]:=by
 rw[AR hk,List.foldl_append,h];rfl
def wbf (s q:ByteArray):Bool:=ltS s q
def wsm (s q:ByteArray):Bool:=s.toList == q.toList
def Hz (s:ByteArray)(L:List ByteArray):List ByteArray:=EA (wbf s) (wsm s) id s L
def Pa {s q:ByteArray}(h:ltS s q=true):wsm s q=false:=by
 unfold wsm;rw[beq_eq_false_iff_ne];intro e;have e2:s=q:=by
  rw[ZQ,ZQ]at e;exact bytes_inj e
 rw[e2,UW]at h;cases h
def Pb {s:ByteArray}{L:List ByteArray}(h:L.Pairwise λx y=>ltS x y=true):(Hz s L).Pairwise λx y=>ltS x y=true :=
 (gins_sorted (bf:=wbf s) (sm:=wsm s) (mg:=id) (p:=s) (R:=λx y=>ltS x y=true) (λh1 h2=>Ip h1 h2) (λq h=>h) (λq h1 h2=>UV h1 λe=>by subst e;simp[wsm]at h2) (λq x _ h=>h) (λq x _ h=>h) h).1
def win_fold {s:ByteArray}{L:List ByteArray}(h:L.Pairwise λx y=>ltS x y=true):Ru s (L.foldl (gst (wbf s) (wsm s) id s) ([],false))=Hz s L:=by
 refine(gst_ins (bf:=wbf s) (sm:=wsm s) (mg:=id) (p:=s) L [] (h.imp λ{q x} ja hq=>?_) λq _ hq=>Pa hq).trans (ZP _)
 ·rcases hq with hq | hq
  · exact Pa (Ip hq ja)
  ·have e:s=q:=by
    have e:=eq_of_beq hq;rw[ZQ,ZQ]at e;exact bytes_inj e
   rw[e];exact Pa ja
abbrev Prs:=Int × Int × Int
def DP (a b:Prs):Bool:=decide (a.1<b.1) || (decide (a.1=b.1) && decide (a.2.1<b.2.1))
def pbf (p q:Prs):Bool:=DP p q
def psm (p q:Prs):Bool:=decide (q.1=p.1) && decide (q.2.1=p.2.1)
def pmg (p q:Prs):Prs:=(q.1,q.2.1,q.2.2+p.2.2)
def Gt (p:Prs)(L:List Prs):List Prs:=EA (pbf p) (psm p) (pmg p) p L
def Bk:List Prs->Int
 | []=>0
 | q :: r=>q.2.2+Bk r
def OW (p:Prs):∀ L:List Prs,Bk (Gt p L)=Bk L+p.2.2
 | []=>by simp[Gt,EA,Bk]
 | q
   :: r=>by
  have ih:=OW p r;unfold Gt at ih ⊢;unfold EA;split
  · simp[Bk];omega
  ·split
   · simp[Bk,pmg];omega
   · simp only[Bk,ih];omega
def CQ {a b:Prs}:DP a b=true↔a.1<b.1\/a.1=b.1/\a.2.1<b.2.1:=by simp[DP]
structure GV (n:Nat)(L:List Prs):Prop where
 inc:L.Pairwise λa b=>DP a b=true
 ok:∀ q∈L,0<=q.1/\q.1<(n:Int)/\0<=q.2.1/\q.2.1<(n:Int)/\1<=q.2.2
def GV.nil (n:Nat):GV n []:=⟨.nil,λq hq=>by cases hq⟩
def GV.add {n:Nat}{L:List Prs}{p:Prs}(h:GV n L)(hp:0<=p.1/\p.1<(n:Int)/\0<=p.2.1/\p.2.1<(n:Int)/\1<=p.2.2):GV n (Gt p L):=by
 refine⟨(gins_sorted (bf:=pbf p) (sm:=psm p) (mg:=pmg p) (R:=λa b=>DP a b=true) (λh1 h2=>by rw[CQ]at *;omega) (λq h=>h) (λq h1 h2=>?_) (λq x _ hr=>hr) (λq x _ hr=>hr) h.inc).1,?_⟩
 ·unfold pbf at h1;rw[Bool.eq_false_iff,Ne,CQ]at h1;rw[CQ];simp[psm]at h2;omega
 · exact gins_all (bf:=pbf p) (sm:=psm p) (mg:=pmg p) (P:=λq=>0<=q.1/\q.1<(n:Int)/\0<=q.2.1/\q.2.1<(n:Int)/\1<=q.2.2) hp (λq hq=>by unfold pmg;simp only;omega) h.ok
def TY {p:Prs}{L:List Prs}(h:L.Pairwise λa b=>DP a b=true):Ru p (L.foldl (gst (pbf p) (psm p) (pmg p) p) ([],false))=Gt p L:=by
 refine(gst_ins (bf:=pbf p) (sm:=psm p) (mg:=pmg p) (p:=p) L [] (h.imp λ{q x} ja hq=>?_) λq _ hq=>?_).trans (ZP _)
 ·rw[CQ]at ja;rcases hq with hq | hq
  ·unfold pbf at hq;rw[CQ]at hq;simp only[psm,Xc,decide_eq_false_iff_not];omega
  ·simp only[psm,Zg,decide_eq_true_eq]at hq;simp only[psm,Xc,decide_eq_false_iff_not];omega
 ·unfold pbf at hq;rw[CQ]at hq;simp only[psm,Xc,decide_eq_false_iff_not];omega
def JT:∀ (L:List Prs) (k:Nat),Bk L=Bk (L.take k)+Bk (L.drop k)
 | [],k=>by simp[Bk]
 | q :: r,0=>by simp[Bk]
 | q :: r,k+1=>by
  have:=JT r k;simp only[zG,List.drop_succ_cons,Bk];omega
def G3:∀ {L:List Prs},(∀ q∈L,1<=q.2.2)->0<=Bk L
 | [],_=>by simp[Bk]
 | q :: r,h=>by
  have h1:=h q AB;have h2:=G3 λx hx=>h x (Zm _ hx);simp only[Bk];omega
def FH:List Nat->Nat
 | []=>0
 | c :: r=>c+FH r
def Kt:∀ (L:List Nat) (k:Nat),FH L=FH (L.take k)+FH (L.drop k)
 | [],k=>by simp[FH]
 | q :: r,0=>by simp[FH]
 | q :: r,k+1=>by
  have:=Kt r k;simp only[zG,List.drop_succ_cons,FH];omega
def JA:∀ (L:List Nat) (x:Nat),FH (L ++ [x])=FH L+x
 | [],x=>by simp[FH]
 | q :: r,x=>by
  have:=JA r x;simp only[ZG,FH];omega
structure Ku (Ws:List ByteArray)(cs:List Nat)(ps:List Prs)(bk:Int):Prop where
 dict:Cx Ws
 len:cs.length=Ws.length
 tot:FH cs<=1000000
 prs:GV Ws.length ps
 ptot:Bk ps<=1000000
 plen:ps.length<=1000
 b0:0<=bk
 b1:bk<=1000
def Eu (z:Int):UInt8:=if z % 6=0 then 97 else if z % 6=1 then 98 else if z % 6=2 then 99 else if z % 6=3 then 65 else if z % 6=4 then 66 else 49
def Ja (Z:Nat->Int)(n:Nat):List UInt8:=(Zt n).map λi=>Eu (Z i)
def Rv (Z:Nat->Int)(n:Nat):Ja Z (n+1)=Ja Z n ++ [Eu (Z n)]:=by simp[Ja,z6]
def mwF (Z:Nat->Int)(len:Nat):ByteArray:=if len=0 then⟨#[97]⟩ else⟨(Ja Z (min len 3)).toArray⟩
def letM_ok (z:Int):(!(BD ((Eu z).toNat:Int) == 0))=true:=by
 unfold Eu;split
 · decide
 ·split
  · decide
  ·split
   · decide
   ·split
    · decide
    · split <;> decide
def W9 (Z:Nat->Int)(len:Nat):D4 (mwF Z len)=true/\(mwF Z len).size<=3:=by
 unfold mwF;split
 · decide
 ·rename_i h;have jb:(⟨(Ja Z (min len 3)).toArray⟩:ByteArray).size=min len 3:=by
   show(Ja Z (min len 3)).toArray.size=_;simp[Ja]
  refine⟨?_,by omega⟩;unfold D4 EB He;rw[jb,decide_eq_true (show 1<=min len 3 by omega),decide_eq_true (show min len 3<=20 by omega)];simp only[zC,Zr];intro c hc;have ja:c∈Ja Z (min len 3):=hc;obtain⟨i,_,rfl⟩:=AJ.1 ja;exact letM_ok _
def word11_any (Z:Nat->Int)(a:Option Zj)(len cap:Nat)(w:Z0)(hZ:Bt w a len Z)(hl:len<=9223372036854775807) :
  Zu Z1 36 #[aG a len cap] w λe w'=>e=aP (aI (mwF Z len))/\Ext w w':=by
 have HZ:=A0 hZ;clear hZ
 go_enter Tryz.func36,Tryz.ntmps36
 go_wp2
 go_loopw [4,3] (λi v wr=>∃ (k:Nat) (x:ByteArray),k<=3/\k<=len/\i=aA aM (k:Int)/\v=aI x/\x.data.toList=Ja Z k/\Below w.heap.size w wr) (λi _ _=>3 - (intOf i).toNat)
 case atStart=>exact⟨0,⟨#[]⟩,by omega,Ze _,rfl,rfl,rfl,Z2 _ _⟩
 case round =>
  obtain⟨k,x,hk4,hk,rfl,rfl,hx,hB⟩:=hrel;have HB:=A0 hB;have HX:=A0 hx;have hzB:=hB.size;have hxs:x.size=k:=by
   have:=congrArg List.length hx;simpa[Ja] using this
  clear hB hx;by_cases je:k<len
  ·by_cases h4:k<3
   ·have jf:(k:Int)<3:=by omega
    obtain⟨b,o,ha,hb,h0,z0,z1⟩:=(HZ.out.later HB.out (A5 _)).at je;have hidx:=EV a b o len cap k ha je;have HS:=A0 (Rv Z k);obtain⟨z,hz⟩:∃ z,Z k=z:=⟨_,rfl⟩
    rw[hz]at h0 z0 z1 HS;clear hz ha;have ja:z % 6=0\/z % 6=1\/z % 6=2\/z % 6=3\/z % 6=4\/z % 6=5:=by omega
    rcases ja with hm | hm | hm | hm | hm | hm
    ·have jb:z.tmod 6=0:=(ZJ z0).trans hm;have HL:Hid ((zY ⟨#[97,98,99,65,66,49]⟩ 0 1).data.toList=[Eu z]):=by
      show _=_;have e:Eu z=[97,98,99,65,66,49].getD 0 0:=by unfold Eu;rw[hm];rfl
      rw[e];decide
     go_wp2
     go_quiet (fail)
     go_wp2
     go_roundw
     case rel=>exact⟨k+1,_,by omega,by omega,by go_num,rfl,by rw[HS.out,XF,XQ,HX.out,HL.out],below_drewN HB.out _⟩
     case measure=>simp[intOf];omega
    ·have jb:z.tmod 6=1:=(ZJ z0).trans hm;have HL:Hid ((zY ⟨#[97,98,99,65,66,49]⟩ 1 2).data.toList=[Eu z]):=by
      show _=_;have e:Eu z=[97,98,99,65,66,49].getD 1 0:=by unfold Eu;rw[hm];rfl
      rw[e];decide
     go_wp2
     go_quiet (fail)
     go_wp2
     go_roundw
     case rel=>exact⟨k+1,_,by omega,by omega,by go_num,rfl,by rw[HS.out,XF,XQ,HX.out,HL.out],below_drewN HB.out _⟩
     case measure=>simp[intOf];omega
    ·have jb:z.tmod 6=2:=(ZJ z0).trans hm;have HL:Hid ((zY ⟨#[97,98,99,65,66,49]⟩ 2 3).data.toList=[Eu z]):=by
      show _=_;have e:Eu z=[97,98,99,65,66,49].getD 2 0:=by unfold Eu;rw[hm];rfl
      rw[e];decide
     go_wp2
     go_quiet (fail)
     go_wp2
     go_roundw
     case rel=>exact⟨k+1,_,by omega,by omega,by go_num,rfl,by rw[HS.out,XF,XQ,HX.out,HL.out],below_drewN HB.out _⟩
     case measure=>simp[intOf];omega
    ·have jb:z.tmod 6=3:=(ZJ z0).trans hm;have HL:Hid ((zY ⟨#[97,98,99,65,66,49]⟩ 3 4).data.toList=[Eu z]):=by
      show _=_;have e:Eu z=[97,98,99,65,66,49].getD 3 0:=by unfold Eu;rw[hm];rfl
      rw[e];decide
     go_wp2
     go_quiet (fail)
     go_wp2
     go_roundw
     case rel=>exact⟨k+1,_,by omega,by omega,by go_num,rfl,by rw[HS.out,XF,XQ,HX.out,HL.out],below_drewN HB.out _⟩
     case measure=>simp[intOf];omega
    ·have jb:z.tmod 6=4:=(ZJ z0).trans hm;have HL:Hid ((zY ⟨#[97,98,99,65,66,49]⟩ 4 5).data.toList=[Eu z]):=by
      show _=_;have e:Eu z=[97,98,99,65,66,49].getD 4 0:=by unfold Eu;rw[hm];rfl
      rw[e];decide
     go_wp2
     go_quiet (fail)
     go_wp2
     go_roundw
     case rel=>exact⟨k+1,_,by omega,by omega,by go_num,rfl,by rw[HS.out,XF,XQ,HX.out,HL.out],below_drewN HB.out _⟩
     case measure=>simp[intOf];omega
    ·have jb:z.tmod 6=5:=(ZJ z0).trans hm;have HL:Hid ((zY ⟨#[97,98,99,65,66,49]⟩ 5 6).data.toList=[Eu z]):=by
      show _=_;have e:Eu z=[97,98,99,65,66,49].getD 5 0:=by unfold Eu;rw[hm];rfl
      rw[e];decide
     go_wp2
     go_quiet (fail)
     go_wp2
     go_roundw
     case rel=>exact⟨k+1,_,by omega,by omega,by go_num,rfl,by rw[HS.out,XF,XQ,HX.out,HL.out],below_drewN HB.out _⟩
     case measure=>simp[intOf];omega
   ·have jf:¬ (k:Int)<3:=by omega
    have HR:Hid (mwF Z len=x):=by
     show _=_;have:min len 3=k:=by omega
     rw[mwF,if_neg (by omega),this,<- HX.out]
    have jc:(x.toList == [])=false:=by rw[beq_eq_false_iff_ne,ZQ,HX.out];intro h;have:=congrArg List.length h;simp[Ja]at this;omega
    have jd:x.toList≠[]:=by simpa using jc
    go_wp2;go_ret;exact⟨MT HR.out.symm,HB.out⟩
  ·by_cases h0:k=0
   ·have jg:x=⟨#[]⟩:=bytes_inj (by rw[HX.out,h0];rfl);have HR:Hid (mwF Z len=⟨#[97]⟩):=by show _=_;rw[mwF,if_pos (by omega)]
    subst jg;clear h0;go_wp2;go_ret;exact⟨MT HR.out.symm,HB.out⟩
   ·have HR:Hid (mwF Z len=x):=by
     show _=_;have:min len 3=k:=by omega
     rw[mwF,if_neg (by omega),this,<- HX.out]
    have jc:(x.toList == [])=false:=by rw[beq_eq_false_iff_ne,ZQ,HX.out];intro h;have:=congrArg List.length h;simp[Ja]at this;omega
    have jd:x.toList≠[]:=by simpa using jc
    clear h0;go_wp2;go_ret;exact⟨MT HR.out.symm,HB.out⟩
def TZ (s q:ByteArray)(out:List ByteArray)(d:Bool):gst (wbf s) (wsm s) id s (out,d) q=((if !d && wbf s q then out ++ [s] else out) ++ [q],d || wbf s q || wsm s q):=by unfold gst;simp
def JU {w w':Z0}{v:Z6}{M:List ByteArray}(h:Af Co w' w.heap.size v M)(hM:M≠[])(hb:Below w.heap.size w w'):Q3 M w (aP v) w':=by
 rcases h.blk with⟨_,e⟩ | ⟨g,c,hv,_,_,ja⟩
 · exact absurd e hM
 · subst hv;exact⟨g,0,c,rfl,h.strs.1,ja,hb⟩
def insert11_any (L:List ByteArray)(a:Option Zj)(cap:Nat)(s:ByteArray)(w:Z0)(hR:BZ w a L)(hs:L.Pairwise λx y=>ltS x y=true)(hn:L.length<=1000) :
  Zu Z1 35 #[aG a L.length cap,aI s] w (Q3 (Hz s L) w):=by
 have HR:=A0 hR;have HS:=A0 hs;clear hR hs
 go_enter Tryz.func35,Tryz.ntmps35
 go_wp2_with fail
 have jv:Hid (Af Co (w.alloc (aK #[] 9)) w.heap.size (aG (some ⟨w.heap.size,0,none⟩) 0 0) []):=Af.empty Co (Z4 _ _) (A5 _);have ju:Hid (Ext w (w.alloc (aK #[] 9))):=(Z2 _ _).alloc (A5 _) _
 go_loopg [5,6,7] L.length (λg v5 v6 v7 wr=>∃ (k:Nat) (out:List ByteArray) (d:Bool),v7=aA aM (k:Int)/\v6=aH d/\k<=L.length/\g=L.length - k/\(L.take k).foldl (gst (wbf s) (wsm s) id s) ([],false)=(out,d)/\Af Co wr w.heap.size v5 out/\Ext w wr)
 case atStart=>exact⟨0,[],false,rfl,rfl,Ze _,rfl,rfl,jv.out,ju.out⟩
 case round =>
  clear jv ju;obtain⟨k,out,d,rfl,rfl,hk,jy,jt,js,hb⟩:=hrel;obtain⟨a5,c5,jG, -, -⟩:=js.form;subst jG;have hol:out.length<=2*k:=by
   have h:=NC (bf:=wbf s) (sm:=wsm s) (mg:=id) (p:=s) (L.take k) ([],false);rw[jt,AO,Nat.min_eq_left hk]at h;simp only[X7]at h;omega
  have jw:=A0 jt;have jf:=A0 js;have HB:=A0 hb;have jp:=A0 jy;clear jt js hb jy;by_cases jm:k<L.length
  ·have hltI:(k:Int)<(L.length:Int):=by omega
   obtain⟨b1,o1,ha,hb1,h1⟩:=(HR.out.later HB.out (A5 _)).at jm;have hidx:=DC a b1 o1 L.length cap k ha jm;have HN:=A0 ((OV jm jw.out).trans (TZ s L[k] out d));obtain⟨x,hx⟩:∃ x,L[k]=x:=⟨_,rfl⟩
   rw[hx]at h1 HN;have jD:=A0 hx;have HA:=A0 ha;clear hx ha;obtain⟨r,hr⟩:∃ r,Zz s.toList x.toList=r:=⟨_,rfl⟩
   have jC:Hid (wbf s x=r):=hr;obtain⟨q,hq⟩:∃ q,(s.toList == x.toList)=q:=⟨_,rfl⟩
   have jB:Hid (wsm s x=q):=hq;rw[jC.out,jB.out]at HN;cases d with
   | true =>
    have HE:Hid ((L.take (k+1)).foldl (gst (wbf s) (wsm s) id s) ([],false)=(out ++ [x],true)):=by show _=_;rw[HN.out];simp
    go_wp2_with (at_builtin;go_loud (refine Ah (v:=aG a5 out.length c5) DV rfl _ _ rfl rfl (jf.out.later ((Z2 _ _).alloc (A5 _) _) (A5 _)) ⟨wr.heap.size,0,none⟩ 1 [x] rfl (Ai (Z4 _ _)) (by simp only[AE,AD];omega) (by have:=HB.out.size;simp only[A8];omega) ?_);intro v1 w1 jc ja jh;have jq:=A0 jc;have jn:=A0 ja;clear jc ja jh)
    go_roundg (L.length - (k+1))
    case measure=>have:=jp.out;omega
    case rel=>exact⟨k+1,_,_,by go_num,rfl,by omega,rfl,HE.out,jq.out,Xz (Ext.trans HB.out ((Z2 _ _).alloc (A5 _) _)) jn.out (by have:=HB.out.size;simp only[A8];omega) λq hq=>jf.out.ge q hq⟩
   | false =>
    cases r with
    | true =>
     have HE:Hid ((L.take (k+1)).foldl (gst (wbf s) (wsm s) id s) ([],false)=(out ++ [s] ++ [x],true)):=by show _=_;rw[HN.out];simp
     go_upto_region 7 with(at_builtin;go_loud (refine Ah (v:=aG a5 out.length c5) DV rfl _ _ rfl rfl (jf.out.later ((Z2 _ _).alloc (A5 _) _) (A5 _)) ⟨wr.heap.size,0,none⟩ 1 [s] rfl (Ai (Z4 _ _)) (by simp only[AE,AD];omega) (by have:=HB.out.size;simp only[A8];omega) ?_);intro v2 w2 jd jb ji;have jk:=A0 jd;have jo:=A0 jb;clear jd jb ji)
     obtain⟨a2,c2,jF, -, -⟩:=jk.out.form;subst jF;have jl:Hid (Ext w w2):=Xz (Ext.trans HB.out ((Z2 _ _).alloc (A5 _) _)) jo.out (by have:=HB.out.size;simp only[A8];omega) λq hq=>jf.out.ge q hq;obtain⟨b3,o3,jx,hb3,h3⟩:=(HR.out.later jl.out (A5 _)).at jm;have jE:b3=b1/\o3=o1:=by have h9:=HA.out;rw[jx]at h9;injection h9 with h9;injection h9 with h9 h8;exact⟨h9,h8⟩
     obtain⟨rfl,rfl⟩:=jE;rw[jD.out]at h3;clear jx h1
     go_wp2_with (at_builtin;go_loud (refine Ah (v:=aG a2 (out ++ [s]).length c2) DV rfl _ _ rfl rfl (jk.out.later ((Z2 _ _).alloc (A5 _) _) (A5 _)) ⟨w2.heap.size,0,none⟩ 1 [x] rfl (Ai (Z4 _ _)) (by simp only[AE,AD];omega) (by have:=jl.out.size;simp only[A8];omega) ?_);intro v3 w3 jg je jr;have jA:=A0 jg;have jz:=A0 je;clear jg je jr)
     go_roundg (L.length - (k+1))
     case measure=>have:=jp.out;omega
     case rel=>exact⟨k+1,_,_,by go_num,rfl,by omega,rfl,HE.out,jA.out,Xz (Ext.trans jl.out ((Z2 _ _).alloc (A5 _) _)) jz.out (by have:=jl.out.size;simp only[A8];omega) λq hq=>jk.out.ge q hq⟩
    | false =>
     have HE:Hid ((L.take (k+1)).foldl (gst (wbf s) (wsm s) id s) ([],false)=(out ++ [x],q)):=by show _=_;rw[HN.out];simp
     go_wp2_with (at_builtin;go_loud (refine Ah (v:=aG a5 out.length c5) DV rfl _ _ rfl rfl (jf.out.later ((Z2 _ _).alloc (A5 _) _) (A5 _)) ⟨wr.heap.size,0,none⟩ 1 [x] rfl (Ai (Z4 _ _)) (by simp only[AE,AD];omega) (by have:=HB.out.size;simp only[A8];omega) ?_);intro v1 w1 jc ja jh;have jq:=A0 jc;have jn:=A0 ja;clear jc ja jh)
     go_roundg (L.length - (k+1))
     case measure=>have:=jp.out;omega
     case rel=>exact⟨k+1,_,_,by go_num,rfl,by omega,rfl,HE.out,jq.out,Xz (Ext.trans HB.out ((Z2 _ _).alloc (A5 _) _)) jn.out (by have:=HB.out.size;simp only[A8];omega) λq hq=>jf.out.ge q hq⟩
  ·obtain rfl:k=L.length:=by omega
   have HF:=A0 (win_fold (s:=s) HS.out);have jj:=jw.out;rw[zg]at jj;rw[jj]at HF;clear jj;cases d with
   | true =>
    have HE:Hid (Hz s L=out):=HF.out.symm
    go_wp2_with fail
    go_ret;rw[HE.out];exact JU jf.out (by rw[<- HE.out];exact Uv L) HB.out
   | false =>
    have HE:Hid (Hz s L=out ++ [s]):=HF.out.symm
    go_wp2_with (at_builtin;go_loud (refine Ah (v:=aG a5 out.length c5) DV rfl _ _ rfl rfl (jf.out.later ((Z2 _ _).alloc (A5 _) _) (A5 _)) ⟨wr.heap.size,0,none⟩ 1 [s] rfl (Ai (Z4 _ _)) (by simp only[AE,AD];omega) (by have:=HB.out.size;simp only[A8];omega) ?_);intro v2 w2 jd jb ji;have jk:=A0 jd;have jo:=A0 jb;clear jd jb ji)
    go_ret;rw[HE.out];exact JU jk.out (by simp) (Xz (Ext.trans HB.out ((Z2 _ _).alloc (A5 _) _)) jo.out (by have:=HB.out.size;simp only[A8];omega) λq hq=>jf.out.ge q hq)
def F2:CB Prs:=⟨37,98,3,24,aJ #[aA aM 0,aA aM 0,aA aM 0],λp=>[aA aM p.1,aA aM p.2.1,aA aM p.2.2]⟩
def CH:F2.Ok:=⟨Tryz.underlying37,by kernel_rfl,rfl,by decide,λ_=>rfl,λx u hu=>by
 have h:u=aA aM x.1\/u=aA aM x.2.1\/u=aA aM x.2.2:=by simpa[F2] using hu
 rcases h with rfl | rfl | rfl <;> rfl,by decide⟩
def PrS (w:Z0)(a:Option Zj)(E:List Prs):Prop:=∀ k (hk:k<E.length),∃ b o,a=some ⟨b,o,none⟩/\b<w.heap.size/\w.cell? ⟨b,o+k*3,none⟩=some (aA aM E[k].1)/\w.cell? ⟨b,o+k*3+1,none⟩=some (aA aM E[k].2.1)/\w.cell? ⟨b,o+k*3+2,none⟩=some (aA aM E[k].2.2)
def PrS.go {w w1:Z0}{a:Option Zj}{E:List Prs}(h:PrS w a E)(hx:Ext w w1):PrS w1 a E:=λk hl=>by
 obtain⟨b,o,ha,h1,h2,h3,h4⟩:=h k hl;exact⟨b,o,ha,A9 h1 (XE hx),(Zx hx (p:=⟨b,_,none⟩) h1).trans h2,(Zx hx (p:=⟨b,_,none⟩) h1).trans h3,(Zx hx (p:=⟨b,_,none⟩) h1).trans h4⟩
def PrS.nil (w:Z0)(a:Option Zj):PrS w a []:=λk hk=>absurd hk (Xj k)
def Af.prs {w:Z0}{B:Nat}{a:Option Zj}{n c:Nat}{L:List Prs}(h:Af F2 w B (aG a n c) L):PrS w a L/\n=L.length/\L.length<=c:=by
 obtain⟨a',c',he,hc,_⟩:=h.form;injection he with e1 e2 e3;refine⟨λk hk=>?_,e2,by omega⟩;rcases h.blk with⟨_,rfl⟩ | ⟨g,c2,ja,_,hg,_⟩
 · simp at hk
 ·injection ja with f1 f2 f3;subst f1;refine⟨g,0,rfl,hg,?_,?_,?_⟩
  ·have:=h.cell CH hk (j:=0) (by decide);simpa[F2] using this
  ·have:=h.cell CH hk (j:=1) (by decide);simpa[F2] using this
  ·have:=h.cell CH hk (j:=2) (by decide);simpa[F2] using this
def Pc (a:Option Zj)(b o len cap k:Nat)(ha:a=some ⟨b,o,none⟩)(hk:k<len)(w:Z0) :
  (ZK 37 (aG a len cap) (aA aM (k:Int))).run Z1 w=.ok (aB (some ⟨b,o+k*3,none⟩)) w:=by
 subst ha;have h0:(0:Int)<=(k:Int):=by omega
 have h1:(k:Int)<(len:Int):=by omega
 simp[go_sem,h0,h1]
def prV (p:Prs):Z6:=aJ #[aA aM p.1,aA aM p.2.1,aA aM p.2.2]
def Pd (aw:Option Zj)(nw cw:Nat)(ac:Option Zj)(nc cc:Nat)(ap:Option Zj)(np cp:Nat)(bk:Int):Z6:=aJ #[aG aw nw cw,aG ac nc cc,aG ap np cp,aA aM bk]
def QU {p q:Prs}(h:p.1<q.1\/p.1=q.1/\p.2.1<q.2.1):DP p q=true:=CQ.2 h
def QV {p q:Prs}(h:¬ (p.1<q.1\/p.1=q.1/\p.2.1<q.2.1)):DP p q=false:=by
 cases e:DP p q with
 | true=>exact absurd (CQ.1 e) h
 | false=>rfl
def less11_any (p q:Prs)(w:Z0):Zu Z1 62 #[prV p,prV q] w λe w'=>e=aP (aH (DP p q))/\Ext w w':=by
 obtain⟨p1,p2,p3⟩:=p;obtain⟨q1,q2,q3⟩:=q;unfold prV;have HX:Hid (Ext w ((w.alloc (aK #[aA aM p1,aA aM p2,aA aM p3] 98)).alloc (aK #[aA aM q1,aA aM q2,aA aM q3] 98))):=Ext.trans ((Z2 _ _).alloc (A5 _) _) ((Z2 _ _).alloc (A5 _) _);by_cases h1:p1<q1
 ·have HR:Hid (DP (p1,p2,p3) (q1,q2,q3)=true):=QU (.inl h1)
  go_enter Tryz.func62,Tryz.ntmps62
  go_wp2_with fail
  go_ret;exact⟨Ad HR.out.symm,HX.out⟩
 ·by_cases h2:p1=q1
  ·have ja:(p1 == q1)=true:=by rw[h2];simp
   by_cases h3:p2<q2
   ·have HR:Hid (DP (p1,p2,p3) (q1,q2,q3)=true):=QU (.inr ⟨h2,h3⟩);clear h2
    go_enter Tryz.func62,Tryz.ntmps62
    go_wp2_with fail
    go_ret;exact⟨Ad HR.out.symm,HX.out⟩
   ·have HR:Hid (DP (p1,p2,p3) (q1,q2,q3)=false):=QV (by simp only;omega);clear h2
    go_enter Tryz.func62,Tryz.ntmps62
    go_wp2_with fail
    go_ret;exact⟨Ad HR.out.symm,HX.out⟩
  ·have ja:(p1 == q1)=false:=by rw[beq_eq_false_iff_ne];exact h2
   have HR:Hid (DP (p1,p2,p3) (q1,q2,q3)=false):=QV (by simp only;omega)
   go_enter Tryz.func62,Tryz.ntmps62
   go_wp2_with fail
   go_ret;exact⟨Ad HR.out.symm,HX.out⟩
def Ta (p q:Prs)(out:List Prs)(d:Bool):gst (pbf p) (psm p) (pmg p) p (out,d) q=((if !d && DP p q then out ++ [p] else out) ++ [if psm p q then pmg p q else q],d || DP p q || psm p q):=rfl
def VK {p1 p2 p3 e1 e2 e3:Int}(h1:e1=p1)(h2:e2=p2):psm (p1,p2,p3) (e1,e2,e3)=true:=by simp[psm,h1,h2]
def MH {p1 p2 p3 e1 e2 e3:Int}(h:¬ (e1=p1/\e2=p2)):psm (p1,p2,p3) (e1,e2,e3)=false:=by
 cases e:psm (p1,p2,p3) (e1,e2,e3) with
 | false=>rfl
 | true=>exact absurd (by simpa[psm] using e) h
def PrP (M:List Prs)(w:Z0)(e:Ending)(w':Z0):Prop:=∃ a c,e=aP (aG a M.length c)/\PrS w' a M/\M.length<=c/\Ext w w'
def QW {w w':Z0}{a:Option Zj}{n c:Nat}{M:List Prs}(h:Af F2 w' w.heap.size (aG a n c) M)(hb:Ext w w'):PrP M w (aP (aG a n c)) w':=by
 obtain⟨h1,h2,h3⟩:=h.prs;subst h2;exact⟨a,c,rfl,h1,h3,hb⟩
def add11_any (ps:List Prs)(p:Prs)(aw ac ap:Option Zj)(nw cw nc cc cp:Nat)(bk:Int)(w:Z0)(hP:PrS w ap ps)(hs:ps.Pairwise λa b=>DP a b=true)(hn:ps.length<=1000)(hN:∀ q∈ps,0<=q.2.2/\q.2.2<=1000000000)(Jx:0<=p.2.2)(ka:p.2.2<=1000000000) :
  Zu Z1 37 #[Pd aw nw cw ac nc cc ap ps.length cp bk,prV p] w (PrP (Gt p ps) w):=by
 have HP:=A0 hP;have HS:=A0 hs;have j7:=A0 hN;clear hP hs hN;obtain⟨p1,p2,p3⟩:=p;simp only at Jx ka;unfold Pd prV
 go_enter Tryz.func37,Tryz.ntmps37
 go_upto_region 1 with fail
 obtain⟨wa,jC⟩:∃ wa,w.alloc (aK #[aG aw nw cw,aG ac nc cc,aG ap ps.length cp,aA aM bk] 39)=wa:=⟨_,rfl⟩
 rw[jC];obtain⟨w0,jG⟩:∃ w0,wa.alloc (aK #[aA aM p1,aA aM p2,aA aM p3] 98)=w0:=⟨_,rfl⟩
 rw[jG];have j4:Ext w wa:=by rw[<- jC];exact(Z2 _ _).alloc (A5 _) _
 have jT:Ext wa w0:=by rw[<- jG];exact(Z2 _ _).alloc (A5 _) _
 have hz:wa.heap.size=w.heap.size+1:=by rw[<- jC];simp
 have h1:wa.heap[w.heap.size]? = some (aK #[aG aw nw cw,aG ac nc cc,aG ap ps.length cp,aA aM bk] 39 (0,0)):=by rw[<- jC];exact Z4 _ _
 have h2:w0.heap[w.heap.size+1]? = some (aK #[aA aM p1,aA aM p2,aA aM p3] 98 (0,0)):=by rw[<- hz,<- jG];exact Z4 _ _
 have jA:Hid (Ext w w0):=Ext.trans j4 jT;have HM:Hid (∀ W,Ext w0 W->W.cell? ⟨w.heap.size,2,none⟩=some (aG ap ps.length cp)):=λW hx=>by
  have h3:=(Z7 (Ext.trans jT hx) _ (A7.1 h1).1).trans h1;rw[Z3 W _ 2 _ _ _ h3];rfl
 have HQ:Hid (∀ W,Ext w0 W->W.cell? ⟨w.heap.size+1,0,none⟩=some (aA aM p1)/\W.cell? ⟨w.heap.size+1,1,none⟩=some (aA aM p2)/\W.cell? ⟨w.heap.size+1,2,none⟩=some (aA aM p3)):=λW hx=>by
  have h3:=(Z7 hx _ (A7.1 h2).1).trans h2;refine⟨?_,?_,?_⟩ <;> (rw[Z3 W _ _ _ _ _ h3];rfl)
 obtain⟨gm,jM⟩:∃ gm,w.heap.size=gm:=⟨_,rfl⟩
 have HGM:Hid (gm+1<w0.heap.size):=by
  have:=(A7.1 h2).1;rw[<- jM];exact this
 rw[jM]at HM HQ ⊢;clear jC jG j4 jT hz h1 h2 jM
 go_wp2_with fail
 have jZ:Hid (Af F2 (w0.alloc (aK #[] 98)) w0.heap.size (aG (some ⟨w0.heap.size,0,none⟩) 0 0) []):=Af.empty F2 (Z4 _ _) (A5 _);have jV:Hid (Ext w0 (w0.alloc (aK #[] 98))):=(Z2 _ _).alloc (A5 _) _
 go_loopg [5,6,7] ps.length (λg v5 v6 v7 wr=>∃ (k:Nat) (out:List Prs) (d:Bool),v7=aA aM (k:Int)/\v6=aH d/\k<=ps.length/\g=ps.length - k/\(ps.take k).foldl (gst (pbf (p1,p2,p3)) (psm (p1,p2,p3)) (pmg (p1,p2,p3)) (p1,p2,p3)) ([],false)=(out,d)/\Af F2 wr w0.heap.size v5 out/\Ext w0 wr)
 case atStart=>exact⟨0,[],false,rfl,rfl,Ze _,rfl,rfl,jZ.out,jV.out⟩
 case round =>
  clear jZ jV;obtain⟨k,out,d,rfl,rfl,hk,j1,jS,jR,hb⟩:=hrel;obtain⟨a5,c5,kd, -, -⟩:=jR.form;subst kd;have hol:out.length<=2*k:=by
   have h:=NC (bf:=pbf (p1,p2,p3)) (sm:=psm (p1,p2,p3)) (mg:=pmg (p1,p2,p3)) (p:=(p1,p2,p3)) (ps.take k) ([],false);rw[jS,AO,Nat.min_eq_left hk]at h;simp only[X7]at h;omega
  have j0:=A0 jS;have jz:=A0 jR;have HB:=A0 hb;have jn:=A0 j1;clear jS jR hb j1;have m2:=HM.out wr HB.out;obtain⟨q0,q1,q2⟩:=HQ.out wr HB.out;by_cases jF:k<ps.length
  ·have hltI
        : (k:Int)<(ps.length:Int):=by omega
   obtain⟨b1,o1,ha,hb1,x0,x1,x2⟩:=(HP.out.go (Ext.trans jA.out HB.out)) k jF;have jP:=Pc ap b1 o1 ps.length cp k ha jF;have HN:=A0 ((OV jF j0.out).trans (Ta (p1,p2,p3) ps[k] out d));have j3:=j7.out ps[k] (AI jF);obtain⟨⟨e1,e2,e3⟩,hx⟩:∃ x,ps[k]=x:=⟨_,rfl⟩
   rw[hx]at x0 x1 x2 HN j3;simp only at x0 x1 x2 j3;clear hx ha
   go_upto_region 6 with fail
   obtain⟨wq,jH⟩:∃ wq,wr.alloc (aK #[aA aM e1,aA aM e2,aA aM e3] 98)=wq:=⟨_,rfl⟩
   rw[jH];have jU:Ext wr wq:=by rw[<- jH];exact(Z2 _ _).alloc (A5 _) _
   have bq:wq.heap[wr.heap.size]? = some (aK #[aA aM e1,aA aM e2,aA aM e3] 98 (0,0)):=by rw[<- jH];exact Z4 _ _
   have ju:Hid (Af F2 wq w0.heap.size (aG a5 out.length c5) out):=jz.out.later jU (A5 _);have jQ:∀ q,(Zk a5 out.length c5).ownBlock=some q->q<wr.heap.size:=λq hq=>jz.out.lt q hq;have jO:w0.heap.size<=wr.heap.size:=HB.out.size;obtain⟨gq,j2⟩:∃ gq,wr.heap.size=gq:=⟨_,rfl⟩
   rw[j2]at bq jQ jO ⊢;have jB:gq<wq.heap.size:=(A7.1 bq).1;have jJ:=A0 jQ;have jv:=A0 bq;have jX:=A0 jO;have jI:=A0 jB;have jq:Hid (Ext w0 wq):=Ext.trans HB.out jU;clear jH jU bq jQ jO j2 jB m2 q0 q1 q2 jP x0 x1 x2;cases d with
   | true =>
    have jm:Hid (True):=trivial;have je:Hid (Ext w0 wq):=jq.out;have jf:=jv;have bW:wq.heap[gq]? = some (aK #[aA aM e1,aA aM e2,aA aM e3] 98 (0,0)):=jf.out;have z0:wq.cell? ⟨gq,0,none⟩=some (aA aM e1):=by rw[Z3 _ _ 0 _ _ _ bW];rfl
    have z1:wq.cell? ⟨gq,1,none⟩=some (aA aM e2):=by rw[Z3 _ _ 1 _ _ _ bW];rfl
    have z2:wq.cell? ⟨gq,2,none⟩=some (aA aM e3):=by rw[Z3 _ _ 2 _ _ _ bW];rfl
    have zf:wq.frozen? ⟨gq,2,none⟩=false:=by simp[Zn,bW]
    obtain⟨y0,y1,y2⟩:=HQ.out wq je.out;by_cases h1:e1=p1
    ·by_cases h2:e2=p2
     ·have js:(e1 == p1)=true:=by rw[beq_iff_eq];exact h1
      have jD:(e2 == p2)=true:=by rw[beq_iff_eq];exact h2
      have ji:Hid (psm (p1,p2,p3) (e1,e2,e3)=true):=VK h1 h2;have HE:Hid ((ps.take (k+1)).foldl (gst (pbf (p1,p2,p3)) (psm (p1,p2,p3)) (pmg (p1,p2,p3)) (p1,p2,p3)) ([],false)=(out ++ [(e1,e2,e3+p3)],true)):=by show _=_;rw[HN.out];simp[jm.out,ji.out,pmg]
      have hw:IntKind.i64.wrap (e3+p3)=e3+p3:=Zq _ (by omega);clear h1 h2
      go_upto_region 10 with fail
      obtain⟨wS,jl⟩:∃ wS,wq.setCell ⟨gq,2,none⟩ (aA aM (e3+p3))=wS:=⟨_,rfl⟩
      rw[jl];have bS:wS.heap[gq]? = some (aK #[aA aM e1,aA aM e2,aA aM (e3+p3)] 98 (0,0)):=by rw[<- jl];exact Aj bW rfl
      have jy:Hid (Af F2 wS w0.heap.size (aG a5 (out).length c5) (out)):=ju.out.keep λq hq=>by
       rw[<- jl];exact Zc _ _ _ _ (by have:=jJ.out q hq;show q≠gq;omega)
      have jw:Hid (Ext w0 wS):=by rw[<- jl];exact je.out.setCell (p:=⟨gq,2,none⟩) (by show w0.heap.size<=gq;exact jX.out) _
      have u0:wS.cell? ⟨gq,0,none⟩=some (aA aM e1):=by rw[Z3 _ _ 0 _ _ _ bS];rfl
      have u1:wS.cell? ⟨gq,1,none⟩=some (aA aM e2):=by rw[Z3 _ _ 1 _ _ _ bS];rfl
      have u2:wS.cell? ⟨gq,2,none⟩=some (aA aM (e3+p3)):=by rw[Z3 _ _ 2 _ _ _ bS];rfl
      have jd:Hid (w0.heap.size<=wS.heap.size):=jw.out.size;clear jl bS z0 z1 z2 zf bW y0 y1 y2
      go_wp2_with (at_builtin;go_loud (refine Ah (v:=aG a5 (out).length c5) CH rfl _ _ rfl rfl (jy.out.later ((Z2 _ _).alloc (A5 _) _) (A5 _)) ⟨wS.heap.size,0,none⟩ 1 [(e1,e2,e3+p3)] rfl (Ai (Z4 _ _)) (by simp only[AE,AD];omega) (by have:=jd.out;simp only[A8];omega) ?_);intro v1 w1 jb ja jc;have jh:=A0 jb;have jg:=A0 ja;clear jb ja jc)
      go_roundg (ps.length - (k+1))
      case measure=>have:=jn.out;omega
      case rel=>exact⟨k+1,_,_,by go_num,rfl,by omega,rfl,HE.out,jh.out,Xz (Ext.trans jw.out ((Z2 _ _).alloc (A5 _) _)) jg.out (by have:=(Hid.out jd);simp only[A8];omega) λq hq=>jy.out.ge q hq⟩
     ·have js:(e1 == p1)=true:=by rw[beq_iff_eq];exact h1
      have jD:(e2 == p2)=false:=by rw[beq_eq_false_iff_ne];exact h2
      have ji:Hid (psm (p1,p2,p3) (e1,e2,e3)=false):=MH λh=>h2 h.2;clear h1 h2;have HE:Hid ((ps.take (k+1)).foldl (gst (pbf (p1,p2,p3)) (psm (p1,p2,p3)) (pmg (p1,p2,p3)) (p1,p2,p3)) ([],false)=(out ++ [(e1,e2,e3)],true)):=by show _=_;rw[HN.out];simp[jm.out,ji.out]
      have jd:Hid (w0.heap.size<=wq.heap.size):=je.out.size
      go_wp2_with (at_builtin;go_loud (refine Ah (v:=aG a5 (out).length c5) CH rfl _ _ rfl rfl (ju.out.later ((Z2 _ _).alloc (A5 _) _) (A5 _)) ⟨wq.heap.size,0,none⟩ 1 [(e1,e2,e3)] rfl (Ai (Z4 _ _)) (by simp only[AE,AD];omega) (by have:=jd.out;simp only[A8];omega) ?_);intro v1 w1 jb ja jc;have jh:=A0 jb;have jg:=A0 ja;clear jb ja jc)
      go_roundg (ps.length - (k+1))
      case measure=>have:=jn.out;omega
      case rel=>exact⟨k+1,_,_,by go_num,rfl,by omega,rfl,HE.out,jh.out,Xz (Ext.trans je.out ((Z2 _ _).alloc (A5 _) _)) jg.out (by have:=(Hid.out jd);simp only[A8];omega) λq hq=>ju.out.ge q hq⟩
    ·have js:(e1 == p1)=false:=by rw[beq_eq_false_iff_ne];exact h1
     have ji:Hid (psm (p1,p2,p3) (e1,e2,e3)=false):=MH λh=>h1 h.1;clear h1;have HE:Hid ((ps.take (k+1)).foldl (gst (pbf (p1,p2,p3)) (psm (p1,p2,p3)) (pmg (p1,p2,p3)) (p1,p2,p3)) ([],false)=(out ++ [(e1,e2,e3)],true)):=by show _=_;rw[HN.out];simp[jm.out,ji.out]
     have jd:Hid (w0.heap.size<=wq.heap.size):=je.out.size
     go_wp2_with (at_builtin;go_loud (refine Ah (v:=aG a5 (out).length c5) CH rfl _ _ rfl rfl (ju.out.later ((Z2 _ _).alloc (A5 _) _) (A5 _)) ⟨wq.heap.size,0,none⟩ 1 [(e1,e2,e3)] rfl (Ai (Z4 _ _)) (by simp only[AE,AD];omega) (by have:=jd.out;simp only[A8];omega) ?_);intro v1 w1 jb ja jc;have jh:=A0 jb;have jg:=A0 ja;clear jb ja jc)
     go_roundg (ps.length - (k+1))
     case measure=>have:=jn.out;omega
     case rel=>exact⟨k+1,_,_,by go_num,rfl,by omega,rfl,HE.out,jh.out,Xz (Ext.trans je.out ((Z2 _ _).alloc (A5 _) _)) jg.out (by have:=(Hid.out jd);simp only[A8];omega) λq hq=>ju.out.ge q hq⟩
   | false
       =>
    obtain⟨y0,y1,y2⟩:=HQ.out wq jq.out;have z0:wq.cell? ⟨gq,0,none⟩=some (aA aM e1):=by rw[Z3 _ _ 0 _ _ _ jv.out];rfl
    have z1:wq.cell? ⟨gq,1,none⟩=some (aA aM e2):=by rw[Z3 _ _ 1 _ _ _ jv.out];rfl
    have z2:wq.cell? ⟨gq,2,none⟩=some (aA aM e3):=by rw[Z3 _ _ 2 _ _ _ jv.out];rfl
    go_wp2_with fail
    refine(less11_any (p1,p2,p3) (e1,e2,e3) _).mono ?_;rintro e w8 ⟨rfl,jE⟩;have je:Hid (Ext w0 w8):=Ext.trans jq.out jE;have jf:Hid (w8.heap[gq]? = some (aK #[aA aM e1,aA aM e2,aA aM e3] 98 (0,0))):=(Z7 jE _ jI.out).trans jv.out;have jr:Hid (Af F2 w8 w0.heap.size (aG a5 out.length c5) out):=ju.out.later jE (A5 _);have jN:gq<w8.heap.size:=(A7.1 jf.out).1;clear jE y0 y1 y2 z0 z1 z2;obtain⟨r,hr⟩:∃ r,DP (p1,p2,p3) (e1,e2,e3)=r:=⟨_,rfl⟩
    have jm:=A0 hr;rw[hr];clear hr;cases r with
    | true =>
     have j9:¬ (e1=p1/\e2=p2):=by
      have h:=CQ.1 jm.out;simp only at h;omega
     obtain⟨y0,y1,y2⟩:=HQ.out w8 je.out;have jd:Hid (w0.heap.size<=w8.heap.size):=je.out.size
     go_upto_region 8 with(at_builtin;go_loud (refine Ah (v:=aG a5 out.length c5) CH rfl _ _ rfl rfl (jr.out.later ((Z2 _ _).alloc (A5 _) _) (A5 _)) ⟨w8.heap.size,0,none⟩ 1 [(p1,p2,p3)] rfl (Ai (Z4 _ _)) (by simp only[AE,AD];omega) (by have:=jd.out;simp only[A8];omega) ?_);intro v2 w2 jo jj jK;have jx:=A0 jo;have jW:=A0 jj;clear jo jj jK)
     obtain⟨a2,c2,kb, -, -⟩:=jx.out.form;subst kb;have j5:Hid (Ext w0 w2):=Xz (Ext.trans je.out ((Z2 _ _).alloc (A5 _) _)) jW.out (by have:=jd.out;simp only[A8];omega) λq hq=>jr.out.ge q hq;have j8:Hid (w2.heap[gq]? = some (aK #[aA aM e1,aA aM e2,aA aM e3] 98 (0,0))):=(jW.out.block gq (by simp only[A8];omega) (λe=>by have:=jJ.out gq e.symm;omega)).trans ((ZF _ _ _ jN).trans jf.out);clear y0 y1 y2 je jf jd;have je:=j5;have jf:=j8;have bW:w2.heap[gq]? = some (aK #[aA aM e1,aA aM e2,aA aM e3] 98 (0,0)):=jf.out;have z0:w2.cell? ⟨gq,0,none⟩=some (aA aM e1):=by rw[Z3 _ _ 0 _ _ _ bW];rfl
     have z1:w2.cell? ⟨gq,1,none⟩=some (aA aM e2):=by rw[Z3 _ _ 1 _ _ _ bW];rfl
     have z2:w2.cell? ⟨gq,2,none⟩=some (aA aM e3):=by rw[Z3 _ _ 2 _ _ _ bW];rfl
     have zf:w2.frozen? ⟨gq,2,none⟩=false:=by simp[Zn,bW]
     obtain⟨y0,y1,y2⟩:=HQ.out w2 je.out;by_cases h1:e1=p1
     ·by_cases h2:e2=p2
      · exact absurd ⟨h1,h2⟩ j9
      ·have js:(e1 == p1)=true:=by rw[beq_iff_eq];exact h1
       have jD:(e2 == p2)=false:=by rw[beq_eq_false_iff_ne];exact h2
       have ji:Hid (psm (p1,p2,p3) (e1,e2,e3)=false):=MH λh=>h2 h.2;clear h1 h2;have HE:Hid ((ps.take (k+1)).foldl (gst (pbf (p1,p2,p3)) (psm (p1,p2,p3)) (pmg (p1,p2,p3)) (p1,p2,p3)) ([],false)=(out ++ [(p1,p2,p3)] ++ [(e1,e2,e3)],true)):=by show _=_;rw[HN.out];simp[jm.out,ji.out]
       have jd:Hid (w0.heap.size<=w2.heap.size):=je.out.size
       go_wp2_with (at_builtin;go_loud (refine Ah (v:=aG a2 (out ++ [(p1,p2,p3)]).length c2) CH rfl _ _ rfl rfl (jx.out.later ((Z2 _ _).alloc (A5 _) _) (A5 _)) ⟨w2.heap.size,0,none⟩ 1 [(e1,e2,e3)] rfl (Ai (Z4 _ _)) (by simp only[AE,AD];omega) (by have:=jd.out;simp only[A8];omega) ?_);intro v1 w1 jb ja jc;have jh:=A0 jb;have jg:=A0 ja;clear jb ja jc)
       go_roundg (ps.length - (k+1))
       case measure=>have:=jn.out;omega
       case rel=>exact⟨k+1,_,_,by go_num,rfl,by omega,rfl,HE.out,jh.out,Xz (Ext.trans je.out ((Z2 _ _).alloc (A5 _) _)) jg.out (by have:=(Hid.out jd);simp only[A8];omega) λq hq=>jx.out.ge q hq⟩
     ·have js:(e1 == p1)=false:=by rw[beq_eq_false_iff_ne];exact h1
      have ji:Hid (psm (p1,p2,p3) (e1,e2,e3)=false):=MH λh=>h1 h.1;clear h1;have HE:Hid ((ps.take (k+1)).foldl (gst (pbf (p1,p2,p3)) (psm (p1,p2,p3)) (pmg (p1,p2,p3)) (p1,p2,p3)) ([],false)=(out ++ [(p1,p2,p3)] ++ [(e1,e2,e3)],true)):=by show _=_;rw[HN.out];simp[jm.out,ji.out]
      have jd:Hid (w0.heap.size<=w2.heap.size):=je.out.size
      go_wp2_with (at_builtin;go_loud (refine Ah (v:=aG a2 (out ++ [(p1,p2,p3)]).length c2) CH rfl _ _ rfl rfl (jx.out.later ((Z2 _ _).alloc (A5 _) _) (A5 _)) ⟨w2.heap.size,0,none⟩ 1 [(e1,e2,e3)] rfl (Ai (Z4 _ _)) (by simp only[AE,AD];omega) (by have:=jd.out;simp only[A8];omega) ?_);intro v1 w1 jb ja jc;have jh:=A0 jb;have jg:=A0 ja;clear jb ja jc)
      go_roundg (ps.length - (k+1))
      case measure=>have:=jn.out;omega
      case rel=>exact⟨k+1,_,_,by go_num,rfl,by omega,rfl,HE.out,jh.out,Xz (Ext.trans je.out ((Z2 _ _).alloc (A5 _) _)) jg.out (by have:=(Hid.out jd);simp only[A8];omega) λq hq=>jx.out.ge q hq⟩
    | false
        =>
     have bW:w8.heap[gq]? = some (aK #[aA aM e1,aA aM e2,aA aM e3] 98 (0,0)):=jf.out;have z0:w8.cell? ⟨gq,0,none⟩=some (aA aM e1):=by rw[Z3 _ _ 0 _ _ _ bW];rfl
     have z1:w8.cell? ⟨gq,1,none⟩=some (aA aM e2):=by rw[Z3 _ _ 1 _ _ _ bW];rfl
     have z2:w8.cell? ⟨gq,2,none⟩=some (aA aM e3):=by rw[Z3 _ _ 2 _ _ _ bW];rfl
     have zf:w8.frozen? ⟨gq,2,none⟩=false:=by simp[Zn,bW]
     obtain⟨y0,y1,y2⟩:=HQ.out w8 je.out;by_cases h1:e1=p1
     ·by_cases h2:e2=p2
      ·have js:(e1 == p1)=true:=by rw[beq_iff_eq];exact h1
       have jD:(e2 == p2)=true:=by rw[beq_iff_eq];exact h2
       have ji:Hid (psm (p1,p2,p3) (e1,e2,e3)=true):=VK h1 h2;have HE:Hid ((ps.take (k+1)).foldl (gst (pbf (p1,p2,p3)) (psm (p1,p2,p3)) (pmg (p1,p2,p3)) (p1,p2,p3)) ([],false)=(out ++ [(e1,e2,e3+p3)],true)):=by show _=_;rw[HN.out];simp[jm.out,ji.out,pmg]
       have hw:IntKind.i64.wrap (e3+p3)=e3+p3:=Zq _ (by omega);clear h1 h2
       go_upto_region 10 with fail
       obtain⟨wS,jl⟩:∃ wS,w8.setCell ⟨gq,2,none⟩ (aA aM (e3+p3))=wS:=⟨_,rfl⟩
       rw[jl];have bS:wS.heap[gq]? = some (aK #[aA aM e1,aA aM e2,aA aM (e3+p3)] 98 (0,0)):=by rw[<- jl];exact Aj bW rfl
       have jy:Hid (Af F2 wS w0.heap.size (aG a5 (out).length c5) (out)):=jr.out.keep λq hq=>by
        rw[<- jl];exact Zc _ _ _ _ (by have:=jJ.out q hq;show q≠gq;omega)
       have jw:Hid (Ext w0 wS):=by rw[<- jl];exact je.out.setCell (p:=⟨gq,2,none⟩) (by show w0.heap.size<=gq;exact jX.out) _
       have u0:wS.cell? ⟨gq,0,none⟩=some (aA aM e1):=by rw[Z3 _ _ 0 _ _ _ bS];rfl
       have u1:wS.cell? ⟨gq,1,none⟩=some (aA aM e2):=by rw[Z3 _ _ 1 _ _ _ bS];rfl
       have u2:wS.cell? ⟨gq,2,none⟩=some (aA aM (e3+p3)):=by rw[Z3 _ _ 2 _ _ _ bS];rfl
       have jd:Hid (w0.heap.size<=wS.heap.size):=jw.out.size;clear jl bS z0 z1 z2 zf bW y0 y1 y2
       go_wp2_with (at_builtin;go_loud (refine Ah (v:=aG a5 (out).length c5) CH rfl _ _ rfl rfl (jy.out.later ((Z2 _ _).alloc (A5 _) _) (A5 _)) ⟨wS.heap.size,0,none⟩ 1 [(e1,e2,e3+p3)] rfl (Ai (Z4 _ _)) (by simp only[AE,AD];omega) (by have:=jd.out;simp only[A8];omega) ?_);intro v1 w1 jb ja jc;have jh:=A0 jb;have jg:=A0 ja;clear jb ja jc)
       go_roundg (ps.length - (k+1))
       case measure=>have:=jn.out;omega
       case rel=>exact⟨k+1,_,_,by go_num,rfl,by omega,rfl,HE.out,jh.out,Xz (Ext.trans jw.out ((Z2 _ _).alloc (A5 _) _)) jg.out (by have:=(Hid.out jd);simp only[A8];omega) λq hq=>jy.out.ge q hq⟩
      ·have js:(e1 == p1)=true:=by rw[beq_iff_eq];exact h1
       have jD:(e2 == p2)=false:=by rw[beq_eq_false_iff_ne];exact h2
       have ji:Hid (psm (p1,p2,p3) (e1,e2,e3)=false):=MH λh=>h2 h.2;clear h1 h2;have HE:Hid ((ps.take (k+1)).foldl (gst (pbf (p1,p2,p3)) (psm (p1,p2,p3)) (pmg (p1,p2,p3)) (p1,p2,p3)) ([],false)=(out ++ [(e1,e2,e3)],false)):=by show _=_;rw[HN.out];simp[jm.out,ji.out]
       have jd:Hid (w0.heap.size<=w8.heap.size):=je.out.size
       go_wp2_with (at_builtin;go_loud (refine Ah (v:=aG a5 (out).length c5) CH rfl _ _ rfl rfl (jr.out.later ((Z2 _ _).alloc (A5 _) _) (A5 _)) ⟨w8.heap.size,0,none⟩ 1 [(e1,e2,e3)] rfl (Ai (Z4 _ _)) (by simp only[AE,AD];omega) (by have:=jd.out;simp only[A8];omega) ?_);intro v1 w1 jb ja jc;have jh:=A0 jb;have jg:=A0 ja;clear jb ja jc)
       go_roundg (ps.length - (k+1))
       case measure=>have:=jn.out;omega
       case rel=>exact⟨k+1,_,_,by go_num,rfl,by omega,rfl,HE.out,jh.out,Xz (Ext.trans je.out ((Z2 _ _).alloc (A5 _) _)) jg.out (by have:=(Hid.out jd);simp only[A8];omega) λq hq=>jr.out.ge q hq⟩
     ·have js:(e1 == p1)=false:=by rw[beq_eq_false_iff_ne];exact h1
      have ji:Hid (psm (p1,p2,p3) (e1,e2,e3)=false):=MH λh=>h1 h.1;clear h1;have HE:Hid ((ps.take (k+1)).foldl (gst (pbf (p1,p2,p3)) (psm (p1,p2,p3)) (pmg (p1,p2,p3)) (p1,p2,p3)) ([],false)=(out ++ [(e1,e2,e3)],false)):=by show _=_;rw[HN.out];simp[jm.out,ji.out]
      have jd:Hid (w0.heap.size<=w8.heap.size):=je.out.size
      go_wp2_with (at_builtin;go_loud (refine Ah (v:=aG a5 (out).length c5) CH rfl _ _ rfl rfl (jr.out.later ((Z2 _ _).alloc (A5 _) _) (A5 _)) ⟨w8.heap.size,0,none⟩ 1 [(e1,e2,e3)] rfl (Ai (Z4 _ _)) (by simp only[AE,AD];omega) (by have:=jd.out;simp only[A8];omega) ?_);intro v1 w1 jb ja jc;have jh:=A0 jb;have jg:=A0 ja;clear jb ja jc)
      go_roundg (ps.length - (k+1))
      case measure=>have:=jn.out;omega
      case rel=>exact⟨k+1,_,_,by go_num,rfl,by omega,rfl,HE.out,jh.out,Xz (Ext.trans je.out ((Z2 _ _).alloc (A5 _) _)) jg.out (by have:=(Hid.out jd);simp only[A8];omega) λq hq=>jr.out.ge q hq⟩
  ·obtain rfl:k=ps.length:=by omega
   have HF:=A0 (TY (p:=(p1,p2,p3)) HS.out);have jt:=j0.out;rw[zg]at jt;rw[jt]at HF;clear jt;cases d with
   | true =>
    have HE:Hid (Gt (p1,p2,p3) ps=out):=HF.out.symm
    go_wp2_with fail
    go_ret;rw[HE.out];exact QW (jz.out.mono (XE jA.out)) (Ext.trans jA.out HB.out)
   | false =>
    have HE:Hid (Gt (p1,p2,p3) ps=out ++ [(p1,p2,p3)]):=HF.out.symm
    go_wp2_with (at_builtin;go_loud (refine Ah (v:=aG a5 out.length c5) CH rfl _ _ rfl rfl (jz.out.later ((Z2 _ _).alloc (A5 _) _) (A5 _)) ⟨wr.heap.size,0,none⟩ 1 [(p1,p2,p3)] rfl (Ai (Z4 _ _)) (by simp only[AE,AD];omega) (by have:=HB.out.size;simp only[A8];omega) ?_);intro v3 w3 jp jk jL;have jY:=A0 jp;have j6:=A0 jk;clear jp jk jL)
    obtain⟨a3,c3,kc, -, -⟩:=jY.out.form;subst kc;go_ret;rw[HE.out];exact QW (jY.out.mono (XE jA.out)) (Ext.trans jA.out (Xz (Ext.trans HB.out ((Z2 _ _).alloc (A5 _) _)) j6.out (by have:=HB.out.size;simp only[A8];omega) λq hq=>jz.out.ge q hq))
def vwords_any (L:List ByteArray)(n:Nat)(a:Option Zj)(cap:Nat)(w:Z0)(hR:BZ w a L)(hL:n=L.length)(hn:n<=9223372036854775807) :
  Zu Z1 68 #[aG a n cap] w λe w'=>e=aP (aH (Ee L))/\w=w':=by
 subst hL;have HR:=A0 hR;clear hR;by_cases h1:1<=L.length
 ·have i1
      :
       ¬
        (L.length:Int)<1:=by omega
  by_cases h2:L.length<=200
  ·have i2
       :
        ¬
         (200:Int)<(L.length:Int):=by omega
   go_enter Tryz.func68,Tryz.ntmps68
   go_wp2
   go_loop [15] (λi=>∃ k:Nat,k<=L.length/\i=aA aM k/\F6 L k) (λi=>L.length - (intOf i).toNat)
   case atStart=>exact⟨0,Ze _,rfl,λi _ h=>by omega⟩
   case round =>
    obtain⟨k,hk,rfl,hg⟩:=hrel;have HG:=A0 hg;clear hg;by_cases ja:k<L.length
    ·obtain⟨
         b,o,ha,hb,h0⟩:=HR.out.at ja
     have hidx:=DC a b o L.length cap k ha ja;obtain⟨x,hx⟩:∃ x,L[k]=x:=⟨_,rfl⟩
     have HX:=A0 hx;rw[hx]at h0;clear hx;obtain⟨q,hq⟩:∃ q,D4 x=q:=⟨_,rfl⟩
     have HQ:=A0 hq;clear hq;cases q with
     | false =>
      have HN:Hid (Ee L=false):=Cq λh=>by
       have:=(h.2.2 k ja ja).1;rw[HX.out,HQ.out]at this;cases this
      clear ha
      go_wp2_with (go_at_call 99;refine(Dm _ _).mono ?_;rintro e w' ⟨he,rfl⟩;rw[HQ.out]at he;subst he)
      go_ret;exact⟨Ad HN.out.symm,rfl⟩
     | true =>
      by_cases jf:k=0
      ·have je:¬ (0:Int)<(k:Int):=by omega
       have HS:Hid (F6 L (k+1)):=HG.out.step ja (by rw[HX.out];exact HQ.out) (λh=>by omega);clear ha jf
       go_wp2_with (go_at_call 99;refine(Dm _ _).mono ?_;rintro e w' ⟨he,rfl⟩;rw[HQ.out]at he;subst he)
       go_round
       case rel=>exact⟨k+1,by omega,by go_num,HS.out⟩
       case measure=>simp[intOf];omega
      ·have hj:k - 1<L.length:=by omega
       obtain⟨j,jd⟩:∃ j,k - 1=j:=⟨_,rfl⟩
       obtain⟨b2,o2,jc,hb2,h2⟩:=HR.out.at hj;obtain⟨y,hy⟩:∃ y,L[k - 1]=y:=⟨_,rfl⟩
       have HY:=A0 hy;rw[hy]at h2;rw[jd]at h2 hj;have hidx2:=DC a b2 o2 L.length cap j jc hj;have hw1:IntKind.i64.wrap ((k:Int) - 1)=(j:Int):=by rw[Zq _ (by omega)];omega
       have je:(0:Int)<(k:Int):=by omega
       clear hy ha jc jd;obtain⟨q,hq⟩:∃ q,Zz y.toList x.toList=q:=⟨_,rfl⟩
       have jb:Hid (ltS y x=q):=hq;cases q with
       | true =>
        have HS:Hid (F6 L (k+1)):=HG.out.step ja (by rw[HX.out];exact HQ.out) (λh=>by rw[HY.out,HX.out];exact jb.out)
        go_wp2_with (go_at_call 99;refine(Dm _ _).mono ?_;rintro e w' ⟨he,rfl⟩;rw[HQ.out]at he;subst he)
        go_round
        case rel=>exact⟨k+1,by omega,by go_num,HS.out⟩
        case measure=>simp[intOf];omega
       | false =>
        have HN:Hid (Ee L=false):=Cq λh=>by
         have:=(h.2.2 k ja ja).2 (by omega);rw[HY.out,HX.out,jb.out]at this;cases this
        go_wp2_with (go_at_call 99;refine(Dm _ _).mono ?_;rintro e w' ⟨he,rfl⟩;rw[HQ.out]at he;subst he)
        go_ret;exact⟨Ad HN.out.symm,rfl⟩
    ·have HN:Hid (Ee L=true):=Gb ⟨h1,h2,λi hi _=>HG.out i hi (by omega)⟩;go_wp2;go_ret;exact⟨Ad HN.out.symm,rfl⟩
  ·have i2:(200:Int)<(L.length:Int):=by omega
   have HN:Hid (Ee L=false):=Cq λh=>h2 h.2.1
   go_enter Tryz.func68,Tryz.ntmps68
   go_wp2;go_ret;exact⟨Ad HN.out.symm,rfl⟩
 ·have i1:(L.length:Int)<1:=by omega
  have HN:Hid (Ee L=false):=Cq λh=>h1 h.1
  go_enter Tryz.func68,Tryz.ntmps68
  go_wp2;go_ret;exact⟨Ad HN.out.symm,rfl⟩
def Rw (w:Z0)(a:Option Zj)(cs:List Nat):Prop:=∀ k (hk:k<cs.length),∃ b o,a=some ⟨b,o,none⟩/\b<w.heap.size/\w.cell? ⟨b,o+k,none⟩=some (aA aM (cs[k]:Int))
def Rw.go {w w1:Z0}{a:Option Zj}{cs:List Nat}(h:Rw w a cs)(hx:Ext w w1):Rw w1 a cs:=λk hl=>by
 obtain⟨b,o,ha,h1,h2⟩:=h k hl;exact⟨b,o,ha,A9 h1 (XE hx),(Zx hx (p:=⟨b,_,none⟩) h1).trans h2⟩
def Uw (a:Option Zj)(b o len cap k:Nat)(ha:a=some ⟨b,o,none⟩)(hk:k<len)(w:Z0) :
  (ZK 36 (aG a len cap) (aA aM (k:Int))).run Z1 w=.ok (aB (some ⟨b,o+k,none⟩)) w:=by
 subst ha;have h0:(0:Int)<=(k:Int):=by omega
 have h1:(k:Int)<(len:Int):=by omega
 simp[go_sem,h0,h1]
def Rx {cs:List Nat}{k:Nat}(h:k<cs.length):FH (cs.take (k+1))=FH (cs.take k)+cs[k]:=by
 rw[AR h,JA]
def Ux (cs:List Nat)(k:Nat):FH (cs.take k)<=FH cs:=by
 have:=Kt cs k;omega
def Pe (cs:List Nat)(a:Option Zj)(cap:Nat)(w:Z0)(hC:Rw w a cs)(hl:cs.length<=1000)(ht:FH cs<=1000000) :
  Zu Z1 69 #[aG a cs.length cap,aA aM (cs.length:Int)] w λe w'=>e=aP (aH true)/\w=w':=by
 have HC:=A0 hC;clear hC
 go_enter Tryz.func69,Tryz.ntmps69
 go_wp2
 go_loop [14,5] (λi s=>∃ k:Nat,k<=cs.length/\i=aA aM (k:Int)/\s=aA aM (FH (cs.take k):Int)) (λi s=>cs.length - (intOf i).toNat)
 case atStart=>exact⟨0,Ze _,rfl,rfl⟩
 case round =>
  obtain⟨k,hk,rfl,rfl⟩:=hrel;by_cases ja:k<cs.length
  ·have jb:(k:Int)<(cs.length:Int):=by omega
   obtain⟨b,o,ha,hb,h0⟩:=HC.out k ja;have hidx:=Uw a b o cs.length cap k ha ja;have hT:=Rx ja;have jc:=Ux cs (k+1);obtain⟨x,hx⟩:∃ x,cs[k]=x:=⟨_,rfl⟩
   rw[hx]at h0 hT;obtain⟨s,hs⟩:∃ s,FH (cs.take k)=s:=⟨_,rfl⟩
   rw[hs]at hT ⊢;have HT:=A0 hT;have g0:¬ (x:Int)<0:=by omega
   have g1:IntKind.i64.wrap (1073741824 - (s:Int))=1073741824 - (s:Int):=Zq _ (by omega);have g2:¬ 1073741824 - (s:Int)<(x:Int):=by omega
   have g3:IntKind.i64.wrap ((s:Int)+(x:Int))=(s:Int)+(x:Int):=Zq _ (by omega);clear hx hs hT ha jc;go_wp2
   go_round
   case rel=>exact⟨k+1,by omega,by go_num,by rw[HT.out,Int.natCast_add]⟩
   case measure=>simp[intOf];omega
  ·have jb:¬ (k:Int)<(cs.length:Int):=by omega
   go_wp2;go_ret;exact⟨rfl,rfl⟩
def Kv:∀ (L:List Prs) (x:Prs),Bk (L ++ [x])=Bk L+x.2.2
 | [],x=>by simp[Bk]
 | q :: r,x=>by
  have:=Kv r x;simp only[ZG,Bk];omega
def Kw {ps:List Prs}{k:Nat}(h:k<ps.length):Bk (ps.take (k+1))=Bk (ps.take k)+ps[k].2.2:=by
 rw[AR h,Kv]
def OX {ps:List Prs}{n:Nat}(h:GV n ps)(k:Nat):Bk (ps.take k)<=Bk ps:=by
 have h1:=JT ps k;have h2:=G3 (L:=ps.drop k) λq hq=>(h.ok q (Xf hq)).2.2.2.2;omega
def vpairs_ok (ps:List Prs)(n:Nat)(a:Option Zj)(cap:Nat)(w:Z0)(hP:PrS w a ps)(ho:GV n ps)(ht:Bk ps<=1000000)(hl:ps.length<=1000)(hn:n<=200) :
  Zu Z1 70 #[aG a ps.length cap,aA aM (n:Int)] w λe w'=>e=aP (aH true)/\Ext w w':=by
 have HP:=A0 hP;have HO:=A0 ho;clear hP ho;have hl0:¬ (1000:Int)<(ps.length:Int):=by omega
 go_enter Tryz.func70,Tryz.ntmps70
 go_wp2
 go_loopw [14,5] (λi v wr=>∃ (k:Nat) (s:Int),k<=ps.length/\i=aA aM (k:Int)/\v=aA aM s/\0<=s/\s<=Bk (ps.take k)/\Ext w wr) (λi _ _=>ps.length - (intOf i).toNat)
 case atStart=>exact⟨0,0,Ze _,rfl,rfl,Int.le_refl _,by simp[Bk],Z2 _ _⟩
 case round =>
  obtain⟨k,s,hk,rfl,rfl,hs0,hs1,hb⟩:=hrel;have HB:=A0 hb;clear hb;by_cases jd:k<ps.length
  ·have jm:(k:Int)<(ps.length:Int):=by omega
   obtain⟨b1,o1,ha,hb1,x0,x1,x2⟩:=(HP.out.go HB.out) k jd;have jl:=Pc a b1 o1 ps.length cap k ha jd;have hT:=Kw jd;have hle:=OX HO.out (k+1);obtain⟨k1,k2,k3,k4,k5⟩:=HO.out.ok ps[k] (AI jd);obtain⟨⟨p1,p2,p3⟩,hx⟩:∃ x,ps[k]=x:=⟨_,rfl⟩
   have jr:=A0 hx;rw[hx]at x0 x1 x2 hT k1 k2 k3 k4 k5;simp only at x0 x1 x2 hT k1 k2 k3 k4 k5;have HT:=A0 hT;have g1:¬ p1<0:=by omega
   have g2:¬ (n:Int)<=p1:=by omega
   have g3:¬ p2<0:=by omega
   have g4:¬ (n:Int)<=p2:=by omega
   have g5:¬ p3<1:=by omega
   have g6:IntKind.i64.wrap (1073741824 - s)=1073741824 - s:=Zq _ (by omega);have g7:¬ 1073741824 - s<p3:=by omega
   have g8:IntKind.i64.wrap (s+p3)=s+p3:=Zq _ (by omega);clear hx ha
   go_upto_region 7 with fail
   obtain⟨wq,ji⟩:∃ wq,wr.alloc (aK #[aA aM p1,aA aM p2,aA aM p3] 98)=wq:=⟨_,rfl⟩
   rw[ji];have jf:Ext wr wq:=by rw[<- ji];exact(Z2 _ _).alloc (A5 _) _
   have bwq:wq.heap[wr.heap.size]? = some (aK #[aA aM p1,aA aM p2,aA aM p3] 98 (0,0)):=by rw[<- ji];exact Z4 _ _
   obtain⟨gq,jo⟩:∃ gq,wr.heap.size=gq:=⟨_,rfl⟩
   rw[jo]at bwq ⊢;have jc:=A0 bwq;have zp0:wq.cell? ⟨gq,0,none⟩=some (aA aM p1):=by rw[Z3 _ _ 0 _ _ _ bwq];rfl
   have zp1:wq.cell? ⟨gq,1,none⟩=some (aA aM p2):=by rw[Z3 _ _ 1 _ _ _ bwq];rfl
   have zp2:wq.cell? ⟨gq,2,none⟩=some (aA aM p3):=by rw[Z3 _ _ 2 _ _ _ bwq];rfl
   have jh:=A0 jf;clear ji jf bwq jo jl x0 x1 x2;by_cases jt:k=0
   ·have ju:¬ (0:Int)<(k:Int):=by omega
    clear jt;go_wp2
    go_roundw
    case rel=>exact⟨k+1,s+p3,by omega,by go_num,rfl,by omega,by have:=HT.out;omega,Ext.trans HB.out jh.out⟩
    case measure=>simp[intOf];omega
   ·have ju:(0:Int)<(k:Int):=by omega
    have hj:k - 1<ps.length:=by omega
    obtain⟨b2,o2,jn,hb2,y0,y1,y2⟩:=(HP.out.go (Ext.trans HB.out jh.out)) (k - 1) hj;have jb:=Pc a b2 o2 ps.length cap (k - 1) jn hj;have je:=CQ.1 (List.pairwise_iff_getElem.1 HO.out.inc (k - 1) k hj jd (by omega));rw[jr.out]at je;obtain⟨⟨q1,q2,q3⟩,hy⟩:∃ y,ps[k - 1]=y:=⟨_,rfl⟩
    rw[hy]at je y0 y1 y2;simp only at je y0 y1 y2;obtain⟨j,jq⟩:∃ j,k - 1=j:=⟨_,rfl⟩
    have hwk:IntKind.i64.wrap ((k:Int) - 1)=(j:Int):=by rw[Zq _ (by omega)];omega
    rw[jq]at jb y0 y1 y2;clear hy jn jq hj
    go_upto_region 11 with fail
    obtain⟨wt,jj⟩:∃ wt,wq.alloc (aK #[aA aM q1,aA aM q2,aA aM q3] 98)=wt:=⟨_,rfl⟩
    rw[jj];have jg:Ext wq wt:=by rw[<- jj];exact(Z2 _ _).alloc (A5 _) _
    have bwt:wt.heap[wq.heap.size]? = some (aK #[aA aM q1,aA aM q2,aA aM q3] 98 (0,0)):=by rw[<- jj];exact Z4 _ _
    obtain⟨gt,jp⟩:∃ gt,wq.heap.size=gt:=⟨_,rfl⟩
    rw[jp]at bwt ⊢;have HBwt:=A0 bwt;have zq0:wt.cell? ⟨gt,0,none⟩=some (aA aM q1):=by rw[Z3 _ _ 0 _ _ _ bwt];rfl
    have zq1:wt.cell? ⟨gt,1,none⟩=some (aA aM q2):=by rw[Z3 _ _ 1 _ _ _ bwt];rfl
    have zq2:wt.cell? ⟨gt,2,none⟩=some (aA aM q3):=by rw[Z3 _ _ 2 _ _ _ bwt];rfl
    have jk:Hid (Ext wq wt):=jg;have ja:=(Z7 jk.out _ (A7.1 jc.out).1).trans jc.out;clear zp0 zp1 zp2;have zp0:wt.cell? ⟨gq,0,none⟩=some (aA aM p1):=by rw[Z3 _ _ 0 _ _ _ ja];rfl
    have zp1:wt.cell? ⟨gq,1,none⟩=some (aA aM p2):=by rw[Z3 _ _ 1 _ _ _ ja];rfl
    have zp2:wt.cell? ⟨gq,2,none⟩=some (aA aM p3):=by rw[Z3 _ _ 2 _ _ _ ja];rfl
    have n1:¬ p1<q1:=by omega
    clear jj jg bwt jp jb y0 y1 y2 ja;by_cases he:p1=q1
    ·have js:(p1 == q1)=true:=by rw[beq_iff_eq];exact he
     have jv:(p1 != q1)=false:=by rw[he];simp
     have n2:¬ p2<=q2:=by omega
     clear je he;go_wp2
     go_roundw
     case rel=>exact⟨k+1,s+p3,by omega,by go_num,rfl,by omega,by have:=HT.out;omega,Ext.trans HB.out (Ext.trans jh.out jk.out)⟩
     case measure=>simp[intOf];omega
    ·have js:(p1 == q1)=false:=by rw[beq_eq_false_iff_ne];exact he
     have jv:(p1 != q1)=true:=by rw[bne_iff_ne];exact he
     have hT0:0<=Bk (ps.take k):=by omega
     have w0:IntKind.i64.wrap (0+p3)=p3:=by rw[Int.zero_add];exact Zq _ (by omega)
     have w1:¬ (1073741824:Int)<p3:=by omega
     clear je he;go_wp2
     go_roundw
     case rel=>exact⟨k+1,p3,by omega,by go_num,rfl,by omega,by have:=HT.out;omega,Ext.trans HB.out (Ext.trans jh.out jk.out)⟩
     case measure=>simp[intOf];omega
  ·have jm:¬ (k:Int)<(ps.length:Int):=by omega
   go_wp2;go_ret;exact⟨rfl,HB.out⟩
structure Kx (w:Z0)(aw ac ap:Option Zj)(cw cc cp:Nat)(Ws:List ByteArray)(cs:List Nat)(ps:List Prs)(bk:Int):Prop where
 ws:BZ w aw Ws
 wc:Ws.length<=cw
 ct:Rw w ac cs
 pr:PrS w ap ps
def Kx.go {w w1:Z0}{aw ac ap:Option Zj}{cw cc cp:Nat}{Ws:List ByteArray}{cs:List Nat}{ps:List Prs}{bk:Int}(h:Kx w aw ac ap cw cc cp Ws cs ps bk)(hx:Ext w w1):Kx w1 aw ac ap cw cc cp Ws cs ps bk :=
 ⟨h.ws.later hx (A5 _),h.wc,h.ct.go hx,h.pr.go hx⟩
def JB (aw ac ap:Option Zj)(cw cc cp:Nat)(Ws:List ByteArray)(cs:List Nat)(ps:List Prs)(bk:Int)(w:Z0)(hM:Kx w aw ac ap cw cc cp Ws cs ps bk)(hO:Ku Ws cs ps bk) :
  Zu Z1 40 #[Pd aw Ws.length cw ac cs.length cc ap ps.length cp bk] w λe w'=>e=aP (aH true)/\Ext w w':=by
 have HM:=A0 hM;have HO:=A0 hO;have b0:(0:Int)<=bk:=hO.b0;have b1:bk<=(1000:Int):=hO.b1;have jb:Hid (Ws.length<=200):=hO.dict.2.1;have je:Hid (cs.length=Ws.length):=hO.len;clear hM hO;unfold Pd
 go_enter Tryz.func40,Tryz.ntmps40
 go_upto_region 1 with fail
 obtain⟨wb,ja⟩:∃ wb,w.alloc (aK #[aG aw Ws.length cw,aG ac cs.length cc,aG ap ps.length cp,aA aM bk] 39)=wb:=⟨_,rfl⟩
 rw[ja];have jf:Ext w wb:=by rw[<- ja];exact(Z2 _ _).alloc (A5 _) _
 have bb:wb.heap[w.heap.size]? = some (aK #[aG aw Ws.length cw,aG ac cs.length cc,aG ap ps.length cp,aA aM bk] 39 (0,0)):=by rw[<- ja];exact Z4 _ _
 obtain⟨g,hg⟩:∃ g,w.heap.size=g:=⟨_,rfl⟩
 rw[hg]at bb ⊢;have m0:wb.cell? ⟨g,0,none⟩=some (aG aw Ws.length cw):=by rw[Z3 _ _ 0 _ _ _ bb];rfl
 have m1:wb.cell? ⟨g,1,none⟩=some (aG ac cs.length cc):=by rw[Z3 _ _ 1 _ _ _ bb];rfl
 have m2:wb.cell? ⟨g,2,none⟩=some (aG ap ps.length cp):=by rw[Z3 _ _ 2 _ _ _ bb];rfl
 have m3:wb.cell? ⟨g,3,none⟩=some (aA aM bk):=by rw[Z3 _ _ 3 _ _ _ bb];rfl
 have HX:=A0 jf;have jd:=A0 bb;clear ja jf bb hg
 go_wp2_with fail
 refine(vwords_any Ws Ws.length aw cw _ (HM.out.go HX.out).ws rfl (by have:=jb.out;omega)).mono ?_;rintro e w' ⟨rfl,rfl⟩;rw[Gb HO.out.dict]
 go_wp2_with fail
 have jc:=Pe cs ac cc wb (HM.out.go HX.out).ct (by have:=jb.out;have:=je.out;omega) HO.out.tot;rw[je.out]at jc ⊢;refine jc.mono ?_;clear jc;rintro e w' ⟨rfl,rfl⟩
 go_wp2_with fail
 refine(vpairs_ok ps Ws.length ap cp _ (HM.out.go HX.out).pr HO.out.prs HO.out.ptot HO.out.plen jb.out).mono ?_;rintro e w' ⟨rfl,hb⟩;have jg:Hid (Ext wb w'):=hb;have jh:=A0 ((Z7 hb _ (A7.1 jd.out).1).trans jd.out);have m3':w'.cell? ⟨g,3,none⟩=some (aA aM bk):=by rw[Z3 _ _ 3 _ _ _ jh.out];rfl
 clear hb m0 m1 m2 m3
 go_wp2_with fail
 go_ret;exact⟨Ad (by simp[b0,b1]),Ext.trans HX.out jg.out⟩
open Go.RowKit Go.WideShapes Fl
def CO (x y:Int):Int:=if x<y then -1 else if y<x then 1 else 0
def ND (x:Int)(w:Z0):Zu Z1 112 #[aA aM x] w λe w'=>e=aP (aH false)/\w=w':=by
 have h:(x != x)=false:=by simp
 go_enter Tryz.func112,Tryz.ntmps112
 go_wp2_with fail
 go_ret;exact⟨by simp,rfl⟩
def GZ (x y:Int)(w:Z0):Zu Z1 85 #[aA aM x,aA aM y] w λe w'=>e=aP (aA aM (CO x y))/\w=w':=by
 by_cases h1:x<y
 ·have HC:Hid (CO x y = -1):=by show _=_;unfold CO;rw[if_pos h1]
  go_enter Tryz.func85,xy
  go_wp2_with (go_at_call 112;refine(ND _ _).mono ?_;rintro e w' ⟨rfl,rfl⟩)
  go_ret;exact⟨by rw[HC.out];rfl,rfl⟩
 ·by_cases h2:y<x
  ·have HC:Hid (CO x y=1):=by show _=_;unfold CO;rw[if_neg h1,if_pos h2]
   go_enter Tryz.func85,xy
   go_wp2_with (go_at_call 112;refine(ND _ _).mono ?_;rintro e w' ⟨rfl,rfl⟩)
   go_ret;exact⟨by rw[HC.out];rfl,rfl⟩
  ·have HC:Hid (CO x y=0):=by show _=_;unfold CO;rw[if_neg h1,if_neg h2]
   go_enter Tryz.func85,xy
   go_wp2_with (go_at_call 112;refine(ND _ _).mono ?_;rintro e w' ⟨rfl,rfl⟩)
   go_ret;exact⟨by rw[HC.out];rfl,rfl⟩
def edV (e:Edg):Z6:=aJ #[aA aM e.1,aA aM e.2.1,aA aM e.2.2.1,aA aM e.2.2.2]
instance (a b:Edg):Decidable (Dy a b):=by unfold Dy;infer_instance
def less14_any (p q:Edg)(w:Z0):Zu Z1 52 #[edV p,edV q] w λe w'=>e=aP (aH (decide (Dy p q)))/\Ext w w':=by
 obtain⟨p1,p2,p3,p4⟩:=p;obtain⟨q1,q2,q3,q4⟩:=q;unfold edV;have HX:Hid (Ext w ((w.alloc (aK #[aA aM p1,aA aM p2,aA aM p3,aA aM p4] 62)).alloc (aK #[aA aM q1,aA aM q2,aA aM q3,aA aM q4] 62))):=Ext.trans ((Z2 _ _).alloc (A5 _) _) ((Z2 _ _).alloc (A5 _) _);by_cases h1:p1=q1
 ·have ja:(p1 != q1)=false:=by rw[h1];simp
  by_cases h2:p2<q2
  ·have HR:Hid (decide (Dy (p1,p2,p3,p4) (q1,q2,q3,q4))=true):=decide_eq_true (.inr ⟨h1,.inl h2⟩);clear h1
   go_enter Tryz.func52,Tryz.ntmps52
   go_wp2_with fail
   go_ret;exact⟨Ad HR.out.symm,HX.out⟩
  ·by_cases h3:p2=q2
   ·have jb:(p2 == q2)=true:=by rw[h3];simp
    by_cases h4:p3<q3
    ·have HR:Hid (decide (Dy (p1,p2,p3,p4) (q1,q2,q3,q4))=true):=decide_eq_true (.inr ⟨h1,.inr ⟨h3,h4⟩⟩);clear h1 h3
     go_enter Tryz.func52,Tryz.ntmps52
     go_wp2_with fail
     go_ret;exact⟨Ad HR.out.symm,HX.out⟩
    ·have HR:Hid (decide (Dy (p1,p2,p3,p4) (q1,q2,q3,q4))=false):=decide_eq_false λh=>by
      unfold Dy at h;simp only at h;omega
     clear h1 h3
     go_enter Tryz.func52,Tryz.ntmps52
     go_wp2_with fail
     go_ret;exact⟨Ad HR.out.symm,HX.out⟩
   ·have jb:(p2 == q2)=false:=by rw[beq_eq_false_iff_ne];exact h3
    have HR:Hid (decide (Dy (p1,p2,p3,p4) (q1,q2,q3,q4))=false):=decide_eq_false λh=>by
     unfold Dy at h;simp only at h;omega
    clear h1 h3
    go_enter Tryz.func52,Tryz.ntmps52
    go_wp2_with fail
    go_ret;exact⟨Ad HR.out.symm,HX.out⟩
 ·have ja:(p1 != q1)=true:=by rw[bne_iff_ne];exact h1
  obtain⟨r,hr⟩:∃ r,decide (p1<q1)=r:=⟨_,rfl⟩
  have HR:Hid (decide (Dy (p1,p2,p3,p4) (q1,q2,q3,q4))=r):=by
   show _=_;rw[<- hr];refine decide_eq_decide.2 ?_;unfold Dy;simp only;omega
  clear h1
  go_enter Tryz.func52,Tryz.ntmps52
  go_wp2_with fail
  go_ret;exact⟨Ad HR.out.symm,HX.out⟩
def orF:List Int->Int
 | []=>0
 | x :: r=>if x=0 then orF r else x
def or_any (xs:List Int)(a:Option Zj)(cap:Nat)(w:Z0)(hS:SlS w a xs)(hl:xs.length<=1000) :
  Zu Z1 84 #[aG a xs.length cap] w λe w'=>e=aP (aA aM (orF xs))/\w=w':=by
 have HS:=A0 hS;clear hS
 go_enter Tryz.func84,Tryz.ntmps84
 go_wp2
 go_loop [8] (λi=>∃ k:Nat,k<=xs.length/\i=aA aM (k:Int)/\orF (xs.drop k)=orF xs) (λi=>xs.length - (intOf i).toNat)
 case atStart=>exact⟨0,Ze _,rfl,rfl⟩
 case round =>
  obtain⟨k,hk,rfl,ho⟩:=hrel;have HO:=A0 ho;clear ho;by_cases ja:k<xs.length
  ·have jb:(k:Int)<(xs.length:Int):=by omega
   obtain⟨b,o,ha,hb,h0⟩:=HS.out k ja;have hidx:=Fl.idx_ints a b o xs.length cap k ha ja;have hd:xs.drop k=xs[k] :: xs.drop (k+1):=AG ja;obtain⟨x,hx⟩:∃ x,xs[k]=x:=⟨_,rfl⟩
   rw[hx]at h0 hd;have HD:=A0 hd;clear hx hd ha;by_cases hz:x=0
   ·have jc:(x != 0)=false:=by rw[hz];rfl
    have HE:Hid (orF (xs.drop (k+1))=orF xs):=by
     have h:=HO.out;rw[HD.out,orF,if_pos hz]at h;exact h
    clear hz;go_wp2
    go_round
    case rel=>exact⟨k+1,by omega,by go_num,HE.out⟩
    case measure=>simp[intOf];omega
   ·have jc:(x != 0)=true:=by rw[bne_iff_ne];exact hz
    have HE:Hid (orF xs=x):=by
     have h:=HO.out;rw[HD.out,orF,if_neg hz]at h;exact h.symm
    clear hz;go_wp2;go_ret;exact⟨by rw[HE.out];rfl,rfl⟩
  ·have jb:¬ (k:Int)<(xs.length:Int):=by omega
   have HE:Hid (orF xs=0):=by
    have h:=HO.out;rw[Xn (by omega)]at h;exact h.symm
   go_wp2;go_ret;exact⟨by rw[HE.out];rfl,rfl⟩
def Uy (W:Z0)(x y z:Int):SlS (W.alloc (aK #[aA aM x,aA aM y,aA aM z] 3 (0,0))) (some ⟨W.heap.size,0,none⟩) [x,y,z]:=λk hk=>by
 have hn:=Z4 W (aK #[aA aM x,aA aM y,aA aM z] 3 (0,0));refine⟨W.heap.size,0,rfl,by simp,?_⟩;rw[ZS,Z3 _ _ k _ _ _ hn]
 match k,hk with
 | 0,_=>rfl
 | 1,_=>rfl
 | 2,_=>rfl
def Thr (l:List Int)(v:Z6)(W:Z0):Prop:=∃ g,v=aG (some ⟨g,0,none⟩) 3 3/\SlS W (some ⟨g,0,none⟩) l
def Ry (l:List Int):Bq (Thr l):=by
 rintro v w w' ⟨g,h1,h2⟩ hx;exact⟨g,h1,h2.later hx (A5 _)⟩
def Tc (p q:Edg):Int:=orF [CO p.1 q.1,CO p.2.1 q.2.1,CO p.2.2.1 q.2.2.1]
def IZ (p q:Edg)(w:Z0):Zu Z1 49 #[edV p,edV q] w λe w'=>e=aP (aA aM (Tc p q))/\Ext w w':=by
 obtain⟨p1,p2,p3,p4⟩:=p;obtain⟨q1,q2,q3,q4⟩:=q;unfold edV Tc
 go_enter Tryz.func49,Tryz.ntmps49
 go_upto_region 1 with fail
 obtain⟨w1,je⟩:∃ w1,w.alloc (aK #[aA aM p1,aA aM p2,aA aM p3,aA aM p4] 62)=w1:=⟨_,rfl⟩
 rw[je];obtain⟨w2,jf⟩:∃ w2,w1.alloc (aK #[aA aM q1,aA aM q2,aA aM q3,aA aM q4] 62)=w2:=⟨_,rfl⟩
 rw[jf];have jn:Ext w w1:=by rw[<- je];exact(Z2 _ _).alloc (A5 _) _
 have jo:Ext w1 w2:=by rw[<- jf];exact(Z2 _ _).alloc (A5 _) _
 have hz:w1.heap.size=w.heap.size+1:=by rw[<- je];simp
 have b1:w1.heap[w.heap.size]? = some (aK #[aA aM p1,aA aM p2,aA aM p3,aA aM p4] 62 (0,0)):=by rw[<- je];exact Z4 _ _
 have b2:w2.heap[w.heap.size+1]? = some (aK #[aA aM q1,aA aM q2,aA aM q3,aA aM q4] 62 (0,0)):=by rw[<- hz,<- jf];exact Z4 _ _
 obtain⟨ga,jm⟩:∃ ga,w.heap.size=ga:=⟨_,rfl⟩
 rw[jm]at b1 b2 ⊢;have jg:=A0 b1;have jh:=A0 b2;have ji:=A0 jn;have jd:=A0 jo;have jj:=A0 (A7.1 b1).1;have jk:=A0 (A7.1 b2).1;clear je jf jn jo hz b1 b2 jm;refine B8 w2 (Ext.refl _) 22 ([qc (aB (some ⟨ga,0,none⟩)),qc (aA aM p1),qc (aB (some ⟨ga+1,0,none⟩)),qc (aA aM q1),qc (aA aM (CO p1 q1)),qc (aB (some ⟨ga,1,none⟩)),qc (aA aM p2),qc (aB (some ⟨ga+1,1,none⟩)),qc (aA aM q2),qc (aA aM (CO p2 q2)),qc (aB (some ⟨ga,2,none⟩)),qc (aA aM p3),qc (aB (some ⟨ga+1,2,none⟩)),qc (aA aM q3),qc (aA aM (CO p3 q3)),⟨Thr [CO p1 q1,CO p2 q2,CO p3 q3],Ry _⟩,qc (aA aM (orF [CO p1 q1,CO p2 q2,CO p3 q3])),qc (aA aM (orF [CO p1 q1,CO p2 q2,CO p3 q3]))]) (Zd 5 17 ++ [4]) (by kernel_rfl) rfl ?hop λW x hS hx=>?_
 case hop =>
  repeat' apply And.intro
  all_goals first
   | exact True.intro
   | (
     intro A W jc hS jb ja;have jl:Ext w2 W:=hS;have h8:=(Z7 (Ext.trans jd.out jl) _ jj.out).trans jg.out;have h9:=(Z7 jl _ jk.out).trans jh.out;have y0:W.cell? ⟨ga,0,none⟩=some (aA aM p1):=by rw[Z3 _ _ 0 _ _ _ h8];rfl
     have y1:W.cell? ⟨ga,1,none⟩=some (aA aM p2):=by rw[Z3 _ _ 1 _ _ _ h8];rfl
     have y2:W.cell? ⟨ga,2,none⟩=some (aA aM p3):=by rw[Z3 _ _ 2 _ _ _ h8];rfl
     have z0:W.cell? ⟨ga+1,0,none⟩=some (aA aM q1):=by rw[Z3 _ _ 0 _ _ _ h9];rfl
     have z1:W.cell? ⟨ga+1,1,none⟩=some (aA aM q2):=by rw[Z3 _ _ 1 _ _ _ h9];rfl
     have z2:W.cell? ⟨ga+1,2,none⟩=some (aA aM q3):=by rw[Z3 _ _ 2 _ _ _ h9];rfl
     clear h8 h9 jl;have h2:A.tmps.getD 2 Z8=aB (some ⟨ga,0,none⟩):=ja 2 (by kernel_rfl);have h3:A.tmps.getD 3 Z8=aB (some ⟨ga+1,0,none⟩):=ja 3 (by kernel_rfl);clear ja;simp[Ae,Zl,Vp,csV,qc]at jb
     first | (refine Ak ?_ (.inl ⟨_,W,?_,rfl,Ext.refl _⟩) <;> clear jc hS <;> simp[wS,C9,CA,Ae,go_sem,Zf, *] <;> done) | skip)
  ·refine Ak rfl (.inr ⟨85,#[aA aM p1,aA aM q1],W,by(clear jc hS;simp[go_sem,Zf, *]),?_⟩);refine(GZ p1 q1 W).mono ?_;rintro e w' ⟨rfl,rfl⟩;exact⟨_,rfl,rfl,Ext.refl _⟩
  ·refine Ak rfl (.inr ⟨85,#[aA aM p2,aA aM q2],W,by(clear jc hS;simp[go_sem,Zf, *]),?_⟩);refine(GZ p2 q2 W).mono ?_;rintro e w' ⟨rfl,rfl⟩;exact⟨_,rfl,rfl,Ext.refl _⟩
  ·refine Ak rfl (.inr ⟨85,#[aA aM p3,aA aM q3],W,by(clear jc hS;simp[go_sem,Zf, *]),?_⟩);refine(GZ p3 q3 W).mono ?_;rintro e w' ⟨rfl,rfl⟩;exact⟨_,rfl,rfl,Ext.refl _⟩
  ·refine Ak rfl (.inl ⟨_,W.alloc (aK #[aA aM (CO p1 q1),aA aM (CO p2 q2),aA aM (CO p3 q3)] 3 (0,0)),?_,⟨_,rfl,Uy W _ _ _⟩,(Z2 _ _).alloc (A5 _) _⟩);clear jc hS;simp[go_sem,Zf, *]
  ·obtain⟨g,hg,jq⟩:Thr [CO p1 q1,CO p2 q2,CO p3 q3] (A.tmps[20]?.getD Z8) W:=by first | exact jb.2 | exact jb.1 | exact jb.2.1 | exact jb.2.2
   refine Ak rfl (.inr ⟨84,#[aG (some ⟨g,0,none⟩) 3 3],W,by(clear jc hS;simp[go_sem,Zf, *]),?_⟩);refine(or_any [CO p1 q1,CO p2 q2,CO p3 q3] (some ⟨g,0,none⟩) 3 W jq (by simp)).mono ?_;rintro e w' ⟨rfl,rfl⟩;exact⟨_,rfl,rfl,Ext.refl _⟩
 have e4:x 4=aA aM (orF [CO p1 q1,CO p2 q2,CO p3 q3]):=hx 17 (by decide);have e21:x 21=aA aM (orF [CO p1 q1,CO p2 q2,CO p3 q3]):=hx 16 (by decide);simp only[Zd,ZG,ZP,Zp,e4,e21,ZE,Z5,Za,Z9];clear hx e4 e21;have jp:=A0 (Ext.trans ji.out (Ext.trans jd.out hS));clear hS
 go_wp2_with fail
 go_ret;exact⟨rfl,jp.out⟩
def QX {p q:Edg}:Tc p q<0↔Dy p q:=by
 obtain⟨p1,p2,p3,p4⟩:=p;obtain⟨q1,q2,q3,q4⟩:=q;simp only[Tc,orF,Dy,CO];constructor
 ·intro h
  (repeat' split at h) <;> omega
 ·intro h
  (repeat' split) <;> omega
def Cd (n:Int)(e:Edg):Prop:=0<=e.1/\e.1<e.2.1/\e.2.1<=n/\0<=e.2.2.1/\e.2.2.1<200/\0<=e.2.2.2/\e.2.2.2<=1000000
def Ha (n:Int)(E:List Edg)(k:Nat):Prop:=∀ i (h:i<E.length),i<k->Cd n E[i]/\(0<i->Dy (E[i - 1]'(by omega)) E[i])
def Ia (n:Int)(E:List Edg):Prop:=0<=n/\n<=40/\E.length<=20000/\Ha n E E.length
noncomputable def Dg (n:Int)(E:List Edg):Bool:=@decide (Ia n E) (Xr _)
def GW {n:Int}{E:List Edg}(h:Ia n E):Dg n E=true:=@decide_eq_true _ (Xr _) h
def Bg {n:Int}{E:List Edg}(h:¬ Ia n E):Dg n E=false:=@decide_eq_false _ (Xr _) h
def Ha.step {n:Int}{E:List Edg}{k:Nat}(h:Ha n E k)(hk:k<E.length)(h1:Cd n E[k])(h2:0<k->Dy (E[k - 1]'(by omega)) E[k]):Ha n E (k+1):=by
 intro i hi hik;by_cases e:i=k
 · subst e;exact⟨h1,h2⟩
 · exact h i hi (by omega)
def lval_any (
         n
          :
           Int) (
              E:List Edg) (a:Option Zj) (cap:Nat) (w:Z0) (hE:D3 w a E) (hl:E.length<=1000000) :
  Zu Z1 22 #[Gs n a E.length cap] w λe w'=>e=aP (aH (Dg n E))/\Ext w w':=by
 have HE:=A0 hE;clear hE;unfold Gs
 go_enter Tryz.func22,Tryz.ntmps22
 go_upto_region 1 with fail
 obtain⟨wb,jn⟩:∃ wb,w.alloc (aK #[aA aM n,aG a E.length cap] 45)=wb:=⟨_,rfl⟩
 rw[jn];have jG:Ext w wb:=by rw[<- jn];exact(Z2 _ _).alloc (A5 _) _
 have bb:wb.heap[w.heap.size]? = some (aK #[aA aM n,aG a E.length cap] 45 (0,0)):=by rw[<- jn];exact Z4 _ _
 obtain⟨g,hg⟩:∃ g,w.heap.size=g:=⟨_,rfl⟩
 rw[hg]at bb ⊢;have HX:=A0 jG;have jj:=A0 bb;have jl:=A0 (A7.1 bb).1;clear jn jG bb hg;have h9:=(Z7 (Ext.refl _) _ jl.out).trans jj.out;have m0:wb.cell? ⟨g,0,none⟩=some (aA aM n):=by rw[Z3 _ _ 0 _ _ _ h9];rfl
 have m1:wb.cell? ⟨g,1,none⟩=some (aG a E.length cap):=by rw[Z3 _ _ 1 _ _ _ h9];rfl
 clear h9;by_cases n0:n<0
 ·have HN:Hid (Dg n E=false):=Bg λh=>by
   have h1:=h.1;have h2:=h.2.1;have h3:=h.2.2.1;omega
  go_wp2_with fail
  go_ret;exact⟨Ad HN.out.symm,HX.out⟩
 by_cases n1:40<n
 ·have HN:Hid (Dg n E=false):=Bg λh=>by
   have h1:=h.1;have h2:=h.2.1;have h3:=h.2.2.1;omega
  go_wp2_with fail
  go_ret;exact⟨Ad HN.out.symm,HX.out⟩
 by_cases n2:(20000:Int)<(E.length:Int)
 ·have HN:Hid (Dg n E=false):=Bg λh=>by
   have h1:=h.1;have h2:=h.2.1;have h3:=h.2.2.1;omega
  go_wp2_with fail
  go_ret;exact⟨Ad HN.out.symm,HX.out⟩
 have js:Hid (0<=n/\n<=40/\E.length<=20000):=⟨by omega,by omega,by omega⟩
 go_wp2_with fail
 clear n0 n1 n2 m0 m1
 go_loopw [22] (λi wr=>∃ k:Nat,k<=E.length/\i=aA aM (k:Int)/\Ha n E k/\Ext wb wr) (λi _=>E.length - (intOf i).toNat)
 case atStart=>exact⟨0,Ze _,rfl,λi _ h=>by omega,Ext.refl _⟩
 case round =>
  obtain⟨k,hk,rfl,hu,hb⟩:=hrel;have HB:=A0 hb;have HU:=A0 hu;clear hb hu;by_cases ji:k<E.length
  ·have jw
        :
         (k:Int)
              < (
                E.length:Int):=by omega
   obtain⟨b1,o1,ha,hb1,x0,x1,x2,x3⟩:=(HE.out.later (Ext.trans HX.out HB.out) (A5 _)) k ji;have ju:=Cv a b1 o1 E.length cap k ha ji;obtain⟨⟨e1,e2,e3,e4⟩,hx⟩:∃ x,E[k]'ji=x:=⟨_,rfl⟩
   have jf:=A0 hx;rw[hx]at x0 x1 x2 x3;simp only at x0 x1 x2 x3;have jb:Hid (k<E.length):=ji;clear hx ha
   go_upto_region 6 with fail
   obtain⟨wq,jo⟩:∃ wq,wr.alloc (aK #[aA aM e1,aA aM e2,aA aM e3,aA aM e4] 62)=wq:=⟨_,rfl⟩
   rw[jo];have jH:Ext wr wq:=by rw[<- jo];exact(Z2 _ _).alloc (A5 _) _
   have bq:wq.heap[wr.heap.size]? = some (aK #[aA aM e1,aA aM e2,aA aM e3,aA aM e4] 62 (0,0)):=by rw[<- jo];exact Z4 _ _
   obtain⟨gq,jE⟩:∃ gq,wr.heap.size=gq:=⟨_,rfl⟩
   rw[jE]at bq ⊢;have jd:=A0 jH;have jp:=A0 bq;have jq:=A0 (A7.1 bq).1;have u0:wq.cell? ⟨gq,0,none⟩=some (aA aM e1):=by rw[Z3 _ _ 0 _ _ _ bq];rfl
   have u1:wq.cell? ⟨gq,1,none⟩=some (aA aM e2):=by rw[Z3 _ _ 1 _ _ _ bq];rfl
   have u2:wq.cell? ⟨gq,2,none⟩=some (aA aM e3):=by rw[Z3 _ _ 2 _ _ _ bq];rfl
   have u3:wq.cell? ⟨gq,3,none⟩=some (aA aM e4):=by rw[Z3 _ _ 3 _ _ _ bq];rfl
   clear jo jH bq jE ju x0 x1 x2 x3;have h9:=(Z7 (Ext.trans HB.out jd.out) _ jl.out).trans jj.out;have v0:wq.cell? ⟨g,0,none⟩=some (aA aM n):=by rw[Z3 _ _ 0 _ _ _ h9];rfl
   have v1:wq.cell? ⟨g,1,none⟩=some (aG a E.length cap):=by rw[Z3 _ _ 1 _ _ _ h9];rfl
   clear h9;by_cases a0:e1<0
   ·have HN:Hid (Dg n E=false):=Bg λh=>by
     have:=(h.2.2.2 k jb.out jb.out).1;rw[jf.out]at this;unfold Cd at this;simp only at this;omega
    go_wp2_with fail
    go_ret;exact⟨Ad HN.out.symm,Ext.trans HX.out (Ext.trans HB.out jd.out)⟩
   ·by_cases a1
          :
           e2<=e1
    ·have HN:Hid (Dg n E=false):=Bg λh=>by
      have:=(h.2.2.2 k jb.out jb.out).1;rw[jf.out]at this;unfold Cd at this;simp only at this;omega
     go_wp2_with fail
     go_ret;exact⟨Ad HN.out.symm,Ext.trans HX.out (Ext.trans HB.out jd.out)⟩
    ·by_cases a2
           :
            n
             <
              e2
     ·have HN:Hid (Dg n E=false):=Bg λh=>by
       have:=(h.2.2.2 k jb.out jb.out).1;rw[jf.out]at this;unfold Cd at this;simp only at this;omega
      go_wp2_with fail
      go_ret;exact⟨Ad HN.out.symm,Ext.trans HX.out (Ext.trans HB.out jd.out)⟩
     ·by_cases a3
            :
             e3
               <
                0
      ·have HN:Hid (Dg n E=false):=Bg λh=>by
        have:=(h.2.2.2 k jb.out jb.out).1;rw[jf.out]at this;unfold Cd at this;simp only at this;omega
       go_wp2_with fail
       go_ret;exact⟨Ad HN.out.symm,Ext.trans HX.out (Ext.trans HB.out jd.out)⟩
      ·by_cases a4
             :
              200<=e3
       ·have HN:Hid (Dg n E=false):=Bg λh=>by
         have:=(h.2.2.2 k jb.out jb.out).1;rw[jf.out]at this;unfold Cd at this;simp only at this;omega
        go_wp2_with fail
        go_ret;exact⟨Ad HN.out.symm,Ext.trans HX.out (Ext.trans HB.out jd.out)⟩
       ·by_cases a5
              : e4<0
        ·have HN:Hid (Dg n E=false):=Bg λh=>by
          have:=(h.2.2.2 k jb.out jb.out).1;rw[jf.out]at this;unfold Cd at this;simp only at this;omega
         go_wp2_with fail
         go_ret;exact⟨Ad HN.out.symm,Ext.trans HX.out (Ext.trans HB.out jd.out)⟩
        ·by_cases a6:1000000<e4
         ·have HN:Hid (Dg n E=false):=Bg λh=>by
           have:=(h.2.2.2 k jb.out jb.out).1;rw[jf.out]at this;unfold Cd at this;simp only at this;omega
          go_wp2_with fail
          go_ret;exact⟨Ad HN.out.symm,Ext.trans HX.out (Ext.trans HB.out jd.out)⟩
         ·have jx
               :
                Hid (Cd n (E[k]'ji)):=by
           show Cd n (E[k]'ji);rw[jf.out];unfold Cd;simp only;omega
          go_upto_region 10 with fail
          clear u0 u1 u2 u3 v0 v1;by_cases jv:k=0
          ·have jt:¬ (0:Int)<(k:Int):=by omega
           have jI:=A0 jv;have HS:Hid (Ha n E (k+1)):=HU.out.step jb.out jx.out (λh=>by omega);clear jv;refine B8 wq (Ext.refl _) 76 (csV [aA aM (k:Int),aH false,aH false,Z8,Z8,Z8,Z8,Z8,Z8,Z8,Z8,Z8,aH false]) (Zd 62 13) (by kernel_rfl) rfl ?hop λW x hS hx=>?_
           case hop =>
            repeat' apply And.intro
            all_goals first
             | exact True.intro
             | (
               intro A W jg hS jc ja;have je:Ext wq W:=hS;have h9:=(Z7 (Ext.trans HB.out (Ext.trans jd.out je)) _ jl.out).trans jj.out;have m0:W.cell? ⟨g,0,none⟩=some (aA aM n):=by rw[Z3 _ _ 0 _ _ _ h9];rfl
               have m1:W.cell? ⟨g,1,none⟩=some (aG a E.length cap):=by rw[Z3 _ _ 1 _ _ _ h9];rfl
               clear h9;have h8:=(Z7 je _ jq.out).trans jp.out;have u0:W.cell? ⟨gq,0,none⟩=some (aA aM e1):=by rw[Z3 _ _ 0 _ _ _ h8];rfl
               have u1:W.cell? ⟨gq,1,none⟩=some (aA aM e2):=by rw[Z3 _ _ 1 _ _ _ h8];rfl
               have u2:W.cell? ⟨gq,2,none⟩=some (aA aM e3):=by rw[Z3 _ _ 2 _ _ _ h8];rfl
               have u3:W.cell? ⟨gq,3,none⟩=some (aA aM e4):=by rw[Z3 _ _ 3 _ _ _ h8];rfl
               clear h8 je;have h1:A.tmps.getD 1 Z8=aB (some ⟨g,0,none⟩):=ja 1 (by kernel_rfl);have h3:A.tmps.getD 3 Z8=aA aM (k:Int):=ja 3 (by kernel_rfl);have h4:A.tmps.getD 4 Z8=aB (some ⟨gq,0,none⟩):=ja 4 (by kernel_rfl);clear ja;simp[Ae,Zl,Vp,csV,qc]at jc
               first | (refine Ak ?_ (.inl ⟨_,W,?_,rfl,Ext.refl _⟩) <;> clear jg hS <;> simp[wS,C9,CA,Ae,go_sem,Zf, *] <;> done) | (refine Pv ?_ rfl;simp[wS,C9,CA,Ae,jc];done) | skip)
            · refine Ak rfl (.inl ⟨_,W,?_,rfl,Ext.refl _⟩);clear jg hS;simp[go_sem,Zf, *];exact jI.out
           have e74:x 74=aH false:=hx 12 (by decide);simp only[Zd,Zp,e74,ZE,Z5,Za,Z9];clear hx e74;have jk:=A0 (Ext.trans HB.out (Ext.trans jd.out hS));clear hS
           go_wp2_with fail
           go_roundw
           case rel=>exact⟨k+1,by omega,by go_num,HS.out,jk.out⟩
           case measure=>simp[intOf];omega
          ·have jt
                : (0:Int)<(k:Int):=by omega
           have jr:Hid (0<k):=by show 0<k;omega
           have hj:k - 1<E.length:=by omega
           obtain⟨b2,o2,jD,jh,y0,y1,y2,y3⟩:=(HE.out.later (Ext.trans HX.out (Ext.trans HB.out jd.out)) (A5 _)) (k - 1) hj;have jm:=Cv a b2 o2 E.length cap (k - 1) jD hj;obtain⟨⟨q1,q2,q3,q4⟩,hy⟩:∃ y,E[k - 1]'hj=y:=⟨_,rfl⟩
           have jC:Hid (E[k - 1]'(Nat.lt_of_le_of_lt (Nat.sub_le k 1) ji)=(q1,q2,q3,q4)):=hy;simp only[hy]at y0 y1 y2 y3;obtain⟨j,jF⟩:∃ j,k - 1=j:=⟨_,rfl⟩
           have hwk:IntKind.i64.wrap ((k:Int) - 1)=(j:Int):=by rw[Zq _ (by omega)];omega
           rw[jF]at jm y0 y1 y2 y3;have jy:=A0 y0;have jz:=A0 y1;have jA:=A0 y2;have jB:=A0 y3;obtain⟨z,hz⟩:∃ z,Tc (q1,q2,q3,q4) (e1,e2,e3,e4)=z:=⟨_,rfl⟩
           have HZ:=A0 hz;clear hy jD jF hj y0 y1 y2 y3 jv hz;by_cases hz0:0<=z
           ·have HN:Hid (Dg n E=false):=Bg λh=>by
             have h1:=(h.2.2.2 k jb.out jb.out).2 jr.out;rw[jf.out,jC.out,<- QX,HZ.out]at h1;omega
            refine B8 wq (Ext.refl _) 76 (csV [aA aM (k:Int),aH true,aH true,aB (some ⟨g,1,none⟩),aG a E.length cap,aA aM (k:Int),aA aM (j:Int),aB (some ⟨b2,o2+j*4,none⟩),aJ #[aA aM q1,aA aM q2,aA aM q3,aA aM q4],aJ #[aA aM e1,aA aM e2,aA aM e3,aA aM e4],aA aM z,aH true,aH true]) (Zd 62 13) (by kernel_rfl) rfl ?hop λW x hS hx=>?_
            case hop =>
             repeat' apply And.intro
             all_goals first
              | exact True.intro
              | (
                intro A W jg hS jc ja;have je:Ext wq W:=hS;have h9:=(Z7 (Ext.trans HB.out (Ext.trans jd.out je)) _ jl.out).trans jj.out;have m0:W.cell? ⟨g,0,none⟩=some (aA aM n):=by rw[Z3 _ _ 0 _ _ _ h9];rfl
                have m1:W.cell? ⟨g,1,none⟩=some (aG a E.length cap):=by rw[Z3 _ _ 1 _ _ _ h9];rfl
                clear h9;have h8:=(Z7 je _ jq.out).trans jp.out;have u0:W.cell? ⟨gq,0,none⟩=some (aA aM e1):=by rw[Z3 _ _ 0 _ _ _ h8];rfl
                have u1:W.cell? ⟨gq,1,none⟩=some (aA aM e2):=by rw[Z3 _ _ 1 _ _ _ h8];rfl
                have u2:W.cell? ⟨gq,2,none⟩=some (aA aM e3):=by rw[Z3 _ _ 2 _ _ _ h8];rfl
                have u3:W.cell? ⟨gq,3,none⟩=some (aA aM e4):=by rw[Z3 _ _ 3 _ _ _ h8];rfl
                clear h8 je;have y0:=(Zx hS (p:=⟨b2,o2+j*4,none⟩) jh).trans jy.out;have y1:=(Zx hS (p:=⟨b2,o2+j*4+1,none⟩) jh).trans jz.out;have y2:=(Zx hS (p:=⟨b2,o2+j*4+2,none⟩) jh).trans jA.out;have y3:=(Zx hS (p:=⟨b2,o2+j*4+3,none⟩) jh).trans jB.out;have h1:A.tmps.getD 1 Z8=aB (some ⟨g,0,none⟩):=ja 1 (by kernel_rfl);have h3:A.tmps.getD 3 Z8=aA aM (k:Int):=ja 3 (by kernel_rfl);have h4:A.tmps.getD 4 Z8=aB (some ⟨gq,0,none⟩):=ja 4 (by kernel_rfl);clear ja;simp[Ae,Zl,Vp,csV,qc]at jc
                first | (refine Ak ?_ (.inl ⟨_,W,?_,rfl,Ext.refl _⟩) <;> clear jg hS <;> simp[wS,C9,CA,Ae,go_sem,Zf, *] <;> done) | skip)
             · refine Ak rfl (.inl ⟨_,W,?_,rfl,Ext.refl _⟩);clear jg hS jt;simp[go_sem,Zf, *];have:=jr.out;omega
             ·refine Ak (by simp[wS,C9,CA,Ae,jc]) (.inr ⟨49,#[aJ #[aA aM q1,aA aM q2,aA aM q3,aA aM q4],aJ #[aA aM e1,aA aM e2,aA aM e3,aA aM e4]],W,by(clear jg hS;simp[go_sem,Zf, *]),?_⟩);refine(IZ (q1,q2,q3,q4) (e1,e2,e3,e4) W).mono ?_;rintro e w' ⟨he,hx⟩;rw[HZ.out]at he;exact⟨_,he,rfl,hx⟩
            have e74:x 74=aH true:=hx 12 (by decide);simp only[Zd,Zp,e74,ZE,Z5,Za,Z9];clear hx e74;have jk:=A0 (Ext.trans HX.out (Ext.trans HB.out (Ext.trans jd.out hS)));clear hS
            go_wp2_with fail
            go_ret;exact⟨Ad HN.out.symm,jk.out⟩
           ·have HS:Hid (Ha n E (k+1)):=HU.out.step jb.out jx.out (λ_=>by rw[jf.out,jC.out,<- QX,HZ.out];omega);refine B8 wq (Ext.refl _) 76 (csV [aA aM (k:Int),aH true,aH true,aB (some ⟨g,1,none⟩),aG a E.length cap,aA aM (k:Int),aA aM (j:Int),aB (some ⟨b2,o2+j*4,none⟩),aJ #[aA aM q1,aA aM q2,aA aM q3,aA aM q4],aJ #[aA aM e1,aA aM e2,aA aM e3,aA aM e4],aA aM z,aH false,aH false]) (Zd 62 13) (by kernel_rfl) rfl ?hop λW x hS hx=>?_
            case hop =>
             repeat' apply And.intro
             all_goals first
              | exact True.intro
              | (
                intro A W jg hS jc ja;have je:Ext wq W:=hS;have h9:=(Z7 (Ext.trans HB.out (Ext.trans jd.out je)) _ jl.out).trans jj.out;have m0:W.cell? ⟨g,0,none⟩=some (aA aM n):=by rw[Z3 _ _ 0 _ _ _ h9];rfl
                have m1:W.cell? ⟨g,1,none⟩=some (aG a E.length cap):=by rw[Z3 _ _ 1 _ _ _ h9];rfl
                clear h9;have h8:=(Z7 je _ jq.out).trans jp.out;have u0:W.cell? ⟨gq,0,none⟩=some (aA aM e1):=by rw[Z3 _ _ 0 _ _ _ h8];rfl
                have u1:W.cell? ⟨gq,1,none⟩=some (aA aM e2):=by rw[Z3 _ _ 1 _ _ _ h8];rfl
                have u2:W.cell? ⟨gq,2,none⟩=some (aA aM e3):=by rw[Z3 _ _ 2 _ _ _ h8];rfl
                have u3:W.cell? ⟨gq,3,none⟩=some (aA aM e4):=by rw[Z3 _ _ 3 _ _ _ h8];rfl
                clear h8 je;have y0:=(Zx hS (p:=⟨b2,o2+j*4,none⟩) jh).trans jy.out;have y1:=(Zx hS (p:=⟨b2,o2+j*4+1,none⟩) jh).trans jz.out;have y2:=(Zx hS (p:=⟨b2,o2+j*4+2,none⟩) jh).trans jA.out;have y3:=(Zx hS (p:=⟨b2,o2+j*4+3,none⟩) jh).trans jB.out;have h1:A.tmps.getD 1 Z8=aB (some ⟨g,0,none⟩):=ja 1 (by kernel_rfl);have h3:A.tmps.getD 3 Z8=aA aM (k:Int):=ja 3 (by kernel_rfl);have h4:A.tmps.getD 4 Z8=aB (some ⟨gq,0,none⟩):=ja 4 (by kernel_rfl);clear ja;simp[Ae,Zl,Vp,csV,qc]at jc
                first | (refine Ak ?_ (.inl ⟨_,W,?_,rfl,Ext.refl _⟩) <;> clear jg hS <;> simp[wS,C9,CA,Ae,go_sem,Zf, *] <;> done) | skip)
             · refine Ak rfl (.inl ⟨_,W,?_,rfl,Ext.refl _⟩);clear jg hS jt;simp[go_sem,Zf, *];have:=jr.out;omega
             ·refine Ak (by simp[wS,C9,CA,Ae,jc]) (.inr ⟨49,#[aJ #[aA aM q1,aA aM q2,aA aM q3,aA aM q4],aJ #[aA aM e1,aA aM e2,aA aM e3,aA aM e4]],W,by(clear jg hS;simp[go_sem,Zf, *]),?_⟩);refine(IZ (q1,q2,q3,q4) (e1,e2,e3,e4) W).mono ?_;rintro e w' ⟨he,hx⟩;rw[HZ.out]at he;exact⟨_,he,rfl,hx⟩
            have e74:x 74=aH false:=hx 12 (by decide);simp only[Zd,Zp,e74,ZE,Z5,Za,Z9];clear hx e74;have jk:=A0 (Ext.trans HB.out (Ext.trans jd.out hS));clear hS
            go_wp2_with fail
            go_roundw
            case rel=>exact⟨k+1,by omega,by go_num,HS.out,jk.out⟩
            case measure=>simp[intOf];omega
  ·have jw:¬ (k:Int)<(E.length:Int):=by omega
   have HN:Hid (Dg n E=true):=GW ⟨js.out.1,js.out.2.1,js.out.2.2,λi hi _=>HU.out i hi (by omega)⟩
   go_wp2_with fail
   go_ret;exact⟨Ad HN.out.symm,Ext.trans HX.out HB.out⟩
def BQ:CB Edg:=⟨51,109,4,32,aJ #[aA aM 0,aA aM 0,aA aM 0,aA aM 0],λe=>[aA aM e.1,aA aM e.2.1,aA aM e.2.2.1,aA aM e.2.2.2]⟩
def BW:BQ.Ok:=⟨Tryz.underlying51,by kernel_rfl,rfl,by decide,λ_=>rfl,λx u hu=>by
 have h:u=aA aM x.1\/u=aA aM x.2.1\/u=aA aM x.2.2.1\/u=aA aM x.2.2.2:=by simpa[BQ] using hu
 rcases h with rfl | rfl | rfl | rfl <;> rfl,by decide⟩
def Af.lnks {w:Z0}{B:Nat}{a:Option Zj}{n c:Nat}{L:List Edg}(h:Af BQ w B (aG a n c) L):D3 w a L/\n=L.length/\L.length<=c:=by
 obtain⟨a',c',he,hc,_⟩:=h.form;injection he with e1 e2 e3;refine⟨λk hk=>?_,e2,by omega⟩;rcases h.blk with⟨_,rfl⟩ | ⟨g,c2,ja,_,hg,_⟩
 · simp at hk
 ·injection ja with f1 f2 f3;subst f1;refine⟨g,0,rfl,hg,?_,?_,?_,?_⟩
  ·have:=h.cell BW hk (j:=0) (by decide);simpa[BQ] using this
  ·have:=h.cell BW hk (j:=1) (by decide);simpa[BQ] using this
  ·have:=h.cell BW hk (j:=2) (by decide);simpa[BQ] using this
  ·have:=h.cell BW hk (j:=3) (by decide);simpa[BQ] using this
def NE (a:Option Zj)(b o len cap k:Nat)(ha:a=some ⟨b,o,none⟩)(hk:k<len)(w:Z0) :
  (ZK 51 (aG a len cap) (aA aM (k:Int))).run Z1 w=.ok (aB (some ⟨b,o+k*4,none⟩)) w:=by
 subst ha;have h0:(0:Int)<=(k:Int):=by omega
 have h1:(k:Int)<(len:Int):=by omega
 simp[go_sem,h0,h1]
def Td (n m:Int)(a b:Option Zj)(k c l d:Nat)(w:Z0):∃ w1,(w.alloc (aK #[aA aM n,aG a k c] 53)).alloc (aK #[aA aM m,aG b l d] 53)=w1/\Ext w w1 /\
  (∀ W,Ext w1 W->W.cell? ⟨w.heap.size,0,none⟩=some (aA aM n)/\W.cell? ⟨w.heap.size,1,none⟩=some (aG a k c))/\(∀ W,Ext w1 W->W.cell? ⟨w.heap.size+1,0,none⟩=some (aA aM m)/\W.cell? ⟨w.heap.size+1,1,none⟩=some (aG b l d)):=by
 obtain⟨wa,ja⟩:∃ wa,w.alloc (aK #[aA aM n,aG a k c] 53)=wa:=⟨_,rfl⟩
 obtain⟨w1,jb⟩:∃ w1,wa.alloc (aK #[aA aM m,aG b l d] 53)=w1:=⟨_,rfl⟩
 have hx:Ext w wa:=by rw[<- ja];exact(Z2 _ _).alloc (A5 _) _
 have hy:Ext wa w1:=by rw[<- jb];exact(Z2 _ _).alloc (A5 _) _
 have hz:wa.heap.size=w.heap.size+1:=by rw[<- ja];simp
 have h1:wa.heap[w.heap.size]? = some (aK #[aA aM n,aG a k c] 53 (0,0)):=by rw[<- ja];exact Z4 _ _
 have h2:w1.heap[w.heap.size+1]? = some (aK #[aA aM m,aG b l d] 53 (0,0)):=by rw[<- hz,<- jb];exact Z4 _ _
 refine⟨w1,by rw[ja,jb],Ext.trans hx hy,λW hW=>?_,λW hW=>?_⟩
 ·have h3:=(Z7 (Ext.trans hy hW) _ (A7.1 h1).1).trans h1;exact⟨by rw[Z3 W _ 0 _ _ _ h3];rfl,by rw[Z3 W _ 1 _ _ _ h3];rfl⟩
 ·have h3:=(Z7 hW _ (A7.1 h2).1).trans h2;exact⟨by rw[Z3 W _ 0 _ _ _ h3];rfl,by rw[Z3 W _ 1 _ _ _ h3];rfl⟩
def gsame_any
         (D E:List Edg) (n m:Int) (a b:Option Zj) (c d:Nat) (w:Z0) (hX:D3 w a D) (hY:D3 w b E) (hl1:D.length<=9223372036854775807) (hl2:E.length<=9223372036854775807) :
  Zu Z1 17 #[Gs n a D.length c,Gs m b E.length d] w λe w'=>e=aP (aH (decide (n=m/\D=E)))/\Ext w w':=by
 have HX:=A0 hX;have HY:=A0 hY;clear hX hY;unfold Gs
 go_enter Tryz.func17,Tryz.ntmps17
 go_upto_region 1 with fail
 obtain⟨w1,jo,jp,jl,jm⟩:=Td n m a b D.length c E.length d w;rw[jo];have ja:=A0 jp;have je:=A0 jl;have jf:=A0 jm;clear jo jp jl jm;obtain⟨g,hg⟩:∃ g,w.heap.size=g:=⟨_,rfl⟩
 rw[hg]at je jf ⊢;clear hg;obtain⟨p0,p1⟩:=je.out w1 (Ext.refl _);obtain⟨q0,q1⟩:=jf.out w1 (Ext.refl _);by_cases hn:n=m
 ·subst
     hn
  by_cases hl:D.length=E.length
  ·have jr:(
         (D.length:Int) != (E.length:Int))=false:=by simp[hl]
   have HL:=A0 hl;clear hl
   go_wp2_with fail
   clear p0 p1 q0 q1
   go_loopg [5] D.length (λg v5 wr=>∃ k:Nat,v5=aA aM (k:Int)/\k<=D.length/\g=D.length - k/\D.take k=E.take k/\Ext w1 wr)
   case atStart=>exact⟨0,rfl,Ze _,rfl,rfl,Ext.refl _⟩
   case round =>
    obtain⟨k,rfl,hk,jn,ht,hB⟩:=hrel;have HT:=A0 ht;have HB:=A0 hB;have jq:=A0 jn;clear ht hB jn;obtain⟨p0,p1⟩:=je.out wr HB.out;obtain⟨q0,q1⟩:=jf.out wr HB.out;have jd:Ext w wr:=Ext.trans ja.out HB.out;by_cases jg:k<D.length
    ·have jb:k<E.length:=by have:=HL.out;omega
     obtain⟨b1,o1,jj,hb1,x0,x1,x2,x3⟩:=(HX.out.go jd) k jg;obtain⟨b2,o2,jk,hb2,y0,y1,y2,y3⟩:=(HY.out.go jd) k jb;have hi1:=NE a b1 o1 D.length c k jj jg;have hi2:=NE b b2 o2 E.length d k jk jb;have jh:Hid (D.take (k+1)=D.take k ++ [D[k]]):=AR jg;have ji:Hid (E.take (k+1)=E.take k ++ [E[k]]):=AR jb;have jc:Hid (D[k]≠E[k]->decide (D=E)=false):=λjs=>decide_eq_false λh=>by
      subst h;exact js rfl
     have HXR:=A0 jd;obtain⟨⟨e1,e2,e3,e4⟩,hx⟩:∃ x,D[k]=x:=⟨_,rfl⟩
     obtain⟨⟨f1,f2,f3,f4⟩,hy⟩:∃ y,E[k]=y:=⟨_,rfl⟩
     rw[hx]at x0 x1 x2 x3 jh jc;rw[hy]at y0 y1 y2 y3 ji jc;simp only at x0 x1 x2 x3 y0 y1 y2 y3;clear jj jk hx hy jd;by_cases h0:e1=f1
     ·subst
         h0
      by_cases h1:e2=f2
      ·subst h1;by_cases h2:e3=f3
       ·subst h2;by_cases h3:e4=f4
        ·subst h3;go_wp2
         go_quiet (fail)
         go_wp2
         go_roundg (D.length - (k+1))
         case measure=>have:=jq.out;omega
         case rel=>exact⟨k+1,by go_num,by omega,rfl,by rw[jh.out,ji.out,HT.out],below_drewN HB.out _⟩
        ·have hg3:(e4 == f4)=false:=by rw[beq_eq_false_iff_ne];exact h3
         have HR:=A0 (jc.out λe=>h3 (by injection e with _ e;injection e with _ e;injection e with _ e));go_wp2
         go_quiet (fail)
         go_wp2;go_ret;exact⟨Ad HR.out.symm,Ext.trans ja.out (below_drewN HB.out _)⟩
       ·have hg2:(e3 == f3)=false:=by rw[beq_eq_false_iff_ne];exact h2
        have HR:=A0 (jc.out λe=>h2 (by injection e with _ e;injection e with _ e;injection e with e));go_wp2
        go_quiet (fail)
        go_wp2;go_ret;exact⟨Ad HR.out.symm,Ext.trans ja.out (below_drewN HB.out _)⟩
      ·have hg1:(e2 == f2)=false:=by rw[beq_eq_false_iff_ne];exact h1
       have HR:=A0 (jc.out λe=>h1 (by injection e with _ e;injection e with e));go_wp2
       go_quiet (fail)
       go_wp2;go_ret;exact⟨Ad HR.out.symm,Ext.trans ja.out (below_drewN HB.out _)⟩
     ·have hg0:(e1 == f1)=false:=by rw[beq_eq_false_iff_ne];exact h0
      have HR:=A0 (jc.out λe=>h0 (by injection e with e));go_wp2
      go_quiet (fail)
      go_wp2;go_ret;exact⟨Ad HR.out.symm,Ext.trans ja.out (below_drewN HB.out _)⟩
    ·have HR:Hid (decide (D=E)=true):=decide_eq_true (by
      have h:=HT.out;have h2:=HL.out;rw[AH (by omega),AH (by omega)]at h;exact h)
     go_wp2;go_ret;exact⟨Ad HR.out.symm,Ext.trans ja.out HB.out⟩
  ·have jr:((D.length:Int) == (E.length:Int))=false:=by simpa using λh=>hl (by omega)
   have HR:Hid (decide (D=E)=false):=decide_eq_false λh=>hl (by rw[h]);go_wp2;go_ret;exact⟨Ad HR.out.symm,ja.out⟩
 ·have hnI:(n == m)=false:=by rw[beq_eq_false_iff_ne];exact hn
  have HR:Hid (decide (n=m/\D=E)=false):=decide_eq_false λh=>hn h.1;go_wp2;go_ret;exact⟨Ad HR.out.symm,ja.out⟩
end Go.Proofs.YtpljngaejaehcaaGreatDoor
