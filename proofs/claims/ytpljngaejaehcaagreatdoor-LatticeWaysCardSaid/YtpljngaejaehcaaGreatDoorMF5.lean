/- Texts that the claims share. -/
import Derived.Test.YtpljngaejaehcaaGreatDoorMF4
import Derived.Test.YtpljngaejaehcaaGreatDoorMF3
import Derived.Test.YtpljngaejaehcaaGreatDoorMD4
open Go.Value renaming int->aA,pointer->aB,slice->aG,bool->aH,string->aI,agg->aJ,bool->Y7,slice->Zk
open Go.Obj renaming cells->aK
open Go.IntKind renaming i64->aM,u8->aO
open Go.Ending renaming returned->aP
open Go renaming Addr->Zj,Calls->Zu,TypeId->X5,Value->Z6,World->Z0,heap_alloc_new->Z4
open Go.RowKit.Below renaming heap_alloc->ZF,refl->Z2
open Bool renaming and_eq_true->Zg,false_and->zN,not_eq_true'->XS,or_eq_true->Y2,true_and->zC
open Go.ByteArray renaming toList_eq->ZQ
open Go.DataW renaming trod->z7,trod_int->zL
open Int renaming eq_ofNat_of_zero_le->ZY
open List renaming all_eq_true->Zr,eq_nil_of_length_eq_zero->Zo,head_eq_of_cons_eq->Xb,range->Zt,range_succ->z6
open Nat renaming testBit_two_pow->X4,zero_le->Ze
open Go.Proofs.Tryz renaming func59->xv,ntmps59->xl,prog->Z1,underlying26->Xv,underlying36->Y5,underlying5->Xg
open Go.World renaming cell?_spot->xb,frozen?->Zn,size_drew->Zi,size_setCell->Zb
set_option maxHeartbeats 6400000
set_option maxRecDepth 100000
set_option linter.unusedVariables false
set_option linter.unusedSimpArgs false
set_option linter.defProp false
namespace Go.Proofs.YtpljngaejaehcaaGreatDoor.Fl
open Go.RowKit
def Ue (w:Z0)(B b:Nat)(hb:b<8)(x:Bool):WB B w.heap.size w (wk0 b x) (λ_=>none) (λ_=>0) (λ_=>0) (w.alloc (.cells (wkL (wk0 b x).is (λ_=>aG none 0 0)).toArray 229)) :=
 ⟨Z4 _ _,λt ht=>Ch.nil _ _,(Z2 _ _).alloc (A5 _) _⟩
def QI {w:Z0}{B:Nat}(h:B<=w.heap.size):Ch (w.alloc (aK #[] 3)) B (aG (some ⟨w.heap.size,0,none⟩) 0 0) [] :=
 ⟨rfl,.inr ⟨_,0,#[],rfl,h,Z4 _ _,A5 _,Ze _,rfl,rfl⟩⟩
def rstuck_any (
          S:Sch) (a:Option Zj) (cap:Nat) (w:Z0) (hR:BC w a S.rules) (hS:Fit S) :
  Zu Z1 118 #[aJ #[aA aM S.modes,aA aO S.acc,aG a S.rules.length cap]] w λe w'=>∃ v,e=aP v/\Ch w' w.heap.size v (CM S)/\Below w.heap.size w w':=by
 have HR:=A0 hR;have HS:=A0 hS;clear hR;have m0:=hS.m0;have m1:=hS.m1;have hlen:=hS.len;obtain⟨mm,jN⟩:=ZY (show 0<=S.modes by omega);have HM:Hid (S.modes.toNat=mm):=by show _=_;omega
 have hmm0:0<mm:=by omega
 have hmm8:mm<=8:=by omega
 have jr:=A0 jN;obtain⟨l0,jz⟩:∃ l0,(B9 S).testBit 0=l0:=⟨_,rfl⟩
 have jJ:Hid (CM S=if l0=true then rsF S mm 0 else[]):=by show _=_;rw[CM,jz,HM.out]
 have jH:=A0 jz;clear jN jz hS;cases l0 with
 | false =>
  have HE:Hid (CM S=[]):=by rw[jJ.out];rfl
  go_enter Tryz.func118,Tryz.ntmps118
  go_wp2_with (first | (go_at_call 93;refine(rlive_any S a cap _ (HR.out.later (by first | exact hB | go_grown) (A5 _)) HS.out).mono ?_;rintro e w1 ⟨v,rfl,⟨g3,hv,jX,jc⟩,hb⟩;rw[HM.out]at hv jc;subst hv;have ju:=BM jc (i:=0) (by omega);rw[jH.out]at ju;have hB:=Ac (B:=w.heap.size) (w:=w) (by go_grown) hb (A5 _);clear jc hb) | fail)
  go_ret;exact⟨aG none 0 0,rfl,by rw[HE.out];exact Ch.nil _ _,hB⟩
 | true =>
  have HE:Hid (CM S=rsF S mm 0):=by rw[jJ.out];rfl
  go_enter Tryz.func118,Tryz.ntmps118
  go_wp2_with (first | (go_at_call 93;refine(rlive_any S a cap _ (HR.out.later (by first | exact hB | go_grown) (A5 _)) HS.out).mono ?_;rintro e w1 ⟨v,rfl,⟨g3,hv,jX,jc⟩,hb⟩;rw[HM.out]at hv jc;subst hv;have ju:=BM jc (i:=0) (by omega);rw[jH.out]at ju;have hB:=Ac (B:=w.heap.size) (w:=w) (by go_grown) hb (A5 _);have HB1:=A0 hB;have jj:=Ac (B:=w.heap.size+1) (w:=w.alloc (aK #[aA aM S.modes,aA aO S.acc,aG a S.rules.length cap] 33)) (by go_grown) hb (by simp);have jn:=A0 jj;have j0:=jj.size;have jo:=A0 jc;have jq:=(A7.1 jc).1;obtain⟨hz,hc,hf⟩:=Ap hb (by first | (simp only[A8];rfl) | rfl);clear jc hb jj) | fail)
  simp only[A8]at j0;have jT:=A0 (Ue w1 w.heap.size 0 (by omega) true);clear hz hc hf ju
  go_loopw [5] (λi wr=>∃ (k:Nat) (p:Nat->Option Zj) (m d:Nat->Nat),k<=mm/\i=aA aM k/\WB w.heap.size w1.heap.size w1 (CG (Bv false) S.rules 0 true k) p m d wr/\rsF S (mm - k) k=rsF S mm 0) (λi _=>mm - (intOf i).toNat)
  case atStart=>exact⟨0,_,_,_,by omega,rfl,jT.out,rfl⟩
  case round =>
   obtain⟨k,p,m,d,hk,rfl,jb,jO⟩:=hrel;have jK:=A0 jb;have jh:=A0 jO;have jl:Below (w.heap.size+1) (w.alloc (aK #[aA aM S.modes,aA aO S.acc,aG a S.rules.length cap] 33)) wr:=jn.out.trans (jb.bl.mono (by omega));have hB:Below w.heap.size w wr:=((Z2 _ _).alloc (A5 _) _).trans (jl.mono (by omega));obtain⟨hz,hc,hf⟩:=Aw jl rfl;simp only[A8]at hz;have jU:=jb.row.lt;clear jO;by_cases hlt:k<mm
   ·have jC
         :
          (k:Int)<S.modes:=by have:=jr.out;omega
    obtain⟨O,hO⟩:∃ O,(CG (Bv false) S.rules 0 true (k+1))=O:=⟨_,rfl⟩
    have HO:Hid (Du (Bv false) S.rules (CG (Bv false) S.rules 0 true k)=O):=hO;have jS:=A0 hO;have jI:Hid (rsF S (mm - k) k=if C3 O (Ct S) mm=[] then rsF S (mm - (k+1)) (k+1) else C3 O (Ct S) mm):=by
     show _=_;rw[show mm - k=(mm - (k+1))+1 by omega,rsF,hO,HM.out]
    have jM:Hid (∀ t,t<8->(O.ch t).length<=k+1):=by
     show ∀ t,t<8->_;rw[<- hO];exact EX true (λr hr=>by have:=HS.out.small r hr;omega) (k+1)
    clear hO;have q0:=jb.c0;have q1:=jb.c1;have q2:=jb.c2;have q3:=jb.c3;have q4:=jb.c4;have q5:=jb.c5;have q6:=jb.c6;have q7:=jb.c7;have q8:=jb.c8;have q9:=jb.c9;have q10:=jb.c10;have q11:=jb.c11;have q12:=jb.c12;have q13:=jb.c13;have q14:=jb.c14;have q15:=jb.c15;clear jb
    go_wp2_with (first | (go_at_call 139;refine(OO S a cap (CG (Bv false) S.rules 0 true k) p m d false k _ (HR.out.later (by first | exact hB | go_grown) (A5 _)) HS.out (λt ht=>(jK.out.ok t ht).mono (Ze _)) (EX true (λr hr=>by have:=HS.out.small r hr;omega) k) (by omega)).mono ?_;rintro e w2 ⟨p',m',d',rfl,jm,hb⟩;rw[HO.out]at jm ⊢;clear q0 q1 q2 q3 q4 q5 q6 q7 q8 q9 q10 q11 q12 q13 q14 q15;have ja:=jK.out.below hb;have q0:=ja.c0;have q1:=ja.c1;have q2:=ja.c2;have q3:=ja.c3;have q4:=ja.c4;have q5:=ja.c5;have q6:=ja.c6;have q7:=ja.c7;have q8:=ja.c8;have q9:=ja.c9;have q10:=ja.c10;have q11:=ja.c11;have q12:=ja.c12;have q13:=ja.c13;have q14:=ja.c14;have q15:=ja.c15;have qf:=ja.free;have jw:=A0 (ja.put (O:=O) (λt ht=>(jm t ht).mono hB.size));have j1:=hb.size;have jL:=Ac (B:=w.heap.size) (w:=w) hB hb (A5 _);clear jm ja hb) | fail)
    clear q0 q1 q2 q3 q4 q5 q6 q7 q8 q9 q10 q11 q12 q13 q14 q15 qf hz hc hf jl;have HG3:Hid (g3<w1.heap.size):=jq;have jx:Hid (∀ W,WB w.heap.size w1.heap.size w1 O p' m' d' W->W.heap.size=w2.heap.size->WB w.heap.size w1.heap.size w1 O p' m' d' (W.alloc (aK #[] 3))/\Ch (W.alloc (aK #[] 3)) w.heap.size (aG (some ⟨w2.heap.size,0,none⟩) 0 0) []):=λW h jQ =>
     ⟨h.below ((Z2 _ _).alloc (A5 _) _),by have:=QI (w:=W) (B:=w.heap.size) (by rw[jQ];exact jL.size);rw[jQ]at this;exact this⟩
    go_loopw [6,7] (λbv i wr=>∃ (j:Nat) (b:Option Zj) (n c:Nat) (xs:List Nat),j<=mm/\i=aA aM j/\bv=aG b n c/\n=xs.length/\xs=C3 O (Ct S) j/\Ch wr w.heap.size (aG b n c) xs/\WB w.heap.size w1.heap.size w1 O p' m' d' wr) (λ_ i _=>mm - (intOf i).toNat)
    case atStart=>exact⟨0,_,_,_,[],by omega,rfl,rfl,rfl,rfl,(jx.out _ jw.out (by simp)).2,(jx.out _ jw.out (by simp)).1⟩
    case round =>
     clear jw jx jL j1;obtain⟨j,b,n,c,xs,hj,rfl,rfl,hn,jR,jm,jb⟩:=hrel;have HN:=A0 hn;have jt:=A0 jR;have je:=A0 jm;have ji:=A0 jb;have jl:Below (w.heap.size+1) (w.alloc (aK #[aA aM S.modes,aA aO S.acc,aG a S.rules.length cap] 33)) wr:=jn.out.trans (jb.bl.mono (by omega));have hB:Below w.heap.size w wr:=((Z2 _ _).alloc (A5 _) _).trans (jl.mono (by omega));obtain⟨hz,hc,hf⟩:=Aw jl rfl;simp only[A8]at hz;have jU:=jb.row.lt;clear hn jR jm;by_cases jY:j<mm
     ·have jB:(j:Int)<S.modes:=by have:=jr.out;omega
      have hj8:(j:Int)<8:=by omega
      have hjm:(j:Int)<(mm:Int):=by omega
      have qi:=jb.row.is (i:=j) (by omega);have qv:=jb.row.vs (i:=j) (by omega);have ql:wr.cell? ⟨g3,j,none⟩=some (aH ((B9 S).testBit j)):=(jb.bl.cell (p:=⟨g3,j,none⟩) jq).trans (BM jo.out jY);obtain⟨oi,jE⟩:∃ oi,O.is j=oi:=⟨_,rfl⟩
      obtain⟨lb,jA⟩:∃ lb,(B9 S).testBit j=lb:=⟨_,rfl⟩
      obtain⟨bb,jy⟩:∃ bb,Az (ints (O.ch j)) (ints xs)=bb:=⟨_,rfl⟩
      have HB:Hid (C3 O (Ct S) (j+1)=if oi && (!lb && (xs.isEmpty || bb)) then O.ch j else xs):=by
       show _=_;rw[C3,<- jt.out,IU,jE,jy,Ct,jA]
      rw[jE]at qi;rw[jA]at ql;have jF:=A0 jy;have hOj:=jM.out j (by omega);have hxl:xs.length<=k+1:=by rw[jt.out];exact KX jM.out j (by omega)
      have jP:=jb.sl (t:=j) (by omega);have jk:=A0 jP;have js:Hid (SlS wr b (ints xs)/\n=(ints xs).length):=⟨je.out.sls.1,je.out.sls.2.trans (Ax _).symm⟩
      clear jE jA jy jP jb;cases oi with
      | false =>
       have jg:Hid (C3 O (Ct S) (j+1)=xs):=by rw[HB.out];rfl
       go_wp2
       go_roundw
       case rel=>exact⟨j+1,b,n,c,xs,by omega,by go_num,rfl,HN.out,jg.out.symm,je.out,ji.out⟩
       case measure=>simp[intOf];omega
      | true =>
       cases lb with
       | true =>
        have jg:Hid (C3 O (Ct S) (j+1)=xs):=by rw[HB.out];rfl
        go_wp2
        go_roundw
        case rel=>exact⟨j+1,b,n,c,xs,by omega,by go_num,rfl,HN.out,jg.out.symm,je.out,ji.out⟩
        case measure=>simp[intOf];omega
       | false =>
        by_cases jd:xs=[]
        ·have jg:Hid (C3 O (Ct S) (j+1)=O.ch j):=by show _=_;rw[HB.out,jd];rfl
         have jD:n=0:=by rw[HN.out,jd];rfl
         subst jD;clear jd;go_wp2
         go_roundw
         case rel=>exact⟨j+1,p' j,m' j,d' j,O.ch j,by omega,by go_num,rfl,jk.out.2.trans (Ax _),jg.out.symm,ji.out.ok j (by omega),ji.out⟩
         case measure=>simp[intOf];omega
        ·have jZ:0<n:=by rw[HN.out];rcases xs with _ | ⟨y,ys⟩;exact absurd rfl jd;simp
         have hnz:((n:Int) == 0)=false:=by simp;omega
         have jg:Hid (C3 O (Ct S) (j+1)=if bb=true then O.ch j else xs):=by
          show _=_;rw[HB.out];rcases xs with _ | ⟨y,ys⟩;exact absurd rfl jd;rfl
         clear jd;cases bb with
         | true =>
          go_wp2_with (first | (go_at_call 140;refine(before_any (p' j) b (m' j) n (d' j) c (ints (O.ch j)) (ints xs) _ jk.out.2 js.out.2 jk.out.1 js.out.1 (by rw[Ax];omega) (by rw[Ax];omega)).mono ?_;rintro ee w3 ⟨jp,hb⟩;rw[jF.out]at jp;subst jp;have jf:=A0 (ji.out.below hb);have jG:=A0 (je.out.below hb je.out.lt);obtain⟨j2,jV,jW⟩:=Ap hb rfl;clear hb) | fail)
          go_roundw
          case rel=>exact⟨j+1,p' j,m' j,d' j,O.ch j,by omega,by go_num,rfl,jk.out.2.trans (Ax _),jg.out.symm,jf.out.ok j (by omega),jf.out⟩
          case measure=>simp[intOf];omega
         | false =>
          go_wp2_with (first | (go_at_call 140;refine(before_any (p' j) b (m' j) n (d' j) c (ints (O.ch j)) (ints xs) _ jk.out.2 js.out.2 jk.out.1 js.out.1 (by rw[Ax];omega) (by rw[Ax];omega)).mono ?_;rintro ee w3 ⟨jp,hb⟩;rw[jF.out]at jp;subst jp;have jf:=A0 (ji.out.below hb);have jG:=A0 (je.out.below hb je.out.lt);obtain⟨j2,jV,jW⟩:=Ap hb rfl;clear hb) | fail)
          go_roundw
          case rel=>exact⟨j+1,b,n,c,xs,by omega,by go_num,rfl,HN.out,jg.out.symm,jG.out,jf.out⟩
          case measure=>simp[intOf];omega
     ·obtain rfl:j=mm:=by omega
      have jB:¬ (j:Int)<S.modes:=by have:=jr.out;omega
      by_cases jd:xs=[]
      ·have jD:n=0:=by rw[HN.out,jd];rfl
       have jv:Hid (rsF S (j - (k+1)) (k+1)=rsF S j 0):=by
        have h1:=jI.out;have h2:=jh.out;rw[<- jt.out,if_pos jd]at h1;exact h1.symm.trans h2
       subst jD;clear jd jb;go_wp2
       go_roundw
       case rel=>exact⟨k+1,p',m',d',by omega,by go_num,by rw[jS.out];exact ji.out,jv.out⟩
       case measure=>simp[intOf];omega
      ·have jZ:0<n:=by rw[HN.out];rcases xs with _ | ⟨y,ys⟩;exact absurd rfl jd;simp
       have hnI:(0:Int)<(n:Int):=by omega
       have jv:Hid (xs=rsF S j 0):=by
        have h1:=jI.out;have h2:=jh.out;rw[<- jt.out,if_neg jd]at h1;exact h1.symm.trans h2
       clear jd jb;go_wp2;go_ret;exact⟨aG b n c,rfl,by rw[HE.out,<- jv.out];exact je.out,hB⟩
   ·obtain rfl:k=mm:=by omega
    have jC:¬ (k:Int)<S.modes:=by have:=jr.out;omega
    have HF:Hid ([]=rsF S k 0):=by have:=jh.out;rw[Nat.sub_self,rsF]at this;exact this
    go_wp2;go_ret;exact⟨aG none 0 0,rfl,by rw[HE.out,<- HF.out];exact Ch.nil _ _,hB⟩
def FV (K:Wk)(best:List Nat)(m:Nat):List Nat :=
 if K.is m && (best.isEmpty || (decide ((K.ch m).length<best.length) || (decide ((K.ch m).length=best.length) && Az (ints (K.ch m)) (ints best)))) then K.ch m else best
def DG (S:Sch)(m:Nat)(best0:List Nat):Nat->List Nat
 | 0=>best0
 | n+1=>FV (CG (Bv true) S.rules m (G8 S m) (n+1)) (DG S m best0 n) m
def Gz (S:Sch):Nat->List Nat
 | 0=>[]
 | m+1=>DG S m (Gz S m) S.modes.toNat
def G7 (S:Sch):List Nat:=Gz S S.modes.toNat
def J1 {S:Sch}(hf:∀ r∈S.rules,r.frm.toNat<8){m:Nat}(hm:m<8){b:List Nat}(hb:b.length<=8):∀ n,n<=8->(DG S m b n).length<=8
 | 0,_=>hb
 | n+1,h=>by
  rw[DG,FV];split
  · have:=EX (use:=Bv true) (start:=m) (G8 S m) hf (n+1) m hm;omega
  · exact J1 hf hm hb n (by omega)
def M8 {S:Sch}(hS:Fit S)(hf:∀ r∈S.rules,r.frm.toNat<8):∀ m,m<=8->(Gz S m).length<=8
 | 0,_=>by simp[Gz]
 | m+1,h=>by
  rw[Gz];exact J1 hf (by omega) (M8 hS hf m (by omega)) _ (by have:=hS.m1;omega)
def row_zero (w:Z0):Bu (w.alloc (aK #[aH false,aH false,aH false,aH false,aH false,aH false,aH false,aH false,aG none 0 0,aG none 0 0,aG none 0 0,aG none 0 0,aG none 0 0,aG none 0 0,aG none 0 0,aG none 0 0] 229)) w.heap.size (λ_=>false) (λ_=>aG none 0 0):=Z4 w (aK #[aH false,aH false,aH false,aH false,aH false,aH false,aH false,aH false,aG none 0 0,aG none 0 0,aG none 0 0,aG none 0 0,aG none 0 0,aG none 0 0,aG none 0 0,aG none 0 0] 229)
def Rg (w:Z0){m:Nat}(hm:m<8)(v:Bool):Bu (w.alloc (.cells ([aH false,aH false,aH false,aH false,aH false,aH false,aH false,aH false,aG none 0 0,aG none 0 0,aG none 0 0,aG none 0 0,aG none 0 0,aG none 0 0,aG none 0 0,aG none 0 0].set m (aH v)).toArray 229)) w.heap.size (wk0 m v).is (λ_=>aG none 0 0):=by
 have h:=Z4 w (.cells ([aH false,aH false,aH false,aH false,aH false,aH false,aH false,aH false,aG none 0 0,aG none 0 0,aG none 0 0,aG none 0 0,aG none 0 0,aG none 0 0,aG none 0 0,aG none 0 0].set m (aH v)).toArray 229);unfold Bu;have e:([Y7 false,aH false,aH false,aH false,aH false,aH false,aH false,aH false,aG none 0 0,aG none 0 0,aG none 0 0,aG none 0 0,aG none 0 0,aG none 0 0,aG none 0 0,aG none 0 0].set m (aH v))=wkL (wk0 m v).is (λ_=>aG none 0 0):=by
  rcases(show m=0\/m=1\/m=2\/m=3\/m=4\/m=5\/m=6\/m=7 by omega) with rfl | rfl | rfl | rfl | rfl | rfl | rfl | rfl <;> rfl
 rw[e]at h ⊢;exact h
def rendless_any (S:Sch)(a:Option Zj)(cap:Nat)(w:Z0)(hR:BC w a S.rules)(hS:Fit S) :
  Zu Z1 119 #[aJ #[aA aM S.modes,aA aO S.acc,aG a S.rules.length cap]] w λe w'=>∃ v,e=aP v/\Ch w' w.heap.size v (G7 S)/\Below w.heap.size w w':=by
 have HR:=A0 hR;have HS:=A0 hS;clear hR;have m0:=hS.m0;have m1:=hS.m1;have hlen:=hS.len;obtain⟨mm,jZ⟩:=ZY (show 0<=S.modes by omega);have HM:Hid (S.modes.toNat=mm):=by show _=_;omega
 have hmm0:0<mm:=by omega
 have hmm8:mm<=8:=by omega
 have jD:=A0 jZ;have jB:Hid (∀ r∈S.rules,r.frm.toNat<8):=λr hr=>by have:=hS.small r hr;omega
 clear jZ hS
 go_enter Tryz.func119,Tryz.ntmps119
 go_wp2_with (first
  | (go_at_call 120;refine(LD S a cap _ (HR.out.later (by first | exact hB | go_grown) (A5 _)) HS.out (by rw[HM.out];omega)).mono ?_;rintro e w1 ⟨v,rfl,⟨g3,hv,hg3,jb⟩,hb⟩;rw[HM.out]at hv jb;subst hv;have hB:=Ac (B:=w.heap.size) (w:=w) (by go_grown) hb (A5 _);have ji:=Ac (B:=w.heap.size+1) (w:=w.alloc (aK #[aA aM S.modes,aA aO S.acc,aG a S.rules.length cap] 33)) (by go_grown) hb (by simp);have j3:=ji.size;have jn:=A0 jb;have jM:=(A7.1 jb).1;obtain⟨hz,hc,hf⟩:=Ap hb (by first | (simp only[A8];rfl) | rfl);clear jb hb)
  | (go_at_call 93;refine(rlive_any S a cap _ (HR.out.later (by first | exact hB | go_grown) (A5 _)) HS.out).mono ?_;rintro e w2 ⟨v,rfl,⟨g4,hv,hg4,jb⟩,hb⟩;rw[HM.out]at hv jb;subst hv;have jj:=A0 ((hb.block g3 jM).trans jn.out);have kd:=hb.size;have jz:=ji.trans (hb.mono (by simp only[A8]at j3;omega));have jm:=A0 jz;have jo:=A0 jb;have jO:=(A7.1 jb).1;clear jb hb jz ji hB)
  | fail)
 simp only[A8]at j3;clear hz hc hf;have j4:w.heap.size+1<=w2.heap.size:=by omega
 have jN:g3<w2.heap.size:=by omega
 have j9:Hid (Below w.heap.size w w2):=((Z2 _ _).alloc (A5 _) _).trans (jm.out.mono (by omega))
 go_loopw [5,6] (λbv i wr=>∃ (m:Nat) (b:Option Zj) (n c:Nat) (xs:List Nat),m<=mm/\i=aA aM m/\bv=aG b n c/\n=xs.length/\xs=Gz S m/\Ch wr w.heap.size (aG b n c) xs/\Below w2.heap.size w2 wr) (λ_ i _=>mm - (intOf i).toNat)
 case atStart=>exact⟨0,_,_,_,[],by omega,rfl,rfl,rfl,rfl,QI j9.out.size,(Z2 _ _).alloc (A5 _) _⟩
 case round =>
  obtain⟨m,b,n,c,xs,hm,rfl,rfl,hn,j1,jk,ju⟩:=hrel;have HN:=A0 hn;have jH:=A0 j1;have jF:=A0 jk;have j5:=A0 ju;have ji:Below (w.heap.size+1) (w.alloc (aK #[aA aM S.modes,aA aO S.acc,aG a S.rules.length cap] 33)) wr:=jm.out.trans (ju.mono j4);have hB:Below w.heap.size w wr:=((Z2 _ _).alloc (A5 _) _).trans (ji.mono (by omega));obtain⟨hz,hc,hf⟩:=Aw ji rfl;simp only[A8]at hz;have kf:=ju.size;clear hn j1 jk;by_cases jY:m<mm
  ·have jS
        :
         (m:Int)<S.modes:=by have:=jD.out;omega
   have hm8:(m:Int)<8:=by omega
   have hmI:(m:Int)<(mm:Int):=by omega
   have q3:wr.cell? ⟨g3,m,none⟩=some (aH ((CT S).testBit m)):=(ju.cell (p:=⟨g3,m,none⟩) jN).trans (BM jj.out jY);have q4:wr.cell? ⟨g4,m,none⟩=some (aH ((B9 S).testBit m)):=(ju.cell (p:=⟨g4,m,none⟩) jO).trans (BM jo.out jY);obtain⟨rb,jT⟩:∃ rb,(CT S).testBit m=rb:=⟨_,rfl⟩
   obtain⟨lb,jP⟩:∃ lb,(B9 S).testBit m=lb:=⟨_,rfl⟩
   obtain⟨cb,jK⟩:∃ cb,G8 S m=cb:=⟨_,rfl⟩
   have jw:Hid (cb=(rb && lb)):=by show _=_;rw[<- jK,G8,jT,jP]
   have j7:=A0 jK;rw[jT]at q3;rw[jP]at q4;clear jT jP jK ju;have qz:=(row_zero wr).is (i:=m) (by omega);have qf:=(row_zero wr).free (i:=m);have j8:Hid (∀ v:Bool,WB w.heap.size wr.heap.size wr (wk0 m v) (λ_=>none) (λ_=>0) (λ_=>0) (wr.alloc (.cells ([aH false,aH false,aH false,aH false,aH false,aH false,aH false,aH false,aG none 0 0,aG none 0 0,aG none 0 0,aG none 0 0,aG none 0 0,aG none 0 0,aG none 0 0,aG none 0 0].set m (aH v)).toArray 229))):=λv =>
    ⟨Rg wr (by omega) v,λt ht=>Ch.nil _ _,(Z2 _ _).alloc (A5 _) _⟩
   have j6:Hid (∀ W,Below wr.heap.size wr W->Ch W w.heap.size (aG b n c) xs):=λW h=>jF.out.below h jF.out.lt
   go_upto_region 8 with fail
   go_cut [] (λwx=>wx=(wr.alloc (.cells ([aH false,aH false,aH false,aH false,aH false,aH false,aH false,aH false,aG none 0 0,aG none 0 0,aG none 0 0,aG none 0 0,aG none 0 0,aG none 0 0,aG none 0 0,aG none 0 0].set m (aH cb)).toArray 229)))
   case first =>
    cases rb with
    | false =>
     obtain rfl:cb=false:=jw.out;clear jw
     go_wp2_with fail
     go_meet
     rfl
    | true =>
     obtain rfl:cb=lb:=jw.out;clear jw
     go_wp2_with fail
     go_meet
     rfl
   case rest
        =>
    obtain rfl:=hcut;clear jw;obtain⟨wo,rfl⟩:∃ wo:Z0,wo=wr:=⟨_,rfl⟩
    clear qz qf q3 q4 hc hf hB ji;go_wp2
    go_loopw [5,8] (λbv i wr=>∃ (k:Nat) (b:Option Zj) (n c:Nat) (ys:List Nat) (p:Nat->Option Zj) (m' d:Nat->Nat),k<=mm/\i=aA aM k/\bv=aG b n c/\n=ys.length/\ys=DG S m xs k/\Ch wr w.heap.size (aG b n c) ys/\WB w.heap.size wo.heap.size wo (CG (Bv true) S.rules m (G8 S m) k) p m' d wr) (λ_ i _=>mm - (intOf i).toNat)
    case atStart=>exact⟨0,b,n,c,xs,_,_,_,by omega,rfl,rfl,HN.out,rfl,j6.out _ ((Z2 _ _).alloc (A5 _) _),by have:=j8.out;rw[j7.out];exact this _⟩
    case round =>
     obtain⟨k,b,n,c,ys,p,m',d,hk,rfl,rfl,hn,j2,jk,jc⟩:=hrel;have jf:=A0 hn;have jq:=A0 j2;have jI:=A0 jk;have jV:=A0 jc;have jW:Below w2.heap.size w2 wr:=j5.out.trans (jc.bl.mono kf);have ji:Below (w.heap.size+1) (w.alloc (aK #[aA aM S.modes,aA aO S.acc,aG a S.rules.length cap] 33)) wr:=jm.out.trans (jW.mono j4);have hB:Below w.heap.size w wr:=((Z2 _ _).alloc (A5 _) _).trans (ji.mono (by omega));obtain⟨hz,hc,hf⟩:=Aw ji rfl;simp only[A8]at hz;have hGl:=jc.row.lt;have hyl:ys.length<=8:=by rw[jq.out];exact J1 jB.out (by omega) (by rw[jH.out];exact M8 HS.out jB.out m (by omega)) k (by omega)
     clear hn j2 jk;by_cases hlk:k<mm
     ·have jQ:(k:Int)<S.modes:=by have:=jD.out;omega
      obtain⟨O,hO⟩:∃ O,(CG (Bv true) S.rules m (G8 S m) (k+1))=O:=⟨_,rfl⟩
      have HO:Hid (Du (Bv true) S.rules (CG (Bv true) S.rules m (G8 S m) k)=O):=hO;have jt:=A0 hO;obtain⟨oi,j0⟩:∃ oi,O.is m=oi:=⟨_,rfl⟩
      obtain⟨bb,jJ⟩:∃ bb,Az (ints (O.ch m)) (ints ys)=bb:=⟨_,rfl⟩
      have hOl:(O.ch m).length<=k+1:=by rw[<- hO];exact EX _ jB.out (k+1) m (by omega)
      have jG:Hid (DG S m xs (k+1)=if oi && (ys.isEmpty || (decide ((O.ch m).length<ys.length) || (decide ((O.ch m).length=ys.length) && bb))) then O.ch m else ys):=by
       show _=_;rw[DG,<- jq.out,FV,hO,j0,jJ]
      have jU:=A0 jJ;have kc:∀ (m'':Nat->Nat) (W:Z0) (p':Nat->Option Zj) (d':Nat->Nat),True:=λ_ _ _ _=>trivial;clear hO jJ kc;have q0:=jc.c0;have q1:=jc.c1;have q2:=jc.c2;have q3:=jc.c3;have q4:=jc.c4;have q5:=jc.c5;have q6:=jc.c6;have q7:=jc.c7;have q8:=jc.c8;have q9:=jc.c9;have q10:=jc.c10;have q11:=jc.c11;have q12:=jc.c12;have q13:=jc.c13;have q14:=jc.c14;have q15:=jc.c15;clear jc
      go_upto_region 13 with(first | (go_at_call 139;refine(OO S a cap (CG (Bv true) S.rules m (G8 S m) k) p m' d true k _ (HR.out.later (by first | exact hB | go_grown) (A5 _)) HS.out (λt ht=>(jV.out.ok t ht).mono (Ze _)) (EX _ jB.out k) (by omega)).mono ?_;rintro e w3 ⟨p',m'',d',rfl,jk,hb⟩;rw[HO.out]at jk ⊢;clear q0 q1 q2 q3 q4 q5 q6 q7 q8 q9 q10 q11 q12 q13 q14 q15;have ja:=jV.out.below hb;have q0:=ja.c0;have q1:=ja.c1;have q2:=ja.c2;have q3:=ja.c3;have q4:=ja.c4;have q5:=ja.c5;have q6:=ja.c6;have q7:=ja.c7;have q8:=ja.c8;have q9:=ja.c9;have q10:=ja.c10;have q11:=ja.c11;have q12:=ja.c12;have q13:=ja.c13;have q14:=ja.c14;have q15:=ja.c15;have qf:=ja.free;have jE:=ja.put (O:=O) (λt ht=>(jk t ht).mono hB.size);have qis:=jE.row.is (i:=m) (by omega);have qvs:=jE.row.vs (i:=m) (by omega);rw[j0]at qis;have jd:=A0 jE;have jl:=A0 (TE ja (p':=p') (m':=m'') (d':=d') (O:=O) (jI.out.below hb jI.out.lt));have kd:=hb.size;have hB2:=Ac (B:=w.heap.size) (w:=w) hB hb (A5 _);clear jk ja hb jE;have jC:Hid (m'' m=(O.ch m).length):=(jd.out.sl (t:=m) (by omega)).2.trans (Ax _)) | fail)
      cases oi with
      | false =>
       have je:Hid (DG S m xs (k+1)=ys):=by rw[jG.out];rfl
       go_wp2
       go_roundw
       case rel=>exact⟨k+1,b,n,c,ys,p',m'',d',by omega,by go_num,rfl,jf.out,je.out.symm,jl.out,by rw[jt.out];exact jd.out⟩
       case measure=>simp[intOf];omega
      | true =>
       by_cases jv:ys=[]
       ·have je:Hid (DG S m xs (k+1)=O.ch m):=by show _=_;rw[jG.out,jv];rfl
        have kb:n=0:=by rw[jf.out,jv];rfl
        subst kb;clear jv;go_wp2
        go_roundw
        case rel=>exact⟨k+1,p' m,m'' m,d' m,O.ch m,p',m'',d',by omega,by go_num,rfl,(jd.out.sl (t:=m) (by omega)).2.trans (Ax _),je.out.symm,jd.out.ok m (by omega),by rw[jt.out];exact jd.out⟩
        case measure=>simp[intOf];omega
       ·have hnp:0<n:=by rw[jf.out];rcases ys with _ | ⟨y,ys⟩;exact absurd rfl jv;simp
        have hnz:((n:Int) == 0)=false:=by simp;omega
        have jp:Hid (DG S m xs (k+1)=if(decide ((O.ch m).length<ys.length) || (decide ((O.ch m).length=ys.length) && bb)) then O.ch m else ys):=by
         show _=_;rw[jG.out];rcases ys with _ | ⟨y,ys⟩;exact absurd rfl jv;rfl
        clear jv;rcases Nat.lt_trichotomy (O.ch m).length ys.length with jh | jh | jh
        ·have je:Hid (DG S m xs (k+1)=O.ch m):=by show _=_;rw[jp.out,decide_eq_true jh];rfl
         have jr:=jC.out;have js:=jf.out;have jR:m'' m<n:=(by omega);have jL:decide (m'' m<n)=true:=(by simp;omega);clear jr js
         go_wp2
         go_roundw
         case rel=>exact⟨k+1,p' m,m'' m,d' m,O.ch m,p',m'',d',by omega,by go_num,rfl,(jd.out.sl (t:=m) (by omega)).2.trans (Ax _),je.out.symm,jd.out.ok m (by omega),by rw[jt.out];exact jd.out⟩
         case measure=>simp[intOf];omega
        ·have jx:Hid (DG S m xs (k+1)=if bb=true then O.ch m else ys):=by show _=_;rw[jp.out,decide_eq_false (by omega),decide_eq_true jh];simp
         have hcmp2:(O.ch m).length<=ys.length/\ys.length<=(O.ch m).length:=by omega
         clear jh;cases bb with
         | true =>
          have je:Hid (DG S m xs (k+1)=O.ch m):=jx.out;have jr:=jC.out;have js:=jf.out;have jR:¬ m'' m<n:=(by omega);have jL:decide (m'' m<n)=false:=(by simp;omega);have jX:((m'' m:Int) == (n:Int))=true:=(by simp;omega);clear jr js
          go_wp2_with (first | (go_at_call 140;refine(before_any (p' m) b (m'' m) n (d' m) c (ints (O.ch m)) (ints ys) _ (jd.out.sl (t:=m) (by omega)).2 (jf.out.trans (Ax _).symm) (jd.out.sl (t:=m) (by omega)).1 jl.out.sls.1 (by rw[Ax];omega) (by rw[Ax];omega)).mono ?_;rintro ee w4 ⟨jA,hb⟩;rw[jU.out]at jA;subst jA;have jg:=A0 (jd.out.below hb);have jy:=A0 (jl.out.below hb jl.out.lt);obtain⟨ke,Jx,ka⟩:=Ap hb (by first | (simp only[Zb];rfl) | rfl);clear hb) | fail)
          go_roundw
          case rel=>exact⟨k+1,p' m,m'' m,d' m,O.ch m,p',m'',d',by omega,by go_num,rfl,(jg.out.sl (t:=m) (by omega)).2.trans (Ax _),je.out.symm,jg.out.ok m (by omega),by rw[jt.out];exact jg.out⟩
          case measure=>simp[intOf];omega
         | false =>
          have je:Hid (DG S m xs (k+1)=ys):=jx.out;have jr:=jC.out;have js:=jf.out;have jR:¬ m'' m<n:=(by omega);have jL:decide (m'' m<n)=false:=(by simp;omega);have jX:((m'' m:Int) == (n:Int))=true:=(by simp;omega);clear jr js
          go_wp2_with (first | (go_at_call 140;refine(before_any (p' m) b (m'' m) n (d' m) c (ints (O.ch m)) (ints ys) _ (jd.out.sl (t:=m) (by omega)).2 (jf.out.trans (Ax _).symm) (jd.out.sl (t:=m) (by omega)).1 jl.out.sls.1 (by rw[Ax];omega) (by rw[Ax];omega)).mono ?_;rintro ee w4 ⟨jA,hb⟩;rw[jU.out]at jA;subst jA;have jg:=A0 (jd.out.below hb);have jy:=A0 (jl.out.below hb jl.out.lt);obtain⟨ke,Jx,ka⟩:=Ap hb (by first | (simp only[Zb];rfl) | rfl);clear hb) | fail)
          go_roundw
          case rel=>exact⟨k+1,b,n,c,ys,p',m'',d',by omega,by go_num,rfl,jf.out,je.out.symm,jy.out,by rw[jt.out];exact jg.out⟩
          case measure=>simp[intOf];omega
        ·have je:Hid (DG S m xs (k+1)=ys):=by show _=_;rw[jp.out,decide_eq_false (by omega),decide_eq_false (by omega)];rfl
         have jr:=jC.out;have js:=jf.out;have jR:¬ m'' m<n:=(by omega);have jL:decide (m'' m<n)=false:=(by simp;omega);have jX:((m'' m:Int) == (n:Int))=false:=(by simp;omega);clear jr js
         go_wp2
         go_roundw
         case rel=>exact⟨k+1,b,n,c,ys,p',m'',d',by omega,by go_num,rfl,jf.out,je.out.symm,jl.out,by rw[jt.out];exact jd.out⟩
         case measure=>simp[intOf];omega
     ·obtain rfl:k=mm:=by omega
      have jQ:¬ (k:Int)<S.modes:=by have:=jD.out;omega
      have je:Hid (ys=Gz S (m+1)):=by show _=_;rw[Gz,<- jH.out,HM.out];exact jq.out
      clear jc;go_wp2
      go_roundw
      case rel=>exact⟨m+1,b,n,c,ys,by omega,by go_num,rfl,jf.out,je.out,jI.out,jW⟩
      case measure=>simp[intOf];omega
  ·obtain rfl:m=mm:=by omega
   have jS:¬ (m:Int)<S.modes:=by have:=jD.out;omega
   go_wp2;go_ret;exact⟨aG b n c,rfl,by rw[G7,HM.out,<- jH.out];exact jF.out,hB⟩
open Classical in
noncomputable def Fx (S:Sch):Rp:=if validB S=true then⟨EL S S.rules.length,CM S,G7 S⟩ else⟨[],[],[]⟩
structure LT (w M:Z0)(g:Nat)(v1 v2 v3:Z6)(x1 x2 x3:List Nat)(wr:Z0):Prop where
 rep:wr.heap[g]? = some (aK #[v1,v2,v3] 158 (0,0))
 d1:Ch wr w.heap.size v1 x1
 d2:Ch wr w.heap.size v2 x2
 d3:Ch wr w.heap.size v3 x3
 gm:w.heap.size+2<=g
 bl:Below (w.heap.size+2) M wr
section
variable {w M:World} {g B1:Nat} {v1 v2 v3 v:Value} {x1 x2 x3 x:List Nat} {wr w1:World}
def LS.lt (h:LS w M g B1 v1 v2 v3 x1 x2 x3 wr):LT w M g v1 v2 v3 x1 x2 x3 wr :=
 ⟨h.rep,h.d1.mono (by have:=h.gB;have:=h.gm;omega),h.d2,h.d3,h.gm,h.bl⟩
def LT.below (h:LT w M g v1 v2 v3 x1 x2 x3 wr)(hb:Below wr.heap.size wr w1):LT w M g v1 v2 v3 x1 x2 x3 w1:=by
 have hg:g<wr.heap.size:=(A7.1 h.rep).1;exact⟨(hb.block g hg).trans h.rep,h.d1.below hb h.d1.lt,h.d2.below hb h.d2.lt,h.d3.below hb h.d3.lt,h.gm,h.bl.trans (hb.mono (by have:=h.gm;omega))⟩
def LT.set1 (h:LT w M g v1 v2 v3 x1 x2 x3 wr)(hv:Ch wr w.heap.size v x):LT w M g v1 v v3 x1 x x3 (wr.setCell ⟨g,1,none⟩ v) :=
 ⟨Aj h.rep rfl,EG h.d1 h.rep,EG hv h.rep,EG h.d3 h.rep,h.gm,h.bl.setCell h.gm _⟩
def LT.set2 (h:LT w M g v1 v2 v3 x1 x2 x3 wr)(hv:Ch wr w.heap.size v x):LT w M g v1 v2 v x1 x2 x (wr.setCell ⟨g,2,none⟩ v) :=
 ⟨Aj h.rep rfl,EG h.d1 h.rep,EG h.d2 h.rep,EG hv h.rep,h.gm,h.bl.setCell h.gm _⟩
def LT.cells (h:LT w M g v1 v2 v3 x1 x2 x3 wr):wr.cell? ⟨g,0,none⟩=some v1/\wr.cell? ⟨g,1,none⟩=some v2/\wr.cell? ⟨g,2,none⟩=some v3:=cells3 h.rep
def LT.gf (h:LT w M g v1 v2 v3 x1 x2 x3 wr)(i:Nat):wr.frozen? ⟨g,i,none⟩=false:=by simp[Zn,h.rep]
end
def rfind_any (S:Sch)(a:Option Zj)(cap:Nat)(w:Z0)(hR:BC w a S.rules)(h0:0<=S.acc)(h1:S.acc<=255)(hl:S.rules.length<=9223372036854775807)(hS:validB S=true->Fit S) :
  Zu Z1 92 #[aJ #[aA aM S.modes,aA aO S.acc,aG a S.rules.length cap]] w λe w'=>∃ v1 v2 v3,e=aP (aJ #[v1,v2,v3])/\Ch w' w.heap.size v1 (Fx S).dead/\Ch w' w.heap.size v2 (Fx S).stuck/\Ch w' w.heap.size v3 (Fx S).endl/\Below w.heap.size w w':=by
 have HR:=A0 hR;have HS:=A0 hS;clear hR hS;by_cases hv:validB S=true
 ·have jd:=HS.out hv;have HV:=A0 hv;have HF:Hid (Fx S=⟨EL S S.rules.length,CM S,G7 S⟩):=by show _=_;rw[Fx,if_pos hv]
  clear hv
  go_enter Tryz.func92,Tryz.ntmps92
  have jm:Hid (LS w ((w.alloc (aK #[aA aM S.modes,aA aO S.acc,aG a S.rules.length cap] 33)).alloc (aK #[aG none 0 0,aG none 0 0,aG none 0 0] 158)) (w.heap.size+1+1) (w.heap.size+3) (aG none 0 0) (aG none 0 0) (aG none 0 0) [] [] [] (((w.alloc (aK #[aA aM S.modes,aA aO S.acc,aG a S.rules.length cap] 33)).alloc (aK #[aG none 0 0,aG none 0 0,aG none 0 0] 158)).alloc (aK #[aG none 0 0,aG none 0 0,aG none 0 0] 158))) :=
   ⟨(by have:=Z4 ((w.alloc (aK #[aA aM S.modes,aA aO S.acc,aG a S.rules.length cap] 33)).alloc (aK #[aG none 0 0,aG none 0 0,aG none 0 0] 158)) (aK #[aG none 0 0,aG none 0 0,aG none 0 0] 158);simpa using this),Ch.nil _ _,Ch.nil _ _,Ch.nil _ _,(λb hb=>(by cases hb)),(λb hb=>(by cases hb)),(by omega),(by omega),(by simp only[A8];omega),(by go_grown)⟩
  go_wp2_with (first
   | (go_at_call 58;refine(rvalid_any S a cap _ (HR.out.later (by first | exact hB | go_grown) (A5 _)) h0 h1 hl).mono ?_;rintro e w1 ⟨he,hb⟩;rw[HV.out]at he;subst he;have jn:=A0 (jm.out.below hb);obtain⟨hz,hc,hf⟩:=Ap hb (by first | (simp only[A8,Zb,Zi];rfl) | rfl);have hB:=Ac (B:=w.heap.size) (w:=w) (by first | exact hB | go_grown) hb (A5 _);clear hb)
   | fail)
  clear hz hc hf;obtain⟨i0,hi,jC,jD,jE⟩:=info_parts GG;have hlen:=jd.len
  go_loopw [5] (λi wr=>∃ (k:Nat) (a1:Option Zj) (n1 c1:Nat),k<=S.rules.length/\i=aA aM k/\LS w ((w.alloc (aK #[aA aM S.modes,aA aO S.acc,aG a S.rules.length cap] 33)).alloc (aK #[aG none 0 0,aG none 0 0,aG none 0 0] 158)) (w.heap.size+1+1) (w.heap.size+3) (aG a1 n1 c1) (aG none 0 0) (aG none 0 0) (EL S k) [] [] wr) (λi _=>S.rules.length - (intOf i).toNat)
  case atStart=>exact⟨0,none,0,0,by omega,rfl,jn.out⟩
  case round =>
   clear hB;obtain⟨k,a1,n1,c1,hk,rfl,jq⟩:=hrel;have jj:=jq.bl;have hB:Below w.heap.size w wr:=(((Z2 _ _).alloc (A5 _) _).alloc (by simp) _).trans (jj.mono (by omega));obtain⟨hz,hc,hf⟩:=Aw jj rfl;simp only[A8]at hz;have jl:=A0 jq;clear jq;by_cases jr:k<S.rules.length
   ·obtain⟨dd,jv⟩:∃ dd,KK (CT S) (B9 S) S.rules[k]=dd:=⟨_,rfl⟩
    have jk:=A0 jv;have jt:Hid (EL S (k+1)=if dd then EL S k ++ [k] else EL S k):=by show _=_;rw[P7 S k jr,jk.out]
    clear jv;by_cases hd:dd=true
    ·subst hd;have ju:Hid ((EL S k).length+1<=100):=by have:=RX S k;show _<=_;omega
     go_wp2_with (first
      | (go_at_call 117;refine(rdead_any S a cap k _ (HR.out.later (by first | exact hB | go_grown) (A5 _)) jd jr).mono ?_;rintro e w3 ⟨he,hb⟩;rw[jk.out]at he;subst he;have jb:=A0 (jl.out.below hb);have hg0:=jb.out.g0;have jc:=A0 (jb.out.below ((Z2 _ _).alloc (A5 _) (aK #[aA aM (k:Int)] 3)));obtain⟨hz,hc,hf⟩:=Ap hb (by first | (simp only[A8,Zb,Zi];rfl) | rfl);have hB:=Ac (B:=w.heap.size) (w:=w) (by first | exact hB | go_grown) hb (A5 _);clear hb)
      | (at_builtin;refine wpList_append_own _ rfl _ _ 36 rfl (w.heap.size+3) 3 i0 (aA aM 0) 1 8 Y5 hi jC jD jE rfl (by decide) (aG a1 n1 c1) (EL S k).length (FP (EL S k)) rfl jc.out.d1 ⟨w3.heap.size,0,none⟩ 1 1 [aA aM (k:Int)] rfl rfl (cell_one_new _ _ _) (by simp[Value.oneCell']) (by have:=ju.out;unfold maxLen;omega) (by have:=ju.out;omega) (by exact jc.out.bB) ?_;intro v5 w5 je ja _;have js:=A0 (MR je);obtain⟨a5,n5,c5,jB⟩:=js.out.form;subst jB;have jy:=jc.out.cells ja (λb hb=>jc.out.d1.ge b hb);obtain⟨hcl0,hclf⟩:=jy;have jh:=A0 (jc.out.grown ja (λb hb=>jc.out.d1.ge b hb) js.out);clear je ja)
      | fail)
     go_roundw
     case rel=>exact⟨k+1,a5,n5,c5,by omega,by go_num,by rw[jt.out];first | exact jh.out | (simp only[if_true];exact jh.out)⟩
     case measure=>simp[intOf];omega
    ·obtain rfl:dd=false:=by simpa using hd
     clear hd
     go_wp2_with (first
      | (go_at_call 117;refine(rdead_any S a cap k _ (HR.out.later (by first | exact hB | go_grown) (A5 _)) jd jr).mono ?_;rintro e w3 ⟨he,hb⟩;rw[jk.out]at he;subst he;have jb:=A0 (jl.out.below hb);obtain⟨hz,hc,hf⟩:=Ap hb (by first | (simp only[A8,Zb,Zi];rfl) | rfl);have hB:=Ac (B:=w.heap.size) (w:=w) (by first | exact hB | go_grown) hb (A5 _);clear hb)
      | fail)
     go_roundw
     case rel=>exact⟨k+1,a1,n1,c1,by omega,by go_num,by rw[jt.out];first | exact jb.out | (simp only[if_false];exact jb.out) | (simp;exact jb.out)⟩
     case measure=>simp[intOf];omega
   ·obtain rfl:k=S.rules.length:=by omega
    have HT:=A0 jl.out.lt
    go_wp2_with (first
     | (go_at_call 118;refine(rstuck_any S a cap _ (HR.out.later (by first | exact hB | go_grown) (A5 _)) jd).mono ?_;rintro e w3 ⟨v,rfl,jf,hb⟩;obtain⟨a2,n2,c2,jz⟩:=jf.form;subst jz;have jo:=A0 (HT.out.below hb);obtain⟨y0,y1,y2⟩:=jo.out.cells;have yf:=jo.out.gf;have jx:=A0 (jo.out.set1 (jf.mono hB.size));clear jf;obtain⟨hz,hc,hf⟩:=Ap hb (by first | (simp only[A8,Zb,Zi];rfl) | rfl);have hB:=Ac (B:=w.heap.size) (w:=w) (by first | exact hB | go_grown) hb (A5 _);clear hb)
     | (go_at_call 119;refine(rendless_any S a cap _ (HR.out.later (by first | exact hB | go_grown) (A5 _)) jd).mono ?_;rintro e w4 ⟨v,rfl,jf,hb⟩;obtain⟨a3,n3,c3,jA⟩:=jf.form;subst jA;have jp:=A0 (jx.out.below hb);clear y0 y1 y2 yf;obtain⟨y0,y1,y2⟩:=jp.out.cells;have yf:=jp.out.gf;have ji:=A0 (jp.out.set2 (jf.mono (by have:=hB.size;simp only[Zb];omega)));obtain⟨u0,u1,u2⟩:=ji.out.cells;clear jf;obtain⟨hz,hc,hf⟩:=Ap hb (by first | (simp only[A8,Zb,Zi];rfl) | rfl);have hB:=Ac (B:=w.heap.size) (w:=w) (by first | exact hB | go_grown) hb (A5 _);clear hb)
     | fail)
    have jg:(w4.setCell ⟨w.heap.size+1+1,2,none⟩ (aG a3 n3 c3)).heap[w.heap.size+1]? = some (aK #[aG none 0 0,aG none 0 0,aG none 0 0] 158 (0,0)):=by
     refine(ji.out.bl.block (w.heap.size+1) (by omega)).trans ?_;have:=Z4 (w.alloc (aK #[aA aM S.modes,aA aO S.acc,aG a S.rules.length cap] 33)) (aK #[aG none 0 0,aG none 0 0,aG none 0 0] 158);simpa using this
    obtain⟨r0,r1,r2⟩:=cells3 (RW (a:=aG a1 n1 c1) (b:=aG a2 n2 c2) (c:=aG a3 n3 c3) jg);refine bodyPost_ret (v:=aJ #[aG a1 n1 c1,aG a2 n2 c2,aG a3 n3 c3]) (by simp[results,Tryz.results92,go_sem,r0,r1,r2]) rfl ⟨_,_,_,rfl,?_,?_,?_,?_⟩
    · rw[HF.out];exact Mn ji.out.d1 jg
    · rw[HF.out];exact Mn ji.out.d2 jg
    · rw[HF.out];exact Mn ji.out.d3 jg
    · exact(((hB.setCell (by simp;omega) _).setCell (by simp) _).setCell (by simp) _).setCell (by simp) _
 ·have jw:validB S=false:=by simpa using hv
  have HV:=A0 jw;have HF:Hid (Fx S=⟨[],[],[]⟩):=by show _=_;rw[Fx,if_neg hv]
  clear hv jw
  go_enter Tryz.func92,Tryz.ntmps92
  go_wp2_with (first
   | (go_at_call 58;refine(rvalid_any S a cap _ (HR.out.later (by first | exact hB | go_grown) (A5 _)) h0 h1 hl).mono ?_;rintro e w1 ⟨he,hb⟩;rw[HV.out]at he;subst he;have jj:=hb.mono (show w.heap.size+2<=_ by simp only[A8];omega);obtain⟨hz,hc,hf⟩:=Ap hb (by first | (simp only[A8,Zb,Zi];rfl) | rfl);have hB:=Ac (B:=w.heap.size) (w:=w) (by first | exact hB | go_grown) hb (A5 _);clear hb)
   | fail)
  have jg:w1.heap[w.heap.size+1]? = some (aK #[aG none 0 0,aG none 0 0,aG none 0 0] 158 (0,0)):=by
   refine(jj.block (w.heap.size+1) (by omega)).trans ?_;have:=Z4 (w.alloc (aK #[aA aM S.modes,aA aO S.acc,aG a S.rules.length cap] 33)) (aK #[aG none 0 0,aG none 0 0,aG none 0 0] 158);rw[ZF _ _ _ (by simp)];simpa using this
  obtain⟨r0,r1,r2⟩:=cells3 (RW (a:=aG none 0 0) (b:=aG none 0 0) (c:=aG none 0 0) jg);refine bodyPost_ret (v:=aJ #[aG none 0 0,aG none 0 0,aG none 0 0]) (by simp[results,Tryz.results92,go_sem,r0,r1,r2]) rfl ⟨_,_,_,rfl,?_,?_,?_,?_⟩
  · rw[HF.out];exact Ch.nil _ _
  · rw[HF.out];exact Ch.nil _ _
  · rw[HF.out];exact Ch.nil _ _
  · exact((hB.setCell (by simp) _).setCell (by simp) _).setCell (by simp) _
open Classical in
noncomputable def Ci (S:Sch):Int :=
 if validB S=true then(if(B9 S).testBit 0=true then(if CM S=[] then(if G7 S=[] then 0 else 41) else 40) else 50) else 20
def Jh {l:List Nat}(h:l≠[]):0<l.length:=by rcases l with _ | ⟨x,l⟩;exact absurd rfl h;simp
def rsound_any (S:Sch)(a:Option Zj)(cap:Nat)(w:Z0)(hR:BC w a S.rules)(h0:0<=S.acc)(h1:S.acc<=255)(hl:S.rules.length<=9223372036854775807)(hS:validB S=true->Fit S) :
  Zu Z1 59 #[aJ #[aA aM S.modes,aA aO S.acc,aG a S.rules.length cap]] w λe w'=>e=aP (aA aM (Ci S))/\Below w.heap.size w w':=by
 have HR:=A0 hR;have HS:=A0 hS;clear hR hS;by_cases hv:validB S=true
 ·have jl:=HS.out hv;have jg:=A0 jl;have HV:=A0 hv;have m0:=jl.m0;have m1:=jl.m1;obtain⟨mm,jB⟩:=ZY (show 0<=S.modes by omega);have HM:Hid (S.modes.toNat=mm):=by show _=_;omega
  have hmm0:0<mm:=by omega
  obtain⟨l0,jz⟩:∃ l0,(B9 S).testBit 0=l0:=⟨_,rfl⟩
  have HF:Hid (Fx S=⟨EL S S.rules.length,CM S,G7 S⟩):=by show _=_;rw[Fx,if_pos hv]
  have jo:Hid (Ci S=if l0=true then(if CM S=[] then(if G7 S=[] then 0 else 41) else 40) else 50):=by show _=_;rw[Ci,if_pos hv,jz]
  have jp:=A0 jz;clear jB jz hv jl;by_cases jr:CM S=[]
  ·have jn:Hid (∀ n,n=(CM S).length->¬ (0:Int)<(n:Int)):=λn h=>by rw[jr]at h;simp at h;omega
   have jx:=A0 jr;clear jr;by_cases jq:G7 S=[]
   ·have jm:Hid (∀ n,n=(G7 S).length->¬ (0:Int)<(n:Int)):=λn h=>by rw[jq]at h;simp at h;omega
    have jy:=A0 jq;clear jq;cases l0 with
    | false =>
     have HE:Hid (50=Ci S):=by show _=_;rw[jo.out];rfl
     go_enter xv,xl
     go_wp2_with (first | (go_at_call 58;refine(rvalid_any S a cap _ (HR.out.later (by first | exact hB | go_grown) (A5 _)) h0 h1 hl).mono ?_;rintro e w1 ⟨he,hb⟩;rw[HV.out]at he;subst he;obtain⟨hz,hc,hf⟩:=Ap hb (by first | (simp only[A8,Zb,Zi];rfl) | rfl);have hB:=Ac (B:=w.heap.size) (w:=w) (by first | exact hB | go_grown) hb (A5 _);clear hb) | (go_at_call 92;refine(rfind_any S a cap _ (HR.out.later (by first | exact hB | go_grown) (A5 _)) h0 h1 hl HS.out).mono ?_;rintro e w2 ⟨v1,v2,v3,rfl,jf,jd,je,hb⟩;obtain⟨a1,n1,c1,ji⟩:=jf.form;obtain⟨a2,n2,c2,jj⟩:=jd.form;obtain⟨a3,n3,c3,jk⟩:=je.form;subst ji jj jk;have jb:=jd.sls.2;have jc:=je.sls.2;rw[HF.out]at jb jc;have js:=A0 jb;have jt:=A0 jc;have jv:=jn.out n2 jb;have jw:=jm.out n3 jc;clear jf jd je jb jc;obtain⟨hz,hc,hf⟩:=Ap hb (by first | (simp only[A8,Zb,Zi];rfl) | rfl);have hB:=Ac (B:=w.heap.size) (w:=w) (by first | exact hB | go_grown) hb (A5 _);clear hb) | (go_at_call 93;refine(rlive_any S a cap _ (HR.out.later (by first | exact hB.alloc (by have:=hB.size;omega) _ | exact hB | go_grown) (A5 _)) jg.out).mono ?_;rintro e w3 ⟨v,rfl,⟨g3,hv,ju,ja⟩,hb⟩;rw[HM.out]at hv ja;subst hv;have jh:=BM ja (i:=0) (by omega);rw[jp.out]at jh;clear ja;obtain⟨hz,hc,hf⟩:=Ap hb (by first | (simp only[A8,Zb,Zi];rfl) | rfl);have hB:=Ac (B:=w.heap.size) (w:=w) (by go_grown) hb (A5 _);clear hb) | fail)
     go_ret;exact⟨BH HE.out,hB⟩
    | true =>
     have HE:Hid (0=Ci S):=by show _=_;rw[jo.out,if_pos rfl,if_pos jx.out,if_pos jy.out]
     go_enter xv,xl
     go_wp2_with (first | (go_at_call 58;refine(rvalid_any S a cap _ (HR.out.later (by first | exact hB | go_grown) (A5 _)) h0 h1 hl).mono ?_;rintro e w1 ⟨he,hb⟩;rw[HV.out]at he;subst he;obtain⟨hz,hc,hf⟩:=Ap hb (by first | (simp only[A8,Zb,Zi];rfl) | rfl);have hB:=Ac (B:=w.heap.size) (w:=w) (by first | exact hB | go_grown) hb (A5 _);clear hb) | (go_at_call 92;refine(rfind_any S a cap _ (HR.out.later (by first | exact hB | go_grown) (A5 _)) h0 h1 hl HS.out).mono ?_;rintro e w2 ⟨v1,v2,v3,rfl,jf,jd,je,hb⟩;obtain⟨a1,n1,c1,ji⟩:=jf.form;obtain⟨a2,n2,c2,jj⟩:=jd.form;obtain⟨a3,n3,c3,jk⟩:=je.form;subst ji jj jk;have jb:=jd.sls.2;have jc:=je.sls.2;rw[HF.out]at jb jc;have js:=A0 jb;have jt:=A0 jc;have jv:=jn.out n2 jb;have jw:=jm.out n3 jc;clear jf jd je jb jc;obtain⟨hz,hc,hf⟩:=Ap hb (by first | (simp only[A8,Zb,Zi];rfl) | rfl);have hB:=Ac (B:=w.heap.size) (w:=w) (by first | exact hB | go_grown) hb (A5 _);clear hb) | (go_at_call 93;refine(rlive_any S a cap _ (HR.out.later (by first | exact hB.alloc (by have:=hB.size;omega) _ | exact hB | go_grown) (A5 _)) jg.out).mono ?_;rintro e w3 ⟨v,rfl,⟨g3,hv,ju,ja⟩,hb⟩;rw[HM.out]at hv ja;subst hv;have jh:=BM ja (i:=0) (by omega);rw[jp.out]at jh;clear ja;obtain⟨hz,hc,hf⟩:=Ap hb (by first | (simp only[A8,Zb,Zi];rfl) | rfl);have hB:=Ac (B:=w.heap.size) (w:=w) (by go_grown) hb (A5 _);clear hb) | fail)
     go_ret;exact⟨BH HE.out,hB⟩
   ·have jm:Hid (∀ n,n=(G7 S).length->(0:Int)<(n:Int)):=λn h=>by have:=Jh jq;omega
    have jy:=A0 jq;clear jq;cases l0 with
    | false =>
     have HE:Hid (50=Ci S):=by show _=_;rw[jo.out];rfl
     go_enter xv,xl
     go_wp2_with (first | (go_at_call 58;refine(rvalid_any S a cap _ (HR.out.later (by first | exact hB | go_grown) (A5 _)) h0 h1 hl).mono ?_;rintro e w1 ⟨he,hb⟩;rw[HV.out]at he;subst he;obtain⟨hz,hc,hf⟩:=Ap hb (by first | (simp only[A8,Zb,Zi];rfl) | rfl);have hB:=Ac (B:=w.heap.size) (w:=w) (by first | exact hB | go_grown) hb (A5 _);clear hb) | (go_at_call 92;refine(rfind_any S a cap _ (HR.out.later (by first | exact hB | go_grown) (A5 _)) h0 h1 hl HS.out).mono ?_;rintro e w2 ⟨v1,v2,v3,rfl,jf,jd,je,hb⟩;obtain⟨a1,n1,c1,ji⟩:=jf.form;obtain⟨a2,n2,c2,jj⟩:=jd.form;obtain⟨a3,n3,c3,jk⟩:=je.form;subst ji jj jk;have jb:=jd.sls.2;have jc:=je.sls.2;rw[HF.out]at jb jc;have js:=A0 jb;have jt:=A0 jc;have jv:=jn.out n2 jb;have jw:=jm.out n3 jc;clear jf jd je jb jc;obtain⟨hz,hc,hf⟩:=Ap hb (by first | (simp only[A8,Zb,Zi];rfl) | rfl);have hB:=Ac (B:=w.heap.size) (w:=w) (by first | exact hB | go_grown) hb (A5 _);clear hb) | (go_at_call 93;refine(rlive_any S a cap _ (HR.out.later (by first | exact hB.alloc (by have:=hB.size;omega) _ | exact hB | go_grown) (A5 _)) jg.out).mono ?_;rintro e w3 ⟨v,rfl,⟨g3,hv,ju,ja⟩,hb⟩;rw[HM.out]at hv ja;subst hv;have jh:=BM ja (i:=0) (by omega);rw[jp.out]at jh;clear ja;obtain⟨hz,hc,hf⟩:=Ap hb (by first | (simp only[A8,Zb,Zi];rfl) | rfl);have hB:=Ac (B:=w.heap.size) (w:=w) (by go_grown) hb (A5 _);clear hb) | fail)
     go_ret;exact⟨BH HE.out,hB⟩
    | true =>
     have HE:Hid (41=Ci S):=by show _=_;rw[jo.out,if_pos rfl,if_pos jx.out,if_neg jy.out]
     go_enter xv,xl
     go_wp2_with (first | (go_at_call 58;refine(rvalid_any S a cap _ (HR.out.later (by first | exact hB | go_grown) (A5 _)) h0 h1 hl).mono ?_;rintro e w1 ⟨he,hb⟩;rw[HV.out]at he;subst he;obtain⟨hz,hc,hf⟩:=Ap hb (by first | (simp only[A8,Zb,Zi];rfl) | rfl);have hB:=Ac (B:=w.heap.size) (w:=w) (by first | exact hB | go_grown) hb (A5 _);clear hb) | (go_at_call 92;refine(rfind_any S a cap _ (HR.out.later (by first | exact hB | go_grown) (A5 _)) h0 h1 hl HS.out).mono ?_;rintro e w2 ⟨v1,v2,v3,rfl,jf,jd,je,hb⟩;obtain⟨a1,n1,c1,ji⟩:=jf.form;obtain⟨a2,n2,c2,jj⟩:=jd.form;obtain⟨a3,n3,c3,jk⟩:=je.form;subst ji jj jk;have jb:=jd.sls.2;have jc:=je.sls.2;rw[HF.out]at jb jc;have js:=A0 jb;have jt:=A0 jc;have jv:=jn.out n2 jb;have jw:=jm.out n3 jc;clear jf jd je jb jc;obtain⟨hz,hc,hf⟩:=Ap hb (by first | (simp only[A8,Zb,Zi];rfl) | rfl);have hB:=Ac (B:=w.heap.size) (w:=w) (by first | exact hB | go_grown) hb (A5 _);clear hb) | (go_at_call 93;refine(rlive_any S a cap _ (HR.out.later (by first | exact hB.alloc (by have:=hB.size;omega) _ | exact hB | go_grown) (A5 _)) jg.out).mono ?_;rintro e w3 ⟨v,rfl,⟨g3,hv,ju,ja⟩,hb⟩;rw[HM.out]at hv ja;subst hv;have jh:=BM ja (i:=0) (by omega);rw[jp.out]at jh;clear ja;obtain⟨hz,hc,hf⟩:=Ap hb (by first | (simp only[A8,Zb,Zi];rfl) | rfl);have hB:=Ac (B:=w.heap.size) (w:=w) (by go_grown) hb (A5 _);clear hb) | fail)
     go_ret;exact⟨BH HE.out,hB⟩
  ·have jn:Hid (∀ n,n=(CM S).length->(0:Int)<(n:Int)):=λn h=>by have:=Jh jr;omega
   have jm:Hid (∀ n:Nat,n=(G7 S).length->True):=λ_ _=>trivial;have jx:=A0 jr;clear jr;cases l0 with
   | false =>
    have HE:Hid (50=Ci S):=by show _=_;rw[jo.out];rfl
    go_enter xv,xl
    go_wp2_with (first | (go_at_call 58;refine(rvalid_any S a cap _ (HR.out.later (by first | exact hB | go_grown) (A5 _)) h0 h1 hl).mono ?_;rintro e w1 ⟨he,hb⟩;rw[HV.out]at he;subst he;obtain⟨hz,hc,hf⟩:=Ap hb (by first | (simp only[A8,Zb,Zi];rfl) | rfl);have hB:=Ac (B:=w.heap.size) (w:=w) (by first | exact hB | go_grown) hb (A5 _);clear hb) | (go_at_call 92;refine(rfind_any S a cap _ (HR.out.later (by first | exact hB | go_grown) (A5 _)) h0 h1 hl HS.out).mono ?_;rintro e w2 ⟨v1,v2,v3,rfl,jf,jd,je,hb⟩;obtain⟨a1,n1,c1,ji⟩:=jf.form;obtain⟨a2,n2,c2,jj⟩:=jd.form;obtain⟨a3,n3,c3,jk⟩:=je.form;subst ji jj jk;have jb:=jd.sls.2;have jc:=je.sls.2;rw[HF.out]at jb jc;have js:=A0 jb;have jt:=A0 jc;have jv:=jn.out n2 jb;have jw:=jm.out n3 jc;clear jf jd je jb jc;obtain⟨hz,hc,hf⟩:=Ap hb (by first | (simp only[A8,Zb,Zi];rfl) | rfl);have hB:=Ac (B:=w.heap.size) (w:=w) (by first | exact hB | go_grown) hb (A5 _);clear hb) | (go_at_call 93;refine(rlive_any S a cap _ (HR.out.later (by first | exact hB.alloc (by have:=hB.size;omega) _ | exact hB | go_grown) (A5 _)) jg.out).mono ?_;rintro e w3 ⟨v,rfl,⟨g3,hv,ju,ja⟩,hb⟩;rw[HM.out]at hv ja;subst hv;have jh:=BM ja (i:=0) (by omega);rw[jp.out]at jh;clear ja;obtain⟨hz,hc,hf⟩:=Ap hb (by first | (simp only[A8,Zb,Zi];rfl) | rfl);have hB:=Ac (B:=w.heap.size) (w:=w) (by go_grown) hb (A5 _);clear hb) | fail)
    go_ret;exact⟨BH HE.out,hB⟩
   | true =>
    have HE:Hid (40=Ci S):=by show _=_;rw[jo.out,if_pos rfl,if_neg jx.out]
    go_enter xv,xl
    go_wp2_with (first | (go_at_call 58;refine(rvalid_any S a cap _ (HR.out.later (by first | exact hB | go_grown) (A5 _)) h0 h1 hl).mono ?_;rintro e w1 ⟨he,hb⟩;rw[HV.out]at he;subst he;obtain⟨hz,hc,hf⟩:=Ap hb (by first | (simp only[A8,Zb,Zi];rfl) | rfl);have hB:=Ac (B:=w.heap.size) (w:=w) (by first | exact hB | go_grown) hb (A5 _);clear hb) | (go_at_call 92;refine(rfind_any S a cap _ (HR.out.later (by first | exact hB | go_grown) (A5 _)) h0 h1 hl HS.out).mono ?_;rintro e w2 ⟨v1,v2,v3,rfl,jf,jd,je,hb⟩;obtain⟨a1,n1,c1,ji⟩:=jf.form;obtain⟨a2,n2,c2,jj⟩:=jd.form;obtain⟨a3,n3,c3,jk⟩:=je.form;subst ji jj jk;have jb:=jd.sls.2;have jc:=je.sls.2;rw[HF.out]at jb jc;have js:=A0 jb;have jt:=A0 jc;have jv:=jn.out n2 jb;have jw:=jm.out n3 jc;clear jf jd je jb jc;obtain⟨hz,hc,hf⟩:=Ap hb (by first | (simp only[A8,Zb,Zi];rfl) | rfl);have hB:=Ac (B:=w.heap.size) (w:=w) (by first | exact hB | go_grown) hb (A5 _);clear hb) | (go_at_call 93;refine(rlive_any S a cap _ (HR.out.later (by first | exact hB.alloc (by have:=hB.size;omega) _ | exact hB | go_grown) (A5 _)) jg.out).mono ?_;rintro e w3 ⟨v,rfl,⟨g3,hv,ju,ja⟩,hb⟩;rw[HM.out]at hv ja;subst hv;have jh:=BM ja (i:=0) (by omega);rw[jp.out]at jh;clear ja;obtain⟨hz,hc,hf⟩:=Ap hb (by first | (simp only[A8,Zb,Zi];rfl) | rfl);have hB:=Ac (B:=w.heap.size) (w:=w) (by go_grown) hb (A5 _);clear hb) | fail)
    go_ret;exact⟨BH HE.out,hB⟩
 ·have jA:validB S=false:=by simpa using hv
  have HV:=A0 jA;have HE:Hid (20=Ci S):=by show _=_;rw[Ci,if_neg hv]
  clear hv jA
  go_enter xv,xl
  go_wp2_with (first | (go_at_call 58;refine(rvalid_any S a cap _ (HR.out.later (by first | exact hB | go_grown) (A5 _)) h0 h1 hl).mono ?_;rintro e w1 ⟨he,hb⟩;rw[HV.out]at he;subst he;obtain⟨hz,hc,hf⟩:=Ap hb (by first | (simp only[A8,Zb,Zi];rfl) | rfl);have hB:=Ac (B:=w.heap.size) (w:=w) (by first | exact hB | go_grown) hb (A5 _);clear hb) | fail)
  go_ret;exact⟨BH HE.out,hB⟩
def PN:Bv false=λ_=>true:=funext λ_=>rfl
def Rh:Bv true=C0:=funext λ_=>rfl
def bestTo_spec {use:Rl->Bool}{R:List Rl}{start n:Nat}{K:Wk}(hK:EO use R start (n+1) K)(ok:Nat->Bool):∀ M,
  (C3 K ok M=[]/\∀ t,t<M->K.is t=true->ok t=false) \/
  (∃ t,t<M/\K.is t=true/\ok t=true/\C3 K ok M=K.ch t/\∀ t',t'<M->K.is t'=true->ok t'=true->sle (K.ch t) (K.ch t')):=by
 intro M
 induction M with
 | zero=>exact .inl ⟨rfl,λt h=>absurd h (by omega)⟩
 | succ M ih =>
  rw[C3,IU];by_cases h1:K.is M=true/\ok M=true
  ·rcases ih with⟨h2,h3⟩ | ⟨t,ht,jd,jg,hb,jf⟩
   ·rw[h2,h1.1,h1.2];refine .inr ⟨M,by omega,h1.1,h1.2,rfl,λt' jh jb ja=>?_⟩;by_cases e:t'=M
    · subst e;exact Eo _
    · rw[h3 t' (by omega) jb]at ja;cases ja
   ·have ji:=(hK.ch _ h1.1).1;have je:=(hK.ch _ jd).1;have jj:(K.ch t).isEmpty=false:=by
     rcases hq:K.ch t with _ | ⟨x,l⟩
     · rw[hq]at je;simp at je
     · rfl
    rw[hb,h1.1,h1.2,jj];simp only[zC,Bool.false_or];by_cases jc:Az (ints (K.ch M)) (ints (K.ch t))=true
    ·rw[if_pos jc];have jk:=(Er (ji.trans je.symm)).1 jc;refine .inr ⟨M,by omega,h1.1,h1.2,rfl,λt' jh jb ja=>?_⟩;by_cases e:t'=M
     · subst e;exact Eo _
     · exact CE (.inr jk) (jf t' (by omega) jb ja)
    ·rw[if_neg jc];refine .inr ⟨t,by omega,jd,jg,rfl,λt' jh jb ja=>?_⟩;by_cases e:t'=M
     ·subst e;rcases Ir (K.ch t') (K.ch t) with h | h
      · exact absurd ((Er (ji.trans je.symm)).2 h) jc
      · exact h
     · exact jf t' (by omega) jb ja
  ·have h2:(K.is M && (ok M && ((C3 K ok M).isEmpty || Az (ints (K.ch M)) (ints (C3 K ok M)))))=false:=by
    cases ha:K.is M <;> cases hb:ok M <;> simp[ha,hb]at h1 ⊢
   rw[if_neg (by rw[h2];simp)];rcases ih with⟨h2,h3⟩ | ⟨t,ht,jd,jg,hb,jf⟩
   ·refine .inl ⟨h2,λt ht hi=>?_⟩;by_cases e:t=M
    ·subst e;cases ho:ok t with
     | false=>rfl
     | true=>exact absurd ⟨hi,ho⟩ h1
    · exact h3 t (by omega) hi
   ·refine .inr ⟨t,by omega,jd,jg,hb,λt' jh jb ja=>?_⟩;by_cases e:t'=M
    · subst e;exact absurd ⟨jb,ja⟩ h1
    · exact jf t' (by omega) jb ja
def rsF_spec {S:Sch}(hS:Fit S):∀ f k,
  (rsF S f k=[]/\∀ d t,k<d.length->d.length<=k+f->leads (λ_=>true) S.rules 0 d=some t->Ct S t=false) \/
  (k<(rsF S f k).length/\(∃ t,leads (λ_=>true) S.rules 0 (rsF S f k)=some t/\Ct S t=true) /\
   ∀ d t,k<d.length->leads (λ_=>true) S.rules 0 d=some t->Ct S t=true->sle (rsF S f k) d):=by
 have ja:0<S.modes.toNat:=by have:=hS.m0;omega
 intro f
 induction f with
 | zero=>intro k;exact .inl ⟨rfl,λd t h1 h2=>absurd h1 (by omega)⟩
 | succ f ih =>
  intro k;have hK:EO (λ_=>true) S.rules 0 (k+1) (CG (Bv false) S.rules 0 true (k+1)):=by rw[PN];exact J0 (k+1)
  rw[rsF];rcases bestTo_spec hK (Ct S) S.modes.toNat with⟨h1,h2⟩ | ⟨t,ht,jc,jf,hb,jd⟩
  ·rw[if_pos h1];have jb:∀ d t,d.length=k+1->leads (λ_=>true) S.rules 0 d=some t->Ct S t=false:=λd t hd hl =>
    h2 t (Cs hS ja hl) ((hK.is t).2 ⟨d,hd,hl⟩)
   rcases ih (k+1) with⟨h3,h4⟩ | ⟨h3,h4,h5⟩
   ·refine .inl ⟨h3,λd t h6 h7 h8=>?_⟩;by_cases e:d.length=k+1
    · exact jb d t e h8
    · exact h4 d t (by omega) (by omega) h8
   ·refine .inr ⟨by omega,h4,λd t h6 h7 h8=>?_⟩;by_cases e:d.length=k+1
    · rw[jb d t e h7]at h8;cases h8
    · exact h5 d t (by omega) h7 h8
  ·have hl:=hK.ch t jc;have je:C3 (CG (Bv false) S.rules 0 true (k+1)) (Ct S) S.modes.toNat≠[]:=by
    rw[hb];intro h;rw[h]at hl;simp at hl
   rw[if_neg je,hb];refine .inr ⟨by omega,⟨t,hl.2,jf⟩,λd t' h6 h7 h8=>?_⟩;by_cases e:d.length=k+1
   · exact CE (jd t' (Cs hS ja h7) ((hK.is t').2 ⟨d,e,h7⟩) h8) (hK.least t' d e h7)
   · exact .inr (.inl (by omega))
def FW {S:Sch}(hS:Fit S){t:Nat}(ht:t<S.modes.toNat):(255 - B9 S).testBit t=Ct S t:=by
 have hl:B9 S<256:=KL hS;have:=hS.m1;rw[show 255 - B9 S=2 ^ 8 - (B9 S+1) by omega,Nat.testBit_two_pow_sub_succ (by omega),decide_eq_true (by omega)];rfl
def rstuck_eq {S:Sch}(hS:Fit S):CM S=KM S:=by
 have ja:0<S.modes.toNat:=by have:=hS.m0;omega
 have je:S.modes.toNat<=8:=by have:=hS.m1;omega
 unfold CM KM;by_cases h0:(B9 S).testBit 0=true
 ·rw[if_pos h0,if_pos h0];rcases GS (use:=λ_=>true) (goal:=255 - B9 S) hS.small je ja with⟨h1,h2⟩ | ⟨h1,h2⟩
  ·rw[h1];rcases rsF_spec hS S.modes.toNat 0 with⟨h3,_⟩ | ⟨h3,⟨t,h4,h5⟩,_⟩
   · exact h3
   ·have h6:=h2 _ t (λh=>by rw[h]at h3;simp at h3) h4;rw[FW hS (Cs hS ja h4),h5]at h6;cases h6
  ·obtain⟨g,hg,jd⟩:=h1.is;have jc:Ct S g=true:=by rw[<- FW hS (Cs hS ja hg)];exact jd
   have jb:0<(bfs (λ_=>true) (255 - B9 S) S.rules 0).length:=Jh h1.ne;rcases rsF_spec hS S.modes.toNat 0 with⟨_,h4⟩ | ⟨h3,⟨t,h4,h5⟩,h6⟩
   · rw[h4 _ g jb (by omega) hg]at jc;cases jc
   ·refine O7 (use:=λ_=>true) (R:=S.rules) (start:=0) (goal:=255 - B9 S) ⟨λh=>by rw[h]at h3;simp at h3,⟨t,h4,by rw[FW hS (Cs hS ja h4)];exact h5⟩,λd g' hd hl hb=>?_⟩ h1;exact h6 d g' (Jh hd) hl (by rw[<- FW hS (Cs hS ja hl)];exact hb)
 · rw[if_neg h0,if_neg h0]
def TF (S:Sch)(m:Nat)(d:List Nat):Prop:=G8 S m=true/\d≠[]/\leads C0 S.rules m d=some m
def BX (P:List Nat->Prop)(b:List Nat):Prop:=(b=[]/\∀ d,¬ P d)\/(b≠[]/\P b/\∀ d,P d->sle b d)
def Mu {P:List Nat->Prop}{a b:List Nat}(ha:BX P a)(hb:BX P b):a=b:=by
 rcases ha with⟨rfl,h1⟩ | ⟨_,h1,h2⟩ <;> rcases hb with⟨rfl,h3⟩ | ⟨_,h3,h4⟩
 · rfl
 · exact absurd h3 (h1 _)
 · exact absurd h1 (h3 _)
 · exact IS (h2 _ h3) (h4 _ h1)
def D7 {P Q:List Nat->Prop}{a:List Nat}(h:∀ d,P d↔Q d)(ha:BX P a):BX Q a:=by
 have:P=Q:=funext λd=>propext (h d);rw[<- this];exact ha
open Classical in
def least_or {P Q:List Nat->Prop}{a b c:List Nat}(ha:BX P a)(hb:BX Q b)(hc:c=if b=[] then a else if a=[] then b else if sl b a then b else a):BX (λd=>P d\/Q d) c:=by
 rcases hb with⟨rfl,h3⟩ | ⟨ja,h3,h4⟩
 ·rw[if_pos rfl]at hc;subst hc;exact D7 (λd=>⟨.inl,λh=>h.elim id λh=>absurd h (h3 d)⟩) ha
 ·rw[if_neg ja]at hc;rcases ha with⟨rfl,h1⟩ | ⟨jb,h1,h2⟩
  ·rw[if_pos rfl]at hc;subst hc;exact .inr ⟨ja,.inr h3,λd h=>h.elim (λh=>absurd h (h1 d)) (h4 d)⟩
  ·rw[if_neg jb]at hc;by_cases h:sl b a
   ·rw[if_pos h]at hc;subst hc;exact .inr ⟨ja,.inr h3,λd hd=>hd.elim (λhd=>.inr (Mk h (h2 d hd))) (h4 d)⟩
   ·rw[if_neg h]at hc;subst hc;refine .inr ⟨jb,.inl h1,λd hd=>hd.elim (h2 d) λhd=>CE ?_ (h4 d hd)⟩;rcases Ir b c with h5 | h5
    · exact absurd h5 h
    · exact h5
def lexC_lex:∀ {a b:List Nat},a.length=b.length->(Ec (ints a) (ints b)<0↔DM a b)
 | [],[],_=>by simp[ints,Ec,DM]
 | [],_ :: _,h=>by simp at h
 | _ :: _,[],h=>by simp at h
 | x
   :: a,y :: b,h=>by
  have ih:=lexC_lex (a:=a) (b:=b) (by simpa using h);show Ec ((x:Int) :: ints a) ((y:Int) :: ints b)<0↔(x<y\/(x=y/\DM a b));rw[Ec];by_cases h1:(x:Int)<y
  ·rw[if_pos h1];exact⟨λ_=>.inl (by omega),λ_=>by omega⟩
  ·rw[if_neg h1];by_cases h2:(y:Int)<x
   ·rw[if_pos h2];exact⟨λh=>absurd h (by omega),λh=>by rcases h with h | h <;> omega⟩
   ·rw[if_neg h2,ih];exact⟨λh=>.inr ⟨by omega,h⟩,λh=>h.elim (λh=>absurd h (by omega)) (λh=>h.2)⟩
def QJ (a b:List Nat):Oo (ints a) (ints b)<0↔sl a b:=by
 unfold Oo;rw[Ax,Ax];by_cases h:a.length=b.length
 ·rw[if_pos h,lexC_lex h];exact⟨λh2=>.inr ⟨h,h2⟩,λh2=>h2.elim (λh3=>absurd h3 (by omega)) (λh3=>h3.2)⟩
 ·rw[if_neg h];exact⟨λh2=>.inl (by omega),λh2=>h2.elim (λh3=>by omega) (λh3=>absurd h3.1 h)⟩
def J2 {S:Sch}(hS:Fit S){m:Nat}(hm:m<S.modes.toNat)(hc:G8 S m=true):BX (TF S m) (bfs C0 (2 ^ m) S.rules m):=by
 have jb:S.modes.toNat<=8:=by have:=hS.m1;omega
 rcases GS (use:=C0) (goal:=2 ^ m) hS.small jb hm with⟨h1,h2⟩ | ⟨h1,h2⟩
 ·refine .inl ⟨h1,λd hd=>?_⟩;have:=h2 d m hd.2.1 hd.2.2;rw[X4]at this;simp at this
 ·obtain⟨g,hg,ja⟩:=h1.is;rw[X4]at ja;obtain rfl:m=g:=by simpa using ja
  exact .inr ⟨h1.ne,⟨hc,h1.ne,hg⟩,λd hd=>h1.least d m hd.2.1 hd.2.2 (by rw[X4];simp)⟩
def Mv (S:Sch)(M:Nat)(d:List Nat):Prop:=∃ m,m<M/\TF S m d
def Cb {S:Sch}{M:Nat}(d:List Nat):Mv S (M+1) d↔(Mv S M d\/TF S M d):=by
 constructor
 ·rintro⟨m,h1,h2⟩;by_cases e:m=M
  · subst e;exact .inr h2
  · exact .inl ⟨m,by omega,h2⟩
 ·rintro(⟨m,h1,h2⟩ | h)
  · exact⟨m,by omega,h2⟩
  · exact⟨M,by omega,h⟩
open Classical in
def endF_least {S:Sch}(hS:Fit S):∀ M,M<=S.modes.toNat->BX (Mv S M) ((Zt M).foldl (endStep S) [])
 | 0,_=>.inl ⟨rfl,λd ⟨m,h,_⟩=>absurd h (by omega)⟩
 | M
   +
    1,h=>by
  have ih:=endF_least hS M (by omega);rw[z6,List.foldl_append];show BX _ (endStep S ((Zt M).foldl (endStep S) []) M);generalize (Zt M).foldl (endStep S) []=a at ih;unfold endStep;by_cases hc:G8 S M=true
  ·rw[if_pos hc];refine D7 (λd=>(Cb d).symm) (least_or ih (J2 hS (by omega) hc) ?_);by_cases h1:bfs C0 (2 ^ M) S.rules M=[]
   · rw[if_pos h1,if_pos h1]
   ·rw[if_neg h1,if_neg h1];by_cases h2:a=[]
    · rw[if_pos h2,if_pos h2]
    ·rw[if_neg h2,if_neg h2];by_cases h3:sl (bfs C0 (2 ^ M) S.rules M) a
     · rw[if_pos h3,if_pos ((QJ _ _).2 h3)]
     · rw[if_neg h3,if_neg (λh=>h3 ((QJ _ _).1 h))]
  ·rw[if_neg hc];exact D7 (λd=>⟨λh=>(Cb d).2 (.inl h),λh=>((Cb d).1 h).elim id λh=>absurd h.1 hc⟩) ih
def Hu {use:Rl->Bool}{R:List Rl}{K:Wk}(h:∀ t,K.is t=false):∀ k t,(CF use R K k).is t=false
 | 0,_=>rfl
 | k+1,t=>by
  rw[CF];split
  · unfold stepK;rw[h,zN,if_neg (by simp)];exact Hu h k t
  · exact Hu h k t
def JS {use:Rl->Bool}{R:List Rl}{m:Nat}:∀ n t,(CG use R m false n).is t=false
 | 0,t=>by show(if t=m then false else false)=false;split <;> rfl
 | n+1,t=>Hu (JS n) R.length t
def Wc (S:Sch)(m n:Nat)(d:List Nat):Prop:=TF S m d/\d.length<=n
open Classical in
def rendN_least {S:Sch}(hS:Fit S){m:Nat}{P:List Nat->Prop}{b:List Nat}(hb:BX P b):∀ n,BX (λd=>P d\/Wc S m n d) (DG S m b n)
 | 0=>by
  rw[DG];exact D7 (λd=>⟨.inl,λh=>h.elim id λh=>absurd h.1.2.1 (λh2=>h2 (Zo (by have:=h.2;omega)))⟩) hb
 | n
   +
    1
     => by
  have ih:=rendN_least hS hb n (m:=m);rw[DG];generalize DG S m b n=a at ih;by_cases hc:G8 S m=true
  ·rw[hc];have hK:EO C0 S.rules m (n+1) (CG (Bv true) S.rules m true (n+1)):=by rw[Rh];exact J0 (n+1)
   generalize CG (Bv true) S.rules m true (n+1)=K at hK;have hQ:BX (λd=>TF S m d/\d.length=n+1) (if K.is m=true then K.ch m else[]):=by
    by_cases h1:K.is m=true
    ·rw[if_pos h1];have h2:=hK.ch m h1;have h3:K.ch m≠[]:=λh=>by rw[h]at h2;simp at h2
     exact .inr ⟨h3,⟨⟨hc,h3,h2.2⟩,h2.1⟩,λd hd=>hK.least m d hd.2 hd.1.2.2⟩
    ·rw[if_neg h1];exact .inl ⟨rfl,λd hd=>h1 ((hK.is m).2 ⟨d,hd.2,hd.1.2.2⟩)⟩
   have je:=least_or ih hQ (c:=FV K a m) ?_
   ·refine D7 (λd=>?_) je;constructor
    ·rintro((h | ⟨h1,h2⟩) | ⟨h1,h2⟩)
     · exact .inl h
     · exact .inr ⟨h1,by omega⟩
     · exact .inr ⟨h1,by omega⟩
    ·rintro(h | ⟨h1,h2⟩)
     · exact .inl (.inl h)
     ·by_cases e:d.length=n+1
      · exact .inr ⟨h1,e⟩
      · exact .inl (.inr ⟨h1,by omega⟩)
   ·unfold FV;by_cases h1:K.is m=true
    ·have h2:=hK.ch m h1;have h3:K.ch m≠[]:=λh=>by rw[h]at h2;simp at h2
     rw[if_pos h1,if_neg h3,h1,zC];by_cases h4:a=[]
     · rw[if_pos h4,h4];rfl
     ·have jc:a.isEmpty=false:=by rcases a with _ | ⟨x,l⟩;exact absurd rfl h4;rfl
      rw[if_neg h4,jc,Bool.false_or];have ja:(decide ((K.ch m).length<a.length) || (decide ((K.ch m).length=a.length) && Az (ints (K.ch m)) (ints a)))=true↔sl (K.ch m) a:=by
       simp only[Y2,Zg,decide_eq_true_eq];constructor
       ·rintro(h | ⟨h,h'⟩)
        · exact .inl h
        · exact(Er h).1 h'
       ·rintro(h | ⟨h,h'⟩)
        · exact .inl h
        · exact .inr ⟨h,(beforeB_lex h).2 h'⟩
      by_cases h5:sl (K.ch m) a
      · rw[if_pos h5,if_pos (ja.2 h5)]
      · rw[if_neg h5,if_neg (λh=>h5 (ja.1 h))]
    ·have jb:K.is m=false:=by simpa using h1
     rw[if_neg h1,if_pos rfl,jb,zN,if_neg (by simp)]
  ·have jd:G8 S m=false:=by simpa using hc
   rw[jd,FV,JS,zN,if_neg (by simp)];exact D7 (λd=>⟨λh=>h.elim .inl λh=>absurd h.1.1 hc,λh=>h.elim .inl λh=>absurd h.1.1 hc⟩) ih
def rendM_least {S:Sch}(hS:Fit S):∀ M,M<=S.modes.toNat->BX (Mv S M) (Gz S M)
 | 0,_=>.inl ⟨rfl,λd ⟨m,h,_⟩=>absurd h (by omega)⟩
 | M
   +
    1,h=>by
  have ih:=rendM_least hS M (by omega);have ja:S.modes.toNat<=8:=by have:=hS.m1;omega
  rw[Gz];have h1:=rendN_least hS ih S.modes.toNat (m:=M);rcases h1 with⟨h2,h3⟩ | ⟨h2,h3,h4⟩
  ·refine .inl ⟨h2,λd hd=>?_⟩;rcases(Cb d).1 hd with hd | hd
   · exact h3 d (.inl hd)
   ·rcases J2 hS (by omega) hd.1 with⟨_,h5⟩ | ⟨h5,h6,h7⟩
    · exact h5 d hd
    · exact h3 _ (.inr ⟨h6,Mm hS.small ja (by omega)⟩)
  ·refine .inr ⟨h2,?_,λd hd=>?_⟩
   ·rcases h3 with h3 | h3
    · exact(Cb _).2 (.inl h3)
    · exact(Cb _).2 (.inr h3.1)
   ·rcases(Cb d).1 hd with hd | hd
    · exact h4 d (.inl hd)
    ·rcases J2 hS (by omega) hd.1 with⟨_,h5⟩ | ⟨h5,h6,h7⟩
     · exact absurd hd (h5 d)
     · exact CE (h4 _ (.inr ⟨h6,Mm hS.small ja (by omega)⟩)) (h7 d hd)
def rend_eq {S:Sch}(hS:Fit S):G7 S=OA S:=Mu (rendM_least hS _ (A5 _)) (endF_least hS _ (A5 _))
def QK {S:Sch}(hS:Fit S)(h0:(B9 S).testBit 0=true):RY (CT S) (B9 S)=true↔KM S≠[]:=by
 have ja:0<S.modes.toNat:=by have:=hS.m0;omega
 have jc:S.modes.toNat<=8:=by have:=hS.m1;omega
 unfold RY KM;rw[if_pos h0,List.any_eq_true];constructor
 ·rintro⟨m,_,hm⟩;simp only[Zg,XS]at hm;rw[Lz]at hm;obtain⟨c,hc⟩:=(reach_spec hS ja).1 hm.1;have jd:c≠[]:=by
   rintro rfl;cases hc;rw[h0]at hm;cases hm.2
  intro hb;rcases GS (use:=λ_=>true) (goal:=255 - B9 S) hS.small jc ja with⟨_,h2⟩ | ⟨h1,_⟩
  ·have:=h2 c m jd hc;rw[FW hS (Cs hS ja hc),Ct,hm.2]at this;cases this
  · exact h1.ne hb
 ·intro hb;rcases GS (use:=λ_=>true) (goal:=255 - B9 S) hS.small jc ja with⟨h1,_⟩ | ⟨h1,_⟩
  · exact absurd h1 hb
  ·obtain⟨g,hg,jb⟩:=h1.is;have je:=Cs hS ja hg;rw[FW hS je,Ct]at jb;refine⟨g,by simp;omega,?_⟩;rw[jb,Lz,(reach_spec hS ja).2 ⟨_,hg⟩];rfl
def rsound_eq {S:Sch}(hS:validB S=true->Fit S):Ci S=BO S:=by
 unfold Ci BO;by_cases h:validB S=true
 ·rw[if_pos h,if_pos h];by_cases h0:(B9 S).testBit 0=true
  ·rw[if_pos h0,if_pos h0,rstuck_eq (hS h),rend_eq (hS h)];by_cases h1:KM S=[]
   · rw[if_pos h1,if_neg (λh2=>(QK (hS h) h0).1 h2 h1)]
   · rw[if_neg h1,if_pos ((QK (hS h) h0).2 h1)]
  · rw[if_neg h0,if_neg h0]
 · rw[if_neg h,if_neg h]
def rl (f t:Int)(i:List UInt8):Rl:=⟨f,t,⟨i.toArray⟩,⟨#[]⟩,0⟩
def SA:Sch:=⟨2,1,[rl 0 0 [97],rl 0 1 [98]]⟩
def SE:Sch:=⟨0,0,[]⟩
def QL (r q:Rl):Bool:=decide (r.frm=q.frm) && (decide (r.dst=q.dst) && (decide (r.inp.data.toList=q.inp.data.toList) && (decide (r.out.data.toList=q.out.data.toList) && decide (r.cost=q.cost))))
def Uf (r q:Rl):Et r q=QL r q:=by
 unfold Et QL;simp only[ZQ]
def TG (S:Sch):Bool:=EI S && (Zt S.rules.length).all λi=>match S.rules[i]? with | some r=>DB S.modes r && !(S.rules.take i).any (QL r) | none=>true
def Fy (S:Sch):validB S=true↔Jm S:=by simp[validB]
def valid_of {S:Sch}(h:TG S=true):validB S=true:=by
 unfold TG at h;rw[Zg,Zr]at h;rw[Fy];refine⟨h.1,λi hi _=>?_⟩;have:=h.2 i (by simpa using hi);rw[AC hi]at this;unfold CW;have e:(S.rules.take i).any (Et S.rules[i])=(S.rules.take i).any (QL S.rules[i]):=by congr 1;funext q;exact Uf _ _
 rw[e];exact this
def Hv {S:Sch}(h:validB S=true)(ha:0<=S.acc)(hb:S.acc<=255):Fit S:=by
 have hv:Jm S:=(Fy S).1 h;have h1:=hv.1;unfold EI at h1;simp only[Zg,decide_eq_true_eq]at h1;refine⟨h1.1,h1.2.1,ha,hb,h1.2.2.1,λi hi=>?_⟩;have h2:=hv.2 i hi hi;unfold CW DB at h2;simp only[Zg,decide_eq_true_eq]at h2;exact⟨h2.1.1,h2.1.2.1,h2.1.2.2.1,h2.1.2.2.2.1⟩
def vA:validB SA=true:=valid_of (by decide +kernel)
def vE:validB SE=false:=by
 cases hb:validB SE with
 | false=>rfl
 | true=>exact absurd ((Fy SE).1 hb).1 (by decide +kernel)
open Go.ChangeShapes Go.WideShapes Go.ChangeAt Go.RowKit
structure M9 where
 M:Int
 A:Int
 a:Option Zj
 len:Nat
 cap:Nat
 Q:Nat->RR
def M9.val (x:M9):Z6:=aJ #[aA aO x.M,aA aO x.A,aG x.a x.len x.cap]
structure TH (w:Z0)(x:M9):Prop where
 m0:0<=x.M
 m1:x.M<=255
 a0:0<=x.A
 a1:x.A<=255
 rows:F1 w x.a x.len x.Q
instance:Inhabited RR:=⟨⟨none,0,0,none,0,0,0,0,0,λ_=>0,λ_=>0⟩⟩
section
variable {H:Type} {enc:TypeId × Value->H} {w:World} {base:Nat} {spare:Nat->Bool} {held:Bool} {d:DataW H} {p:List MemPlace} {r:Reach} {b0:Nat} {v:Value}
def Mw {P:Program}{t:X5}{f0 f1 f2 f3 f4:Field}{fuel:Nat}{cs:List Z6}{x:DataW H × List MemPlace}(ht:P.underlying t=some (.struct #[f0,f1,f2,f3,f4]))(h:z7 enc P w base spare held fuel t cs=some x) :
  ∃
   y0 y1 y2 y3 y4 n,cs.length=P.cellsOf t/\z7 enc P w base spare held n f0.type ((cs.drop f0.offset).take (P.cellsOf f0.type))=some y0 /\
   z7 enc P w base spare held n f1.type ((cs.drop f1.offset).take (P.cellsOf f1.type))=some y1/\z7 enc P w base spare held n f2.type ((cs.drop f2.offset).take (P.cellsOf f2.type))=some y2 /\
   z7 enc P w base spare held n f3.type ((cs.drop f3.offset).take (P.cellsOf f3.type))=some y3/\z7 enc P w base spare held n f4.type ((cs.drop f4.offset).take (P.cellsOf f4.type))=some y4:=by
 obtain⟨xs,n,_,rfl,hl,ja,hf⟩:=DataW.trod_struct ht h
 match xs,ja with
 | [y0,y1,y2,y3,y4],_=>exact⟨y0,y1,y2,y3,y4,n,hl,by simpa using hf 0 f0 rfl,by simpa using hf 1 f1 rfl,by simpa using hf 2 f2 rfl,by simpa using hf 3 f3 rfl,by simpa using hf 4 f4 rfl⟩
open Go.Deep in
def slice_bytes {fuel:Nat}{cs:List Z6}{x:DataW H × List MemPlace}(h:z7 enc Z1 w base spare held fuel 26 cs=some x):∃ a len cap Z,cs=[aG a len cap]/\Bt w a len Z:=by
 rcases open_slice1 Xv (by kernel_rfl) h with⟨h0,_⟩ | ⟨ad,l,c,m,n,V,D,Pl,h0,hba,hl,ja,jd,_,jb⟩
 · exact⟨none,0,0,λ_=>0,h0,.inl rfl⟩
 ·have hlm:l<=m:=by rw[jd];split <;> omega
  have jc:l<=9223372036854775807:=by unfold maxLen at ja;omega
  have key:∀ i,i<l->∃ z,w.cell? (ad.add i)=some (aA aO z)/\0<=z/\z<=255:=λi hi=>by
   obtain⟨h1,h2⟩:=jb i (by omega);obtain⟨z,hz,_,hw⟩:=zL Xg h2;have:V i=aA aO z:=Xb hz;rw[this]at h1;exact⟨z,h1,bounds_u8 hw⟩
  by_cases h9:l=0
  · exact⟨some ad,l,c,λ_=>0,h0,.inl h9⟩
  ·obtain⟨Z,hZ⟩:=choose_lt (α:=Int) key;obtain⟨b,o,sp⟩:=ad;have hs:=xb (hZ 0 (by omega)).1;obtain rfl:sp=none:=by simpa[Addr.add] using hs
   refine⟨some ⟨b,o,none⟩,l,c,Z,h0,.inr ⟨b,o,rfl,jc,?_,λi hi=>?_⟩⟩
   ·have:=World.block_lt_of_cell? w _ (hZ 0 (by omega)).1
    rwa [Cw]at this
   ·have hk:=hZ i hi;rw[addr_add]at hk;exact hk
def Mx {fuel:Nat}{cs:List Z6}{x:DataW H × List MemPlace}(h:z7 enc Z1 w base spare held fuel 91 cs=some x) :
  ∃ q:RR,cs=[aG q.ai q.li q.ci,aG q.ao q.lo q.co,aA aO q.f,aA aO q.d,aA aO q.c]/\PJ w q:=by
 obtain⟨y0,y1,y2,y3,y4,n,hl,h0,h1,h2,h3,h4⟩:=Mw Tryz.underlying91 h;have ja:cs.length=5:=hl.trans (by kernel_rfl)
 match cs,ja with
 | [c0,c1,c2,c3,c4],_ =>
  obtain⟨ai,li,ci,ZI,e0,g0⟩:=slice_bytes h0;obtain⟨ao,lo,co,ZO,e1,g1⟩:=slice_bytes h1;obtain⟨f,e2,_,w2⟩:=zL Xg h2;obtain⟨dd,e3,_,w3⟩:=zL Xg h3;obtain⟨c,e4,_,w4⟩:=zL Xg h4;obtain rfl:c0=aG ai li ci:=Xb e0;obtain rfl:c1=aG ao lo co:=Xb e1;obtain rfl:c2=aA aO f:=Xb e2;obtain rfl:c3=aA aO dd:=Xb e3;obtain rfl:c4=aA aO c:=Xb e4;exact⟨⟨ai,li,ci,ao,lo,co,f,dd,c,ZI,ZO⟩,rfl,(bounds_u8 w2).1,(bounds_u8 w2).2,(bounds_u8 w3).1,(bounds_u8 w3).2,(bounds_u8 w4).1,(bounds_u8 w4).2,g0,g1⟩
open Go.Deep in
def slice_raws {fuel:Nat}{cs:List Z6}{x:DataW H × List MemPlace}(h:z7 enc Z1 w base spare held fuel 22 cs=some x):∃ a len cap Q,cs=[aG a len cap]/\F1 w a len Q:=by
 rcases open_slice Tryz.underlying22 h with⟨h0,_⟩ | ⟨ad,l,c,m,n,D,Pl,h0,hba,hl,hcm,jg,_,je⟩
 · exact⟨none,0,0,λ_=>⟨none,0,0,none,0,0,0,0,0,λ_=>0,λ_=>0⟩,h0,.inl rfl⟩
 ·have hlm:l<=m:=by rw[jg];split <;> omega
  have hC:Tryz.prog.cellsOf 91=5:=by kernel_rfl
  have key:∀ i,i<l->∃ q:RR,((w.cell? ⟨ad.block,ad.off+i*5+0,none⟩=some (aG q.ai q.li q.ci)/\w.cell? ⟨ad.block,ad.off+i*5+1,none⟩=some (aG q.ao q.lo q.co)/\w.cell? ⟨ad.block,ad.off+i*5+2,none⟩=some (aA aO q.f)/\w.cell? ⟨ad.block,ad.off+i*5+3,none⟩=some (aA aO q.d)/\w.cell? ⟨ad.block,ad.off+i*5+4,none⟩=some (aA aO q.c))/\PJ w q)/\(i=0->ad.spot=none)/\ad.block<w.heap.size:=by
   intro i hi;obtain⟨cs',jc,jh⟩:=je i (by omega);rw[hC]at jc;obtain⟨q,rfl,hq⟩:=Mx jh;obtain⟨_,hl',hg⟩:=World.cells?_some jc;have jb:∀ j,j<5->∀ u,[Zk q.ai q.li q.ci,aG q.ao q.lo q.co,aA aO q.f,aA aO q.d,aA aO q.c][j]? = some u->w.cell? ⟨ad.block,ad.off+i*5+j,none⟩=some u:=by
    intro j hj u hu;have h1:=hg j hj;rw[hu]at h1;have ja:=xb h1;have e:(ad.add (i*5)).add j=⟨ad.block,ad.off+i*5+j,none⟩:=by
     rw[Lf _ _ ja,Cw,Jp]
    rwa [e]at h1
   refine⟨q,⟨⟨jb 0 (by omega) _ rfl,jb 1 (by omega) _ rfl,jb 2 (by omega) _ rfl,jb 3 (by omega) _ rfl,jb 4 (by omega) _ rfl⟩,hq⟩,λjf=>?_,?_⟩
   ·subst jf;have h1:=hg 0 (by omega);have ja:=xb (v:=aG q.ai q.li q.ci) h1;simpa[Addr.add] using ja
   ·have:=World.cells?_block jc (by omega)
    rwa [Cw]at this
  by_cases h9:l=0
  · exact⟨some ad,l,c,λ_=>⟨none,0,0,none,0,0,0,0,0,λ_=>0,λ_=>0⟩,h0,.inl h9⟩
  ·obtain⟨Q,hQ⟩:=choose_lt (α:=RR) (n:=l) (λi hi=>key i hi);have jd:=(hQ 0 (by omega)).2.1 rfl;obtain⟨b,o,sp⟩:=ad;simp only at jd;subst jd;exact⟨some ⟨b,o,none⟩,l,c,Q,h0,.inr ⟨b,o,rfl,(hQ 0 (by omega)).2.2,λi hi=>(hQ i hi).1⟩⟩
def open_raw02 (hv:Value.okWide Z1 w r b0 24 v)(h:DataW.Trod enc Z1 w base spare held 24 v d p):∃ x:M9,v=x.val/\TH w x:=by
 obtain⟨cs,rfl,jb⟩:∃ cs,v=.agg cs/\cs.size=3:=by
  unfold Value.okWide at hv;rw[Tryz.underlying24]at hv;obtain⟨cs,h,h2,_⟩:=hv;exact⟨cs,h,h2.trans (by kernel_rfl)⟩
 obtain⟨f,hf⟩:=h;obtain⟨y0,y1,y2,n,_,_,h0,h1,h2⟩:=Go.Deep.trod_struct3 Tryz.underlying24 hf;have ja:∃ c0 c1 c2,cs=#[c0,c1,c2]:=by
  obtain⟨l⟩:=cs
  match l,jb with
  | [c0,c1,c2],_=>exact⟨c0,c1,c2,rfl⟩
 obtain⟨c0,c1,c2,rfl⟩:=ja;obtain⟨M,e0,_,w0⟩:=zL Xg h0;obtain⟨A,e1,_,w1⟩:=zL Xg h1;obtain⟨a,len,cap,Q,e2,hQ⟩:=slice_raws h2;have g0:c0=aA aO M:=Xb e0;have g1:c1=aA aO A:=Xb e1;have g2:c2=aG a len cap:=Xb e2;subst g0 g1 g2;exact⟨⟨M,A,a,len,cap,Q⟩,rfl,(bounds_u8 w0).1,(bounds_u8 w0).2,(bounds_u8 w1).1,(bounds_u8 w1).2,hQ⟩
end
end Go.Proofs.YtpljngaejaehcaaGreatDoor.Fl
