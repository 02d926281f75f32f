/- Texts that the claims share. -/
import Derived.Maps.OwnOps
import Derived.Maps.RangeWalk
import Derived.DeepKeys4
import Derived.Test.YtpljngaejaehcaaGreatDoorMF1
import Derived.Test.YtpljngaejaehcaaGreatDoorMD1
import Derived.Deep.QuietTactic
import Derived.BigQuiet
import Derived.IntWalk
import Derived.Laws.StructEq
open Option renaming none->oS,some->oT,getD_some->Xh,isSome_iff_exists->XX
open Bool renaming true->oF,false->oH,and_eq_true->Zg,not_eq_true'->XS,or_eq_true->Y2
open List renaming length->oB,all_eq_true->Zr,cons_append->ZG,drop_eq_nil_of_le->Xn,foldl->Zp,getElem_take->Xi,length_cons->Zs,length_drop->ZZ,map_cons->Y4,mem_cons_of_mem->Zm,mem_filterMap->X9,mem_of_find?_eq_some->XN,mem_of_mem_drop->Xf,not_mem_nil->ZN,pairwise_append->Xx,setIfInBounds_toArray->Z5,set_cons_succ->Za,set_cons_zero->Z9,filterMap_cons->zH,flatMap_cons->ZA,mem_iff_getElem->ZH,range->Zt,range'->Zd
open Go.Value renaming int->aA,pointer->aB,slice->aG,bool->aH,string->aI,agg->aJ,int->X3
open Go.Obj renaming cells->aK
open Go.IntKind renaming i64->aM,u8->aO
open Go.Ending renaming returned->aP
open Go.Act renaming eval->Zf,put->ZE
open Go renaming Addr->Zj,Calls->Zu,Oper->ZX,TypeId->X5,Value->Z6,World->Z0,cell_of_row->Z3,heap_alloc_new->Z4,undef->Z8
open Go.RowKit.Below renaming block->Z7,mono->ZT,refl->Z2,size->XE,trans->Y9,heap_alloc->ZF,heap_setCell->Zc
open Go.DataW.lit renaming injEq->xp
open Go.Instr renaming indexAt->ZK
open List.Pairwise renaming imp_of_mem->XY,nil->xi
open Nat renaming add_mul->Xp,le_antisymm->xq,le_succ->za,lt_succ_self->Y6,mod_eq_of_lt->xd,mul_comm->zW,mul_le_mul_right->ZM,not_lt_zero->Xj,strongRecOn->zF,zero_le->Ze,add_zero->zl,lt_or_ge->zx,mul_le_mul->Y1,zero_add->ZS
open Go.Oper renaming wp->xe
open Go.Region renaming binds->Zl,wanted->Zv
open Go.Proofs.Tryz renaming prog->Z1,underlying183->xu,underlying3->ZR,zeroValue3->XZ,underlying36->Y5
open Array renaming all_eq_true'->X8,getElem?_toList->ZL,length_toList->Xq
open Go.Code renaming region->zT
open Go.Fence renaming wide->xf
open Go.IntWalk renaming i64_in->Zq
open UInt8 renaming toNat_inj->zt
open Go.World renaming cell?_of_block->zb,frozen?->Zn
set_option maxHeartbeats 6400000
set_option linter.unusedVariables false
set_option linter.unusedSimpArgs false
set_option maxRecDepth 100000
set_option linter.defProp false
namespace Go.Proofs.YtpljngaejaehcaaGreatDoor
open Go.RowKit Fl
structure Ch where
 key:UInt8
 cost:Int
deriving DecidableEq
abbrev Slt:=List Ch
def Hl (s:Slt)(c:UInt8):Option Nat:=(s.find? λh=>h.key == c).map λh=>h.cost.toNat
def
  letsC:List Slt->List UInt8->Option Nat
 | _,[]=>oT 0
 | [],_ :: _=>oS
 | s :: L,c :: r=>match Hl s c with
  | none=>oS
  | some a=>(letsC L r).map (a+·)
def Ij (L:List Slt):letsC L []=oT 0:=by cases L <;> rfl
def Ge:∀ {L:List Slt} {r:List UInt8} {c:Nat},letsC L r=oT c->oB r<=oB L
 | _,[],_,_=>Ze _
 | [],_ :: _,_,h=>by cases h
 | s
   :: L,c :: r,n,h=>by
  simp only[letsC]at h;split at h
  · cases h
  ·cases e:letsC L r with
   | none=>rw[e]at h;cases h
   | some b=>have:=Ge e;simp;omega
def By (C:Nat)(L:List Slt):Prop:=∀ s∈L,∀ h∈s,0<=h.cost/\h.cost<=(C:Int)
def By.tail {C:Nat}{s:Slt}{L:List Slt}(h:By C (s :: L)):By C L:=λx hx=>h x (Zm _ hx)
def By.drop {C:Nat}{L:List Slt}(h:By C L)(k:Nat):By C (L.drop k):=λx hx=>h x (Xf hx)
def Q6 {C:Nat}{s:Slt}{c:UInt8}{n:Nat}(hs:∀ h∈s,0<=h.cost/\h.cost<=(C:Int))(h:Hl s c=oT n):n<=C:=by
 unfold Hl at h;cases e:s.find? λh=>h.key == c with
 | none=>rw[e]at h;cases h
 | some x =>
  rw[e]at h;have:=hs x (XN e);simp at h;omega
def letsC_le {C:Nat}:∀ {L:List Slt} {r:List UInt8} {n:Nat},By C L->letsC L r=oT n->n<=oB r*C
 | _,[],n,_,h=>by rw[Ij]at h;cases h;simp
 | [],_ :: _,_,_,h=>by cases h
 | s
   :: L,c :: r,n,hb,h=>by
  simp only[letsC]at h;split at h
  · cases h
  ·rename_i a ha;cases e:letsC L r with
   | none=>rw[e]at h;cases h
   | some b =>
    rw[e]at h;simp at h;have h1:=Q6 (hb s AB) ha;have h2:=letsC_le hb.tail e;simp only[Zs,Xp];omega
def bts (s:ByteArray):List UInt8:=s.data.toList
def B5 (s:ByteArray):(bts s).length=s.size:=by simp[bts]
def C5 (r:Rl):Bool:=decide (0<=r.frm) && (decide (r.frm<8) && (decide (0<=r.dst) && (decide (r.dst<8) && (decide ((r.inp.size:Int)<=4) && (decide (0<=r.cost) && decide (r.cost<=1000))))))
def Bd {r:Rl}:C5 r=oF↔0<=r.frm/\r.frm<8/\0<=r.dst/\r.dst<8/\r.inp.size<=4/\0<=r.cost/\r.cost<=1000:=by
 unfold C5;simp only[Zg,decide_eq_true_eq];constructor
 · rintro⟨h1,h2,h3,h4,h5,h6,h7⟩;exact⟨h1,h2,h3,h4,by omega,h6,h7⟩
 · rintro⟨h1,h2,h3,h4,h5,h6,h7⟩;exact⟨h1,h2,h3,h4,by omega,h6,h7⟩
inductive RtS (R:List Rl)(L:List Slt):Nat->Nat->List UInt8->Nat->Prop
 | start:RtS R L 0 0 [] 0
 | step {i m:Nat} {o:List UInt8} {c k:Nat} {r:Rl}:RtS R L i m o c->r∈R->C5 r=true->r.frm=(m:Int)->letsC (L.drop i) (bts r.inp)=some k ->
   RtS R L (i+r.inp.size) r.dst.toNat (o ++ bts r.out) (c+(r.cost.toNat+k))
def RtS.place {R:List Rl}{L:List Slt}{i m:Nat}{o:List UInt8}{c:Nat}(h:RtS R L i m o c):i<=oB L:=by
 induction h with
 | start=>exact Ze _
 | step _ _ _ _ hk ih =>
  have:=Ge hk;rw[B5,ZZ]at this;omega
inductive Rt (R:List Rl)(L:List Slt)(fol:Nat->List UInt8->Option Nat):Nat->Nat × Nat->Nat->Prop
 | start:Rt R L fol 0 (0,0) 0
 | step {i m n n':Nat} {c k:Nat} {r:Rl}:Rt R L fol i (m,n) c->r∈R->C5 r=true->r.frm=(m:Int)->letsC (L.drop i) (bts r.inp)=some k->fol n (bts r.out)=some n' ->
   Rt R L fol (i+r.inp.size) (r.dst.toNat,n') (c+(r.cost.toNat+k))
structure UB (fol:Nat->List UInt8->Option Nat):Prop where
 nil:∀ n,fol n []=some n
 app:∀ n a b,fol n (a ++ b)=(fol n a).bind λx=>fol x b
def VC {R:List Rl}{L:List Slt}{fol:Nat->List UInt8->Option Nat}(hf:UB fol){i:Nat}{t:Nat × Nat}{c:Nat}(h:Rt R L fol i t c):∃ o,RtS R L i t.1 o c/\fol 0 o=oT t.2:=by
 induction h with
 | start=>exact⟨[],.start,hf.nil 0⟩
 | step h1 hr hfr hm hk hn ih =>
  obtain⟨o,ho,ja⟩:=ih;refine⟨o ++ _,.step ho hr hfr hm hk,?_⟩;rw[hf.app,ja];exact hn
def ST {R:List Rl}{L:List Slt}{fol:Nat->List UInt8->Option Nat}(hf:UB fol){i m:Nat}{o:List UInt8}{c:Nat}(h:RtS R L i m o c):∀ {n:Nat},fol 0 o=oT n->Rt R L fol i (m,n) c:=by
 induction h with
 | start=>intro n hn;rw[hf.nil]at hn;cases hn;exact .start
 | step h1 hr hfr hm hk ih =>
  intro n hn;rw[hf.app]at hn;cases e:fol 0 _ with
  | none=>rw[e]at hn;cases hn
  | some x =>
   rw[e]at hn;exact .step (ih e) hr hfr hm hk hn
def BX (p:Nat->Prop)(c:Nat):Prop:=p c/\∀ d,p d->c<=d
def BX.uniq {p:Nat->Prop}{c d:Nat}(h:BX p c)(h2:BX p d):c=d:=xq (h.2 d h2.1) (h2.2 c h.1)
def BX.congr {p q:Nat->Prop}{c:Nat}(h:BX p c)(ja:∀ d,p d↔q d):BX q c:=⟨(ja c).1 h.1,λd hd=>h.2 d ((ja d).2 hd)⟩
def Eh {p:Nat->Prop}(h:∃ c,p c):∃ c,BX p c:=by
 obtain⟨c,hc⟩:=h
 induction c using zF with
 | ind c ih =>
  by_cases hm:∃ d,d<c/\p d
  · obtain⟨d,hd,jb⟩:=hm;exact ih d hd jb
  · exact⟨c,hc,λd hd=>Nat.le_of_not_lt λja=>hm ⟨d,ja,hd⟩⟩
def CL (acc:Int)(m:Nat):Bool:=acc / 2 ^ m % 2 == 1
def Whole (R:List Rl)(acc:Int)(L:List Slt)(i:Nat)(w:List UInt8)(c:Nat):Prop:=∃ m,CL acc m=oF/\RtS R L i m w c
structure FU (R:List Rl)(acc:Int)(L:List Slt)(W:List (List UInt8))(i:Nat)(l:List (Nat × Nat)):Prop where
 sorted:l.Pairwise λa b=>a.1<b.1
 mem:∀ k c,(k,c)∈l↔∃ h:k<oB W,BX (Whole R acc L i W[k]) c
def sorted_eq:∀ {a b:List (Nat × Nat)},a.Pairwise (λx y=>x.1<y.1)->b.Pairwise (λx y=>x.1<y.1)->(∀ x,x∈a↔x∈b)->a=b
 | [],[],_,_,_=>rfl
 | [],y :: b,_,_,h=>by have:=(h y).2 AB;cases this
 | x :: a,[],_,_,h=>by have:=(h x).1 AB;cases this
 | x
   :: a,y :: b,ha,hb,h=>by
  obtain⟨ja,je⟩:=AU.1 ha;obtain⟨jb,jf⟩:=AU.1 hb;have e:x=y:=by
   rcases AX.1 ((h x).1 AB) with e | e
   · exact e
   ·rcases AX.1 ((h y).2 AB) with e2 | e2
    · exact e2.symm
    · have:=jb x e;have:=ja y e2;omega
  subst e;have hx:∀ z,z∈a↔z∈b:=λz=>by
   have hz:=h z;simp only[AX]at hz;constructor
   ·intro jc;rcases hz.1 (.inr jc) with e | e
    · subst e;exact absurd (ja z jc) (Nat.lt_irrefl _)
    · exact e
   ·intro jd;rcases hz.2 (.inr jd) with e | e
    · subst e;exact absurd (jb z jd) (Nat.lt_irrefl _)
    · exact e
  rw[sorted_eq je jf hx]
def FU.uniq {R R':List Rl}{acc acc':Int}{L L':List Slt}{W:List (List UInt8)}{i i':Nat}{l l':List (Nat × Nat)}(h:FU R acc L W i l)(h':FU R' acc' L' W i' l')
  (he:∀ w∈W,∀ c,Whole R acc L i w c↔Whole R' acc' L' i' w c):l=l' :=
 sorted_eq h.sorted h'.sorted λ⟨k,c⟩=>by
  rw[h.mem,h'.mem];constructor
  · rintro⟨hk,hl⟩;exact⟨hk,hl.congr λd=>he _ (AI hk) d⟩
  · rintro⟨hk,hl⟩;exact⟨hk,hl.congr λd=>(he _ (AI hk) d).symm⟩
abbrev Stt:=Nat × Nat
def Do {α:Type}(E:List (α × Nat)):Prop:=E.Pairwise λa b=>a.1≠b.1
def Ik {α:Type}(E:List (α × Nat)):Do E↔(E.map (·.1)).Nodup:=by unfold Do List.Nodup;rw[AV]
section
variable {α:Type} [DecidableEq α]
def look:List (α × Nat)->α->Option Nat
 | [],_=>oS
 | p :: E,t=>if p.1=t then oT p.2 else look E t
def Dp (E:List (α × Nat))(t:α)(c:Nat):List (α × Nat):=if(look E t).isSome then E.map λp=>if p.1=t then(t,c) else p else E ++ [(t,c)]
variable {E F:List (α × Nat)} {t u:α} {c d:Nat}
def look_nil (t:α):look ([]:List (α × Nat)) t=oS:=rfl
def Bl (p:α × Nat)(E:List (α × Nat))(t:α):look (p :: E) t=if p.1=t then oT p.2 else look E t:=rfl
def CY (h:look E t=oT c):(t,c)∈E:=by
 induction E with
 | nil=>cases h
 | cons p E ih =>
  rw[Bl]at h;split at h
  · rename_i e;cases h;rw[<- e];exact AB
  · exact Zm _ (ih h)
def Bj (hn:Do E)(h:(t,c)∈E):look E t=oT c:=by
 induction E with
 | nil=>cases h
 | cons p E ih =>
  obtain⟨h1,h2⟩:=AU.1 hn;rw[Bl];rcases AX.1 h with rfl | h
  · simp
  · rw[if_neg (h1 _ h),ih h2 h]
def Qz:look E t=oS↔∀ p∈E,p.1≠t:=by
 induction E with
 | nil=>simp[look_nil]
 | cons p E ih =>
  rw[Bl];by_cases h:p.1=t
  · simp[h]
  · simp[h,ih]
def SU (E F:List (α × Nat))(t:α):look (E ++ F) t=(look E t).or (look F t):=by
 induction E with
 | nil=>simp[look_nil]
 | cons p E ih =>
  rw[ZG,Bl,Bl,ih];split
  · rfl
  · rfl
def JG (ja:t≠u):∀ F:List (α × Nat),look (F.map λp=>if p.1=t then(t,c) else p) u=look F u
 | []=>rfl
 | p
   :: F=>by
  rw[Y4,Bl,Bl,JG ja F];by_cases hp:p.1=t
  ·simp only[hp,if_true];rw[if_neg ja,if_neg ja]
  · simp only[hp,if_false]
def JH:∀ F:List (α × Nat),(look F t).isSome=oF->look (F.map λp=>if p.1=t then(t,c) else p) t=oT c
 | [],h=>by simp[look_nil]at h
 | p
   :: F,h=>by
  rw[Y4,Bl];by_cases hp:p.1=t
  · simp[hp]
  ·rw[Bl,if_neg hp]at h;simp only[hp,if_false];exact JH F h
def Ei (E:List (α × Nat))(t:α)(c:Nat)(u:α):look (Dp E t c) u=if t=u then oT c else look E u:=by
 unfold Dp;split
 ·rename_i h;by_cases ja:t=u
  · rw[if_pos ja];subst ja;exact JH E h
  · rw[if_neg ja];exact JG ja E
 ·rename_i h;rw[SU,Bl,look_nil];have hn:look E t=oS:=by cases e:look E t with | none=>rfl | some x=>rw[e]at h;simp at h
  by_cases ja:t=u
  · subst ja;rw[hn];simp
  · simp[ja]
def SW (E:List (α × Nat))(t:α)(c:Nat):(E.map λp=>if p.1=t then(t,c) else p).map (·.1)=E.map (·.1):=by
 rw[List.map_map];refine List.map_congr_left λp _=>?_;by_cases h:p.1=t
 · simp[h]
 · simp[h]
def Do.put (h:Do E)(t:α)(c:Nat):Do (Dp E t c):=by
 unfold Dp;split
 · rw[Ik,SW,<- Ik];exact h
 ·rename_i hs;have hn:look E t=oS:=by cases e:look E t with | none=>rfl | some x=>rw[e]at hs;simp at hs
  refine Xx.2 ⟨h,List.pairwise_singleton _ _,λa ha b hb=>?_⟩;rw[AF.1 hb];exact Qz.1 hn a ha
def IC (E:List (α × Nat))(t:α)(c:Nat):(Dp E t c).length=if(look E t).isSome then E.length else E.length+1:=by
 unfold Dp;split <;> simp
def Je {p:α × Nat}(h:p∈Dp E t c):p=(t,c)\/p∈E:=by
 unfold Dp at h;split at h
 ·obtain⟨q,hq,e⟩:=AJ.1 h;split at e
  · exact .inl e.symm
  · exact .inr (e ▸ hq)
 ·rcases AY.1 h with h | h
  · exact .inr h
  · exact .inl (AF.1 h)
end
abbrev Ent:=List (Stt × Nat)
def nodup_bound:∀ (K:Nat) (l:List Nat),l.Nodup->(∀ x∈l,x<K)->oB l<=K
 | 0,l,_,h=>by cases l with | nil=>simp | cons x r=>exact absurd (h x AB) (Xj _)
 | K
   +
    1,l,hn,h=>by
  by_cases hk:K∈l
  ·have h1:=nodup_bound K (l.erase K) (hn.erase _) λx hx=>by
    have h2:=h x (List.mem_of_mem_erase hx);have:x≠K:=λe=>by subst e;exact(hn.not_mem_erase) hx
    omega
   rw[List.length_erase_of_mem hk]at h1;omega
  ·have:=nodup_bound K l hn λx hx=>by
    have h2:=h x hx;have:x≠K:=λe=>hk (e ▸ hx);omega
   omega
def Nt (N:Nat)(E:Ent):Prop:=∀ p∈E,p.1.1<8/\p.1.2<N
def Nt.put {N:Nat}{E:Ent}(h:Nt N E){t:Stt}(h1:t.1<8)(h2:t.2<N)(c:Nat):Nt N (Dp E t c):=λp hp=>by
 rcases Je hp with rfl | hp
 · exact⟨h1,h2⟩
 · exact h p hp
def UC {N:Nat}{a b:Stt}(ha:a.2<N)(hb:b.2<N)(h:a.1*N+a.2=b.1*N+b.2):a=b:=by
 have h0:0<N:=by omega
 have e2:a.2=b.2:=by
  have:=congrArg (· % N) h;simpa[zW _ N,Nat.mul_add_mod,xd ha,xd hb] using this
 have e1:a.1=b.1:=by
  rw[e2]at h;exact Nat.eq_of_mul_eq_mul_right h0 (Nat.add_right_cancel h)
 exact Prod.ext e1 e2
def ID {N:Nat}{E:Ent}(hn:Do E)(hr:Nt N E):oB E<=8*N:=by
 have h:=nodup_bound (8*N) (E.map λp=>p.1.1*N+p.1.2) (by
  unfold List.Nodup;rw[AV];exact XY (λ{a b} ha hb ja e=>ja (UC (hr a ha).2 (hr b hb).2 e)) hn) (by
  intro x hx;obtain⟨p,hp,rfl⟩:=AJ.1 hx;obtain⟨h1,h2⟩:=hr p hp;have:p.1.1*N<=7*N:=ZM N (by omega);omega)
 simpa using h
def MW (E:Ent):Nat:=(E.map (·.2)).sum
def pot (N C:Nat)(E:Ent):Nat:=(8*N - E.length)*(C+1)+MW E
def sum_put_old {E:Ent}(hn:Do E){t:Stt}{c d:Nat}(h:look E t=oT d):MW (Dp E t c)+d=MW E+c:=by
 have hs:(look E t).isSome=oF:=by rw[h];rfl
 unfold Dp;rw[if_pos hs];unfold MW;clear hs
 induction E with
 | nil=>cases h
 | cons p E ih =>
  obtain⟨h1,h2⟩:=AU.1 hn;rw[Bl]at h;rw[Y4,Y4,Y4,List.sum_cons,List.sum_cons];by_cases hp:p.1=t
  ·rw[if_pos hp]at h;cases h;rw[if_pos hp];have:(E.map λp=>if p.1=t then(t,c) else p)=E:=by
    refine(List.map_congr_left λq hq=>?_).trans (List.map_id _);have ja:¬ q.1=t:=λe=>h1 q hq (hp.trans e.symm);rw[if_neg ja];rfl
   rw[this];show c+_+_=_;omega
  ·rw[if_neg hp]at h;rw[if_neg hp];have:=ih h2 h;omega
def UD {N C:Nat}{E:Ent}(hn:Do E)(hr:Nt N E){t:Stt}{c:Nat}(h1:t.1<8)(h2:t.2<N)(hc:c<=C)(jb:∀ d,look E t=oT d->c<d):pot N C (Dp E t c)+1<=pot N C E:=by
 have hl:=ID (hn.put t c) (hr.put h1 h2 c);have ja:=IC E t c;unfold pot;cases e:look E t with
 | some d =>
  rw[e]at ja;have hs:=sum_put_old (c:=c) hn e;have:=jb d e;simp at ja;rw[ja];omega
 | none =>
  rw[e]at ja;simp at ja;have hs:MW (Dp E t c)=MW E+c:=by unfold Dp MW;simp[e]
  rw[ja,hs];rw[ja]at hl;have:(8*N - E.length)=(8*N - (oB E+1))+1:=by omega
  rw[this,Xp];omega
def VV {N C:Nat}{E:Ent}(hn:Do E)(hr:Nt N E)(hc:∀ p∈E,p.2<=C):pot N C E<=8*N*(C+1):=by
 have hl:=ID hn hr;have hs:MW E<=oB E*C:=by
  unfold MW;clear hl hn hr
  induction E with
  | nil=>simp
  | cons p E ih =>
   have h1:=hc p AB;have h2:=ih λq hq=>hc q (Zm _ hq);rw[Y4,List.sum_cons,Zs,Xp];omega
 unfold pot;obtain⟨k,hk⟩:∃ k,8*N=oB E+k:=⟨8*N - E.length,by omega⟩
 rw[hk,Nat.add_sub_cancel_left,Xp,Nat.mul_add E.length];omega
open Go.RowKit Go.WideShapes Go.Maps Go.WideMaps Fl
structure Gl (α:Type) where
 mt:X5
 kt:X5
 val:α->Z6
 kl:α->Lit
 ok:α->Prop
structure Gl.Ok {α:Type}(T:Gl α):Prop where
 keyed:Keyed Z1 T.kt
 und:Tryz.prog.underlying T.mt=some (.map T.kt 3)
 key:∀ x,T.ok x->keyOf Z1 T.kt (T.val x)=some (T.kl x)
 inj:∀ x y,T.val x=T.val y->x=y
def Gl.Ok.kl_inj {α:Type}{T:Gl α}(h:T.Ok){x y:α}(hx:T.ok x)(hy:T.ok y)(e:T.kl x=T.kl y):x=y :=
 h.inj _ _ (h.keyed.inj (h.key x hx) (e ▸ h.key y hy))
def Gl.Ok.isKey {α:Type}{T:Gl α}(h:T.Ok){x:α}(hx:T.ok x):WideAt.IsKeyLit (T.kl x):=h.keyed.key (h.key x hx)
def UE {c:Nat}(h:c<=1152921504606846976):(Lit.int aM (c:Int)).wf=oF:=by simp[Lit.wf,IntKind.min,IntKind.max,IntKind.bits,IntKind.signed];omega
section
variable {α:Type} [DecidableEq α] {T:Gl α} {w w1:World} {g:Nat} {E:List (α × Nat)}
structure LA (T:Gl α)(D:DataW Unit)(E:List (α × Nat)):Prop where
 keys:Do E
 ok:∀ p∈E,T.ok p.1/\p.2<=1152921504606846976
 has:∀ x,T.ok x->Maps.has D (T.kl x)=(look E x).isSome
 at_:∀ x,T.ok x->D.atKey (T.kl x) (.lit (.int .i64 0))=.lit (.int .i64 (((look E x).getD 0:Nat):Int))
 all:∀ l,Maps.has D l=true->∃ p∈E,l=T.kl p.1
 size:Maps.size D=oB E
def MpG (T:Gl α)(w:Z0)(g:Nat)(E:List (α × Nat)):Prop:=∃ D:DataW Unit,w.ownsMap Z1 T.kt (plainElem Z1 3) g E.length D/\LA T D E
def LA.empty (T:Gl α):LA T (.map []) [] :=
 ⟨xi,λp hp=>(by cases hp),λx _=>by simp[Maps.has,look_nil],λx _=>by simp[DataW.atKey,look_nil],λl h=>by simp[Maps.has]at h,rfl⟩
def MpG.new (T:Gl α)(w:Z0):MpG T (w.alloc (.map #[] 0)) w.heap.size []:=⟨.map [],World.ownsMap_made _ _ _ _,LA.empty T⟩
def MpG.kept (h:MpG T w g E)(hk:w1.heap[g]? = w.heap[g]?):MpG T w1 g E:=by
 obtain⟨D,⟨es,clock,hb,h1⟩,h2⟩:=h;exact⟨D,⟨es,clock,hk.trans hb,h1⟩,h2⟩
def MpG.obj (h:MpG T w g E):∃ es c,w.heap[g]? = oT (.map es c):=by
 obtain⟨D,⟨es,clock,hb,_⟩,_⟩:=h;exact⟨es,clock,hb⟩
def MpG.lt (h:MpG T w g E):g<w.heap.size:=by
 obtain⟨es,c,h⟩:=h.obj;exact(A7.1 h).1
def MpG.keys (h:MpG T w g E):Do E:=h.choose_spec.2.keys
def MpG.okk (h:MpG T w g E):∀ p∈E,T.ok p.1/\p.2<=1152921504606846976:=h.choose_spec.2.ok
def MpG.look_ok (hT:T.Ok)(h:MpG T w g E){x:α}(hx:T.ok x) :
  (Instr.lookup T.mt (.map (oT g)) (T.val x) oF).run Z1 w=.ok (.tuple #[aA aM (((look E x).getD 0:Nat):Int),aH (look E x).isSome]) w:=by
 obtain⟨D,h1,h2⟩:=h;obtain⟨v,ps,ja,hv⟩:=h1.look_ok hT.keyed hT.und (XZ w) (plainElem_int (H:=Unit) ZR (a:=0) (by decide)) (hT.key x hx);rw[h2.at_ x hx]at hv;obtain⟨a,rfl,hz,_⟩:=plainElem_int_inv ZR hv;rw[h2.has x hx]at ja;have:=congrArg Prod.fst hz;simp only[xp,Lit.int.injEq,true_and]at this;rw[this];exact ja
def MpG.look (hT:T.Ok)(h:MpG T w g E){x:α}(hx:T.ok x) :
  (Instr.lookup T.mt (.map (oT g)) (T.val x) oH).run Z1 w=.ok (aA aM (((look E x).getD 0:Nat):Int)) w:=by
 obtain⟨D,h1,h2⟩:=h;obtain⟨c,jb,ja,_⟩:=h1.lookup_int hT.keyed hT.und ZR (XZ w) (hT.key x hx);rw[h2.at_ x hx]at ja;simp only[xp,Lit.int.injEq,true_and]at ja;rw[ja];exact jb
def LA.put {D:DataW Unit}(hT:T.Ok)(h:LA T D E)(hD:Tidy D){x:α}(hx:T.ok x){c:Nat}(hc:c<=1152921504606846976):LA T (D.put (T.kl x) (.lit (.int aM (c:Int)))) (Dp E x c):=by
 have hk:=hT.isKey hx;refine⟨h.keys.put x c,λp hp=>?_,λy hy=>?_,λy hy=>?_,λl hl=>?_,?_⟩
 ·rcases Je hp with rfl | hp
  · exact⟨hx,hc⟩
  · exact h.ok p hp
 ·rw[Ei];by_cases e:x=y
  · subst e;rw[has_put_same hD.isMap hk];simp
  · rw[if_neg e,has_put_other (λe2=>e (hT.kl_inj hx hy e2.symm)),h.has y hy]
 ·rw[Ei];by_cases e:x=y
  · subst e;rw[atKey_put_same hD.isMap hk];simp
  · rw[if_neg e,atKey_put_other (λe2=>e (hT.kl_inj hx hy e2.symm)),h.at_ y hy]
 ·have ja:∀ y,(∃ c',(y,c')∈Dp E x c)↔(look (Dp E x c) y).isSome=oF:=λy=>by
   constructor
   ·rintro⟨c',hm⟩;rw[Bj (h.keys.put x c) hm];rfl
   ·intro h9;obtain⟨c',e⟩:=XX.1 h9;exact⟨c',CY e⟩
  by_cases e:l=T.kl x
  ·obtain⟨c',hm⟩:=(ja x).2 (by rw[Ei,if_pos rfl];rfl);exact⟨_,hm,e⟩
  ·rw[has_put_other e]at hl;obtain⟨p,hp,e2⟩:=h.all l hl;have jb:x≠p.1:=λe3=>e (by rw[e2,e3]);obtain⟨c',hm⟩:=(ja p.1).2 (by rw[Ei,if_neg jb,Bj h.keys (c:=p.2) hp];rfl);exact⟨_,hm,e2⟩
 · rw[size_put hD,h.has x hx,h.size,IC]
def Ow {D:DataW Unit}{k:X5}{R:Z6->Option (DataW Unit × List MemPlace)}{n:Nat}(h:w.ownsMap Z1 k R g n D):w.ownsMap Z1 k R g (Maps.size D) D:=by
 obtain⟨es,clock,hb,F,hs,rfl⟩:=h;exact⟨es,clock,hb,F,by rw[size_eq,length_sorted];simp,rfl⟩
def MpG.run_put (hT:T.Ok)(h:MpG T w g E){x:α}(hx:T.ok x){c:Nat}(hc:c<=1152921504606846976)(hl:oB E<1000000) :
  ∃ w',(Instr.mapUpdate T.mt (.map (oT g)) (T.val x) (aA aM (c:Int))).run Z1 w=.ok () w'/\MpG T w' g (Dp E x c)/\w.grownBy w' (oT g):=by
 obtain⟨D,h1,h2⟩:=h;obtain⟨w',ja,h3,h4⟩:=h1.update hT.keyed hT.und (by unfold maxLen;omega) (hT.key x hx) (plainElem_int (H:=Unit) ZR (UE hc));have hd:=h2.put hT (h1.tidy hT.keyed) hx hc;refine⟨w',ja,⟨_,?_,hd⟩,h4⟩;have:=Ow h3;rw[hd.size]at this;exact this
def IE (hT:T.Ok)(h:MpG T w g E){x:α}(hx:T.ok x){c:Nat}(hc:c<=1152921504606846976)(hl:oB E<1000000){ops:Array ZX}{rest:List ZX}{o:ZX}{a:Act}{Q:Exit->Act->Z0->Prop}
  (jc:o.guard=oS) (m k v:Operand) (jd:o.op=Op.mapUpdate T.mt m k v) (hm:a.eval m=.map (oT g)) (hk:a.eval k=T.val x) (hv:a.eval v=aA aM (c:Int))
  (hK:∀ w',MpG T w' g (Dp E x c)->w.grownBy w' (oT g)->wpList Z1 ops Q rest (a.put o.dst Z8) w'):wpList Z1 ops Q (o :: rest) a w:=by
 refine wpList_plain jc λK' jb=>?_;obtain⟨w',ja,r1,r2⟩:=h.run_put hT hx hc hl;unfold xe;simp[execOp,jd,hm,hk,hv,ja,Result.andThen];exact jb _ _ (hK w' r1 r2)
def MpG.run_clear (hT:T.Ok)(h:MpG T w g E)(ty:X5):∃ w',(Builtin.clear_ #[T.mt] ty #[.map (oT g)]).run Z1 w=.ok (.tuple #[]) w'/\MpG T w' g []/\w.grownBy w' (oT g):=by
 obtain⟨es,clock,hb⟩:=h.obj;refine⟨ChangeMaps.setBlock w g (.map #[] clock),?_,⟨.map [],⟨#[],clock,ChangeMaps.heap_setBlock_same hb _,⟨by simp,MapKept.stamped_empty _,by simp⟩,A5 _,rfl⟩,LA.empty T⟩,⟨rfl,rfl,rfl,by simp[ChangeMaps.setBlock],λi _ hi=>ChangeMaps.heap_setBlock_other hb _ (λe=>hi (by rw[e]))⟩⟩;simp[Builtin.clear_,run_underlying hT.und,MapKept.run_getObj_map hb,MapKept.run_setObj_map _ hb,Result.andThen,ChangeMaps.setBlock]
def DZ (l:List (α × Nat))(p:α × Nat):List (α × Nat):=l.filter λq=>decide (q≠p)
def Cy {l:List (α × Nat)}{p q:α × Nat}:q∈DZ l p↔q∈l/\q≠p:=by unfold DZ;rw[AZ];simp
def Da {l:List (α × Nat)}{p:α × Nat}(h:p∈l):(DZ l p).length<oB l:=List.length_filter_lt_length_iff_exists.2 ⟨_,h,by simp⟩
def RgG (T:Gl α)(w:Z0)(g r:Nat)(E rest:List (α × Nat)):Prop:=∃ (D:DataW Unit) (left:Lit->Bool) (cnt:Nat),w.ranges Z1 T.kt (plainElem Z1 3) g r E.length D left cnt/\LA T D E/\(∀ p∈rest,p∈E) /\
 (∀ p∈E,left (T.kl p.1)=decide (p∈rest))/\(∀ l,left l=oF->∃ p∈E,l=T.kl p.1)
def RgG.map {r:Nat}{rest:List (α × Nat)}(h:RgG T w g r E rest):MpG T w g E:=by
 obtain⟨D,left,cnt,h1,h2,_⟩:=h;exact⟨D,h1.owns,h2⟩
def RgG.sub {r:Nat}{rest:List (α × Nat)}(h:RgG T w g r E rest):∀ p∈rest,p∈E:=by
 obtain⟨D,left,cnt,h1,h2,h3,_⟩:=h;exact h3
def RgG.lt {r:Nat}{rest:List (α × Nat)}(h:RgG T w g r E rest):r<w.heap.size:=by
 obtain⟨D,left,cnt,h1,h2,_⟩:=h;exact h1.lt
def RgG.kept {r:Nat}{rest:List (α × Nat)}(h:RgG T w g r E rest){row:Option Nat}(hg:w.grownBy w1 row)(h1:oT g≠row)(h2:oT r≠row):RgG T w1 g r E rest:=by
 obtain⟨D,left,cnt,h3,h4⟩:=h;exact⟨D,left,cnt,h3.kept hg h1 h2,h4⟩
def RgG.below {r:Nat}{rest:List (α × Nat)}(h:RgG T w g r E rest)(hb:Below w.heap.size w w1):RgG T w1 g r E rest :=
 h.kept (row:=oS) ⟨hb.os,hb.tape,hb.output,hb.size,λk hk _=>hb.block k hk⟩ (by simp) (by simp)
def MpG.run_range (hT:T.Ok)(h:MpG T w g E):∃ w',(Instr.range T.mt (.map (oT g))).run Z1 w=.ok (aB (oT ⟨w.heap.size,0,oS⟩)) w'/\RgG T w' g w.heap.size E E/\Below w.heap.size w w'/\w'.heap.size=w.heap.size+1:=by
 obtain⟨D,h1,h2⟩:=h;obtain⟨w',ja,h3,h4,h5⟩:=h1.range hT.keyed hT.und;refine⟨w',ja,⟨D,_,_,h3,h2,λp hp=>hp,λp hp=>?_,λl hl=>h2.all l hl⟩,⟨h4.os,h4.tape,h4.output,h4.size,λk hk=>h4.block k hk (by simp)⟩,h5⟩;rw[h2.has p.1 (h2.ok p hp).1,Bj h2.keys (c:=p.2) hp];simp[hp]
def GK (hT:T.Ok)(h:MpG T w g E){ops:Array ZX}{rest:List ZX}{o:ZX}{a:Act}{Q:Exit->Act->Z0->Prop}(jc:o.guard=oS)(m:Operand)(jd:o.op=Op.range T.mt m)(hm:a.eval m=.map (oT g))
  (hK:∀ w',RgG T w' g w.heap.size E E->Below w.heap.size w w'->w.heap.size<w'.heap.size->wpList Z1 ops Q rest (a.put o.dst (aB (oT ⟨w.heap.size,0,oS⟩))) w'):wpList Z1 ops Q (o :: rest) a w:=by
 refine wpList_plain jc λK' jb=>?_;obtain⟨w',ja,r1,r2,r3⟩:=h.run_range hT;unfold xe;simp[execOp,jd,hm,ja,Result.andThen];exact jb _ _ (hK w' r1 r2 (by omega))
def wpList_next_g (hT:T.Ok){r:Nat}{todo:List (α × Nat)}(h:RgG T w g r E todo){ops:Array ZX}{rest:List ZX}{o:ZX}{a:Act}{Q:Exit->Act->Z0->Prop}(jm:o.guard=oS)(it:Operand)(jh:o.op=Op.next it oH)(hit:a.eval it=.pointer (oT ⟨r,0,oS⟩))
  (jb:todo=[]->wpList Z1 ops Q rest (a.put o.dst (.tuple #[.bool oH])) w)
  (jc:∀ (p:α × Nat) (w':Z0),p∈todo->RgG T w' g r E (DZ todo p)->w.grownBy w' (oT r)->w.heap.size<=w'.heap.size->w'.rangeLeft g r<w.rangeLeft g r ->
   (Instr.entry (.pointer (oT ⟨r,0,oS⟩))).run Z1 w'=.ok (.tuple #[T.val p.1,.int .i64 (p.2:Int)]) w'->wpList Z1 ops Q rest (a.put o.dst (.tuple #[.bool oF,T.val p.1,.int .i64 (p.2:Int)])) w'):wpList Z1 ops Q (o :: rest) a w:=by
 refine wpList_plain jm λK' jf=>?_;obtain⟨D,left,cnt,h1,h2,h3,h4,h5⟩:=h;unfold xe;rcases h1.next hT.keyed o.type with⟨h0,hl,ja⟩ | ⟨key,v,kl,y,w',cnt',jd,jg,hv,jk,ja,jj,jo,jn,hsz,jl⟩
 ·simp[execOp,jh,hit,ja,Result.andThen];refine jf _ _ (jb ?_);cases todo with
  | nil=>rfl
  | cons p t =>
   have:=h4 p (h3 p AB);rw[hl]at this;simp at this
 ·obtain⟨p,hp,rfl⟩:=h5 kl jg;have je:=h2.ok p hp;obtain rfl:key=T.val p.1:=hT.keyed.inj jd (hT.key p.1 je.1);obtain⟨c,rfl,rfl,_⟩:=plainElem_int_inv ZR hv;have hc:=jk (.lit (.int .i64 0));rw[h2.at_ p.1 je.1,Bj h2.keys (c:=p.2) hp]at hc;simp only[xp,Lit.int.injEq,true_and,Xh]at hc;subst hc;have jp:p∈todo:=by
   have:=h4 p hp;rw[jg]at this;exact of_decide_eq_true this.symm
  simp[execOp,jh,hit,ja,Result.andThen];refine jf _ _ (jc p w' jp ⟨D,_,_,jj,h2,λq hq=>h3 q (Cy.1 hq).1,λq hq=>?_,λl hl=>?_⟩ jn (by omega) (by rw[jj.left_eq,h1.left_eq];exact jo) jl)
  ·have ji:=h2.ok q hq;rw[h4 q hq];by_cases e:q=p
   ·subst e;simp[WideAt.sameKey_self (hT.isKey ji.1),Cy]
   ·have:q.1≠p.1:=λe2=>e (Prod.ext e2 (by
     have a1:=Bj h2.keys (t:=q.1) (c:=q.2) hq;have a2:=Bj h2.keys (t:=p.1) (c:=p.2) hp;rw[e2,a2]at a1;exact(Option.some.inj a1).symm))
    rw[sameKey_ne (λe2=>this (hT.kl_inj ji.1 je.1 e2))];simp[e,Cy]
  ·simp only[Zg]at hl;exact h5 l hl.1
end
def Gm (t:Stt):Z6:=aJ #[aA aM (t.1:Int),aA aM (t.2:Int)]
def Bp:Gl Stt:=⟨141,183,Gm,λt=>.string (keyBytes [.int .i64 (t.1:Int),.int .i64 (t.2:Int)]),λt=>t.1<1000000/\t.2<1000000⟩
def R3:laidOutB Z1=oF:=by kernel_rfl
def SY:(183:X5)<Tryz.prog.types.size:=of_decide_eq_true (by kernel_rfl)
def SZ:KeyLaw Z1 183:=deep_law_laid R3 (m:=2) (by omega) SY (by kernel_rfl) (by rw[xu])
def CU:Bp.Ok where
 keyed:=Keyed.of_law SZ
 und:=Tryz.underlying141
 key
   x hx:=by
  have h1:Tryz.prog.keyType 183=oF:=by kernel_rfl
  have hc:Tryz.prog.cellsOf 183=2:=by kernel_rfl
  have ja:Tryz.prog.cellsOf 3=1:=by kernel_rfl
  have hf:(Gm x).formed Z1 183=oF:=by simp[Gm,Value.formed,xu,hc]
  have w1:(Lit.int .i64 (x.1:Int)).wf=oF:=UE (by have:=hx.1;omega);have w2:(Lit.int .i64 (x.2:Int)).wf=oF:=UE (by have:=hx.2;omega);obtain⟨n,hn⟩:∃ n,Tryz.prog.types.size+1=n+2:=⟨Tryz.prog.types.size - 1,by
   have:1<=Tryz.prog.types.size:=of_decide_eq_true (by kernel_rfl);omega⟩
  have hl:Tryz.prog.keyLits (Tryz.prog.types.size+1) 183 [.int .i64 (x.1:Int),.int .i64 (x.2:Int)]=oT [.int .i64 (x.1:Int),.int .i64 (x.2:Int)]:=by
   rw[hn];simp[Program.keyLits,xu,ZR,hc,ja,w1,w2]
  show keyOf Z1 183 (Gm x)=_;unfold keyOf;rw[xu];simp only[h1,hf,Bool.and_self,if_true];have jb:(Gm x).cells.toList=[.int .i64 (x.1:Int),.int .i64 (x.2:Int)]:=by simp[Gm,Value.cells]
  rw[jb,hl];rfl
 inj x y h:=by
  simp[Bp,Gm]at h;exact Prod.ext (by omega) (by omega)
def Gn:Gl Nat:=⟨173,3,λn=>.int .i64 (n:Int),λn=>.int .i64 (n:Int),λn=>n<1000000⟩
def Fi:Gn.Ok where
 keyed:=int_keyed ZR
 und:=Tryz.underlying173
 key x hx:=keyOf_int_mk ZR (UE (by have:x<1000000:=hx;omega))
 inj x y h:=by simp[Gn]at h;omega
section
variable {R:List Rl} {L:List Slt} {fol:Nat->List UInt8->Option Nat}
def Lp (R:List Rl)(L:List Slt)(fol:Nat->List UInt8->Option Nat)(i:Nat)(t:Stt)(r:Rl)(t':Stt)(d:Nat):Prop :=
 r∈R/\C5 r=oF/\r.frm=(t.1:Int)/\∃ k n',letsC (L.drop i) (bts r.inp)=oT k/\fol t.2 (bts r.out)=oT n'/\t'=(r.dst.toNat,n')/\d=r.cost.toNat+k
def Rt.go {i:Nat}{t t':Stt}{c d:Nat}{r:Rl}(h:Rt R L fol i t c)(hs:Lp R L fol i t r t' d):Rt R L fol (i+r.inp.size) t' (c+d):=by
 obtain⟨h1,h2,h3,k,n',h4,h5,rfl,rfl⟩:=hs;exact .step h h1 h2 h3 h4 h5
structure Inv (R:List Rl)(L:List Slt)(fol:Nat->List UInt8->Option Nat)(i:Nat)(M:Nat->Ent):Prop where
 sound:∀ j t c,look (M j) t=some c->Rt R L fol j t c
 comp:∀ k t c r t' d,k<i->Rt R L fol k t c->Lp R L fol k t r t' d->i<=k+r.inp.size->∃ c',look (M (k+r.inp.size)) t'=some c'/\c'<=c+d
 base:i=0->∃ c',look (M 0) (0,0)=some c'/\c'<=0
def Shut (R:List Rl)(L:List Slt)(fol:Nat->List UInt8->Option Nat)(i:Nat)(M:Nat->Ent)(t:Stt):Prop :=
 ∀ c r t' d,look (M i) t=oT c->Lp R L fol i t r t' d->∃ c',look (M (i+r.inp.size)) t'=oT c'/\c'<=c+d
def Inv.least {i:Nat}{M:Nat->Ent}(h:Inv R L fol i M)(hs:∀ t,Shut R L fol i M t){t:Stt}{c:Nat}(hr:Rt R L fol i t c):∃ c',look (M i) t=oT c'/\c'<=c:=by
 suffices ∀ j t c,Rt R L fol j t c->j=i->∃ c',look (M i) t=oT c'/\c'<=c from this i t c hr rfl
 intro j t c hj
 induction hj with
 | start=>intro e;subst e;exact h.base rfl
 | @step k m n n' c lc r h1 hr hf hm hk hn ih =>
  intro e;have jc:Lp R L fol k (m,n) r (r.dst.toNat,n') (r.cost.toNat+lc):=⟨hr,hf,hm,lc,n',hk,hn,rfl,rfl⟩
  by_cases hz:k=i
  ·subst hz;obtain⟨c1,jd,hle⟩:=ih rfl;obtain⟨c2,ja,jb⟩:=hs (m,n) c1 r _ _ jd jc;rw[e]at ja;exact⟨c2,ja,by omega⟩
  ·obtain⟨c2,ja,jb⟩:=h.comp k (m,n) c r _ _ (by omega) h1 jc (by omega);rw[e]at ja;exact⟨c2,ja,jb⟩
def Inv.next {i:Nat}{M M':Nat->Ent}(h:Inv R L fol i M)(hs:∀ t,Shut R L fol i M t)(hM:∀ j,i<j->M' j=M j)(h0:∀ j,¬ i<j->M' j=[]):Inv R L fol (i+1) M' where
 sound j t c hl:=by
  by_cases hj:i<j
  · rw[hM j hj]at hl;exact h.sound j t c hl
  · rw[h0 j hj]at hl;cases hl
 comp k t c r t' d hk hr hst hle:=by
  rw[hM _ (by omega)];by_cases hz:k=i
  ·subst hz;obtain⟨c1,ja,hle1⟩:=h.least hs hr;obtain⟨c2,jb,hle2⟩:=hs t c1 r t' d ja hst;exact⟨c2,jb,by omega⟩
  · exact h.comp k t c r t' d (by omega) hr hst (by omega)
 base e:=absurd e (by omega)
def Q7 (M M':Nat->Ent):Prop:=∀ j t c,look (M j) t=oT c->∃ c',look (M' j) t=oT c'/\c'<=c
def Inv.falls {i:Nat}{M M':Nat->Ent}(h:Inv R L fol i M)(hf:Q7 M M')(hs:∀ j t c,look (M' j) t=oT c->Rt R L fol j t c):Inv R L fol i M' where
 sound:=hs
 comp k t c r t' d hk hr hst hle:=by
  obtain⟨c1,h1,l1⟩:=h.comp k t c r t' d hk hr hst hle;obtain⟨c2,h2,l2⟩:=hf _ _ _ h1;exact⟨c2,h2,by omega⟩
 base e:=by
  obtain⟨c1,h1,l1⟩:=h.base e;obtain⟨c2,h2,l2⟩:=hf _ _ _ h1;exact⟨c2,h2,by omega⟩
def ED (M:Nat->Ent)(j:Nat)(t:Stt)(c:Nat):Nat->Ent:=λk=>if k=j then Dp (M k) t c else M k
def Db (M:Nat->Ent)(j:Nat)(t:Stt)(c:Nat)(k:Nat)(u:Stt):look (ED M j t c k) u=if k=j/\t=u then oT c else look (M k) u:=by
 unfold ED;by_cases h:k=j
 ·rw[if_pos h,Ei];by_cases h2:t=u
  · simp[h,h2]
  · simp[h,h2]
 · simp[h]
def R4 {M:Nat->Ent}{j:Nat}{t:Stt}{c:Nat}(h:∀ d,look (M j) t=oT d->c<=d):Q7 M (ED M j t c):=λk u e he=>by
 rw[Db];split
 · rename_i hk;obtain⟨rfl,rfl⟩:=hk;exact⟨c,rfl,h e he⟩
 · exact⟨e,he,A5 _⟩
def Shut.falls {i:Nat}{M M':Nat->Ent}{t:Stt}(h:Shut R L fol i M t)(hf:Q7 M M')(he:look (M' i) t=look (M i) t):Shut R L fol i M' t:=λc r t' d hc ja=>by
 rw[he]at hc;obtain⟨c1,h1,l1⟩:=h c r t' d hc ja;obtain⟨c2,h2,l2⟩:=hf _ _ _ h1;exact⟨c2,h2,by omega⟩
structure Bnd (N i B D:Nat)(M:Nat->Ent):Prop where
 keys:∀ j,Do (M j)
 rng:∀ j,Nt N (M j)
 here:∀ p∈M i,p.2<=B+(M i).length*D
 next:∀ j,j≠i->∀ p∈M j,p.2<=B+(8*N+1)*D
def Bnd.here_le {N i B D:Nat}{M:Nat->Ent}(h:Bnd N i B D M){t:Stt}{c:Nat}(hc:look (M i) t=oT c):c<=B+8*N*D:=by
 have h1:=h.here _ (CY hc);have h2:=ZM D (ID (h.keys i) (h.rng i));simp only at h1;omega
def Bnd.put {N i B D:Nat}{M:Nat->Ent}(h:Bnd N i B D M){j:Nat}{s t:Stt}{c d:Nat}(hs:look (M i) s=oT c)(hd:d<=D)(h1:t.1<8)(h2:t.2<N)(ja:∀ x,look (M j) t=oT x->c+d<x):Bnd N i B D (ED M j t (c+d)) where
 keys k:=by
  unfold ED;split
  · exact(h.keys k).put _ _
  · exact h.keys k
 rng k:=by
  unfold ED;split
  · exact(h.rng k).put h1 h2 _
  · exact h.rng k
 here p hp:=by
  unfold ED at hp ⊢;split at hp
  ·rename_i e;subst e;rw[if_pos rfl];have hl:=IC (M i) t (c+d);rcases Je hp with rfl | hp
   ·have h3:=h.here _ (CY hs);simp only at h3 ⊢;cases e:look (M i) t with
    | none =>
     rw[e]at hl;simp at hl;rw[hl,Xp];omega
    | some x =>
     rw[e]at hl;simp at hl;have h4:=h.here _ (CY e);have h5:=ja x e;simp only at h4;rw[hl];omega
   ·have h3:=h.here p hp;have:(M i).length<=(Dp (M i) t (c+d)).length:=by rw[hl];split <;> omega
    have:=ZM D this;omega
  · rename_i e;rw[if_neg e];exact h.here p hp
 next k hk p hp:=by
  unfold ED at hp;split at hp
  ·rcases Je hp with rfl | hp
   ·have:=h.here_le hs;simp only[Xp];omega
   · exact h.next k hk p hp
  · exact h.next k hk p hp
end
def raise (r:Rl)(k:Nat):Rl:={ r with cost:=r.cost+(k:Int) }
def Nu (R:List Rl)(L:List Slt)(i:Nat):List Rl:=R.filterMap λr=>(letsC (L.drop i) (bts r.inp)).map (raise r)
def Bh (R:List Rl)(L:List Slt)(i m:Nat):List Rl:=(Nu R L i).filter λr=>decide (r.frm=(m:Int))
def Ej (R:List Rl):Prop:=∀ r∈R,C5 r=oF
def K2 {R:List Rl}{L:List Slt}{i:Nat}{s:Rl}:s∈Nu R L i↔∃ r k,r∈R/\letsC (L.drop i) (bts r.inp)=oT k/\s=raise r k:=by
 unfold Nu;rw[X9];constructor
 ·rintro⟨r,hr,h⟩;cases e:letsC (L.drop i) (bts r.inp) with
  | none=>rw[e]at h;cases h
  | some k=>rw[e]at h;cases h;exact⟨r,k,hr,e,rfl⟩
 ·rintro⟨r,k,hr,h,rfl⟩;exact⟨r,hr,by rw[h];rfl⟩
section
variable {R:List Rl} {L:List Slt} {fol:Nat->List UInt8->Option Nat} {i N B D C n:Nat} {q:List Stt} {M:Nat->Ent} {t:Stt} {ct:Nat}
structure Vis (R:List Rl)(L:List Slt)(fol:Nat->List UInt8->Option Nat)(i N B D:Nat)(q:List Stt)(n:Nat)(M:Nat->Ent):Prop where
 inv:Inv R L fol i M
 bnd:Bnd N i B D M
 qs:∀ t∈q,∃ c,look (M i) t=some c
 pend:∀ t c,look (M i) t=some c->Shut R L fol i M t\/t∈q.drop n
def Did (fol:Nat->List UInt8->Option Nat)(i:Nat)(M:Nat->Ent)(t:Stt)(ct:Nat)(s:Rl):Prop :=
 ∀ n',fol t.2 (bts s.out)=oT n'->∃ c',look (M (i+s.inp.size)) (s.dst.toNat,n')=oT c'/\c'<=ct+s.cost.toNat
structure D6 (R:List Rl)(L:List Slt)(fol:Nat->List UInt8->Option Nat)(i N B D:Nat)(q:List Stt)(n:Nat)(M:Nat->Ent)(t:Stt)(ct:Nat)(S:List Rl):Prop where
 inv:Inv R L fol i M
 bnd:Bnd N i B D M
 qs:∀ t∈q,∃ c,look (M i) t=some c
 here:look (M i) t=some ct
 pend:∀ u c,u≠t->look (M i) u=some c->Shut R L fol i M u\/u∈q.drop (n+1)
 did:∀ s∈S,Did fol i M t ct s
def Vis.enter (h:Vis R L fol i N B D q n M)(hn:n<oB q)(hq:q[n]=t)(hc:look (M i) t=oT ct):D6 R L fol i N B D q n M t ct [] where
 inv:=h.inv
 bnd:=h.bnd
 qs:=h.qs
 here:=hc
 pend u c hu hl:=by
  rcases h.pend u c hl with h1 | h1
  · exact .inl h1
  ·rw[AG hn]at h1;rcases AX.1 h1 with e | h1
   · exact absurd (e.trans hq) hu
   · exact .inr h1
 did s hs:=by cases hs
def D6.leave (h:D6 R L fol i N B D q n M t ct (Bh R L i t.1)):Vis R L fol i N B D q (n+1) M where
 inv:=h.inv
 bnd:=h.bnd
 qs:=h.qs
 pend u c hl:=by
  by_cases hu:u=t
  ·subst hu;refine .inl λc0 r t' d ja jc=>?_;obtain⟨h1,h2,h3,k,n',h4,h5,rfl,rfl⟩:=jc;have hf:=Bd.1 h2;have hm:raise r k∈Bh R L i u.1:=by
    unfold Bh;rw[AZ];exact⟨K2.2 ⟨r,k,h1,h4,rfl⟩,by show decide (r.frm=_)=oF;simpa using h3⟩
   obtain⟨c',jb,hle⟩:=h.did _ hm n' h5;rw[h.here]at ja;cases ja;refine⟨c',jb,?_⟩;have:(raise r k).cost.toNat=r.cost.toNat+k:=by show(r.cost+(k:Int)).toNat=_;omega
   omega
  · exact h.pend u c hu hl
def D6.start (ja:Inv R L fol i M)(hb:Bnd N i B D M){q:List Stt}(hq:∀ t,t∈q↔∃ c,look (M i) t=oT c):Vis R L fol i N B D q 0 M where
 inv:=ja
 bnd:=hb
 qs t ht:=(hq t).1 ht
 pend t c hc:=.inr (by rw[List.drop_zero];exact(hq t).2 ⟨c,hc⟩)
def Vis.done (h:Vis R L fol i N B D q n M)(hn:¬ n<oB q):∀ t,Shut R L fol i M t:=λt c r t' d hc ja=>by
 rcases h.pend t c hc with h1 | h1
 · exact h1 c r t' d hc ja
 · rw[Xn (by omega)]at h1;cases h1
def D6.skip {S:List Rl}{s:Rl}(h:D6 R L fol i N B D q n M t ct S)(hf:fol t.2 (bts s.out)=oS):D6 R L fol i N B D q n M t ct (S ++ [s]) :=
 ⟨h.inv,h.bnd,h.qs,h.here,h.pend,λx hx=>by
  rcases AY.1 hx with hx | hx
  · exact h.did x hx
  · rw[AF.1 hx];intro n' hn;rw[hf]at hn;cases hn⟩
def D6.same {S:List Rl}{s:Rl}{n' old:Nat}(h:D6 R L fol i N B D q n M t ct S)(hf:fol t.2 (bts s.out)=oT n')(ho:look (M (i+s.inp.size)) (s.dst.toNat,n')=oT old)(ja:old<=ct+s.cost.toNat):D6 R L fol i N B D q n M t ct (S ++ [s]) :=
 ⟨h.inv,h.bnd,h.qs,h.here,h.pend,λx hx=>by
  rcases AY.1 hx with hx | hx
  · exact h.did x hx
  · rw[AF.1 hx];intro n2 hn;rw[hf]at hn;cases hn;exact⟨old,ho,ja⟩⟩
def D6.put {S:List Rl}{s:Rl}{n' m:Nat}(h:D6 R L fol i N B D q n M t ct S)(hm:s∈Bh R L i t.1)(hF:Ej R)(hf:fol t.2 (bts s.out)=oT n')(hN:n'<N)(hD:s.cost.toNat<=D)(jj:s.dst.toNat=m)(hn:n<oB q)
  (jf:∀ x,look (M (i+s.inp.size)) (m,n')=oT x->ct+s.cost.toNat<x) (jh:s.inp.size=0->(m,n')≠t) :
  D6 R L fol i N B D (if s.inp.size=0 then q ++ [(m,n')] else q) n (ED M (i+s.inp.size) (m,n') (ct+s.cost.toNat)) t ct (S ++ [s]):=by
 subst jj;obtain⟨jk,jl⟩:=AZ.1 hm;obtain⟨r,k,hr,hk,rfl⟩:=K2.1 jk;have jg:=hF r hr;have hfq:=Bd.1 jg;have jb:(raise r k).cost.toNat=r.cost.toNat+k:=by show(r.cost+(k:Int)).toNat=_;omega
 have ei:(raise r k).inp=r.inp:=rfl;have eo:(raise r k).out=r.out:=rfl;have ed:(raise r k).dst=r.dst:=rfl;have jm:=of_decide_eq_true jl;simp only[ei,eo,ed]at hf jf jh ⊢;have jn:Lp R L fol i t r (r.dst.toNat,n') (r.cost.toNat+k):=⟨hr,jg,jm,k,n',hk,hf,rfl,rfl⟩
 have ja:Q7 M (ED M (i+r.inp.size) (r.dst.toNat,n') (ct+(raise r k).cost.toNat)):=R4 λd hd=>Nat.le_of_lt (jf d hd);have jc:look (ED M (i+r.inp.size) (r.dst.toNat,n') (ct+(raise r k).cost.toNat) i) t=oT ct:=by
  rw[Db];split
  · rename_i e;exact absurd e.2 (jh (by omega))
  · exact h.here
 refine⟨?_,?_,?_,jc,?_,?_⟩
 ·refine h.inv.falls ja λj u c hl=>?_;rw[Db]at hl;split at hl
  ·rename_i e;obtain⟨rfl,rfl⟩:=e;cases hl;rw[jb];exact(h.inv.sound i t ct h.here).go jn
  · exact h.inv.sound j u c hl
 · exact h.bnd.put h.here hD (by show r.dst.toNat<8;omega) hN jf
 ·intro u hu;have hold:∀ u∈q,∃ c,look (ED M (i+r.inp.size) (r.dst.toNat,n') (ct+(raise r k).cost.toNat) i) u=oT c:=λu hu=>by
   obtain⟨c,hc⟩:=h.qs u hu;obtain⟨c',je,_⟩:=ja i u c hc;exact⟨c',je⟩
  split at hu
  ·rename_i hz;rcases AY.1 hu with hu | hu
   · exact hold u hu
   ·rw[AF.1 hu];refine⟨ct+(raise r k).cost.toNat,?_⟩;rw[Db,if_pos ⟨by omega,rfl⟩]
  · exact hold u hu
 ·intro u c hu hl;rw[Db]at hl;by_cases hx:i=i+r.inp.size/\(r.dst.toNat,n')=u
  ·have hz:r.inp.size=0:=by omega
   rw[if_pos hz];refine .inr ?_;rw[List.drop_append_of_le_length (by omega)];exact List.mem_append_right _ (AF.2 hx.2.symm)
  ·rw[if_neg hx]at hl;rcases h.pend u c hu hl with h1 | h1
   ·refine .inl (h1.falls ja ?_);rw[Db,if_neg hx]
   ·refine .inr ?_;split
    · rw[List.drop_append_of_le_length (by omega)];exact List.mem_append_left _ h1
    · exact h1
 ·intro x hx n2 jd;rcases AY.1 hx with hx | hx
  ·obtain⟨c',je,hle⟩:=h.did x hx n2 jd;obtain⟨c2,ji,hle2⟩:=ja _ _ _ je;exact⟨c2,ji,by omega⟩
  ·rw[AF.1 hx]at jd ⊢;have:n2=n':=by
    rw[eo,hf]at jd;exact(Option.some.inj jd).symm
   subst this;refine⟨ct+(raise r k).cost.toNat,?_,A5 _⟩;show look (ED M (i+r.inp.size) (r.dst.toNat,n2) _ (i+r.inp.size)) (r.dst.toNat,n2)=_;rw[Db,if_pos ⟨rfl,rfl⟩]
end
open Go.RowKit Go.WideShapes Fl
structure Kc (w w':Z0):Prop where
 size:w.heap.size<=w'.heap.size
 block:∀ (q:Nat) (cs:Array Z6) (t:X5) (f:Nat × Nat),w.heap[q]? = some (.cells cs t f)->w'.heap[q]? = some (.cells cs t f)
def Kc.refl (w:Z0):Kc w w:=⟨A5 _,λ_ _ _ _ h=>h⟩
def Kc.trans {a b c:Z0}(h:Kc a b)(h2:Kc b c):Kc a c:=⟨AA h.size h2.size,λq cs t f hq=>h2.block q cs t f (h.block q cs t f hq)⟩
def Kc.of {w w':Z0}{B:Nat}(h:Below B w w')(hB:w.heap.size<=B):Kc w w' :=
 ⟨h.size,λq cs t f hq=>(h.block q (A9 (A7.1 hq).1 hB)).trans hq⟩
def Kc.cell {w w':Z0}(h:Kc w w'){p:Zj}{v:Z6}(hp:w.cell? p=oT v):w'.cell? p=oT v:=by
 unfold World.cell? at hp ⊢;cases e:w.heap[p.block]? with
 | none=>rw[e]at hp;cases hp
 | some o =>
  cases o with
  | cells cs t f=>rw[h.block _ _ _ _ e];rw[e]at hp;exact hp
  | _=>rw[e]at hp;cases hp
def EC.kp {w w1:Z0}{a:Option Zj}{X:List Ar}(h:EC w a X)(hk:Kc w w1):EC w1 a X:=λk hl=>by
 obtain⟨b,o,ha,h1,h2,h3⟩:=h k hl;exact⟨b,o,ha,A9 h1 hk.size,hk.cell h2,hk.cell h3⟩
def BC.kp {w w1:Z0}{a:Option Zj}{R:List Rl}(h:BC w a R)(hk:Kc w w1):BC w1 a R:=by
 rcases h with h | ⟨b,o,ha,h1,h2⟩
 · exact .inl h
 · exact .inr ⟨b,o,ha,A9 h1 hk.size,λi hi=>⟨hk.cell (h2 i hi).c0,hk.cell (h2 i hi).c1,hk.cell (h2 i hi).c2,hk.cell (h2 i hi).c3,hk.cell (h2 i hi).c4⟩⟩
def chA (X:Slt):List Ar:=X.map λh=>⟨(h.key.toNat:Int),h.cost⟩
def Dk (X:Slt):(chA X).length=oB X:=by simp[chA]
def CI (w:Z0)(a:Option Zj)(L:List Slt):Prop:=∀ k (hk:k<oB L),∃ b o,a=oT ⟨b,o,oS⟩/\b<w.heap.size/\∃ aa cc,w.cell? ⟨b,o+k,oS⟩=oT (aG aa L[k].length cc)/\L[k].length<=9223372036854775807/\EC w aa (chA L[k])
def CI.kp {w w1:Z0}{a:Option Zj}{L:List Slt}(h:CI w a L)(hk:Kc w w1):CI w1 a L:=λk hl=>by
 obtain⟨b,o,ha,h1,aa,cc,h2,h3,h4⟩:=h k hl;exact⟨b,o,ha,A9 h1 hk.size,aa,cc,hk.cell h2,h3,h4.kp hk⟩
def CI.later {w w1:Z0}{a:Option Zj}{L:List Slt}{B:Nat}(h:CI w a L)(hb:Below B w w1)(hB:w.heap.size<=B):CI w1 a L:=h.kp (Kc.of hb hB)
def CI.at {w:Z0}{a:Option Zj}{L:List Slt}(h:CI w a L){k:Nat}(hk:k<oB L):∃ b o,a=oT ⟨b,o,oS⟩/\b<w.heap.size/\∃ aa cc,w.cell? ⟨b,o+k,oS⟩=oT (aG aa L[k].length cc)/\L[k].length<=9223372036854775807/\EC w aa (chA L[k]):=h k hk
def CI.take {w:Z0}{a:Option Zj}{L:List Slt}(h:CI w a L)(i:Nat):CI w a (L.take i):=λk hk=>by
 rw[AO]at hk;obtain⟨b',o',ha,h1,aa,cc,h2,h3,h4⟩:=h k (by omega);exact⟨b',o',ha,h1,aa,cc,by rw[Xi];exact h2,by rw[Xi];exact h3,by rw[Xi];exact h4⟩
def Il (a:Option Zj)(b o len cap k:Nat)(ha:a=oT ⟨b,o,oS⟩)(hk:k<len)(w:Z0) :
  (ZK 41 (aG a len cap) (aA aM (k:Int))).run Z1 w=.ok (aB (oT ⟨b,o+k,oS⟩)) w:=by
 subst ha;have h0:(0:Int)<=(k:Int):=by omega
 have h1:(k:Int)<(len:Int):=by omega
 simp[go_sem,h0,h1]
def Gf (a:Option Zj)(b o len cap k:Nat)(ha:a=oT ⟨b,o,oS⟩)(hk:k<len)(w:Z0) :
  (ZK 81 (aG a len cap) (aA aM (k:Int))).run Z1 w=.ok (aB (oT ⟨b,o+k*2,oS⟩)) w:=by
 subst ha;have h0:(0:Int)<=(k:Int):=by omega
 have h1:(k:Int)<(len:Int):=by omega
 simp[go_sem,h0,h1]
def Ez (X:List Ar)(c:Int):Int:=if X.findIdx (λx=>x.c == c)<oB X then(X.findIdx (λx=>x.c == c):Int) else -1
def IF {X:List Ar}{c:Int}{k:Nat}(hk:k<oB X)(ja:(X.take k).all (λx=>!(x.c == c))=oF)(h:(X[k].c == c)=oF):Ez X c=(k:Int):=by
 have:X.findIdx (λx=>x.c == c)=k:=by
  rw[List.findIdx_eq hk];refine⟨h,λj hj=>?_⟩;rw[Zr]at ja;have:=ja X[j] (by rw[List.mem_take_iff_getElem];exact⟨j,by omega,rfl⟩);simpa using this
 unfold Ez;rw[this,if_pos hk]
def Fj {X:List Ar}{c:Int}(ja:X.all (λx=>!(x.c == c))=oF):Ez X c = -1:=by
 have:X.findIdx (λx=>x.c == c)=oB X:=by
  rw[List.findIdx_eq_length];intro x hx;have:=Zr.1 ja x hx;simpa using this
 unfold Ez;rw[this,if_neg (Nat.lt_irrefl _)]
def Lq {X:List Ar}{p:Ar->Bool}{k:Nat}(hk:k<oB X)(h:(X.take k).all p=oF)(hp:p X[k]=oF):(X.take (k+1)).all p=oF:=by
 rw[AR hk,List.all_append,h];simp[hp]
def Q8 (c t:Int)(s:ByteArray)(gs gk k:Nat)(w:Z0)(hs:w.cell? ⟨gs,0,oS⟩=oT (aI s))(hgs:gs<w.heap.size)(hk:w.cell? ⟨gk,0,oS⟩=oT (aA aM (k:Int)))(hgk:gk<w.heap.size)(hlt:k<s.size)(r:Bool)(hr:(c == (s[k].toNat:Int))=r) :
  Zu Z1 149 #[aJ #[aA aO c,aA aM t],aB (oT ⟨gs,0,oS⟩),aB (oT ⟨gk,0,oS⟩)] w λe w'=>e=aP (aH r)/\Below w.heap.size w w':=by
 cases r with
 | true =>
  go_enter Tryz.func149,Tryz.ntmps149
  go_wp2
  go_region
  go_wp2;go_ret;exact⟨rfl,by go_grown⟩
 | false =>
  go_enter Tryz.func149,Tryz.ntmps149
  go_wp2
  go_region
  go_wp2;go_ret;exact⟨rfl,by go_grown⟩
def idx_chs_any (X:List Ar)(a:Option Zj)(n cap:Nat)(s:ByteArray)(gs gk k:Nat)(w:Z0)(hX:EC w a X)(hn:n=oB X)(hl:n<=9223372036854775807)(hs:w.cell? ⟨gs,0,oS⟩=oT (aI s))(jk:gs<w.heap.size)(hk:w.cell? ⟨gk,0,oS⟩=oT (aA aM (k:Int)))(jj:gk<w.heap.size)(jg:k<s.size) :
  Zu Z1 148 #[aG a n cap,.func (.func 149) #[] #[aB (oT ⟨gs,0,oS⟩),aB (oT ⟨gk,0,oS⟩)]] w λe w'=>e=aP (aA aM (Ez X (s[k].toNat:Int)))/\Below w.heap.size w w':=by
 subst hn;obtain⟨HX,ji,jh⟩:=oC hX hs hk;clear hX hs hk
 go_enter Tryz.func148,Tryz.ntmps148
 go_wp2
 go_loopw [8] (λq wr=>∃ j:Nat,j<=oB X/\q=aA aM (j:Int)/\(X.take j).all (λx=>!(x.c == (s[k].toNat:Int)))=oF/\Below w.heap.size w wr) (λq _=>oB X - (intOf q).toNat)
 case atStart=>exact⟨0,Ze _,rfl,rfl,Z2 _ _⟩
 case round =>
  obtain⟨j,hj,rfl,ht,hB⟩:=hrel;have HT:=A0 ht;have HB:=A0 hB;clear ht;have hzB:=hB.size;clear hB;by_cases ja:j<oB X
  ·obtain⟨b1,o1,jf,hb1,q0,q1⟩:=(HX.later HB (A5 _)).at ja;have hi1:=Gf a b1 o1 X.length cap j jf ja;have s1:=(HB.cell (p:=⟨gs,0,oS⟩) jk).trans ji;have k1:=(HB.cell (p:=⟨gk,0,oS⟩) jj).trans jh;have jd:=A0 s1;have jc:=A0 k1;obtain⟨x,hx⟩:∃ x,X[j]=x:=⟨_,rfl⟩
   have je:=A0 hx;rw[hx]at q0 q1;obtain⟨xc,xt⟩:=x;simp only at q0 q1;clear jf hx s1 k1;obtain⟨r,hr⟩:∃ r,(xc == (s[k].toNat:Int))=r:=⟨_,rfl⟩
   have HR:=A0 hr;clear hr;cases r with
   | true =>
    have HN:Hid (Ez X (s[k].toNat:Int)=(j:Int)):=IF ja HT (by rw[je.out];exact HR)
    go_wp2_with (go_at_call 149;refine(Q8 xc xt s gs gk k _ jd (by omega) jc (by omega) jg oF HR).mono ?_;rintro e w1 ⟨rfl,hb⟩;have jb:=A0 (HB.trans (hb.mono HB.size));clear hb)
    go_ret;exact⟨BH HN.symm,jb⟩
   | false =>
    have HN:Hid ((X.take (j+1)).all (λx=>!(x.c == (s[k].toNat:Int)))=oF):=Lq ja HT (by rw[je.out];simp only[HR.out];rfl)
    go_wp2_with (go_at_call 149;refine(Q8 xc xt s gs gk k _ jd (by omega) jc (by omega) jg oH HR).mono ?_;rintro e w1 ⟨rfl,hb⟩;have jb:=A0 (HB.trans (hb.mono HB.size));clear hb)
    go_roundw
    case rel=>exact⟨j+1,by omega,by go_num,HN,jb⟩
    case measure=>simp[intOf];omega
  ·have HN:Hid (Ez X (s[k].toNat:Int) = -1):=Fj (by have:=HT.out;rwa [AH (by omega)]at this);go_wp2;go_ret;exact⟨BH HN.symm,HB⟩
def Nv (c t:Int)(s:ByteArray)(gs gk k:Nat)(w:Z0)(hs:w.cell? ⟨gs,0,oS⟩=oT (aI s))(hgs:gs<w.heap.size)(hk:w.cell? ⟨gk,0,oS⟩=oT (aA aM (k:Int)))(hgk:gk<w.heap.size)(hlt:k<s.size)(r:Bool)(hr:(c == (s[k].toNat:Int))=r) :
  Zu Z1 134 #[aJ #[aA aO c,aA aM t],aB (oT ⟨gs,0,oS⟩),aB (oT ⟨gk,0,oS⟩)] w λe w'=>e=aP (aH r)/\Below w.heap.size w w':=by
 cases r with
 | true =>
  go_enter Tryz.func134,Tryz.ntmps134
  go_wp2
  go_region
  go_wp2;go_ret;exact⟨rfl,by go_grown⟩
 | false =>
  go_enter Tryz.func134,Tryz.ntmps134
  go_wp2
  go_region
  go_wp2;go_ret;exact⟨rfl,by go_grown⟩
def idx_arcs_any (X:List Ar)(a:Option Zj)(n cap:Nat)(s:ByteArray)(gs gk k:Nat)(w:Z0)(hX:EC w a X)(hn:n=oB X)(hl:n<=9223372036854775807)(hs:w.cell? ⟨gs,0,oS⟩=oT (aI s))(jk:gs<w.heap.size)(hk:w.cell? ⟨gk,0,oS⟩=oT (aA aM (k:Int)))(jj:gk<w.heap.size)(jg:k<s.size) :
  Zu Z1 133 #[aG a n cap,.func (.func 134) #[] #[aB (oT ⟨gs,0,oS⟩),aB (oT ⟨gk,0,oS⟩)]] w λe w'=>e=aP (aA aM (Ez X (s[k].toNat:Int)))/\Below w.heap.size w w':=by
 subst hn;obtain⟨HX,ji,jh⟩:=oC hX hs hk;clear hX hs hk
 go_enter Tryz.func133,Tryz.ntmps133
 go_wp2
 go_loopw [8] (λq wr=>∃ j:Nat,j<=oB X/\q=aA aM (j:Int)/\(X.take j).all (λx=>!(x.c == (s[k].toNat:Int)))=oF/\Below w.heap.size w wr) (λq _=>oB X - (intOf q).toNat)
 case atStart=>exact⟨0,Ze _,rfl,rfl,Z2 _ _⟩
 case round =>
  obtain⟨j,hj,rfl,ht,hB⟩:=hrel;have HT:=A0 ht;have HB:=A0 hB;clear ht;have hzB:=hB.size;clear hB;by_cases ja:j<oB X
  ·obtain⟨b1,o1,jf,hb1,q0,q1⟩:=(HX.later HB (A5 _)).at ja;have hi1:=FS9 a b1 o1 X.length cap j jf ja;have s1:=(HB.cell (p:=⟨gs,0,oS⟩) jk).trans ji;have k1:=(HB.cell (p:=⟨gk,0,oS⟩) jj).trans jh;have jd:=A0 s1;have jc:=A0 k1;obtain⟨x,hx⟩:∃ x,X[j]=x:=⟨_,rfl⟩
   have je:=A0 hx;rw[hx]at q0 q1;obtain⟨xc,xt⟩:=x;simp only at q0 q1;clear jf hx s1 k1;obtain⟨r,hr⟩:∃ r,(xc == (s[k].toNat:Int))=r:=⟨_,rfl⟩
   have HR:=A0 hr;clear hr;cases r with
   | true =>
    have HN:Hid (Ez X (s[k].toNat:Int)=(j:Int)):=IF ja HT (by rw[je.out];exact HR)
    go_wp2_with (go_at_call 134;refine(Nv xc xt s gs gk k _ jd (by omega) jc (by omega) jg oF HR).mono ?_;rintro e w1 ⟨rfl,hb⟩;have jb:=A0 (HB.trans (hb.mono HB.size));clear hb)
    go_ret;exact⟨BH HN.symm,jb⟩
   | false =>
    have HN:Hid ((X.take (j+1)).all (λx=>!(x.c == (s[k].toNat:Int)))=oF):=Lq ja HT (by rw[je.out];simp only[HR.out];rfl)
    go_wp2_with (go_at_call 134;refine(Nv xc xt s gs gk k _ jd (by omega) jc (by omega) jg oH HR).mono ?_;rintro e w1 ⟨rfl,hb⟩;have jb:=A0 (HB.trans (hb.mono HB.size));clear hb)
    go_roundw
    case rel=>exact⟨j+1,by omega,by go_num,HN,jb⟩
    case measure=>simp[intOf];omega
  ·have HN:Hid (Ez X (s[k].toNat:Int) = -1):=Fj (by have:=HT.out;rwa [AH (by omega)]at this);go_wp2;go_ret;exact⟨BH HN.symm,HB⟩
def K3 {α:Type}[DecidableEq α]{T:Gl α}{W:Z0}{g:Nat}{E:List (α × Nat)}(hT:T.Ok)(h:MpG T W g E){x:α}(hx:T.ok x){c:Nat}(hc:c<=1152921504606846976)(hl:oB E<1000000)
  {ops:Array ZX} {Q:Exit->Act->Z0->Prop} {L:Nat} {K:Act->Z0->Prop} {o:ZX} {A:Act} {m k v:Operand}
  (ho:ops[L]? = oT o) (hg:o.guard=oS) (jb:o.op=Op.mapUpdate T.mt m k v) (hd:o.dst=oS) (hm:A.eval m=.map (oT g)) (hk:A.eval k=T.val x) (hv:A.eval v=aA aM (c:Int))
  (hK:∀ w',MpG T w' g (Dp E x c)->W.grownBy w' (oT g)->K A w'):wpOp Z1 ops Q L K A W:=by
 obtain⟨w',ja,r1,r2⟩:=h.run_put hT hx hc hl;unfold wpOp;rw[ho];have hw:Zv o (yielded ops A.tmps)=oF:=by unfold Zv;rw[hg]
 simp only[hw,if_pos];refine .inl ?_;unfold xe execOp;simp only[jb,hm,hk,hv];simp[go_sem,ja];rw[hd];exact hK w' r1 r2
def Kc.map {w w':Z0}{g:Nat}(hg:w.grownBy w' (oT g))(hm:∃ es c,w.heap[g]? = oT (.map es c)):Kc w w' :=
 ⟨hg.size,λq cs t f hq=>(hg.block q (A7.1 hq).1 λe=>by
  obtain⟨es,c,hm⟩:=hm;injection e with e;rw[<- e,hq]at hm;cases hm).trans hq⟩
def sxC (acc:Int)(aR:Option Zj)(nR cR:Nat)(aT:Option Zj)(nT cT:Nat)(aL:Option Zj)(nL cL:Nat)(gm:Nat->Nat):Array Z6 :=
 #[aA aO acc,aG aR nR cR,aG aT nT cT,aG aL nL cL,.map (oT (gm 0)),.map (oT (gm 1)),.map (oT (gm 2)),.map (oT (gm 3)),.map (oT (gm 4))]
def SX (w:Z0)(gx:Nat)(acc:Int)(aR:Option Zj)(nR cR:Nat)(aT:Option Zj)(nT cT:Nat)(aL:Option Zj)(nL cL:Nat)(gm:Nat->Nat):Prop :=
 w.heap[gx]? = oT (.cells (sxC acc aR nR cR aT nT cT aL nL cL gm) 180 (0,0))
section
variable {w w':World} {gx:Nat} {acc:Int} {aR:Option Addr} {nR cR:Nat} {aT:Option Addr} {nT cT:Nat} {aL:Option Addr} {nL cL:Nat} {gm:Nat->Nat}
def SX.lt (h:SX w gx acc aR nR cR aT nT cT aL nL cL gm):gx<w.heap.size:=(A7.1 h).1
def SX.kp (h:SX w gx acc aR nR cR aT nT cT aL nL cL gm)(hk:Kc w w'):SX w' gx acc aR nR cR aT nT cT aL nL cL gm:=hk.block _ _ _ _ h
def SX.cells (h:SX w gx acc aR nR cR aT nT cT aL nL cL gm):w.cell? ⟨gx,0,oS⟩=oT (aA aO acc)/\w.cell? ⟨gx,1,oS⟩=oT (aG aR nR cR)/\w.cell? ⟨gx,2,oS⟩=oT (aG aT nT cT)/\w.cell? ⟨gx,3,oS⟩=oT (aG aL nL cL):=by
 refine⟨?_,?_,?_,?_⟩ <;> (rw[Z3 w gx _ _ _ (0,0) h];rfl)
def SX.mapAt (h:SX w gx acc aR nR cR aT nT cT aL nL cL gm){j:Nat}(hj:j<5):w.cell? ⟨gx,4+j,oS⟩=oT (.map (oT (gm j))):=by
 rw[Z3 w gx _ _ _ (0,0) h];rcases(show j=0\/j=1\/j=2\/j=3\/j=4 from by omega) with rfl | rfl | rfl | rfl | rfl <;> rfl
def GL (i j:Nat)(hi:i<=1000000)(hj:i % 5=j)(hx:SX w gx acc aR nR cR aT nT cT aL nL cL gm) :
  Zu Z1 81 #[aB (oT ⟨gx,0,oS⟩),aA aM (i:Int)] w λe w'=>e=aP (.map (oT (gm j)))/\w=w':=by
 have ja:j<5:=by omega
 have c0:=hx.mapAt ja;have hgx:=hx.lt;have HX:=A0 hx;have hm:(i:Int) % 5=(j:Int):=by omega
 have h0:(0:Int)<=(j:Int):=by omega
 have h5:(j:Int)<5:=by omega
 have HJ:=A0 hj;clear hx hj ja
 go_enter Tryz.func81,Tryz.ntmps81
 go_wp2;go_ret;exact⟨rfl,rfl⟩
structure F9 (w w':Z0)(g:Nat)(t:Stt)(E:Ent)(c:Nat):Prop where
 map:MpG Bp w' g (Dp E t c)
 gr:∀ q,q<w.heap.size->q≠g->w'.heap[q]? = w.heap[q]?
 os:w'.os=w.os
 tape:w'.tape=w.tape
 output:w'.output=w.output
 size:w.heap.size<=w'.heap.size
def F9.below {g:Nat}{t:Stt}{E:Ent}{c B:Nat}(h:F9 w w' g t E c)(hg:B<=g)(hB:B<=w.heap.size):Below B w w' :=
 ⟨h.os,h.tape,h.output,h.size,λq hq=>h.gr q (by omega) (by omega)⟩
def F9.kp {g:Nat}{t:Stt}{E:Ent}{c:Nat}(h:F9 w w' g t E c)(hm:MpG Bp w g E):Kc w w' :=
 Kc.map (g:=g) ⟨h.os,h.tape,h.output,h.size,λk hk ja=>h.gr k hk λe=>ja (by rw[e])⟩ hm.obj
def Sa (i j m n:Nat)(c:Nat)(E:Ent)(hi:i<=1000000)(hj:i % 5=j)(hx:SX w gx acc aR nR cR aT nT cT aL nL cL gm)(hM:MpG Bp w (gm j) E)(jh:Bp.ok (m,n))(hE:oB E<1000000)(hc:c<=1152921504606846976)(old:Nat)(jg:look E (m,n)=oT old)(hle:old<=c) :
  Zu Z1 106 #[aB (oT ⟨gx,0,oS⟩),aA aM (i:Int),aJ #[aA aM (m:Int),aA aM (n:Int)],aA aM (c:Int)] w λe w'=>e=aP (aH oH)/\Below w.heap.size w w':=by
 have hle2:(old:Int)<=(c:Int):=by omega
 obtain⟨HX,HM,jk,jj,HJ,HE⟩:=oG hx hM jh jg hj hE;clear hx hM jh jg hj hE
 go_enter Tryz.func106,Tryz.ntmps106
 go_wp2_with fail
 refine CJ (by kernel_rfl) (Vs [vq (aB (oT ⟨gx,0,oS⟩)),vq (aA aM (i:Int)),vq (.map (oT (gm j))),vq (aJ #[aA aM (m:Int),aA aM (n:Int)]),vq (.tuple #[aA aM (old:Int),aH oF]),vq (.tuple #[aA aM (old:Int),aH oF]),vq (aA aM (old:Int)),vq (aH oF),vq (aA aM (old:Int)),vq (aH oF)]) (λW=>Below (w.heap.size+1) (w.alloc (aK #[aA aM (m:Int),aA aM (n:Int)] 183)) W) 30 (by kernel_rfl) rfl ?hVx ?hSx ?hS (ER ?hop) ?hfin
 case hop =>
  refine⟨?_,?_,?k2,?_,?_,?_,?_,?_,?_,?_,trivial⟩
  all_goals
   intro A W jc hS jd ja;have hW:=Y9 ((Z2 w.heap.size w).alloc (A5 _) (aK #[aA aM (m:Int),aA aM (n:Int)] 183)) (hS.mono (za _));have ji:=HX.kp (Kc.of hW (A5 _));have b0:W.cell? ⟨w.heap.size,0,oS⟩=oT (aA aM (m:Int)):=(hS.cell (p:=⟨w.heap.size,0,oS⟩) (Y6 _)).trans (by rw[Z3 _ w.heap.size 0 _ _ (0,0) (Z4 _ _)];rfl);have b1:W.cell? ⟨w.heap.size,1,oS⟩=oT (aA aM (n:Int)):=(hS.cell (p:=⟨w.heap.size,1,oS⟩) (Y6 _)).trans (by rw[Z3 _ w.heap.size 1 _ _ (0,0) (Z4 _ _)];rfl);have je:MpG Bp W (gm j) E:=HM.kept (hW.block _ HM.lt);have jb:=je.look_ok CU (x:=(m,n)) jk;rw[jj.out]at jb;simp only[Bp,Gm,Option.getD,Option.isSome]at jb;have h0:A.tmps.getD 0 Z8=aB (oT ⟨gx,0,oS⟩):=ja 0 (by kernel_rfl);have h1:A.tmps.getD 1 Z8=aA aM (i:Int):=ja 1 (by kernel_rfl);have h6:A.tmps.getD 6 Z8=aB (oT ⟨w.heap.size,0,oS⟩):=ja 6 (by kernel_rfl);clear ja;simp[Ae,Zl,Vs,vq]at jd
  case k2 =>
   refine Ag rfl (.inr ⟨81,#[aB (oT ⟨gx,0,oS⟩),aA aM (i:Int)],W,by(clear jc hS ji je jb;simp[go_sem,Zf, *]),?_⟩);refine(GL i j hi HJ ji).mono ?_;rintro e w' ⟨rfl,rfl⟩;exact⟨_,rfl,rfl,Ext.refl _⟩
  all_goals first
   | (refine Ag rfl (.inl ⟨_,W,?_,rfl,Ext.refl _⟩);clear jc hS;simp[go_sem,Zf, *];done)
 case hVx=>exact BB (by simp only[AX,ZN,or_false,forall_eq_or_imp,forall_eq];and_intros <;> exact Ab _)
 case hSx=>exact λW W' h hx=>h.trans (ZT hx (by have:=h.size;simp only[A8]at this;exact this))
 case hS=>exact Z2 _ _
 case hfin =>
  intro A W jc jf hS hv ja;obtain⟨x,hx,hA⟩:=B7 [12,13,14,15,16,11,17,18,9,10] (by kernel_rfl) jc jf ja;have e9:x 9=aA aM (old:Int):=(hx 9).trans (hv 8 (by decide));have e10:x 10=aH oF:=(hx 10).trans (hv 9 (by decide));rw[hA];simp only[Zp];rw[e9,e10];clear e9 e10;simp only[ZE,Z5,Za,Z9];clear hA hx hv ja jc jf;have HB:=A0 (Y9 ((Z2 w.heap.size w).alloc (A5 _) (aK #[aA aM (m:Int),aA aM (n:Int)] 183)) (hS.mono (za _)));clear hS;go_wp2;go_ret;exact⟨rfl,HB⟩
def put_new (i j m n:Nat)(c:Nat)(E:Ent)(hi:i<=1000000)(hj:i % 5=j)(hx:SX w gx acc aR nR cR aT nT cT aL nL cL gm)(hM:MpG Bp w (gm j) E)(jo:Bp.ok (m,n))(hE:oB E<1000000)(hc:c<=1152921504606846976)(jm:look E (m,n)=oS) :
  Zu Z1 106 #[aB (oT ⟨gx,0,oS⟩),aA aM (i:Int),aJ #[aA aM (m:Int),aA aM (n:Int)],aA aM (c:Int)] w λe w'=>e=aP (aH oF)/\F9 w w' (gm j) (m,n) E c:=by
 obtain⟨HX,HM,jk,jq,HJ,HE⟩:=oG hx hM jo jm hj hE;clear hx hM jo jm hj hE
 go_enter Tryz.func106,Tryz.ntmps106
 go_wp2_with fail
 refine CJ (by kernel_rfl) (Vs [vq (aB (oT ⟨gx,0,oS⟩)),vq (aA aM (i:Int)),vq (.map (oT (gm j))),vq (aJ #[aA aM (m:Int),aA aM (n:Int)]),vq (.tuple #[aA aM (0:Int),aH oH]),vq (.tuple #[aA aM (0:Int),aH oH]),vq (aA aM (0:Int)),vq (aH oH),vq (aA aM (0:Int)),vq (aH oH)]) (λW=>Below (w.heap.size+1) (w.alloc (aK #[aA aM (m:Int),aA aM (n:Int)] 183)) W) 30 (by kernel_rfl) rfl ?hVx ?hSx ?hS (ER ?hop) ?hfin
 case hop =>
  refine⟨?_,?_,?k2,?_,?_,?_,?_,?_,?_,?_,trivial⟩
  all_goals
   intro A W jc hS jb ja;have hW:=Y9 ((Z2 w.heap.size w).alloc (A5 _) (aK #[aA aM (m:Int),aA aM (n:Int)] 183)) (hS.mono (za _));have ji:=HX.kp (Kc.of hW (A5 _));have b0:W.cell? ⟨w.heap.size,0,oS⟩=oT (aA aM (m:Int)):=(hS.cell (p:=⟨w.heap.size,0,oS⟩) (Y6 _)).trans (by rw[Z3 _ w.heap.size 0 _ _ (0,0) (Z4 _ _)];rfl);have b1:W.cell? ⟨w.heap.size,1,oS⟩=oT (aA aM (n:Int)):=(hS.cell (p:=⟨w.heap.size,1,oS⟩) (Y6 _)).trans (by rw[Z3 _ w.heap.size 1 _ _ (0,0) (Z4 _ _)];rfl);have jg:MpG Bp W (gm j) E:=HM.kept (hW.block _ HM.lt);have je:=jg.look_ok CU (x:=(m,n)) jk;rw[jq.out]at je;simp only[Bp,Gm,Option.getD,Option.isSome]at je;have h0:A.tmps.getD 0 Z8=aB (oT ⟨gx,0,oS⟩):=ja 0 (by kernel_rfl);have h1:A.tmps.getD 1 Z8=aA aM (i:Int):=ja 1 (by kernel_rfl);have h6:A.tmps.getD 6 Z8=aB (oT ⟨w.heap.size,0,oS⟩):=ja 6 (by kernel_rfl);clear ja;simp[Ae,Zl,Vs,vq]at jb
  case k2 =>
   refine Ag rfl (.inr ⟨81,#[aB (oT ⟨gx,0,oS⟩),aA aM (i:Int)],W,by(clear jc hS ji jg je;simp[go_sem,Zf, *]),?_⟩);refine(GL i j hi HJ ji).mono ?_;rintro e w' ⟨rfl,rfl⟩;exact⟨_,rfl,rfl,Ext.refl _⟩
  all_goals first
   | (refine Ag rfl (.inl ⟨_,W,?_,rfl,Ext.refl _⟩);clear jc hS;simp[go_sem,Zf, *];done)
 case hVx=>exact BB (by simp only[AX,ZN,or_false,forall_eq_or_imp,forall_eq];and_intros <;> exact Ab _)
 case hSx=>exact λW W' h hx=>h.trans (ZT hx (by have:=h.size;simp only[A8]at this;exact this))
 case hS=>exact Z2 _ _
 case hfin =>
  intro A W jc jh hS hv ja;obtain⟨x,hx,hA⟩:=B7 [12,13,14,15,16,11,17,18,9,10] (by kernel_rfl) jc jh ja;have e9:x 9=aA aM (0:Int):=(hx 9).trans (hv 8 (by decide));have e10:x 10=aH oH:=(hx 10).trans (hv 9 (by decide));rw[hA];simp only[Zp];rw[e9,e10];clear e9 e10;simp only[ZE,Z5,Za,Z9];clear hA hx hv ja jc jh;have jr:=A0 hS;clear hS
  go_wp2_with fail
  refine Ay (by kernel_rfl) (Vs [vq (aB (oT ⟨gx,0,oS⟩)),vq (aA aM (i:Int)),vq (.map (oT (gm j))),vq (aJ #[aA aM (m:Int),aA aM (n:Int)]),vq (aA aM (c:Int))]) (Xs []) (λfL=>(λW=>Below (w.heap.size+1) (w.alloc (aK #[aA aM (m:Int),aA aM (n:Int)] 183)) W) ) [0,0,3,0,0] 30 5 (by kernel_rfl) rfl ?hV ?hS ?hop ?hfin ?hlast
  case hV =>
   refine Bi (BB (by simp only[AX,ZN,or_false,forall_eq_or_imp,forall_eq];and_intros <;> exact Ab _)) ?_;exact trivial
  case hS =>
   intro fL hf;show(λW=>Below (w.heap.size+1) (w.alloc (aK #[aA aM (m:Int),aA aM (n:Int)] 183)) W)  _;exact jr.trans ⟨rfl,rfl,rfl,A5 _,λ_ _=>rfl⟩
  case hop =>
   refine⟨?_,?_,?c2,?_,?_,?_,trivial⟩
   all_goals first | rw[if_neg (by decide)] | rw[if_pos (by decide)]
   all_goals try exact True.intro
   all_goals try intro ac W fL jc jl ju jt jd jb ja jj
   all_goals try have hS:(λW=>Below (w.heap.size+1) (w.alloc (aK #[aA aM (m:Int),aA aM (n:Int)] 183)) W)  W:=jd
   all_goals try (
    have hW:=Y9 ((Z2 w.heap.size w).alloc (A5 _) (aK #[aA aM (m:Int),aA aM (n:Int)] 183)) (hS.mono (za _));have ji:=HX.kp (Kc.of hW (A5 _));have b0:W.cell? ⟨w.heap.size,0,oS⟩=oT (aA aM (m:Int)):=(hS.cell (p:=⟨w.heap.size,0,oS⟩) (Y6 _)).trans (by rw[Z3 _ w.heap.size 0 _ _ (0,0) (Z4 _ _)];rfl);have b1:W.cell? ⟨w.heap.size,1,oS⟩=oT (aA aM (n:Int)):=(hS.cell (p:=⟨w.heap.size,1,oS⟩) (Y6 _)).trans (by rw[Z3 _ w.heap.size 1 _ _ (0,0) (Z4 _ _)];rfl))
   all_goals try have hh0:=gdA ac 0 (aB (oT ⟨gx,0,oS⟩)) (ja 0 (by kernel_rfl))
   all_goals try have hh1:=gdA ac 1 (aA aM (i:Int)) (ja 1 (by kernel_rfl))
   all_goals try have hh3:=gdA ac 3 (aA aM (c:Int)) (ja 3 (by kernel_rfl))
   all_goals try have hh6:=gdA ac 6 (aB (oT ⟨w.heap.size,0,oS⟩)) (ja 6 (by kernel_rfl))
   all_goals try (have jb:=GC jb;simp[FK,Ae,vq]at jb)
   all_goals try clear ja ju jt jj
   case c2 =>
    have js:(λW=>Below (w.heap.size+1) (w.alloc (aK #[aA aM (m:Int),aA aM (n:Int)] 183)) W)  W:=jd;refine Ag rfl (.inr ⟨81,#[aB (oT ⟨gx,0,oS⟩),aA aM (i:Int)],W,by(clear jc hS jd js jl ji;simp[go_sem,Zf, *]),?_⟩);refine(GL i j hi HJ ji).mono ?_;rintro e w' ⟨rfl,rfl⟩;exact⟨_,rfl,⟨rfl,Ext.refl _,jd⟩⟩
   all_goals (refine Ag rfl (.inl ⟨_,W,?_,rfl,Ext.refl _,jd⟩);clear jc hS jd jl;simp[go_sem,Zf, *];done)
  case hfin =>
   intro h;exact absurd h (by decide)
  case hlast =>
   intro _ ac W jc jh fL hf jd hv ja;have hS:(λW=>Below (w.heap.size+1) (w.alloc (aK #[aA aM (m:Int),aA aM (n:Int)] 183)) W)  W:=jd;clear jd;have hW:=Y9 ((Z2 w.heap.size w).alloc (A5 _) (aK #[aA aM (m:Int),aA aM (n:Int)] 183)) (hS.mono (za _));have jg:MpG Bp W (gm j) E:=HM.kept (hW.block _ HM.lt);refine K3 CU jg jk hc HE rfl rfl rfl rfl (Al (hv 2 (by decide))) (Al (hv 3 (by decide))) (Al (hv 4 (by decide))) ?_;intro w9 jn jf;have HP:=A0 (show F9 w w9 (gm j) (m,n) E c from⟨jn,λq hq jv=>(jf.block q (A9 hq hW.size) (λe=>jv (by injection e))).trans (hW.block q hq),jf.os.trans hW.os,jf.tape.trans hW.tape,jf.output.trans hW.output,AA hW.size jf.size⟩);clear hS jn jf hW jg;obtain⟨sx,jw,jp⟩:=B7 [25,26,27,28,29] (by kernel_rfl) jc jh ja;rw[jp];simp only[Zp];simp only[ZE,Z5,Za,Z9];clear jp jw hv ja jc jh hf
   go_wp2_with fail
   go_ret;exact⟨rfl,HP⟩
def put_low (i j m n:Nat)(c:Nat)(E:Ent)(hi:i<=1000000)(hj:i % 5=j)(hx:SX w gx acc aR nR cR aT nT cT aL nL cL gm)(hM:MpG Bp w (gm j) E)(jo:Bp.ok (m,n))(hE:oB E<1000000)(hc:c<=1152921504606846976)(old:Nat)(jm:look E (m,n)=oT old)(hlt:c<old) :
  Zu Z1 106 #[aB (oT ⟨gx,0,oS⟩),aA aM (i:Int),aJ #[aA aM (m:Int),aA aM (n:Int)],aA aM (c:Int)] w λe w'=>e=aP (aH oF)/\F9 w w' (gm j) (m,n) E c:=by
 have hle2:¬ (old:Int)<=(c:Int):=by omega
 obtain⟨HX,HM,jk,jq,HJ,HE⟩:=oG hx hM jo jm hj hE;clear hx hM jo jm hj hE
 go_enter Tryz.func106,Tryz.ntmps106
 go_wp2_with fail
 refine CJ (by kernel_rfl) (Vs [vq (aB (oT ⟨gx,0,oS⟩)),vq (aA aM (i:Int)),vq (.map (oT (gm j))),vq (aJ #[aA aM (m:Int),aA aM (n:Int)]),vq (.tuple #[aA aM (old:Int),aH oF]),vq (.tuple #[aA aM (old:Int),aH oF]),vq (aA aM (old:Int)),vq (aH oF),vq (aA aM (old:Int)),vq (aH oF)]) (λW=>Below (w.heap.size+1) (w.alloc (aK #[aA aM (m:Int),aA aM (n:Int)] 183)) W) 30 (by kernel_rfl) rfl ?hVx ?hSx ?hS (ER ?hop) ?hfin
 case hop =>
  refine⟨?_,?_,?k2,?_,?_,?_,?_,?_,?_,?_,trivial⟩
  all_goals
   intro A W jc hS jb ja;have hW:=Y9 ((Z2 w.heap.size w).alloc (A5 _) (aK #[aA aM (m:Int),aA aM (n:Int)] 183)) (hS.mono (za _));have ji:=HX.kp (Kc.of hW (A5 _));have b0:W.cell? ⟨w.heap.size,0,oS⟩=oT (aA aM (m:Int)):=(hS.cell (p:=⟨w.heap.size,0,oS⟩) (Y6 _)).trans (by rw[Z3 _ w.heap.size 0 _ _ (0,0) (Z4 _ _)];rfl);have b1:W.cell? ⟨w.heap.size,1,oS⟩=oT (aA aM (n:Int)):=(hS.cell (p:=⟨w.heap.size,1,oS⟩) (Y6 _)).trans (by rw[Z3 _ w.heap.size 1 _ _ (0,0) (Z4 _ _)];rfl);have jg:MpG Bp W (gm j) E:=HM.kept (hW.block _ HM.lt);have je:=jg.look_ok CU (x:=(m,n)) jk;rw[jq.out]at je;simp only[Bp,Gm,Option.getD,Option.isSome]at je;have h0:A.tmps.getD 0 Z8=aB (oT ⟨gx,0,oS⟩):=ja 0 (by kernel_rfl);have h1:A.tmps.getD 1 Z8=aA aM (i:Int):=ja 1 (by kernel_rfl);have h6:A.tmps.getD 6 Z8=aB (oT ⟨w.heap.size,0,oS⟩):=ja 6 (by kernel_rfl);clear ja;simp[Ae,Zl,Vs,vq]at jb
  case k2 =>
   refine Ag rfl (.inr ⟨81,#[aB (oT ⟨gx,0,oS⟩),aA aM (i:Int)],W,by(clear jc hS ji jg je;simp[go_sem,Zf, *]),?_⟩);refine(GL i j hi HJ ji).mono ?_;rintro e w' ⟨rfl,rfl⟩;exact⟨_,rfl,rfl,Ext.refl _⟩
  all_goals first
   | (refine Ag rfl (.inl ⟨_,W,?_,rfl,Ext.refl _⟩);clear jc hS;simp[go_sem,Zf, *];done)
 case hVx=>exact BB (by simp only[AX,ZN,or_false,forall_eq_or_imp,forall_eq];and_intros <;> exact Ab _)
 case hSx=>exact λW W' h hx=>h.trans (ZT hx (by have:=h.size;simp only[A8]at this;exact this))
 case hS=>exact Z2 _ _
 case hfin =>
  intro A W jc jh hS hv ja;obtain⟨x,hx,hA⟩:=B7 [12,13,14,15,16,11,17,18,9,10] (by kernel_rfl) jc jh ja;have e9:x 9=aA aM (old:Int):=(hx 9).trans (hv 8 (by decide));have e10:x 10=aH oF:=(hx 10).trans (hv 9 (by decide));rw[hA];simp only[Zp];rw[e9,e10];clear e9 e10;simp only[ZE,Z5,Za,Z9];clear hA hx hv ja jc jh;have jr:=A0 hS;clear hS
  go_wp2_with fail
  refine Ay (by kernel_rfl) (Vs [vq (aB (oT ⟨gx,0,oS⟩)),vq (aA aM (i:Int)),vq (.map (oT (gm j))),vq (aJ #[aA aM (m:Int),aA aM (n:Int)]),vq (aA aM (c:Int))]) (Xs []) (λfL=>(λW=>Below (w.heap.size+1) (w.alloc (aK #[aA aM (m:Int),aA aM (n:Int)] 183)) W) ) [0,0,3,0,0] 30 5 (by kernel_rfl) rfl ?hV ?hS ?hop ?hfin ?hlast
  case hV =>
   refine Bi (BB (by simp only[AX,ZN,or_false,forall_eq_or_imp,forall_eq];and_intros <;> exact Ab _)) ?_;exact trivial
  case hS =>
   intro fL hf;show(λW=>Below (w.heap.size+1) (w.alloc (aK #[aA aM (m:Int),aA aM (n:Int)] 183)) W)  _;exact jr.trans ⟨rfl,rfl,rfl,A5 _,λ_ _=>rfl⟩
  case hop =>
   refine⟨?_,?_,?c2,?_,?_,?_,trivial⟩
   all_goals first | rw[if_neg (by decide)] | rw[if_pos (by decide)]
   all_goals try exact True.intro
   all_goals try intro ac W fL jc jl ju jt jd jb ja jj
   all_goals try have hS:(λW=>Below (w.heap.size+1) (w.alloc (aK #[aA aM (m:Int),aA aM (n:Int)] 183)) W)  W:=jd
   all_goals try (
    have hW:=Y9 ((Z2 w.heap.size w).alloc (A5 _) (aK #[aA aM (m:Int),aA aM (n:Int)] 183)) (hS.mono (za _));have ji:=HX.kp (Kc.of hW (A5 _));have b0:W.cell? ⟨w.heap.size,0,oS⟩=oT (aA aM (m:Int)):=(hS.cell (p:=⟨w.heap.size,0,oS⟩) (Y6 _)).trans (by rw[Z3 _ w.heap.size 0 _ _ (0,0) (Z4 _ _)];rfl);have b1:W.cell? ⟨w.heap.size,1,oS⟩=oT (aA aM (n:Int)):=(hS.cell (p:=⟨w.heap.size,1,oS⟩) (Y6 _)).trans (by rw[Z3 _ w.heap.size 1 _ _ (0,0) (Z4 _ _)];rfl))
   all_goals try have hh0:=gdA ac 0 (aB (oT ⟨gx,0,oS⟩)) (ja 0 (by kernel_rfl))
   all_goals try have hh1:=gdA ac 1 (aA aM (i:Int)) (ja 1 (by kernel_rfl))
   all_goals try have hh3:=gdA ac 3 (aA aM (c:Int)) (ja 3 (by kernel_rfl))
   all_goals try have hh6:=gdA ac 6 (aB (oT ⟨w.heap.size,0,oS⟩)) (ja 6 (by kernel_rfl))
   all_goals try (have jb:=GC jb;simp[FK,Ae,vq]at jb)
   all_goals try clear ja ju jt jj
   case c2 =>
    have js:(λW=>Below (w.heap.size+1) (w.alloc (aK #[aA aM (m:Int),aA aM (n:Int)] 183)) W)  W:=jd;refine Ag rfl (.inr ⟨81,#[aB (oT ⟨gx,0,oS⟩),aA aM (i:Int)],W,by(clear jc hS jd js jl ji;simp[go_sem,Zf, *]),?_⟩);refine(GL i j hi HJ ji).mono ?_;rintro e w' ⟨rfl,rfl⟩;exact⟨_,rfl,⟨rfl,Ext.refl _,jd⟩⟩
   all_goals (refine Ag rfl (.inl ⟨_,W,?_,rfl,Ext.refl _,jd⟩);clear jc hS jd jl;simp[go_sem,Zf, *];done)
  case hfin =>
   intro h;exact absurd h (by decide)
  case hlast =>
   intro _ ac W jc jh fL hf jd hv ja;have hS:(λW=>Below (w.heap.size+1) (w.alloc (aK #[aA aM (m:Int),aA aM (n:Int)] 183)) W)  W:=jd;clear jd;have hW:=Y9 ((Z2 w.heap.size w).alloc (A5 _) (aK #[aA aM (m:Int),aA aM (n:Int)] 183)) (hS.mono (za _));have jg:MpG Bp W (gm j) E:=HM.kept (hW.block _ HM.lt);refine K3 CU jg jk hc HE rfl rfl rfl rfl (Al (hv 2 (by decide))) (Al (hv 3 (by decide))) (Al (hv 4 (by decide))) ?_;intro w9 jn jf;have HP:=A0 (show F9 w w9 (gm j) (m,n) E c from⟨jn,λq hq jv=>(jf.block q (A9 hq hW.size) (λe=>jv (by injection e))).trans (hW.block q hq),jf.os.trans hW.os,jf.tape.trans hW.tape,jf.output.trans hW.output,AA hW.size jf.size⟩);clear hS jn jf hW jg;obtain⟨sx,jw,jp⟩:=B7 [25,26,27,28,29] (by kernel_rfl) jc jh ja;rw[jp];simp only[Zp];simp only[ZE,Z5,Za,Z9];clear jp jw hv ja jc jh hf
   go_wp2_with fail
   go_ret;exact⟨rfl,HP⟩
def Q9 (i j m n:Nat)(c:Nat)(E:Ent)(hi:i<=1000000)(hj:i % 5=j)(hx:SX w gx acc aR nR cR aT nT cT aL nL cL gm)(hM:MpG Bp w (gm j) E)(ja:Bp.ok (m,n))(hE:oB E<1000000)(hc:c<=1152921504606846976)(jb:∀ x,look E (m,n)=oT x->c<x) :
  Zu Z1 106 #[aB (oT ⟨gx,0,oS⟩),aA aM (i:Int),aJ #[aA aM (m:Int),aA aM (n:Int)],aA aM (c:Int)] w λe w'=>e=aP (aH oF)/\F9 w w' (gm j) (m,n) E c:=by
 cases e:look E (m,n) with
 | none=>exact put_new i j m n c E hi hj hx hM ja hE hc e
 | some old=>exact put_low i j m n c E hi hj hx hM ja hE hc old e (jb old e)
def F9.of_ext {w1:Z0}{g:Nat}{t:Stt}{E:Ent}{c:Nat}(hx:Ext w w1)(h:F9 w1 w' g t E c):F9 w w' g t E c :=
 ⟨h.map,λq hq ja=>(h.gr q (A9 hq (XE hx)) ja).trans (Z7 hx q hq),h.os.trans (Below.os hx),h.tape.trans (Below.tape hx),h.output.trans (Below.output hx),AA (XE hx) h.size⟩
end
def MY {s:Slt}{p:Nat}(h:p<(chA s).length):(chA s)[p]=⟨((s[p]'(by rw[Dk]at h;exact h)).key.toNat:Int),(s[p]'(by rw[Dk]at h;exact h)).cost⟩:=by simp[chA]
def R5 {s:Slt}{c:UInt8}{a:Nat}(hb:∀ h∈s,0<=h.cost)(h:Hl s c=oT a):∃ p,∃ hp:p<(chA s).length,Ez (chA s) (c.toNat:Int)=(p:Int)/\(chA s)[p].t=(a:Int):=by
 unfold Hl at h;cases e:s.find? λh=>h.key == c with
 | none=>rw[e]at h;cases h
 | some x =>
  rw[e]at h;simp at h;obtain⟨h1,p,hp,h2,h3⟩:=List.find?_eq_some_iff_getElem.1 e;have ja:p<(chA s).length:=by rw[Dk];exact hp
  refine⟨p,ja,IF ja ?_ ?_,?_⟩
  ·rw[Zr];intro y hy;obtain⟨j,hj,rfl⟩:=ZH.1 hy;rw[AO]at hj;rw[Xi,MY (by omega)];have h4:=h3 j (by omega);simp only[XS,beq_eq_false_iff_ne,ne_eq]at h4 ⊢;intro e9;exact h4 (zt.1 (by omega))
  ·rw[MY ja,h2];simp only[beq_iff_eq]at h1 ⊢;rw[h1]
  ·rw[MY ja,h2];have:=hb x (XN e);simp only;omega
def R6 {s:Slt}{c:UInt8}(h:Hl s c=oS):Ez (chA s) (c.toNat:Int) = -1:=by
 unfold Hl at h;have e:s.find? (λh=>h.key == c)=oS:=by
  cases e:s.find? λh=>h.key == c with
  | none=>rfl
  | some x=>rw[e]at h;cases h
 refine Fj ?_;rw[Zr];intro y hy;unfold chA at hy;obtain⟨x,hx,rfl⟩:=AJ.1 hy;have h1:=List.find?_eq_none.1 e x hx;simp only[XS,beq_eq_false_iff_ne,ne_eq,beq_iff_eq]at h1 ⊢;intro e9;exact h1 (zt.1 (by omega))
def QA {s:ByteArray}{k:Nat}(h:k<s.size):(bts s)[k]'(by rw[B5];exact h)=s[k]:=rfl
def Ox {L:List Slt}{s:ByteArray}{i k:Nat}(hk:k<s.size)(hi:i+k<oB L) :
  letsC (L.drop (i+k)) ((bts s).drop k)=match Hl L[i+k] s[k] with | none=>oS | some a=>(letsC (L.drop (i+(k+1))) ((bts s).drop (k+1))).map (a+·):=by
 rw[AG (show k<(bts s).length by rw[B5];exact hk),AG hi,letsC,QA hk];rfl
def Nw {L:List Slt}{r:List UInt8}(h:oB L<oB r):letsC L r=oS:=by
 cases e:letsC L r with
 | none=>rfl
 | some a=>have:=Ge e;omega
def WU (o:Option Nat)(e:Ending):Prop:=match o with
 | none=>e=aP (.tuple #[aA aM 0,aH oH])
 | some k=>e=aP (.tuple #[aA aM (k:Int),aH oF])
section
variable {w w':World} {gx:Nat} {acc:Int} {aR:Option Addr} {nR cR:Nat} {aT:Option Addr} {nT cT:Nat} {aL:Option Addr} {nL cL:Nat} {gm:Nat->Nat}
def Oy (a:Option Zj)(b o len cap i k:Nat)(ha:a=oT ⟨b,o,oS⟩)(hk:i+k<len)(w:Z0) :
  (ZK 41 (aG a len cap) (aA aM ((i:Int)+(k:Int)))).run Z1 w=.ok (aB (oT ⟨b,o+(i+k),oS⟩)) w:=by
 have:=Il a b o len cap (i+k) ha hk w;rw[<- this];congr 2
def letters_any (L:List Slt)(C i:Nat)(s:ByteArray)(hx:SX w gx acc aR nR cR aT nT cT aL nL cL gm)(hL:CI w aL L)(hn:nL=oB L)(hnl:nL<=1000000)(hi:i<=oB L)(hs:s.size<=1000000)(hB:By C L)(hC:C<=1000000) :
  Zu Z1 132 #[aB (oT ⟨gx,0,oS⟩),aA aM (i:Int),aI s] w λe w'=>WU (letsC (L.drop i) (bts s)) e/\Below w.heap.size w w':=by
 subst hn;obtain⟨HX,HL,HB⟩:=oC hx hL hB;have jy:=hx.lt;obtain⟨c0,c1,c2,c3⟩:=hx.cells;clear hx hL hB c0 c1 c2;by_cases jb:s.size<=oB L - i
 ·have jz:¬ (oB L:Int) - (i:Int)<(s.size:Int):=by omega
  have hl2:s.size+i<=oB L:=by omega
  clear jb
  go_enter Tryz.func132,Tryz.ntmps132
  go_wp2_with fail
  go_quiet (fail)
  go_wp2
  go_loopw [8,24] (λsm q wr=>∃ k a:Nat,k<=s.size/\q=aA aM (k:Int)/\sm=aA aM (a:Int)/\a<=k*C/\letsC (L.drop i) (bts s)=(letsC (L.drop (i+k)) ((bts s).drop k)).map (a+·)/\Below (w.heap.size+1) (w.alloc (aK #[aI s] 9)) wr) (λ_ q _=>s.size - (intOf q).toNat)
  case atStart=>exact⟨0,0,Ze _,rfl,rfl,Ze _,by rw[zl,List.drop_zero];cases letsC (L.drop i) (bts s) <;> simp,⟨rfl,rfl,rfl,A5 _,λ_ _=>rfl⟩⟩
  case round =>
   obtain⟨k,a,hk,rfl,rfl,ha,jc,jf⟩:=hrel;have ji:=A0 jc;have jm:=A0 jf;have hz:=jf.size;rw[A8]at hz;have hW:=((Z2 w.heap.size w).alloc (A5 _) (aK #[aI s] 9)).trans (jf.mono (za _));have HW:=A0 hW;clear jc jf hW;by_cases jj:k<s.size
   ·obtain⟨b1,o1,jp,hb1,aa,cc,q0,ql,hq⟩:=(HL.later HW (A5 _)).at (show i+k<oB L by omega);have hi1:=Oy aL b1 o1 L.length cL i k jp (by omega);have c3r:=(HW.cell (p:=⟨gx,3,oS⟩) jy).trans c3;have b0:wr.cell? ⟨w.heap.size,0,oS⟩=oT (aI s):=(jm.cell (p:=⟨w.heap.size,0,oS⟩) (Y6 _)).trans (by rw[Z3 _ w.heap.size 0 _ _ (0,0) (Z4 _ _)];rfl);have jl:=A0 b0;have jh:=A0 (Ox (L:=L) jj (show i+k<oB L by omega));have jk:∀ h∈L[i+k],0<=h.cost/\h.cost<=(C:Int):=HB _ (AI _);obtain⟨sl,ju⟩:∃ sl,L[i+k]=sl:=⟨_,rfl⟩
    rw[ju]at q0 ql hq jh jk;have HQ:=A0 hq;have jn:=A0 jk;have hwr:IntKind.i64.wrap ((i:Int)+(k:Int))=(i:Int)+(k:Int):=Zq _ (by omega);have HZ:Hid (∀ q,Below wr.heap.size wr ((wr.alloc (aK #[aA aM (k:Int)] 3)).drewN q)):=λq=>below_drewN ((Z2 _ _).alloc (A5 _) _) q;have jo:Hid (∀ q,((wr.alloc (aK #[aA aM (k:Int)] 3)).drewN q).cell? ⟨wr.heap.size,0,oS⟩=oT (aA aM (k:Int))):=λq=>by
     rw[Z3 _ wr.heap.size 0 _ _ (0,0) (show((wr.alloc (aK #[aA aM (k:Int)] 3)).drewN q).heap[wr.heap.size]? = _ from Z4 _ _)];rfl
    have je:Hid (∀ q,wr.heap.size<((wr.alloc (aK #[aA aM (k:Int)] 3)).drewN q).heap.size):=λq=>by
     show wr.heap.size<(wr.alloc _).heap.size;rw[A8];omega
    clear jp ju hq jk;obtain⟨lc,jt⟩:∃ lc,Hl sl s[k]=lc:=⟨_,rfl⟩
    have ja:=A0 jt;clear jt;cases lc with
    | none =>
     have jg:=A0 (R6 ja);have HN:Hid (letsC (L.drop i) (bts s)=oS):=by
      show _=_;rw[ji.out,jh.out,ja.out];rfl
     go_wp2_with fail
     go_quiet (fail)
     go_wp2_with fail
     refine(idx_chs_any (chA sl) aa sl.length cc s w.heap.size wr.heap.size k _ (HQ.later (HZ _) (A5 _)) (Dk sl).symm ql (((HZ _).cell (p:=⟨w.heap.size,0,oS⟩) hz).trans jl) (Nat.lt_trans (show w.heap.size<wr.heap.size by omega) (je _)) (jo _) (je _) jj).mono ?_;rintro e w5 ⟨he,hb⟩;rw[jg.out]at he;subst he;have jd:=A0 ((HZ _).trans (hb.mono (HZ _).size));clear hb
     go_wp2_with fail
     go_ret2
     exact⟨by rw[HN.out];rfl,HW.trans (jd.mono HW.size)⟩
    | some c =>
     obtain⟨p,hp,js,jr⟩:=R5 (λh hh=>(jn h hh).1) ja;have hcC:=Q6 jn ja;have jg:=A0 js;obtain⟨b2,o2,jq,jx,p0,p1⟩:=HQ.at hp;rw[jr]at p1;have jv:=A0 p1;have jA:p<oB sl:=by rw[Dk]at hp;exact hp
     have hi2:=Gf aa b2 o2 sl.length cc p jq jA;have HN:Hid (letsC (L.drop i) (bts s)=(letsC (L.drop (i+(k+1))) ((bts s).drop (k+1))).map ((a+c)+·)):=by
      show _=_;rw[ji.out,jh.out,ja.out];show((letsC (L.drop (i+(k+1))) ((bts s).drop (k+1))).map (c+·)).map (a+·)=_;cases letsC (L.drop (i+(k+1))) ((bts s).drop (k+1)) with
      | none=>rfl
      | some z=>simp[Nat.add_assoc]
     have hkc:k*C<=1000000*1000000:=Y1 (by omega) hC;have jw:a+c<=(k+1)*C:=by rw[Xp];omega
     have hpI:¬ (p:Int)<0:=by omega
     clear js jr jq p0 p1 hp
     go_wp2_with fail
     go_quiet (fail)
     go_wp2_with fail
     refine(idx_chs_any (chA sl) aa sl.length cc s w.heap.size wr.heap.size k _ (HQ.later (HZ _) (A5 _)) (Dk sl).symm ql (((HZ _).cell (p:=⟨w.heap.size,0,oS⟩) hz).trans jl) (Nat.lt_trans (show w.heap.size<wr.heap.size by omega) (je _)) (jo _) (je _) jj).mono ?_;rintro e w5 ⟨he,hb⟩;rw[jg.out]at he;subst he;have jd:=A0 ((HZ _).trans (hb.mono (HZ _).size));have p1':=(jd.cell (p:=⟨b2,o2+p*2+1,oS⟩) jx).trans jv;clear hb
     go_wp2_with fail
     go_roundw
     case rel=>exact⟨k+1,a+c,by omega,by go_num,by go_num,jw,HN,jm.trans (jd.mono hz)⟩
     case measure=>simp[intOf];omega
   ·have HN:Hid (letsC (L.drop i) (bts s)=oT a):=by
     show _=_;have e:(bts s).drop k=[]:=Xn (by rw[B5];omega);rw[ji.out,e,Ij];simp
    go_wp2
    go_ret2
    exact⟨by rw[HN.out];rfl,HW⟩
 ·have jz:(oB L:Int) - (i:Int)<(s.size:Int):=by omega
  have HN:Hid (letsC (L.drop i) (bts s)=oS):=Nw (by rw[ZZ,B5];omega);clear jb
  go_enter Tryz.func132,Tryz.ntmps132
  go_wp2_with fail
  go_quiet (fail)
  go_wp2
  go_ret2
  exact⟨by rw[HN.out];rfl,below_drewN ((Z2 _ w).alloc (A5 _) _) _⟩
end
structure Bn where
 word:Int
 arcs:List Ar
deriving DecidableEq,Inhabited
def Dq (w:Z0)(a:Option Zj)(T:List Bn):Prop:=∀ k (hk:k<oB T),∃ b o,a=oT ⟨b,o,oS⟩/\b<w.heap.size/\w.cell? ⟨b,o+k*2,oS⟩=oT (aA aM T[k].word) /\
 ∃ aa cc,w.cell? ⟨b,o+k*2+1,oS⟩=oT (aG aa T[k].arcs.length cc)/\T[k].arcs.length<=9223372036854775807/\EC w aa T[k].arcs
def Dq.kp {w w1:Z0}{a:Option Zj}{T:List Bn}(h:Dq w a T)(hk:Kc w w1):Dq w1 a T:=λk hl=>by
 obtain⟨b,o,ha,h1,h2,aa,cc,h3,h4,h5⟩:=h k hl;exact⟨b,o,ha,A9 h1 hk.size,hk.cell h2,aa,cc,hk.cell h3,h4,h5.kp hk⟩
def Dq.later {w w1:Z0}{a:Option Zj}{T:List Bn}{B:Nat}(h:Dq w a T)(hb:Below B w w1)(hB:w.heap.size<=B):Dq w1 a T:=h.kp (Kc.of hb hB)
def Dq.at {w:Z0}{a:Option Zj}{T:List Bn}(h:Dq w a T){k:Nat}(hk:k<oB T):∃ b o,a=oT ⟨b,o,oS⟩/\b<w.heap.size/\w.cell? ⟨b,o+k*2,oS⟩=oT (aA aM T[k].word) /\
 ∃ aa cc,w.cell? ⟨b,o+k*2+1,oS⟩=oT (aG aa T[k].arcs.length cc)/\T[k].arcs.length<=9223372036854775807/\EC w aa T[k].arcs:=h k hk
def K4 (a:Option Zj)(b o len cap k:Nat)(ha:a=oT ⟨b,o,oS⟩)(hk:k<len)(w:Z0) :
  (ZK 175 (aG a len cap) (aA aM (k:Int))).run Z1 w=.ok (aB (oT ⟨b,o+k*2,oS⟩)) w:=by
 subst ha;have h0:(0:Int)<=(k:Int):=by omega
 have h1:(k:Int)<(len:Int):=by omega
 simp[go_sem,h0,h1]
def
  folT (T:List Bn):Nat->List UInt8->Option Nat
 | n,[]=>oT n
 | n,c :: r=>match T[n]? with
  | none=>oS
  | some b=>match b.arcs.find? (λx=>x.c == (c.toNat:Int)) with
   | none=>oS
   | some x=>folT T x.t.toNat r
def folw (T:List Bn):UB (folT T) where
 nil n:=rfl
 app
   n
    a b:=by
  induction a generalizing n with
  | nil=>rfl
  | cons c r ih =>
   simp only[ZG,folT];cases T[n]? with
   | none=>rfl
   | some y =>
    simp only;cases y.arcs.find? (λx=>x.c == (c.toNat:Int)) with
    | none=>rfl
    | some x=>exact ih _
def Sb (T:List Bn):Prop:=∀ b∈T,∀ x∈b.arcs,0<=x.t/\x.t<(oB T:Int)
def QB {T:List Bn}(h:Sb T):∀ {r:List UInt8} {n m:Nat},n<oB T->folT T n r=oT m->m<oB T
 | [],n,m,hn,e=>by cases e;exact hn
 | c
   :: r,n,m,hn,e=>by
  simp only[folT,AC hn]at e;split at e
  · cases e
  ·rename_i x hx;have:=h _ (AI hn) x (XN hx);exact QB h (by omega) e
def Sc {X:List Ar}{c:Int}{x:Ar}(h:X.find? (λx=>x.c == c)=oT x):∃ p,∃ hp:p<oB X,Ez X c=(p:Int)/\X[p]=x:=by
 obtain⟨h1,p,hp,h2,h3⟩:=List.find?_eq_some_iff_getElem.1 h;refine⟨p,hp,IF hp ?_ (by rw[h2];exact h1),h2⟩;rw[Zr];intro y hy;obtain⟨j,hj,rfl⟩:=ZH.1 hy;rw[AO]at hj;rw[Xi];exact h3 j (by omega)
def Sd {X:List Ar}{c:Int}(h:X.find? (λx=>x.c == c)=oS):Ez X c = -1:=by
 refine Fj ?_;rw[Zr];intro y hy;have:=List.find?_eq_none.1 h y hy;simpa using this
def R7 {T:List Bn}{m k:Nat}{s:ByteArray}(hm:m<oB T)(hk:k<s.size) :
  folT T m ((bts s).drop k)=match T[m].arcs.find? (λx=>x.c == (s[k].toNat:Int)) with | none=>oS | some x=>folT T x.t.toNat ((bts s).drop (k+1)):=by
 rw[AG (show k<(bts s).length by rw[B5];exact hk),folT,AC hm,QA hk]
section
variable {w w':World} {gx:Nat} {acc:Int} {aR:Option Addr} {nR cR:Nat} {aT:Option Addr} {nT cT:Nat} {aL:Option Addr} {nL cL:Nat} {gm:Nat->Nat}
def follow_any (T:List Bn)(n:Nat)(s:ByteArray)(hx:SX w gx acc aR nR cR aT nT cT aL nL cL gm)(hT:Dq w aT T)(hn:nT=oB T)(hnl:nT<=1000000)(hi:n<oB T)(hs:s.size<=1000000)(jo:Sb T) :
  Zu Z1 108 #[aB (oT ⟨gx,0,oS⟩),aA aM (n:Int),aI s] w λe w'=>WU (folT T n (bts s)) e/\Below w.heap.size w w':=by
 subst hn;obtain⟨HX,HT,HI⟩:=oC hx hT jo;have jw:=hx.lt;obtain⟨c0,c1,c2,c3⟩:=hx.cells;clear hx hT jo c0 c1 c3
 go_enter Tryz.func108,Tryz.ntmps108
 go_wp2
 go_loopw [1,13] (λnd q wr=>∃ k m:Nat,k<=s.size/\q=aA aM (k:Int)/\nd=aA aM (m:Int)/\m<oB T/\folT T n (bts s)=folT T m ((bts s).drop k)/\Below (w.heap.size+1) (w.alloc (aK #[aI s] 9)) wr) (λ_ q _=>s.size - (intOf q).toNat)
 case atStart=>exact⟨0,n,Ze _,rfl,rfl,hi,rfl,Z2 _ _⟩
 case round =>
  obtain⟨k,m,hk,rfl,rfl,hm,jb,je⟩:=hrel;have jh:=A0 jb;have jl:=A0 je;have hz:=je.size;rw[A8]at hz;have hW:=((Z2 w.heap.size w).alloc (A5 _) (aK #[aI s] 9)).trans (je.mono (za _));have HW:=A0 hW;clear jb je hW;by_cases ji:k<s.size
  ·obtain⟨b1,o1,jp,hb1,q9,aa,cc,q0,ql,hq⟩:=(HT.later HW (A5 _)).at hm;have hi1:=K4 aT b1 o1 T.length cT m jp hm;have c2r:=(HW.cell (p:=⟨gx,2,oS⟩) jw).trans c2;have b0:wr.cell? ⟨w.heap.size,0,oS⟩=oT (aI s):=(jl.cell (p:=⟨w.heap.size,0,oS⟩) (Y6 _)).trans (by rw[Z3 _ w.heap.size 0 _ _ (0,0) (Z4 _ _)];rfl);have jk:=A0 b0;have jg:=A0 (R7 (T:=T) hm ji);have jm:=A0 (HI _ (AI hm));obtain⟨X,hX⟩:∃ X,T[m].arcs=X:=⟨_,rfl⟩
   rw[hX]at q0 ql hq jg jm;have HQ:=A0 hq;have HZ:Hid (Below wr.heap.size wr (wr.alloc (aK #[aA aM (k:Int)] 3))):=(Z2 _ _).alloc (A5 _) _;have jn:Hid ((wr.alloc (aK #[aA aM (k:Int)] 3)).cell? ⟨wr.heap.size,0,oS⟩=oT (aA aM (k:Int))):=by
    show _=_;rw[Z3 _ wr.heap.size 0 _ _ (0,0) (Z4 _ _)];rfl
   have jd:Hid (wr.heap.size<(wr.alloc (aK #[aA aM (k:Int)] 3)).heap.size):=by
    show wr.heap.size<(wr.alloc _).heap.size;rw[A8];omega
   clear jp hX hq q9;obtain⟨lc,jt⟩:∃ lc,X.find? (λx=>x.c == (s[k].toNat:Int))=lc:=⟨_,rfl⟩
   have ja:=A0 jt;clear jt;cases lc with
   | none =>
    have jf:=A0 (Sd ja);have HN:Hid (folT T n (bts s)=oS):=by
     show _=_;rw[jh.out,jg.out,ja.out]
    go_wp2_with fail
    refine(idx_arcs_any X aa X.length cc s w.heap.size wr.heap.size k _ (HQ.later HZ (A5 _)) rfl ql ((HZ.cell (p:=⟨w.heap.size,0,oS⟩) hz).trans jk) (Nat.lt_trans (show w.heap.size<wr.heap.size by omega) jd) jn jd ji).mono ?_;rintro e w5 ⟨he,hb⟩;rw[jf.out]at he;subst he;have jc:=A0 (HZ.trans (hb.mono HZ.size));clear hb
    go_wp2_with fail
    go_ret2
    exact⟨by rw[HN.out];rfl,HW.trans (jc.mono HW.size)⟩
   | some x =>
    obtain⟨p,hp,js,jr⟩:=Sc ja;have jf:=A0 js;obtain⟨b2,o2,jq,jv,p0,p1⟩:=HQ.at hp;have jy:=jm x (XN ja);obtain⟨m2,jj⟩:∃ m2:Nat,x.t=(m2:Int):=⟨x.t.toNat,by omega⟩
    rw[jr,jj]at p1;have ju:=A0 p1;have hi2:=FS9 aa b2 o2 X.length cc p jq hp;have HN:Hid (folT T n (bts s)=folT T m2 ((bts s).drop (k+1))):=by
     show _=_;rw[jh.out,jg.out,ja.out];show folT T x.t.toNat _=_;rw[jj];rfl
    have jx:m2<oB T:=by omega
    have hpI:¬ (p:Int)<0:=by omega
    clear js jr jq p0 p1 jy jj
    go_wp2_with fail
    refine(idx_arcs_any X aa X.length cc s w.heap.size wr.heap.size k _ (HQ.later HZ (A5 _)) rfl ql ((HZ.cell (p:=⟨w.heap.size,0,oS⟩) hz).trans jk) (Nat.lt_trans (show w.heap.size<wr.heap.size by omega) jd) jn jd ji).mono ?_;rintro e w5 ⟨he,hb⟩;rw[jf.out]at he;subst he;have jc:=A0 (HZ.trans (hb.mono HZ.size));have p1':=(jc.cell (p:=⟨b2,o2+p*2+1,oS⟩) jv).trans ju;clear hb
    go_wp2_with fail
    go_roundw
    case rel=>exact⟨k+1,m2,by omega,by go_num,rfl,jx,HN,jl.trans (jc.mono hz)⟩
    case measure=>simp[intOf];omega
  ·have HN:Hid (folT T n (bts s)=oT m):=by
    show _=_;have e:(bts s).drop k=[]:=Xn (by rw[B5];omega);rw[jh.out,e];rfl
   go_wp2
   go_ret2
   exact⟨by rw[HN.out];rfl,HW⟩
def Se (r:Rl)(w:Z0) :
  Zu Z1 105 #[aJ #[aA aM r.frm,aA aM r.dst,aI r.inp,aI r.out,aA aM r.cost]] w λe w'=>e=aP (aH (C5 r))/\Below w.heap.size w w':=by
 rcases(show C5 r=oF\/r.frm<0\/(0<=r.frm/\¬ r.frm<8)\/(0<=r.frm/\r.frm<8/\r.dst<0)\/(0<=r.frm/\r.frm<8/\0<=r.dst/\¬ r.dst<8)\/(0<=r.frm/\r.frm<8/\0<=r.dst/\r.dst<8/\¬ (r.inp.size:Int)<=4) \/
   (0<=r.frm/\r.frm<8/\0<=r.dst/\r.dst<8/\(r.inp.size:Int)<=4/\r.cost<0)\/(0<=r.frm/\r.frm<8/\0<=r.dst/\r.dst<8/\(r.inp.size:Int)<=4/\0<=r.cost/\¬ r.cost<=1000) from by
  by_cases h:C5 r=oF
  · exact .inl h
  ·refine .inr ?_;rw[Bd]at h;omega) with h | h | ⟨h1,h⟩ | ⟨h1,h2,h⟩ | ⟨h1,h2,h3,h⟩ | ⟨h1,h2,h3,h4,h⟩ | ⟨h1,h2,h3,h4,h5,h⟩ | ⟨h1,h2,h3,h4,h5,h6,h⟩
 ·have HF:=A0 h;obtain⟨h1,h2,h3,h4,h5,h6,h7⟩:=Bd.1 h;have h5':(r.inp.size:Int)<=4:=by omega
  clear h h5
  go_enter Tryz.func105,Tryz.ntmps105
  go_wp2;go_ret;exact⟨Ad HF.symm,by go_grown⟩
 all_goals
  have HF:Hid (C5 r=oH):=by
   show _=_;cases e:C5 r with
   | false=>rfl
   | true=>rw[Bd]at e;omega
  try have h':=Int.not_le.2 h
  go_enter Tryz.func105,Tryz.ntmps105
  go_wp2;go_ret;exact⟨Ad HF.symm,by go_grown⟩
end
open Go.RowKit
def K5 (o:ZX)(v:Z6)(env:Bx):Bx:=match o.dst with | some d=>(d,v) :: env | none=>env
def GM:Bx->List ZX->List Z6->Bx
 | env,o :: r,v :: s=>GM (K5 o v env) r s
 | env,_,_=>env
def VD (ops:Array ZX)(ms mu:List Nat):Bool:=mu.all λm=>decide (m<ops.size) && mu.all λk=>decide (k<=m) || (ms.getD k 0).testBit m
def K6 (ops:Array ZX):Bool:=(Zt (ops.size - 1)).all λi=>((msOf ops ops.size).getD (ops.size - 1) 0).testBit i
inductive CD (P:Program)(ops:Array ZX)(Kp:Z0->Prop)(mu:List Nat)(K:Bx->Z0->Prop):Nat->List ZX->Bx->Z0->Prop
 | nil {i:Nat} {env:Bx} {w:Z0}:K env w->CD P ops Kp mu K i [] env w
 | skip {i d:Nat} {env:Bx} {w:Z0} {o:ZX} {r:List ZX}:o.dst=some d->guardE ops env o=false->CD P ops Kp mu K (i+1) r ((d,Z8) :: env) w->CD P ops Kp mu K i (o :: r) env w
 | no {i:Nat} {env:Bx} {w:Z0} {o:ZX} {r:List ZX}:o.dst=none->guardE ops env o=false->CD P ops Kp mu K (i+1) r env w->CD P ops Kp mu K i (o :: r) env w
 | op {i d:Nat} {env:Bx} {w:Z0} {o:ZX} {r:List ZX} {v:Z6}:o.dst=some d->guardE ops env o=true->(∀ W,Kp W->(execOp (At env) o).run P W=.ok (.value v) W)->CD P ops Kp mu K (i+1) r ((d,v) :: env) w->CD P ops Kp mu K i (o :: r) env w
 | wr {i d:Nat} {env:Bx} {w:Z0} {o:ZX} {r:List ZX} (v:Z6) (w':Z0):o.dst=some d->guardE ops env o=true->i∈mu->(execOp (At env) o).run P w=.ok (.value v) w'->Kp w'->CD P ops Kp mu K (i+1) r ((d,v) :: env) w'->CD P ops Kp mu K i (o :: r) env w
 | st {i:Nat} {env:Bx} {w:Z0} {o:ZX} {r:List ZX} (w':Z0):o.dst=none->guardE ops env o=true->i∈mu->(execOp (At env) o).run P w=.ok .skip w'->Kp w'->CD P ops Kp mu K (i+1) r env w'->CD P ops Kp mu K i (o :: r) env w
 | stl {i:Nat} {env:Bx} {w:Z0} {o:ZX} (w':Z0):o.dst=none->guardE ops env o=true->i∈mu->K6 ops=true->(execOp (At env) o).run P w=.ok .skip w'->K env w'->CD P ops Kp mu K i [o] env w
def AtD (P:Program)(ops:Array ZX)(Kp:Z0->Prop)(mu:List Nat)(env:Bx)(o:ZX)(k:Nat)(lst:Prop)(v:Z6)(w w':Z0):Prop :=
 (guardE ops env o=oH/\v=Z8/\w'=w)\/(guardE ops env o=oF/\(∃ d,o.dst=oT d)/\(∀ W,Kp W->(execOp (At env) o).run P W=.ok (.value v) W)/\w'=w) \/
 (guardE ops env o=oF/\k∈mu/\(((∃ d,o.dst=oT d)/\(execOp (At env) o).run P w=.ok (.value v) w')\/(o.dst=oS/\(execOp (At env) o).run P w=.ok .skip w'))/\(Kp w'\/(lst/\K6 ops=oF)))
def R8 {P:Program}{ops:Array ZX}{Kp:Z0->Prop}{mu:List Nat}{K:Bx->Z0->Prop}{i:Nat}{l:List ZX}{env:Bx}{w:Z0}(h:CD P ops Kp mu K i l env w) :
  ∃ (vs:List Z6) (ws:Nat->Z0),oB vs=oB l/\ws 0=w/\K (GM env l vs) (ws l.length)/\∀ j o,l[j]? = oT o->AtD P ops Kp mu (GM env (l.take j) (vs.take j)) o (i+j) (oB l=j+1) (vs.getD j Z8) (ws j) (ws (j+1)):=by
 have step:∀ {i:Nat} {env:Bx} {w w':Z0} {o:ZX} {r:List ZX} (v:Z6),AtD P ops Kp mu env o i (oB r=0) v w w' ->
   (∃ (vs:List Z6) (ws:Nat->Z0),oB vs=oB r/\ws 0=w'/\K (GM (K5 o v env) r vs) (ws r.length)/\∀ j o',r[j]? = oT o'->AtD P ops Kp mu (GM (K5 o v env) (r.take j) (vs.take j)) o' (i+1+j) (oB r=j+1) (vs.getD j Z8) (ws j) (ws (j+1))) ->
   ∃ (vs:List Z6) (ws:Nat->Z0),oB vs=(o :: r).length/\ws 0=w/\K (GM env (o :: r) vs) (ws (o :: r).length)/\∀ j o',(o :: r)[j]? = oT o'->AtD P ops Kp mu (GM env ((o :: r).take j) (vs.take j)) o' (i+j) ((o :: r).length=j+1) (vs.getD j Z8) (ws j) (ws (j+1)):=by
  rintro i env w w' o r v ha ⟨vs,ws,h1,h2,h3,h4⟩;refine⟨v :: vs,λk=>match k with | 0=>w | k+1=>ws k,by simp[h1],rfl,h3,λj o' h5=>?_⟩;cases j with
  | zero =>
   cases h5;have e:ws 0=w':=h2;show AtD P ops Kp mu env o (i+0) _ v w (ws 0);rw[e];have e2:((o :: r).length=0+1)=(oB r=0):=by simp
   rw[e2];exact ha
  | succ j =>
   have h6:=h4 j o' (by simpa using h5);have e:i+1+j=i+(j+1):=by omega
   rw[e]at h6;have e2:((o :: r).length=j+1+1)=(oB r=j+1):=by simp
   rw[e2];exact h6
 induction h with
 | nil hk=>exact⟨[],λ_=>_,rfl,rfl,hk,λj o h=>by simp at h⟩
 | @skip _ _ _ _ _ _ hd hg _ ih =>
  refine step Z8 (.inl ⟨hg,rfl,rfl⟩) ?_;simp only[K5,hd];exact ih
 | @no _ _ _ _ _ hd hg _ ih =>
  refine step Z8 (.inl ⟨hg,rfl,rfl⟩) ?_;simp only[K5,hd];exact ih
 | @op _ _ _ _ _ _ v hd hg hr _ ih =>
  refine step v (.inr (.inl ⟨hg,⟨_,hd⟩,hr,rfl⟩)) ?_;simp only[K5,hd];exact ih
 | @wr _ _ _ _ _ _ v w' hd hg hm hr hk _ ih =>
  refine step v (.inr (.inr ⟨hg,hm,.inl ⟨⟨_,hd⟩,hr⟩,.inl hk⟩)) ?_;simp only[K5,hd];exact ih
 | @st _ _ _ _ _ w' hd hg hm hr hk _ ih =>
  refine step Z8 (.inr (.inr ⟨hg,hm,.inr ⟨hd,hr⟩,.inl hk⟩)) ?_;simp only[K5,hd];exact ih
 | @stl _ env _ _ w' hd hg hm hl hr hk =>
  refine step (r:=[]) Z8 (.inr (.inr ⟨hg,hm,.inr ⟨hd,hr⟩,.inr ⟨rfl,hl⟩⟩)) ?_;simp only[K5,hd];exact⟨[],λ_=>w',rfl,rfl,hk,λj o h=>by simp at h⟩
def Im {t:Nat}:∀ (l:List ZX) (vs:List Z6) (env:Bx),(∀ o∈l,o.dst≠oT t)->lkE (GM env l vs) t=lkE env t
 | [],vs,env,_=>by cases vs <;> rfl
 | o :: r,[],env,_=>rfl
 | o
   :: r,v :: s,env,h=>by
  rw[GM,Im r s _ λo' ho=>h o' (Zm _ ho)];unfold K5;cases hd:o.dst with
  | none=>rfl
  | some d =>
   simp only[lkE];rw[if_neg λe=>h o AB (by rw[hd,e])]
def Nx {t:Nat}{v:Z6}:∀ (l:List ZX) (vs:List Z6) (env:Bx) (m:Nat) (o:ZX),l[m]? = oT o->vs[m]? = oT v->o.dst=oT t->(∀ m' o',l[m']? = oT o'->m'≠m->o'.dst≠oT t)->lkE (GM env l vs) t=v
 | [],_,_,m,o,h,_,_,_=>by simp at h
 | _ :: _,[],_,m,o,_,h,_,_=>by simp at h
 | o
   :: r,x :: s,env,0,o',h,hv,hd,hu=>by
  cases h;cases hv;rw[GM,Im r s _ λo' ho=>by
   obtain⟨i,hi,rfl⟩:=ZH.1 ho;exact hu (i+1) _ (by simp[hi]) (by omega)]
  simp only[K5,hd,lkE];rw[if_pos trivial]
 | o :: r,x :: s,env,m+1,o',h,hv,hd,hu=>by
  rw[GM];exact Nx r s _ m o' (by simpa using h) (by simpa using hv) hd λm' o2 h2 hne=>hu (m'+1) o2 (by simpa using h2) (by omega)
def Sf (ops:Array ZX)(ms bs:List Nat):Bool:=(Zt ops.size).all λi=>match ops[i]? with
 | some o=>(o.looksAt ops).all λt=>(bs.contains t && (Zt ops.size).all λj=>FR ops j != oT t || (ms.getD j 0).testBit i) || o.after.any λe=>Zl .any e && (FR ops e.on == oT t)
 | none=>oF
variable {P:Program} {ops:Array Oper} {a0:Act} {Q:Exit->Act->World->Prop}
def QC {V:Nat->Z6->Z0->Prop}{X:Nat->Z0->Z0->Prop}{S:(Nat->Bool)->Z0->Prop}{ms:List Nat}{L:Nat}:∀ (l:List ZX) (k:Nat),(∀ i o,l[i]? = oT o->k+i≠L->NR P ops V X S ms a0 (k+i) o)->Hd P ops V X S ms a0 L k l
 | [],_,_=>trivial
 | o
   :: l,k,h=>⟨by
   split
   · trivial
   · rename_i e;exact h 0 o rfl e,QC l (k+1) λi o' ho ja=>by
   have e:k+1+i=k+(i+1):=by omega
   rw[e]at ja ⊢;exact h (i+1) o' ho ja⟩
def wp_region_sd {id:Nat}{w:Z0}(Kp:Z0->Prop)(n:Nat)(b:Bx)(mu ds bs:List Nat)(jG:(P.follows .mixedOrders && (rvOkS ops (msOf ops ops.size) oF n ops.size && (Pw ops (msOf ops ops.size) ops.size && (VD ops (msOf ops ops.size) mu && (Region.noSelect ops && (Hc ops == ds && Sf ops (msOf ops ops.size) bs))))))=oF)(jM:b.map (·.1)=bs)(hb:MS a0 b)(hn:a0.tmps.size=n)
  (hK:∀ W,Ext w W->Kp W)
  (h:∀ u,Ext w u->CD P ops Kp mu (λenv W=>∀ x:Nat->Z6,(∀ d,d∈ds->x d=lkE env d)->Q .normal (ds.foldl (λa d=>a.put (oT d) (x d)) a0) W) 0 ops.toList b u):(zT id ops oF).wp P Q a0 w:=by
 simp only[Zg,beq_iff_eq]at jG;obtain⟨h1,h2,h3,h4,h5,h6,h7⟩:=jG;have jz:Ext w { w with drawn:=w.drawn+1 }:=⟨rfl,rfl,rfl,A5 _,λ_ _=>rfl⟩
 obtain⟨vs,ws,hl,jI,ju,hA⟩:=R8 (h _ jz);replace hl:oB vs=ops.size:=hl.trans Xq;rw[Xq]at ju;have jQ:∀ i,i<ops.size->vs[i]? = oT (vs.getD i Z8):=λi hi=>by
  rw[AS,AC (show i<oB vs by omega)];rfl
 have jw:∀ i,i<ops.size->∀ {o},ops[i]? = oT o->∃ o2,ops[i]? = oT o2/\(o2.dst=oS->oF=oF)/\(∀ d,o2.dst=oT d->d<n/\∀ j o',ops[j]? = oT o'->i≠j->o'.dst≠oT d)/\(∀ e∈o2.after,Zl .any e=oF->e.on<i)/\∀ j,j<ops.size->((msOf ops ops.size).getD i 0).testBit j=oF->∃ e∈o2.after,Zl .any e=oF/\(e.on=j\/((msOf ops ops.size).getD e.on 0).testBit j=oF):=λi hi o _=>EZ (Bs h2) hi;have jB:∀ (k i:Nat) (o:ZX) (d:Nat),i<k->ops[i]? = oT o->o.dst=oT d->lkE (GM b (ops.toList.take k) (vs.take k)) d=vs.getD i Z8:=λk i o d jA ho hd=>by
  have hi:i<ops.size:=(A7.1 ho).1;refine Nx _ _ _ i o (by rw[AP,if_pos jA,ZL];exact ho) (by rw[AP,if_pos jA];exact jQ i hi) hd λm' o' hm jD=>?_;rw[AP]at hm;split at hm
  ·rw[ZL]at hm;obtain⟨o2,jl,_,jW,_⟩:=jw i hi ho;rw[ho]at jl;cases jl;exact(jW d hd).2 m' o' hm (Ne.symm jD)
  · cases hm
 have js:∀ m∈mu,m<ops.size/\∀ k∈mu,m<k->((msOf ops ops.size).getD k 0).testBit m=oF:=λm hm=>by
  unfold VD at h4;have h8:=(Zr.1 h4) m hm;simp only[Zg,decide_eq_true_eq,Zr,Y2]at h8;exact⟨h8.1,λk hk jo=>(h8.2 k hk).resolve_left (by omega)⟩
 have jp:∀ i o,ops[i]? = oT o->AtD P ops Kp mu (GM b (ops.toList.take i) (vs.take i)) o i (ops.size=i+1) (vs.getD i Z8) (ws i) (ws (i+1)):=λi o ho=>by
  have h8:=hA i o (by rw[ZL];exact ho)
  rwa [ZS,Xq]at h8
 have jv:∀ c,c<=ops.size->Kp (ws c)\/(c=ops.size/\0<c/\c - 1∈mu/\K6 ops=oF):=by
  intro c
  induction c with
  | zero=>intro _;rw[jI];exact .inl (hK _ jz)
  | succ c ih =>
   intro hc;have hi:=ih (by omega);have hi:Kp (ws c):=hi.resolve_right λe=>by omega
   obtain⟨o,ho⟩:∃ o,ops[c]? = oT o:=⟨_,AN (by omega)⟩
   rcases jp c o ho with⟨_,_,e⟩ | ⟨_,_,_,e⟩ | ⟨_,hm,_,e⟩
   · rw[e];exact .inl hi
   · rw[e];exact .inl hi
   ·rcases e with e | ⟨e,e2⟩
    · exact .inl e
    · exact .inr ⟨e.symm,Nat.succ_pos _,hm,e2⟩
 have jg:∀ i c,c<=i->i<=ops.size->(∀ m∈mu,c<=m->i<=m)->ws i=ws c:=by
  intro i
  induction i with
  | zero=>intro c hc _ _;rw[Nat.le_zero.1 hc]
  | succ i ih =>
   intro c hc hi hm;by_cases e:c=i+1
   · rw[e]
   ·obtain⟨o,ho⟩:∃ o,ops[i]? = oT o:=⟨_,AN (by omega)⟩
    have h9:=ih c (by omega) (by omega) λm jT jd=>by have:=hm m jT jd;omega
    rcases jp i o ho with⟨_,_,e⟩ | ⟨_,_,_,e⟩ | ⟨_,jk,_⟩
    · rw[e,h9]
    · rw[e,h9]
    · have:=hm i jk (by omega);omega
 have key:∀ i o (a:Act),ops[i]? = oT o->(∀ e∈o.after,Zl .any e=oF->∀ oe d,ops[e.on]? = oT oe->oe.dst=oT d->Ae ops a e.on=vs.getD e.on Z8)->(∀ t,(∀ j,j<ops.size->FR ops j=oT t->((msOf ops ops.size).getD j 0).testBit i=oF)->a.tmps.getD t Z8=a0.tmps.getD t Z8) ->
   ∀ t∈o.looksAt ops,a.tmps.getD t Z8=lkE (GM b (ops.toList.take i) (vs.take i)) t:=λi o a ho jh jb t ht=>by
  have hi:i<ops.size:=(A7.1 ho).1;unfold Sf at h7;have h8:=(Zr.1 h7) i (by simpa using hi);rw[ho]at h8;have h9:=(Zr.1 h8) t ht;simp only[Y2,Zg,Array.any_eq_true',beq_iff_eq,List.contains_eq_mem,decide_eq_true_eq,Zr,bne_iff_ne,Aa]at h9;rcases h9 with⟨h9,ja⟩ | ⟨e,he,jx,ja⟩
  ·have jf:∀ j,j<ops.size->FR ops j=oT t->((msOf ops ops.size).getD j 0).testBit i=oF:=λj hj hd=>(ja j hj).resolve_left λh=>h hd;rw[jb t jf,Im _ _ _ λo' je=>?_]
   · exact(Ig hb (by rw[jM];exact h9)).symm
   ·obtain⟨j,hj,rfl⟩:=ZH.1 je;rw[AO]at hj;intro hd;have jS:ops[j]? = oT ((ops.toList.take i)[j]'(by rw[AO];exact hj)):=by
     rw[<- ZL,Xi,AC]
    have jJ:=jf j (by omega) (by unfold FR;rw[jS];exact hd);have:=Ea (Bs h2) (by omega) jJ;omega
  ·obtain⟨o2,jl,_,_,jo,_⟩:=jw i hi ho;rw[ho]at jl;cases jl;have jO:=jo e he jx;unfold FR at ja;cases jf:ops[e.on]? with
   | none=>rw[jf]at ja;cases ja
   | some oe =>
    rw[jf]at ja;have hd:oe.dst=oT t:=ja;rw[jB i e.on oe t jO jf hd,<- jh e he jx oe t jf hd];unfold Ae;rw[jf];simp only[hd]
 refine I2 (bn:=oF) h1 (λi v _=>∀ o d,ops[i]? = oT o->o.dst=oT d->v=vs.getD i Z8) (λ_ _ _=>True) (λf W=>∃ c,c<=ops.size/\W=ws c/\∀ m∈mu,f m=decide (m<c)) (msOf ops ops.size) n ops.size h2 hn (λ_ i o v w ho hd _ o' d' je ji=>by rw[ho]at je;cases je;rw[hd]at ji;cases ji) (λ_ _ _ _ _ _ _ _ _ hv _=>hv) (λf hf=>⟨0,Ze _,jI.symm,λm hm=>by rw[hf m (js m hm).1];rfl⟩) ?_ (λ_ A W jH jN f hf hS hv jb=>?_) (λe=>absurd rfl e)
 ·refine QC _ 0 λi o ho hi=>?_;rw[ZS];rw[ZL]at ho;have jn:i<ops.size:=(A7.1 ho).1;rintro a W f jH jP jU jy ⟨c,hc,rfl,jd⟩ jh jb jt;have hmlen:(msOf ops ops.size).length=ops.size:=FJ (Bs h2);have hd:∀ e∈o.after,Zl .any e=oF->((msOf ops ops.size).getD i 0).testBit e.on=oF:=by
   unfold Pw at h3;have h8:=(Zr.1 h3) i (by simpa using jn);rw[ho]at h8;intro e he hb;have h9:=(X8.1 h8) e he;rw[hb]at h9;simpa using h9
  have hk:=key i o a ho (λe he hb oe d jV jm=>jh e.on (hd e he hb) oe d jV jm) λt ht=>by
   by_cases hex:∃ j,j<ops.size/\FR ops j=oT t
   ·obtain⟨j,hj,jC⟩:=hex;exact jt j t (by omega) (jy j (by omega) (ht j hj jC)) jC
   ·refine jb t ?_;rw[X8];intro o' je;obtain⟨j,hj,rfl⟩:=Array.mem_iff_getElem.1 je;rw[bne_iff_ne];intro e;exact hex ⟨j,hj,by unfold FR;rw[AN hj];exact e⟩
  have hE:execOp a.eval o=execOp (At (GM b (ops.toList.take i) (vs.take i))) o:=by
   refine execOp_congr o (λcs b'=>Region.noSelect_spec h5 i o cs b' ho) λx hx=>?_;cases x with
   | tmp t=>exact hk t (List.mem_append_left _ (X9.2 ⟨.tmp t,by simpa using hx,rfl⟩))
   | _=>rfl
  have hG
      : Zv o (yielded ops a.tmps)=guardE ops (GM b (ops.toList.take i) (vs.take i)) o:=by
   rw[wS_eq];unfold wS guardE;cases hg:o.guard with
   | none=>rfl
   | some g =>
    obtain⟨j,c⟩:=g;simp only;unfold Ae FR;cases hj:ops[j]? with
    | none=>rfl
    | some oj =>
     simp only[Option.bind_some];cases jR:oj.dst with
     | none=>rfl
     | some d =>
      simp only;rw[hk d (List.mem_append_right _ (by simp[hg,hj,jR]))]
  have jE:i ∉ mu->Kp (ws c)/\∃ c',c'<=ops.size/\ws c=ws c'/\∀ m∈mu,upd f i m=decide (m<c'):=λjF=>by
   refine⟨(jv c hc).resolve_right λe=>?_,c,hc,rfl,λm hm=>?_⟩
   ·obtain⟨e1,e2,e3,e4⟩:=e;have h8:=jd _ e3;rw[decide_eq_true (show c - 1<c by omega)]at h8;have jD:i≠c - 1:=λe=>jF (by rw[e];exact e3);unfold K6 at e4;have h9:=(Zr.1 e4) i (by rw[Aa];omega);rw[e1]at h8;have:=jy (ops.size - 1) (by omega) h9;rw[this]at h8;cases h8
   ·unfold upd;rw[if_neg λe=>jF (by rw[<- e];exact hm)];exact jd m hm
  have jk:i∈mu->ws c=ws i/\∀ m∈mu,upd f i m=decide (m<i+1):=λjc=>by
   have h8:c<=i:=by
    have:=jd i jc;rw[jP]at this;have:=of_decide_eq_false this.symm;omega
   have h9:∀ m∈mu,m<i->m<c:=λm hm jo=>by
    have ja:=jU m ((js m hm).2 i jc jo);rw[jd m hm]at ja;exact of_decide_eq_true ja
   refine⟨(jg i c h8 (by omega) λm hm jq=>?_).symm,λm hm=>?_⟩
   ·rcases zx m i with ja | ja
    · have:=h9 m hm ja;omega
    · exact ja
   ·unfold upd;by_cases e:m=i
    · subst e;rw[if_pos rfl,decide_eq_true (by omega)]
    ·rw[if_neg e,jd m hm];congr 1;refine propext ⟨λh=>by omega,λh=>h9 m hm (by omega)⟩
  rw[hG];rcases jp i o ho with⟨hg,hx,e⟩ | ⟨hg,⟨d,hdd⟩,hr,e⟩ | ⟨hg,jc,hr,e⟩
  ·rw[hg];refine⟨λe=>(by cases e),λ_=>⟨λ_ _ _ _=>hx.symm,?_⟩⟩;by_cases jc:i∈mu
   ·obtain⟨h8,h9⟩:=jk jc;exact⟨i+1,by omega,by rw[h8,e],h9⟩
   · exact(jE jc).2
  ·rw[hg];refine⟨λ_=>.inl ?_,λe=>(by cases e)⟩;unfold EY;rw[hE];by_cases jc:i∈mu
   ·obtain⟨h8,h9⟩:=jk jc;have ja:Kp (ws i):=(jv i (by omega)).resolve_right λe=>by omega
    rw[h8];exact .inl ⟨_,_,hr _ ja,λ_ _ _ _=>rfl,trivial,i+1,by omega,e.symm,h9⟩
   ·obtain⟨h8,h9⟩:=jE jc;exact .inl ⟨_,_,hr _ h8,λ_ _ _ _=>rfl,trivial,h9⟩
  ·rw[hg];refine⟨λ_=>?_,λe=>(by cases e)⟩;obtain⟨h8,h9⟩:=jk jc;unfold EY;rw[hE,h8];rcases hr with⟨_,hr⟩ | ⟨jj,hr⟩
   · exact .inl (.inl ⟨_,_,hr,λ_ _ _ _=>rfl,trivial,i+1,by omega,rfl,h9⟩)
   · exact .inr ⟨jj,_,hr,(λo' d' je ji=>by rw[ho]at je;cases je;rw[jj]at ji;cases ji),trivial,i+1,by omega,rfl,h9⟩
 ·obtain⟨c,hc,hW,jd⟩:=hS;obtain⟨x,hx,jK⟩:=B7 ds h6 jH jN jb;have jL:W=ws ops.size:=by
   rw[hW];refine(jg ops.size c hc (A5 _) λm hm jq=>?_).symm;have h8:=jd m hm;rw[hf m (js m hm).1]at h8;have:=of_decide_eq_true h8.symm;omega
  rw[jK,jL];refine ju x λd hd=>?_;rw[<- h6]at hd;obtain⟨o,ho,jm⟩:=X9.1 hd;obtain⟨i,hi,rfl⟩:=ZH.1 ho;have jr:ops[i]? = oT ops.toList[i]:=by rw[<- ZL,AC hi]
  have jn:i<ops.size:=by simpa using hi
  have ja:=jB ops.size i _ d jn jr jm;rw[AH (show ops.toList.length<=ops.size by simp),AH (show vs.length<=ops.size by omega)]at ja;rw[ja,hx d,<- hv i jn _ _ jr jm];unfold Ae;rw[jr];simp only[jm]
section
variable {α:Type} {T:CB α} {W0 W w':World} {B:Nat} {vR v:Value} {L:List α} {x:α}
structure K7 (T:CB α)(W0:Z0)(B:Nat)(vR:Z6)(L:List α)(v:Z6)(W:Z0):Prop where
 own:Af T W B v L
 os:W.os=W0.os
 tape:W.tape=W0.tape
 output:W.output=W0.output
 size:W0.heap.size<=W.heap.size
 block:∀ q,q<W0.heap.size->vR.ownBlock≠some q->W.heap[q]? = W0.heap[q]?
 loc:v.ownBlock=vR.ownBlock\/∃ q,v.ownBlock=some q/\W0.heap.size<=q
def ApT (W0:Z0)(vR:Z6)(b:Bool)(W:Z0):Prop:=match b with | false=>Ext W0 W | true=>W0.heap.size<=W.heap.size/\∀ q,q<W0.heap.size->vR.ownBlock≠oT q->W.heap[q]? = W0.heap[q]?
def ApT.old:∀ {b:Bool},ApT W0 vR b W->∀ q,q<W0.heap.size->vR.ownBlock≠oT q->W.heap[q]? = W0.heap[q]?
 | false,h,q,hq,_=>Z7 h q hq
 | true,h,q,hq,hne=>h.2 q hq hne
def K7.old (h:K7 T W0 B vR L v W):ApT W0 vR oF W:=⟨h.size,h.block⟩
def K7.below (h:K7 T W0 B vR L v W){C:Nat}(hC:C<=W0.heap.size)(hv:∀ q,vR.ownBlock=oT q->C<=q):Below C W0 W :=
 ⟨h.os,h.tape,h.output,h.size,λq hq=>h.block q (by omega) λe=>by have:=hv q e;omega⟩
def Dr (w:Z0):Ext w { heap:=w.heap,tape:=w.tape,drawn:=w.drawn+1,os:=w.os,output:=w.output }:=⟨rfl,rfl,rfl,A5 _,λ_ _=>rfl⟩
end
section
variable {α:Type} {T:CB α} {u w:World} {B i:Nat} {vR:Value} {L:List α} {ops:Array Oper} {mu:List Nat} {K:Bx->World->Prop} {env:Bx} {o o2:Oper} {r:List Oper}
def K7.mades {W w':Z0}{v:Z6}{N:List α}(hx:Ext u W)(ho:Af T w' B v N)(hg:W.grownBy w' vR.ownBlock)(ja:v.ownBlock=vR.ownBlock\/v.ownBlock=oT W.heap.size):K7 T u B vR N v w' :=
 ⟨ho,hg.os.trans (Below.os hx),hg.tape.trans (Below.tape hx),hg.output.trans (Below.output hx),AA (XE hx) hg.size,λq hq jb=>(hg.block q (A9 hq (XE hx)) λe=>jb e.symm).trans (Z7 hx q hq),ja.imp id λe=>⟨_,e,XE hx⟩⟩
def Hm {W:Z0}(h:Ext u W):ApT u vR oF W:=⟨XE h,λq hq _=>Z7 h q hq⟩
def CD.app (hT:T.Ok)(hw:Ext u w)(jb:Af T u B vR L){s x d:Nat}(ad:Zj)(c:Nat)(N:List α)(hd:o.dst=oT d)(hg:guardE ops env o=oF)(hm:i∈mu)(ho:o.op=.call { callee:=.builtin .append,args:=#[.tmp s,.tmp x],argTypes:=#[T.sl,T.sl] })
  (hs:lkE env s=vR) (hx:lkE env x=aG (oT ad) N.length c) (hn:∀ j u,(N.flatMap T.enc)[j]? = oT u->w.cell? (ad.add j)=oT u) (hl:oB L+oB N<=1000000000000) (hB:B<=u.heap.size)
  (h:∀ a c w',K7 T u B vR (L ++ N) (aG a (L ++ N).length c) w'->CD Z1 ops (ApT u vR oF) mu K (i+1) r ((d,aG a (L ++ N).length c) :: env) w'):CD Z1 ops (ApT u vR oF) mu K i (o :: r) env w:=by
 obtain⟨v',w',hr,h1,h2,h3⟩:=(jb.later hw (A5 _)).run_append hT o.type ad c N hn hl (AA hB (XE hw));have ja:=K7.mades hw h1 h2 h3;obtain⟨a,c',rfl,_,_⟩:=ja.own.form;refine .wr _ w' hd hg hm ?_ ja.old (h a c' w' ja);unfold execOp;simp only[ho,resolve,invoke,builtin,Sem.run_bind,Sem.run_pure,Result.andThen_ok,List.map_toArray,Y4,List.map_nil,At,hs,hx,hr]
def CD.app1 (x:α)(hT:T.Ok)(hw:Ext u w)(ja:Af T u B vR L){s b d:Nat}(jd:o.dst=oT b)(je:guardE ops env o=oF)(jf:i∈mu)(jg:(execOp (At env) o).run Z1 w=.ok (.value (aG (oT ⟨w.heap.size,0,oS⟩) 1 1)) (w.alloc (.cells (T.enc x).toArray T.e)))
  (hd:o2.dst=oT d) (hg:o2.guard=oS) (hm:i+1∈mu) (ho:o2.op=.call { callee:=.builtin .append,args:=#[.tmp s,.tmp b],argTypes:=#[T.sl,T.sl] })
  (hs:lkE env s=vR) (jh:s≠b) (hl:oB L+[x].length<=1000000000000) (hB:B<=u.heap.size)
  (h:∀ e a c w',K7 T u B vR (L ++ [x]) (aG a (L ++ [x]).length c) w'->CD Z1 ops (ApT u vR oF) mu K (i+2) r ((d,aG a (L ++ [x]).length c) :: (b,e) :: env) w'):CD Z1 ops (ApT u vR oF) mu K i (o :: o2 :: r) env w:=by
 have jb:Ext w (w.alloc (.cells (T.enc x).toArray T.e)):=(Z2 _ _).alloc (A5 _) _;refine .wr _ _ jd je jf jg (Hm (Ext.trans hw jb)) (CD.app hT (Ext.trans hw jb) ja (s:=s) (x:=b) ⟨w.heap.size,0,oS⟩ 1 [x] hd (by unfold guardE;rw[hg]) hm ho ?_ (by simp only[lkE,if_pos];rfl) ?_ hl hB λa c w' jc=>h _ a c w' jc)
 · simp only[lkE,if_neg jh];exact hs
 ·rw[List.flatMap_singleton];exact Ai (Z4 _ _)
def CD.stS {P:Program}{Kp:Z0->Prop}{ty:X5}{p v:Operand}{ad:Zj}{a:Option Zj}{n c:Nat}{y:Z6}(hd:o.dst=oS)(hg:guardE ops env o=oF)(hm:i∈mu)(hl:K6 ops=oF)(ja:o.op=.store ty p v)(hp:At env p=aB (oT ad))(hv:At env v=aG a n c)
  (hf:w.frozen? ad=oH) (hc:w.cell? ad=oT y) (jb:(sizeOf ty).run P w=.ok 1 w) (hK:K env (w.setCell ad (aG a n c))):CD P ops Kp mu K i [o] env w:=by
 refine .stl _ hd hg hm hl ?_ hK;unfold execOp;simp only[ja,hp,hv];simp[go_sem,hf,hc,jb]
end
def Dc:CB Rl:=⟨31,88,5,56,aJ #[aA aM 0,aA aM 0,aI ⟨#[]⟩,aI ⟨#[]⟩,aA aM 0],λr=>[aA aM r.frm,aA aM r.dst,aI r.inp,aI r.out,aA aM r.cost]⟩
def Gg:Dc.Ok:=⟨Tryz.underlying31,by kernel_rfl,rfl,by decide,λ_=>rfl,λx u hu=>by
 have h:u=aA aM x.frm\/u=aA aM x.dst\/u=aI x.inp\/u=aI x.out\/u=aA aM x.cost:=by simpa[Dc] using hu
 rcases h with rfl | rfl | rfl | rfl | rfl <;> rfl,by decide⟩
def Af.ruls {w:Z0}{B:Nat}{a:Option Zj}{n c:Nat}{L:List Rl}(h:Af Dc w B (aG a n c) L):BC w a L/\n=oB L/\L.length<=c:=by
 obtain⟨a',c',he,hc,_⟩:=h.form;injection he with e1 e2 e3;refine⟨?_,e2,by omega⟩;rcases h.blk with⟨_,rfl⟩ | ⟨g,c2,ja,_,hg,_⟩
 · exact .inl rfl
 ·injection ja with f1 f2 f3;subst f1;refine .inr ⟨g,0,rfl,hg,λi hi=>?_⟩;have hc:∀ j,j<5->w.cell? ⟨g,i*5+j,oS⟩=(Dc.enc L[i])[j]?:=λj hj=>h.cell Gg hi (j:=j) hj;rw[ZS];exact⟨hc 0 (by decide),hc 1 (by decide),hc 2 (by decide),hc 3 (by decide),hc 4 (by decide)⟩
def JI {R:List Rl}{L:List Slt}{i m k:Nat}(hk:k<oB R) :
  Bh (R.take (k+1)) L i m=Bh (R.take k) L i m ++ (match letsC (L.drop i) (bts R[k].inp) with | none=>[] | some c=>if R[k].frm=(m:Int) then[raise R[k] c] else[]):=by
 unfold Bh Nu;rw[AR hk,List.filterMap_append,List.filter_append];congr 1;cases e:letsC (L.drop i) (bts R[k].inp) with
 | none=>simp[zH,e]
 | some c=>simp[zH,e,List.filter_cons,raise]
def K8 {R:List Rl}{L:List Slt}{i m:Nat}:(Bh R L i m).length<=oB R:=by
 unfold Bh Nu;exact AA (List.length_filter_le _ _) (List.length_filterMap_le _ _)
def slV (va:Nat->Option Zj)(vc:Nat->Nat)(F:Nat->List Rl)(m:Nat):Z6:=aG (va m) (F m).length (vc m)
def st8 (f:Nat->Z6):Array Z6:=#[f 0,f 1,f 2,f 3,f 4,f 5,f 6,f 7]
structure MZ (w:Z0)(B gS:Nat)(va:Nat->Option Zj)(vc:Nat->Nat)(F:Nat->List Rl):Prop where
 rep:w.heap[gS]? = some (.cells (st8 (slV va vc F)) 184 (0,0))
 own:∀ m,m<8->Af Dc w B (slV va vc F m) (F m)
 apart:∀ m m' q,m<8->m'<8->m≠m'->(slV va vc F m).ownBlock=some q->(slV va vc F m').ownBlock≠some q
 gS:gS<B
section
variable {w w':World} {B gS:Nat} {va:Nat->Option Addr} {vc:Nat->Nat} {F:Nat->List Rl}
def Ma (f:Nat->Z6){m:Nat}(h:m<8):(st8 f)[m]? = oT (f m):=by
 rcases(show m=0\/m=1\/m=2\/m=3\/m=4\/m=5\/m=6\/m=7 from by omega) with rfl | rfl | rfl | rfl | rfl | rfl | rfl | rfl <;> rfl
def UF (f:Nat->Z6){m:Nat}(h:m<8)(y:Z6):(st8 f).setIfInBounds m y=st8 λk=>if k=m then y else f k:=by
 rcases(show m=0\/m=1\/m=2\/m=3\/m=4\/m=5\/m=6\/m=7 from by omega) with rfl | rfl | rfl | rfl | rfl | rfl | rfl | rfl <;> rfl
def MZ.cell (h:MZ w B gS va vc F){m:Nat}(hm:m<8):w.cell? ⟨gS,m,oS⟩=oT (slV va vc F m):=by
 rw[Z3 w gS _ _ _ (0,0) h.rep,Ma _ hm]
def MZ.ext (h:MZ w B gS va vc F)(hx:Ext w w'):MZ w' B gS va vc F :=
 ⟨(Z7 hx gS (A7.1 h.rep).1).trans h.rep,λm hm=>(h.own m hm).later hx (A5 _),h.apart,h.gS⟩
def GN {α:Type}(f:Nat->α)(m:Nat)(y:α):Nat->α:=λk=>if k=m then y else f k
def Mb {m k:Nat}{ya:Option Zj}{yc:Nat}{L2:List Rl}:slV (GN va m ya) (GN vc m yc) (GN F m L2) k=if k=m then aG ya L2.length yc else slV va vc F k:=by
 unfold slV GN;by_cases h:k=m <;> simp[h]
def MZ.put {W0 W:Z0}{m:Nat}{ya:Option Zj}{yc:Nat}{L2:List Rl}(h:MZ W0 B gS va vc F)(hm:m<8)(hB:B<=W0.heap.size)(hp:K7 Dc W0 B (slV va vc F m) L2 (aG ya L2.length yc) W) :
  MZ (W.setCell ⟨gS,m,oS⟩ (aG ya L2.length yc)) B gS (GN va m ya) (GN vc m yc) (GN F m L2):=by
 have je:=h.gS;have jd:W.heap[gS]? = oT (.cells (st8 (slV va vc F)) 184 (0,0)):=(hp.block gS (by omega) λe=>by have:=(h.own m hm).ge _ e;omega).trans h.rep;have jc:∀ q,q≠gS->(W.setCell ⟨gS,m,oS⟩ (aG ya L2.length yc)).heap[q]? = W.heap[q]?:=λq hq=>Zc _ _ _ _ hq;refine⟨?_,λk hk=>?_,λk k' q hk ja jb hq=>?_,je⟩
 ·rw[heap_setCell_same W gS m _ _ _ jd,UF _ hm];congr 3;funext k;exact Mb.symm
 ·rw[Mb];by_cases e:k=m
  ·rw[if_pos e];have:GN F m L2 k=L2:=if_pos e;rw[this];exact hp.own.keep λg hg=>jc g (by have:=hp.own.ge _ hg;omega)
  ·rw[if_neg e];have:GN F m L2 k=F k:=if_neg e;rw[this];refine(h.own k hk).keep λg hg=>?_;have hge:=(h.own k hk).ge _ hg;rw[jc g (by omega)];exact hp.block g ((h.own k hk).lt _ hg) λe2=>h.apart k m g hk hm e hg e2
 ·rw[Mb]at hq ⊢;by_cases e:k=m
  ·rw[if_pos e]at hq;have e':¬ k'=m:=λe2=>jb (e.trans e2.symm);rw[if_neg e'];rcases hp.loc with h1 | ⟨q2,h1,h2⟩
   · rw[h1]at hq;exact h.apart m k' q hm ja (λe2=>e' e2.symm) hq
   ·rw[h1]at hq;injection hq with hq;intro e3;have:=(h.own k' ja).lt _ e3;omega
  ·rw[if_neg e]at hq;by_cases e':k'=m
   ·rw[if_pos e'];intro e3;rcases hp.loc with h1 | ⟨q2,h1,h2⟩
    · rw[h1]at e3;exact h.apart k m q hk hm e hq e3
    ·rw[h1]at e3;injection e3 with e3;have:=(h.own k hk).lt _ hq;omega
   ·rw[if_neg e'];exact h.apart k k' q hk ja jb hq
end
def VW (R:List Rl)(L:List Slt)(i:Nat)(e:Ending)(w':Z0):Prop:=∃ va vc,e=aP (.agg (st8 (slV va vc (Bh R L i))))/\∀ m,m<8->BC w' (va m) (Bh R L i m)
def Sg {R:List Rl}{L:List Slt}{i k:Nat}(hk:k<oB R)(h:letsC (L.drop i) (bts R[k].inp)=oS):(λm=>Bh (R.take (k+1)) L i m)=λm=>Bh (R.take k) L i m:=by
 funext m;rw[JI hk,h];simp
def R9 {R:List Rl}{L:List Slt}{i k m0 c:Nat}{x:Rl}(hk:k<oB R)(h:letsC (L.drop i) (bts R[k].inp)=oT c)(hm:R[k].frm=(m0:Int))(hx:x=raise R[k] c) :
  (λm=>Bh (R.take (k+1)) L i m)=GN (λm=>Bh (R.take k) L i m) m0 (Bh (R.take k) L i m0 ++ [x]):=by
 funext m;rw[JI hk,h,hx];unfold GN;by_cases e:m=m0
 · subst e;simp[hm]
 ·have:¬ (R[k].frm=(m:Int)):=by rw[hm];omega
  simp[this,e]
def Aq {w:Z0}{g:Nat}{a b e:Int}{c d:ByteArray}{t:X5}(h:w.heap[g]? = oT (aK #[aA aM a,aA aM b,aI c,aI d,aA aM e] t (0,0))) :
  w.cell? ⟨g,0,oS⟩=oT (aA aM a)/\w.cell? ⟨g,1,oS⟩=oT (aA aM b)/\w.cell? ⟨g,2,oS⟩=oT (aI c)/\w.cell? ⟨g,3,oS⟩=oT (aI d)/\w.cell? ⟨g,4,oS⟩=oT (aA aM e):=by
 refine⟨?_,?_,?_,?_,?_⟩ <;> (rw[Z3 w g _ _ _ (0,0) h];rfl)
section
variable {w w':World} {gx:Nat} {acc:Int} {aR:Option Addr} {nR cR:Nat} {aT:Option Addr} {nT cT:Nat} {aL:Option Addr} {nL cL:Nat} {gm:Nat->Nat}
def steps_any (R:List Rl)(L:List Slt)(C i:Nat)(hx:SX w gx acc aR nR cR aT nT cT aL nL cL gm)(hR:BC w aR R)(j5:nR=oB R)(hRl:nR<=1000)(hF:Ej R)(hL:CI w aL L)(hn:nL=oB L)(j7:nL<=1000000)(hi:i<=oB L)(hB:By C L)(hC:C<=1000000) :
  Zu Z1 107 #[aB (oT ⟨gx,0,oS⟩),aA aM (i:Int)] w λe w'=>VW R L i e w'/\Below w.heap.size w w':=by
 subst hn j5;obtain⟨HX,HR,HL,HB,HF⟩:=oE hx hR hL hB hF;have j4:=hx.lt;obtain⟨c0,c1,c2,c3⟩:=hx.cells;clear hx hR hL hB hF c0 c2 c3
 go_enter Tryz.func107,Tryz.ntmps107
 go_wp2
 go_loopw [15] (λq wr=>∃ k va vc,k<=oB R/\q=aA aM ((k:Nat):Int)/\MZ wr (w.heap.size+2) (w.heap.size+1) va vc (λm=>Bh (R.take k) L i m)/\Below (w.heap.size+1) (w.alloc (aK #[aG oS 0 0,aG oS 0 0,aG oS 0 0,aG oS 0 0,aG oS 0 0,aG oS 0 0,aG oS 0 0,aG oS 0 0] 184)) wr) (λq _=>oB R - (intOf q).toNat)
 case atStart =>
  refine⟨0,λ_=>oS,λ_=>0,Ze _,rfl,⟨?_,λm hm=>Af.nil _ _ _,λm m' q _ _ _ h=>(by cases h),Y6 _⟩,(Z2 _ _).alloc (by simp) _⟩;have h:=Z4 (w.alloc (aK #[aG oS 0 0,aG oS 0 0,aG oS 0 0,aG oS 0 0,aG oS 0 0,aG oS 0 0,aG oS 0 0,aG oS 0 0] 184)) (aK #[aG oS 0 0,aG oS 0 0,aG oS 0 0,aG oS 0 0,aG oS 0 0,aG oS 0 0,aG oS 0 0,aG oS 0 0] 184);rw[A8]at h;exact h
 case round
       =>
  obtain⟨k,va,vc,hk,rfl,jH,jE⟩:=hrel;have jm:=A0 jH;have jx:=A0 jE;have hz:w.heap.size+1<wr.heap.size:=(A7.1 jH.rep).1;have hW:=((Z2 w.heap.size w).alloc (A5 _) (aK #[aG oS 0 0,aG oS 0 0,aG oS 0 0,aG oS 0 0,aG oS 0 0,aG oS 0 0,aG oS 0 0,aG oS 0 0] 184)).trans (jE.mono (za _));have HW:=A0 hW;clear jH jE hW;by_cases jp:k<oB R
  ·obtain
       ⟨b1,o1,ha1,hb1,r0,r1,r2,r3,r4⟩:=(BC.later HR HW (A5 _)).at jp
   have hi1:=Bb aR b1 o1 R.length cR k ha1 jp;have jF:=Bd.1 (HF _ (AI jp));have jO:=A0 (Sg (L:=L) (i:=i) jp);have jo:=A0 (λm0 c x=>R9 (L:=L) (i:=i) (m0:=m0) (c:=c) (x:=x) jp);obtain⟨r,hr⟩:∃ r,R[k]=r:=⟨_,rfl⟩
   rw[hr]at r0 r1 r2 r3 r4 jF jO jo;obtain⟨frm,dst,inp,out,cost⟩:=r;simp only at r0 r1 r2 r3 r4 jF;obtain⟨m0,rfl⟩:∃ m0:Nat,frm=(m0:Int):=⟨frm.toNat,by omega⟩
   obtain⟨hf0,hf1,hf2,hf3,j3,hf5,hf6⟩:=jF;have jq:m0<8:=by omega
   have jg:Hid (Below wr.heap.size wr (wr.alloc (aK #[aA aM (m0:Int),aA aM dst,aI inp,aI out,aA aM cost] 88))):=(Z2 _ _).alloc (A5 _) _;obtain⟨w4,jr⟩:∃ w4,wr.alloc (aK #[aA aM (m0:Int),aA aM dst,aI inp,aI out,aA aM cost] 88)=w4:=⟨_,rfl⟩
   have jP:Hid (w4.heap[wr.heap.size]? = oT (aK #[aA aM (m0:Int),aA aM dst,aI inp,aI out,aA aM cost] 88 (0,0))):=by
    show _=_;rw[<- jr];exact Z4 _ _
   have j1:Hid (w4.heap.size=wr.heap.size+1):=by
    show _=_;rw[<- jr];simp
   have c1r:=(HW.cell (p:=⟨gx,1,oS⟩) j4).trans c1;rw[jr]at jg;obtain⟨d0,d1,d2,d3,d4⟩:=Aq jP;clear ha1 hr;obtain⟨lc,jW⟩:∃ lc,letsC (L.drop i) (bts inp)=lc:=⟨_,rfl⟩
   have js:=A0 jW;clear jW;have jU:=HX.kp (Kc.of (HW.trans (jg.mono HW.size)) (A5 _));have jT:=HL.later (HW.trans (jg.mono HW.size)) (A5 _);have jj:=letters_any (w:=w4) L C i inp jU jT rfl j7 hi (by omega) HB hC;rw[js.out]at jj;have jl:=A0 jj;clear jU jT jj;cases lc with
   | none =>
    have HN:=A0 (jO js)
    go_wp2_with fail
    refine jl.mono ?_;rintro e w5 ⟨he,hb⟩;obtain rfl:e=_:=he;have jk:=A0 (jg.trans (hb.mono jg.size));clear hb jr
    go_wp2_with fail
    go_roundw
    case rel=>exact⟨k+1,va,vc,by omega,by go_num,by rw[HN.out];exact jm.ext jk,jx.trans (jk.mono (by omega))⟩
    case measure=>simp[intOf];omega
   | some
       c
        =>
    have j2:=letsC_le (HB.drop i) js;rw[B5]at j2;have hcC2:inp.size*C<=4*1000000:=Y1 j3 hC
    go_wp2_with fail
    refine jl.mono ?_;rintro e w5 ⟨he,hb⟩;obtain rfl:e=_:=he;have jk:=A0 hb;clear hb jr;have jz:Hid (w5.heap[wr.heap.size]? = oT (aK #[aA aM (m0:Int),aA aM dst,aI inp,aI out,aA aM cost] 88 (0,0))):=by
     show _=_;rw[jk.out.block _ (by have:=j1.out;omega)];exact jP
    obtain⟨d0',d1',d2',d3',d4'⟩:=Aq jz;have jd:w5.frozen? ⟨wr.heap.size,4,oS⟩=oH:=by simp[Zn,jz.out]
    clear d0 d1 d2 d3 d4
    go_upto_region 8 with fail
    obtain⟨w6,jv⟩:∃ w6,w5.setCell ⟨wr.heap.size,4,oS⟩ (aA aM (cost+(c:Int)))=w6:=⟨_,rfl⟩
    rw[jv];have jQ:Hid (w6.heap[wr.heap.size]? = oT (aK #[aA aM (m0:Int),aA aM dst,aI inp,aI out,aA aM (cost+(c:Int))] 88 (0,0))):=by
     show _=_;rw[<- jv,heap_setCell_same w5 wr.heap.size 4 _ _ _ jz.out];rfl
    have jw:Hid (Below wr.heap.size wr w6):=by
     have h:=(jg.trans (jk.mono jg.size)).setCell (show wr.heap.size<=(⟨wr.heap.size,4,oS⟩:Zj).block from A5 _) (aA aM (cost+(c:Int)));rw[jv]at h;exact h
    have jf:=A0 (jm.ext jw);have jn:Hid (w.heap.size+2<=w6.heap.size):=by show _<=_;have:=jw.size;omega
    have jS:=A0 (jo m0 c ⟨(m0:Int),dst,inp,out,cost+(c:Int)⟩ js rfl rfl);have jN:Hid ((Bh (R.take k) L i m0).length<=1000):=by
     show _<=_;have:=K8 (R:=R.take k) (L:=L) (i:=i) (m:=m0);rw[AO]at this;omega
    clear jv d0' d1' d2' d3' d4' jd;obtain⟨Fm,jt⟩:∃ Fm,Bh (R.take k) L i m0=Fm:=⟨_,rfl⟩
    rw[jt]at jS jN;have jc:=jf.own m0 jq;have jb:=jf.cell jq;simp only[slV]at jc jb;rw[jt]at jc jb;obtain⟨am,jC⟩:∃ am,va m0=am:=⟨_,rfl⟩
    obtain⟨cm,ju⟩:∃ cm,vc m0=cm:=⟨_,rfl⟩
    rw[jC,ju]at jc jb;obtain⟨jM,jJ,jL,je,jy⟩:=oE jt jC ju jc jb;have hm0I:(0:Int)<=(m0:Int):=by omega
    have jY:Hid ((aG am Fm.length cm:Z6).ownBlock≠oT wr.heap.size):=λe=>by
     have h8:=(jm.own m0 jq).lt wr.heap.size;simp only[slV]at h8;rw[jM.out,jJ.out,jL.out]at h8;exact absurd (h8 e) (Nat.lt_irrefl _)
    clear jt jC ju jc jb;refine wp_region_sd (ApT (w6) (aG am Fm.length cm) oF) 45 [(7,aB (oT ⟨wr.heap.size,0,oS⟩)),(5,aB (oT ⟨w.heap.size+1,0,oS⟩))] [7,8,10] (Zd 33 10) [7,5] (by kernel_rfl) rfl ⟨rfl,rfl,trivial⟩ rfl (λ_ h=>Hm h) λW hS=>?_
    repeat
        first
     | (
       refine CD.app1 (⟨(m0:Int),dst,inp,out,cost+(c:Int)⟩:Rl) Gg hS (je) rfl rfl (by decide) ?_ rfl rfl (by decide) rfl rfl (by decide) (by have:=jN.out;simp only[AE];omega) (jn) λea ya yc W jh=>?_
       · simp[go_sem,At,lkE,Dc, *])
     | (
       apply CD.op rfl rfl
       ·intro W jB;obtain⟨d0,d1,d2,d3,d4⟩:=Aq ((ApT.old jB wr.heap.size (A7.1 jQ).1 jY).trans jQ);have ju:W.cell? ⟨w.heap.size+1,m0,oS⟩=oT (aG am Fm.length cm):=by
         rw[<- jy.out];exact zb (ApT.old jB (w.heap.size+1) jn λe=>by have:=je.ge _ e;omega)
        clear jB;simp[go_sem,At,lkE, *] <;> rfl)
    have ji:=(jh.block (w.heap.size+1) (by have:=jn.out;omega) λe=>by have:=je.ge _ e;omega).trans jf.rep;refine CD.stS rfl rfl (by decide) (by kernel_rfl) rfl rfl rfl (by simp[Zn,ji]) (by rw[Z3 W _ _ _ _ (0,0) ji,Ma _ jq]) (by kernel_rfl) ?_;clear ji;intro x hx;obtain⟨wz,jI⟩:∃ wz,W.setCell ⟨w.heap.size+1,m0,oS⟩ (aG ya (Fm ++ [(⟨(m0:Int),dst,inp,out,cost+(c:Int)⟩:Rl)]).length yc)=wz:=⟨_,rfl⟩
    rw[jI];have jK:=A0 jh;have jR:=A0 jI;clear jh jI hS;simp only[Zd,Zp,ZE,Z5,Za,Z9];clear hx;have jG:=jf.put (m:=m0) (ya:=ya) (yc:=yc) (L2:=Fm ++ [(⟨(m0:Int),dst,inp,out,cost+(c:Int)⟩:Rl)]) jq jn (by
     have h:=jK.out;simp only[slV];rw[jM.out,jJ.out,jL.out];exact h)
    rw[jR.out,<- jS.out]at jG;have jV:Below (w.heap.size+1) w6 wz:=by
     rw[<- jR.out];exact(jK.below (C:=w.heap.size+1) (by have:=jn.out;omega) λq hq=>by have:=je.ge _ hq;omega).setCell (show w.heap.size+1<=(⟨w.heap.size+1,m0,oS⟩:Zj).block from A5 _) _
    have j0:=A0 jG;have jX:=A0 jV;clear jG jV
    go_wp2_with fail
    go_roundw
    case rel=>exact⟨k+1,_,_,by omega,by go_num,j0,(jx.trans (jw.mono (by omega))).trans jX⟩
    case measure=>simp[intOf];omega
  ·have ja:∀ m,m<8->wr.cell? ⟨w.heap.size+1,m,oS⟩=oT (slV va vc (λm=>Bh (R.take k) L i m) m):=λm hm=>jm.cell hm;have e0:=ja 0 (by decide);have e1:=ja 1 (by decide);have e2:=ja 2 (by decide);have e3:=ja 3 (by decide);have e4:=ja 4 (by decide);have e5:=ja 5 (by decide);have e6:=ja 6 (by decide);have e7:=ja 7 (by decide);have jD:=(jx.block w.heap.size (Y6 _)).trans (Z4 w _);have hn:∀ m,wr.cell? ⟨w.heap.size,m,oS⟩=(#[aG oS 0 0,aG oS 0 0,aG oS 0 0,aG oS 0 0,aG oS 0 0,aG oS 0 0,aG oS 0 0,aG oS 0 0]:Array Z6)[m]?:=λm=>Z3 wr w.heap.size m _ _ (0,0) jD;have n0:=hn 0;have n1:=hn 1;have n2:=hn 2;have n3:=hn 3;have n4:=hn 4;have n5:=hn 5;have n6:=hn 6;have n7:=hn 7;have jd:∀ m,wr.frozen? ⟨w.heap.size,m,oS⟩=oH:=λm=>by simp[Zn,jD]
   have f0:=jd 0;have f1:=jd 1;have f2:=jd 2;have f3:=jd 3;have f4:=jd 4;have f5:=jd 5;have f6:=jd 6;have f7:=jd 7;have jA:R.take k=R:=AH (by omega);simp only[slV,jA]at e0 e1 e2 e3 e4 e5 e6 e7;simp only[List.getElem?_toArray,List.getElem?_cons_zero,List.getElem?_cons_succ]at n0 n1 n2 n3 n4 n5 n6 n7;have jZ:=A0 jA;clear ja hn jd jD jA;go_wp2;refine bodyPost_ret (v:=.agg (st8 (slV va vc (Bh R L i)))) (by simp[results,Tryz.results107,go_sem,n0,n1,n2,n3,n4,n5,n6,n7,st8,slV]) rfl ⟨⟨va,vc,rfl,λm hm=>?_⟩,?_⟩
   ·have ho:=jm.own m hm;simp only[slV]at ho;rw[jZ.out]at ho;have j8:=ho.ge;refine(Af.ruls (ho.keep λg hg=>?_)).1;have hg2:=j8 g hg;have j6:∀ (W:Z0) (m:Nat) (u:Z6),(W.setCell ⟨w.heap.size,m,oS⟩ u).heap[g]? = W.heap[g]?:=λW m u=>Zc _ _ _ _ (by show g≠w.heap.size;omega);simp only[j6]
   ·have hs:∀ (W:Z0) (m:Nat) (u:Z6),Below w.heap.size w W->Below w.heap.size w (W.setCell ⟨w.heap.size,m,oS⟩ u):=λW m u h=>h.setCell (show w.heap.size<=(⟨w.heap.size,m,oS⟩:Zj).block from A5 _) _;exact hs _ _ _ (hs _ _ _ (hs _ _ _ (hs _ _ _ (hs _ _ _ (hs _ _ _ (hs _ _ _ (hs _ _ _ HW)))))))
end
def Hn:CB Stt:=⟨186,183,2,16,aJ #[aA aM 0,aA aM 0],λt=>[aA aM (t.1:Int),aA aM (t.2:Int)]⟩
def Gh:Hn.Ok:=⟨Tryz.underlying186,by kernel_rfl,rfl,by decide,λ_=>rfl,λx u hu=>by
 have h:u=aA aM (x.1:Int)\/u=aA aM (x.2:Int):=by simpa[Hn] using hu
 rcases h with rfl | rfl <;> rfl,by decide⟩
def UG (a b c d:Nat)(w:Z0) :
  (Go.binOp .eql 183 (aJ #[aA aM (a:Int),aA aM (b:Int)]) (aJ #[aA aM (c:Int),aA aM (d:Int)])).run Z1 w=.ok (aH (decide ((a,b)=(c,d)))) w:=by
 simp only[run_eql_struct];by_cases h1:a=c <;> by_cases h2:b=d <;> simp[go_sem,h1,h2] <;> omega
def Af.stt {w:Z0}{B:Nat}{a:Option Zj}{n c:Nat}{L:List Stt}(h:Af Hn w B (aG a n c) L){k:Nat}(hk:k<oB L) :
  ∃ b,a=oT ⟨b,0,oS⟩/\B<=b/\b<w.heap.size/\w.cell? ⟨b,k*2,oS⟩=oT (aA aM (L[k].1:Int))/\w.cell? ⟨b,k*2+1,oS⟩=oT (aA aM (L[k].2:Int)):=by
 rcases h.blk with⟨_,rfl⟩ | ⟨g,c2,ja,hB,hg,_⟩
 · simp at hk
 ·injection ja with f1 f2 f3;subst f1;refine⟨g,rfl,hB,hg,?_,?_⟩
  · exact h.cell Gh hk (j:=0) (by decide)
  · exact h.cell Gh hk (j:=1) (by decide)
def UH (b len cap k:Nat)(hk:k<len)(w:Z0) :
  (ZK 186 (aG (oT ⟨b,0,oS⟩) len cap) (aA aM (k:Int))).run Z1 w=.ok (aB (oT ⟨b,k*2,oS⟩)) w:=by
 have h0:(0:Int)<=(k:Int):=by omega
 have h1:(k:Int)<(len:Int):=by omega
 simp[go_sem,h0,h1]
structure VX (wS:Z0)(B:Nat)(gm:Nat->Nat)(i:Nat)(M:Nat->Ent)(w:Z0):Prop where
 maps:∀ j,i<=j->j<i+5->MpG Bp w (gm (j % 5)) (M j)
 kp:Kc wS w
 bl:Below B wS w
structure VY (B:Nat)(gm:Nat->Nat):Prop where
 apart:∀ a b,a<5->b<5->gm a=gm b->a=b
 ge:∀ a,a<5->B<=gm a
section
variable {wS w w' w'':World} {B i:Nat} {gm:Nat->Nat} {M:Nat->Ent}
def VX.refl (h:∀ j,i<=j->j<i+5->MpG Bp w (gm (j % 5)) (M j)):VX w B gm i M w:=⟨h,Kc.refl _,Z2 _ _⟩
def VX.ext (h:VX wS B gm i M w)(hx:Ext w w')(hB:B<=wS.heap.size):VX wS B gm i M w' :=
 ⟨λj h1 h2=>(h.maps j h1 h2).kept (Z7 hx _ (h.maps j h1 h2).lt),h.kp.trans (Kc.of hx (A5 _)),h.bl.trans (ZT hx (AA hB h.kp.size))⟩
def MpG.not_row {α β:Type}[DecidableEq α]{T:Gl α}{T2:CB β}{g C:Nat}{E:List (α × Nat)}{v:Z6}{L:List β}(h:MpG T w g E)(ho:Af T2 w C v L):v.ownBlock≠oT g:=λe=>by
 obtain⟨es,c,hm⟩:=h.obj;rcases ho.2 with⟨rfl,_⟩ | ⟨g',cap,cur,rfl,h1,h2,h3⟩
 · cases e
 ·injection e with e;have e2:g'=g:=e;rw[e2,hm]at h2;cases h2
def VX.grown {β:Type}{T2:CB β}{v:Z6}{L:List β}(h:VX wS B gm i M w)(ho:Af T2 w wS.heap.size v L)(hg:w.grownBy w' v.ownBlock)(hB:B<=wS.heap.size):VX wS B gm i M w' :=
 ⟨
  λj h1 h2=>(h.maps j h1 h2).kept (hg.block _ (h.maps j h1 h2).lt λe=>(h.maps j h1 h2).not_row ho e.symm),
  ⟨AA h.kp.size hg.size,λq cs t f hq=>(hg.block q (A9 (A7.1 hq).1 h.kp.size) λe=>by
   have:=ho.ge q e.symm;have:=(A7.1 hq).1;omega).trans (h.kp.block q cs t f hq)⟩,
  h.bl.grown hg (AA hB h.kp.size) λq hq=>AA hB (ho.ge q hq)⟩
def VX.put {j:Nat}{t:Stt}{c:Nat}(h:VX wS B gm i M w)(hG:VY B gm)(h1:i<=j)(h2:j<i+5)(hp:F9 w w' (gm (j % 5)) t (M j) c)(hB:B<=wS.heap.size):VX wS B gm i (ED M j t c) w' :=
 ⟨
  λk h3 h4=>by
  unfold ED;by_cases e:k=j
  · rw[if_pos e,e];exact hp.map
  ·rw[if_neg e];refine(h.maps k h3 h4).kept (hp.gr _ (h.maps k h3 h4).lt λe2=>e ?_);have:=hG.apart _ _ (Nat.mod_lt _ (by decide)) (Nat.mod_lt _ (by decide)) e2;omega,
  h.kp.trans (hp.kp (h.maps j h1 h2)),h.bl.trans (hp.below (hG.ge _ (Nat.mod_lt _ (by decide))) (AA hB h.kp.size))⟩
def Af.put_keep {β:Type}{T2:CB β}{C:Nat}{v:Z6}{L:List β}{g:Nat}{t:Stt}{E:Ent}{c:Nat}(ho:Af T2 w C v L)(hm:MpG Bp w g E)(hp:F9 w w' g t E c):Af T2 w' C v L :=
 ho.keep λq hq=>hp.gr q (ho.lt q hq) λe=>hm.not_row ho (by rw[hq,e])
end
section
variable {R:List Rl} {L:List Slt} {fol:Nat->List UInt8->Option Nat} {i N B D n:Nat} {q:List Stt} {M:Nat->Ent} {t:Stt} {ct:Nat}
def Ny {C j:Nat}{m c:Nat}{n':Nat}(hb:Bnd N i B D M)(hj:i<=j)(h1:m<8)(h2:n'<N)(hc:c<=C)(ja:∀ x,look (M j) (m,n')=oT x->c<x) :
  pot N C (ED M j (m,n') c i)+(if j=i then q ++ [(m,n')] else q).length<=pot N C (M i)+oB q:=by
 unfold ED;by_cases e:j=i
 ·subst e;rw[if_pos rfl,if_pos rfl];have:=UD (C:=C) (hb.keys j) (hb.rng j) (t:=(m,n')) (c:=c) h1 h2 hc ja;simp only[AD,AE];omega
 ·rw[if_neg λe2=>e e2.symm,if_neg e];exact A5 _
def Bnd.len (hb:Bnd N i B D M)(j:Nat):(M j).length<=8*N:=ID (hb.keys j) (hb.rng j)
end
open Go.RowKit Go.WideShapes Go.Maps Go.Sort Go.Shelf Fl
def In:CB Nat:=⟨36,3,1,8,aA aM 0,λn=>[aA aM (n:Int)]⟩
def RA:In.Ok:=⟨Y5,by kernel_rfl,rfl,by decide,λ_=>rfl,λx u hu=>by obtain rfl:u=aA aM (x:Int):=(AF.1 hu);rfl,by decide⟩
def Af.ints {w:Z0}{B:Nat}{a:Option Zj}{n c:Nat}{L:List Nat}(h:Af In w B (aG a n c) L){k:Nat}(hk:k<oB L) :
  ∃ b,a=oT ⟨b,0,oS⟩/\B<=b/\b<w.heap.size/\w.cell? ⟨b,k,oS⟩=oT (aA aM (L[k]:Int)):=by
 rcases h.blk with⟨_,rfl⟩ | ⟨g,c2,ja,hB,hg,_⟩
 · simp at hk
 ·injection ja with f1 f2 f3;subst f1;refine⟨g,rfl,hB,hg,?_⟩;have:=h.cell RA hk (j:=0) (by decide);simpa[In] using this
def idx_ints (b len cap k:Nat)(hk:k<len)(w:Z0) :
  (ZK 36 (aG (oT ⟨b,0,oS⟩) len cap) (aA aM (k:Int))).run Z1 w=.ok (aB (oT ⟨b,k,oS⟩)) w:=by
 have h0:(0:Int)<=(k:Int):=by omega
 have h1:(k:Int)<(len:Int):=by omega
 simp[go_sem,h0,h1]
def UI {D:DataW Unit}{E:List (Nat × Nat)}{w:Z0}{g:Nat}(h1:w.ownsMap Z1 Gn.kt (plainElem Z1 3) g E.length D)(h2:LA Gn D E) :
  (intKeys D).Nodup/\(∀ z∈intKeys D,∃ k:Nat,z=(k:Int))/\∀ k:Nat,(k:Int)∈intKeys D↔(look E k).isSome=oF:=by
 obtain⟨es,rfl,hp,hk⟩:=h1.entries Fi.keyed;have ja:∀ p∈es,∃ q∈E,p.1=.int .i64 (q.1:Int):=λp jb=>by
  obtain⟨q,hq,e⟩:=h2.all p.1 (List.any_eq_true.2 ⟨p,jb,WideAt.sameKey_self (hk p jb)⟩);exact⟨q,hq,e⟩
 refine⟨?_,λz hz=>?_,λk=>?_⟩
 ·show(es.map λp=>Go.intOf p.1).Nodup;unfold List.Nodup;rw[AV];refine XY (λ{a b} ha hb jc e=>jc ?_) hp;obtain⟨q,_,e1⟩:=ja a ha;obtain⟨r,_,e2⟩:=ja b hb;rw[e1,e2]at e ⊢;simp only[Go.intOf]at e;rw[e]
 ·obtain⟨p,jb,rfl⟩:=AJ.1 hz;obtain⟨q,_,e⟩:=ja p jb;exact⟨q.1,by rw[e];rfl⟩
 ·constructor
  ·intro hz;obtain⟨p,jb,e0⟩:=AJ.1 hz;obtain⟨q,hq,e⟩:=ja p jb;rw[e]at e0;have:q.1=k:=by simp only[Go.intOf]at e0;omega
   rw[<- this,Bj h2.keys (c:=q.2) hq];rfl
  ·intro hs;obtain⟨c,hc⟩:=XX.1 hs;have jd:=(h2.ok _ (CY hc)).1;have h3:=h2.has k jd;rw[hs]at h3;obtain⟨p,jb,e⟩:=List.any_eq_true.1 h3;refine AJ.2 ⟨p,jb,?_⟩;have e2:=WideAt.sameKey_eq e;rw[e2];rfl
def WV (E:List (Nat × Nat))(B:Nat)(e:Ending)(w':Z0):Prop:=∃ v ks,e=aP v/\Af In w' B v ks/\ks.Pairwise (·<·)/\∀ k,k∈ks↔(look E k).isSome=oF
def Mc (g:Nat)(w:Z0):Zu Z1 110 #[.map (oT g)] w λe w'=>e=aP (.func (.func 137) #[] #[aB (oT ⟨w.heap.size,0,oS⟩)])/\w'=w.alloc (aK #[.map (oT g)] 173) :=
 callsIn_wide.1 (AnyZI.keys_in Tryz.keysA xf 5 trivial rfl (oT g) w)
def RB (m:Nat):AnyZI.SortsIn Z1 Tryz.sortedA_ren xf m :=
 ⟨
  λblk off cap ss W hH ja jb=>callsIn_wide.2 (AnyM.slices_Sort_int Tryz.sortA blk off cap ss W hH ja jb),
  λp cap W=>callsIn_wide.2 (AnyM.slices_Sort_int_none Tryz.sortA p cap W)⟩
def sorted_any {E:List (Nat × Nat)}{g:Nat}{w:Z0}(h:MpG Gn w g E)(hl:oB E<=1000000) :
  Zu Z1 109 #[.func (.func 137) #[] #[aB (oT ⟨w.heap.size,0,oS⟩)]] (w.alloc (aK #[.map (oT g)] 173)) λe w'=>WV E w.heap.size e w'/\Below w.heap.size w w':=by
 obtain⟨D,h1,h2⟩:=h;have ji:=h2.size;have jl:=h1.lt;have jg:SeqGives xf 2 Z1 137 #[aB (oT ⟨w.heap.size,0,oS⟩)] encZ (λss=>ss.Perm (intKeys D)) (Maps.size D) (w.alloc (aK #[.map (oT g)] 173)) :=
  AnyZI.keys_gives (ρ:=Tryz.keysA_ren) { Tryz.keysA with } xf _ trivial rfl (by omega) w.heap.size g E.length D _ (by simp) (by simp) (by
   obtain⟨es,clock,hb,Ft,hs,hD⟩:=h1;exact⟨es,clock,(ZF _ _ g jl).trans hb,Ft,hs,hD⟩)
 have cS:=AnyZI.sorted_in Tryz.sortedA xf 5 trivial trivial trivial trivial rfl (by omega) (RB _) (enters_of Tryz.func136 (by kernel_rfl) rfl) 137 #[aB (oT ⟨w.heap.size,0,oS⟩)] trivial (enters_of Tryz.func137 (by kernel_rfl) rfl) _ _ (show Maps.size D<=maxLen by rw[ji];unfold maxLen;omega) (show Maps.size D*8<=_ by rw[ji];omega) _ jg;change CallsIn _ _ Z1 109 _ _ _ at cS;refine(callsIn_wide.1 cS).mono ?_;rintro e w' ⟨v,ss,rfl,hS,jb,_,hb⟩;obtain⟨jm,hz,hm⟩:=UI h1 h2;have jd:Below w.heap.size w w':=((Z2 _ w).alloc (A5 _) _).trans (hb.mono (by simp));have je:(ss.mergeSort λx y=>decide (x<=y)).Perm ss:=List.mergeSort_perm _ _;obtain⟨zs,jk⟩:∃ zs,(ss.mergeSort λx y=>decide (x<=y))=zs:=⟨_,rfl⟩
 have jc:zs.Pairwise (·<=·):=by
  rw[<- jk];have:=List.pairwise_mergeSort (le:=λx y:Int=>decide (x<=y)) (λa b c h1 h2=>by simp only[decide_eq_true_eq]at *;omega) (λa b=>by simp only[Y2,decide_eq_true_eq];omega) ss;exact this.imp λh=>of_decide_eq_true h
 rw[jk]at je jb;have jf:zs.Perm (intKeys D):=je.trans hS;have jn:zs.Nodup:=jf.nodup_iff.2 jm;have ja:∀ z∈zs,((z.toNat:Nat):Int)=z:=λz h9=>by
  obtain⟨k,rfl⟩:=hz z (jf.mem_iff.1 h9);omega
 refine⟨⟨v,zs.map Int.toNat,rfl,?_,?_,λk=>?_⟩,jd⟩
 ·have e1:(zs.map Int.toNat).flatMap In.enc=zs.map encZ:=by
   rw[List.flatMap_map];have:∀ l:List Int,(∀ z∈l,((z.toNat:Nat):Int)=z)->l.flatMap (λz=>In.enc z.toNat)=l.map encZ:=λl=>by
    induction l with
    | nil=>intro _;rfl
    | cons z r ih =>
     intro hl;rw[ZA,Y4,ih λy hy=>hl y (Zm _ hy)];show[X3 aM ((z.toNat:Nat):Int)] ++ _=_;rw[hl z AB];rfl
   exact this zs ja
  have e2:(zs.map Int.toNat).length=oB ss:=by rw[AQ];exact je.length_eq
  unfold Af;rw[e1,e2];exact ownsRow_base_a jb (by simp)
 ·rw[AV];refine XY (λ{a b} ha jd jh=>?_) (jc.and jn);have h3:=ja a ha;have h4:=ja b jd;have h5:=jh.1;have h6:=jh.2;omega
 ·rw[<- hm k,<- jf.mem_iff,AJ];constructor
  · rintro⟨z,jj,rfl⟩;rw[ja z jj];exact jj
  · intro h9;exact⟨_,h9,by simp⟩
end Go.Proofs.YtpljngaejaehcaaGreatDoor
