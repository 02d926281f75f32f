/- Texts that the claims share. -/
import Derived.Laws.AppendOwnNone
import Derived.Test.YtpljngaejaehcaaGreatDoorMF2
import Derived.Test.YtpljngaejaehcaaGreatDoorMF1
import Derived.Test.YtpljngaejaehcaaGreatDoorMD1
open Go.Value renaming int->aA,pointer->aB,slice->aG,bool->aH,string->aI,agg->aJ,bool->Y7,slice->Zk
open Go.Obj renaming cells->aK
open Go.IntKind renaming i64->aM,u8->aO
open Go.Ending renaming returned->aP
open Go.Act renaming eval->Zf
open Go renaming Addr->Zj,Calls->Zu,Oper->ZX,TypeId->X5,Value->Z6,World->Z0,cell_of_row->Z3,heap_alloc_new->Z4,undef->Z8
open Array renaming getElem?_modify->X6,length_toList->Xq
open Go.RowKit.Below renaming block->Z7,cell->Zx,heap_alloc->ZF,heap_setCell->Zc,mono->ZT,refl->Z2
open Bool renaming and_eq_false_iff->Xc,and_eq_true->Zg,false_and->zN,true_and->zC
open Go.ByteArray renaming toList_eq->ZQ
open Go.Calls renaming quiet_of_same->xn
open Int renaming eq_ofNat_of_zero_le->ZY
open Go.IntWalk renaming i64_in->Zq
open List renaming eq_nil_of_length_eq_zero->Zo,flatMap_cons->ZA,getElem?_map->XG,getElem?_set_ne->Xy,getElem_take->Xi,length_cons->Zs,length_nil->X7,length_set->ZD,map_cons->Y4,mem_iff_getElem->ZH,nil_append->ZP,not_mem_nil->ZN,range->Zt
open Nat renaming zero_add->ZS,zero_le->Ze
open Go.Oper renaming wp->xe
open Option renaming map_some->xh
open Go.Region renaming binds->Zl,wanted->Zv
open Go.Proofs.Tryz renaming ntmps51->xz,prog->Z1,underlying36->Y5
open Go.World renaming frozen?->Zn,setCell->zy,size_drew->Zi,size_setCell->Zb
open Go.World.ownsRow renaming cells->zZ
set_option maxHeartbeats 6400000
set_option maxRecDepth 100000
set_option linter.unusedVariables false
set_option linter.unusedSimpArgs false
set_option linter.defProp false
namespace Go.Proofs.YtpljngaejaehcaaGreatDoor.Fl
open Go.RowKit
def Hs (B n L:Nat):Bq (λv W=>Hr W B v n L):=λv w w' h hx=>by
 obtain⟨g,hv,hg,hr⟩:=h;exact⟨g,hv,hg,(Z7 hx g (A7.1 hr).1).trans hr⟩
def Iw (k:Nat)(c:Z6):Bq (λv W=>∃ g,v=aB (some ⟨g,k,none⟩)/\W.cell? ⟨g,k,none⟩=some c):=λv w w' h hx=>by
 obtain⟨g,hv,hr⟩:=h;exact⟨g,hv,(Zx (p:=⟨g,k,none⟩) hx (World.block_lt_of_cell? w _ hr)).trans hr⟩
def rdead_any (S:Sch)(a:Option Zj)(cap:Nat)(i:Nat)(w:Z0)(hR:BC w a S.rules)(hS:Fit S)(hi:i<S.rules.length) :
  Zu Z1 117 #[aJ #[aA aM S.modes,aA aO S.acc,aG a S.rules.length cap],aA aM (i:Int)] w λe w'=>e=aP (aH (KK (CT S) (B9 S) S.rules[i]))/\Below w.heap.size w w':=by
 have HR:=A0 hR;have HS:=A0 hS;obtain⟨m0,m1,h0,h1,hlen,jm⟩:=hS;obtain⟨f0,f1,t0,t1⟩:=jm i hi;clear jm;obtain⟨mm,jp⟩:=ZY (show 0<=S.modes by omega);have HM:Hid (S.modes.toNat=mm):=by show _=_;omega
 have f2:S.rules[i].frm<(mm:Int):=by omega
 have t2:S.rules[i].dst<(mm:Int):=by omega
 clear jp;obtain⟨b,o,ha,hb,q0,q1,q2,q3,q4⟩:=hR.at hi;have hidx:=Bb a b o S.rules.length cap i ha hi;have HA:=A0 ha;clear ha hR q2 q3 q4;obtain⟨o1,ji⟩:∃ o,(CT S).testBit S.rules[i].frm.toNat=o:=⟨_,rfl⟩
 obtain⟨o2,jj⟩:∃ o,(B9 S).testBit S.rules[i].dst.toNat=o:=⟨_,rfl⟩
 have HE:Hid (KK (CT S) (B9 S) S.rules[i]=(!o1 || !o2)):=by show _=_;rw[KK,ji,jj]
 have jl:=A0 ji;have jo:=A0 jj;clear ji jj;have hd0:(0:Int)<=(i:Int):=by omega
 have hiI:(i:Int)<(S.rules.length:Int):=by omega
 have jk:Hid (BC (w.alloc (aK #[aA aM S.modes,aA aO S.acc,aG a S.rules.length cap] 33)) a S.rules):=HR.out.later ((Z2 _ _).alloc (A5 _) _) (A5 _);cases o1 with
 | false
     =>
  go_enter Tryz.func117,Tryz.ntmps117
  go_wp2;refine CJ (by kernel_rfl) (Vs [λv _=>v=aJ #[aA aM S.modes,aA aO S.acc,aG a S.rules.length cap],λv W=>Hr W w.heap.size v mm (CT S),λv _=>v=aB (some ⟨w.heap.size,2,none⟩),λv _=>v=aG a S.rules.length cap,λv _=>v=aA aM (i:Int),λv _=>v=aB (some ⟨b,o+i*5,none⟩),λv _=>v=aB (some ⟨b,o+i*5,none⟩),λv _=>v=aA aM S.rules[i].frm,λv W=>∃ g,v=aB (some ⟨g,S.rules[i].frm.toNat,none⟩)/\W.cell? ⟨g,S.rules[i].frm.toNat,none⟩=some (aH false),λv _=>v=aH false,λv _=>v=aH true,λv _=>v=aH true,
   λv _=>v=Z8,λv _=>v=Z8,λv _=>v=Z8,λv _=>v=Z8,λv _=>v=Z8,λv _=>v=Z8,λv _=>v=Z8,λv _=>v=Z8,λv _=>v=Z8,λv _=>v=Z8,λv _=>v=Z8,λv _=>v=aH true,λv _=>v=aH true]) (λW=>Below (w.heap.size+1) (w.alloc (aK #[aA aM S.modes,aA aO S.acc,aG a S.rules.length cap] 33)) W) 29 (by kernel_rfl) rfl ?hVx ?hSx ?hS (ER ?hop) ?hfin
  case hop =>
   refine⟨?_,?_,?_,?_,?_,?_,?_,?_,?_,?_,?_,?_,?_,?_,?_,?_,?_,?_,?_,?_,?_,?_,?_,?_,?_,trivial⟩
   all_goals
    intro A W jd hS ja jb;obtain⟨hz,hc,hf⟩:=Aw hS rfl;simp only[A8]at hz;have h1:A.tmps.getD 1 Z8=aA aM (i:Int):=jb 1 (by kernel_rfl);have h2:A.tmps.getD 2 Z8=aB (some ⟨w.heap.size,0,none⟩):=jb 2 (by kernel_rfl);clear jb;simp[Ae,Zl,Vs]at ja
    first
     | exact Ib (j:=11) (d:=16) (b:=true) rfl (by kernel_rfl) (by first | exact ja | exact ja.2 | exact ja.2.2 | exact ja.2.2.2) rfl rfl
     | (refine Ag rfl (.inl ⟨_,W,?_,rfl,Ext.refl _⟩);clear jd;simp[go_sem,Zf, *];done)
     | skip
   ·refine Ag rfl (.inr ⟨120,#[aJ #[aA aM S.modes,aA aO S.acc,aG a S.rules.length cap],aA aM ((0:Nat):Int)],W,by(clear jd;simp[go_sem,Zf, *]),?_⟩);refine(rreached_any S a cap 0 _ (jk.out.later hS (by simp)) HS.out (by have:=HM.out;omega)).mono ?_;rintro e w1 ⟨v,rfl,⟨g2,hv,jn,jc⟩,hb⟩;exact⟨v,rfl,⟨g2,by rw[HM.out]at hv;exact hv,by omega,by rw[HM.out]at jc;exact jc⟩,hb⟩
   ·obtain⟨⟨g,hv,hg,je⟩,jg⟩:=ja;refine Ag rfl (.inl ⟨aB (some ⟨g,S.rules[i].frm.toNat,none⟩),W,?_,⟨g,rfl,by rw[BM je (by omega),jl.out]⟩,Ext.refl _⟩);clear jd;simp[go_sem,Zf, *]
   ·obtain⟨g,hv,hq⟩:=ja;refine Ag rfl (.inl ⟨aH false,W,?_,rfl,Ext.refl _⟩);clear jd;simp[go_sem,Zf, *]
  case hVx=>exact BB (by simp only[AX,ZN,or_false,forall_eq_or_imp,forall_eq];exact⟨Ab _,Hs _ _ _,Ab _,Ab _,Ab _,Ab _,Ab _,Ab _,Iw _ _,Ab _,Ab _,Ab _,Ab _,Ab _,Ab _,Ab _,Ab _,Ab _,Ab _,Ab _,Ab _,Ab _,Ab _,Ab _,Ab _⟩)
  case hSx=>exact λW W' h hx=>h.trans (ZT hx (by have:=h.size;simp only[A8]at this;omega))
  case hS=>go_grown
  case hfin =>
   intro A W jd jf hS hv jb;have e4:A.tmps.getD 4 Z8=aH true:=hv 24 (by decide);have hA:=NQ (n:=29) jd jf;generalize hx:(λi=>A.tmps.getD i Z8)=x at hA;have e4':x 4=aH true:=by rw[<- hx];exact e4
   rw[hA];clear hA hx e4 hv jb jd jf;simp only[Zt,List.range.loop,List.map];rw[e4'];have hB:Below w.heap.size w W:=((Z2 _ _).alloc (A5 _) _).trans (hS.mono (by omega));go_wp2;go_ret;exact⟨Ad HE.out.symm,hB⟩
 | true =>
  go_enter Tryz.func117,Tryz.ntmps117
  go_wp2;refine CJ (by kernel_rfl) (Vs [λv _=>v=aJ #[aA aM S.modes,aA aO S.acc,aG a S.rules.length cap],λv W=>Hr W w.heap.size v mm (CT S),λv _=>v=aB (some ⟨w.heap.size,2,none⟩),λv _=>v=aG a S.rules.length cap,λv _=>v=aA aM (i:Int),λv _=>v=aB (some ⟨b,o+i*5,none⟩),λv _=>v=aB (some ⟨b,o+i*5,none⟩),λv _=>v=aA aM S.rules[i].frm,λv W=>∃ g,v=aB (some ⟨g,S.rules[i].frm.toNat,none⟩)/\W.cell? ⟨g,S.rules[i].frm.toNat,none⟩=some (aH true),λv _=>v=aH true,λv _=>v=aH false,λv _=>v=aH false,
   λv _=>v=aJ #[aA aM S.modes,aA aO S.acc,aG a S.rules.length cap],λv W=>Hr W w.heap.size v mm (B9 S),λv _=>v=aB (some ⟨w.heap.size,2,none⟩),λv _=>v=aG a S.rules.length cap,λv _=>v=aA aM (i:Int),λv _=>v=aB (some ⟨b,o+i*5,none⟩),λv _=>v=aB (some ⟨b,o+i*5+1,none⟩),λv _=>v=aA aM S.rules[i].dst,λv W=>∃ g,v=aB (some ⟨g,S.rules[i].dst.toNat,none⟩)/\W.cell? ⟨g,S.rules[i].dst.toNat,none⟩=some (aH o2),λv _=>v=aH o2,λv _=>v=aH (!o2),λv _=>v=aH (!o2),λv _=>v=aH (!o2)]) (λW=>Below (w.heap.size+1) (w.alloc (aK #[aA aM S.modes,aA aO S.acc,aG a S.rules.length cap] 33)) W) 29 (by kernel_rfl) rfl ?hVx ?hSx ?hS (ER ?hop) ?hfin
  case hop =>
   refine⟨?_,?_,?_,?_,?_,?_,?_,?_,?_,?_,?_,?_,?_,?_,?_,?_,?_,?_,?_,?_,?_,?_,?_,?_,?_,trivial⟩
   all_goals
    intro A W jd hS ja jb;obtain⟨hz,hc,hf⟩:=Aw hS rfl;simp only[A8]at hz;have h1:A.tmps.getD 1 Z8=aA aM (i:Int):=jb 1 (by kernel_rfl);have h2:A.tmps.getD 2 Z8=aB (some ⟨w.heap.size,0,none⟩):=jb 2 (by kernel_rfl);clear jb;simp[Ae,Zl,Vs]at ja
    first
     | (refine Ag rfl (.inl ⟨_,W,?_,rfl,Ext.refl _⟩);clear jd;simp[go_sem,Zf, *];done)
     | (refine ES (j:=11) (d:=16) (b:=false) rfl (by kernel_rfl) (by first | exact ja | exact ja.2 | exact ja.2.2 | exact ja.2.2.2) rfl (.inl ⟨_,W,?_,rfl,Ext.refl _⟩);clear jd;simp[go_sem,Zf, *];done)
     | skip
   ·refine Ag rfl (.inr ⟨120,#[aJ #[aA aM S.modes,aA aO S.acc,aG a S.rules.length cap],aA aM ((0:Nat):Int)],W,by(clear jd;simp[go_sem,Zf, *]),?_⟩);refine(rreached_any S a cap 0 _ (jk.out.later hS (by simp)) HS.out (by have:=HM.out;omega)).mono ?_;rintro e w1 ⟨v,rfl,⟨g2,hv,jn,jc⟩,hb⟩;exact⟨v,rfl,⟨g2,by rw[HM.out]at hv;exact hv,by omega,by rw[HM.out]at jc;exact jc⟩,hb⟩
   ·obtain⟨⟨g,hv,hg,je⟩,jg⟩:=ja;refine Ag rfl (.inl ⟨aB (some ⟨g,S.rules[i].frm.toNat,none⟩),W,?_,⟨g,rfl,by rw[BM je (by omega),jl.out]⟩,Ext.refl _⟩);clear jd;simp[go_sem,Zf, *]
   ·obtain⟨g,hv,hq⟩:=ja;refine Ag rfl (.inl ⟨aH true,W,?_,rfl,Ext.refl _⟩);clear jd;simp[go_sem,Zf, *]
   ·refine ES (j:=11) (d:=16) (b:=false) rfl (by kernel_rfl) ja.2 rfl (.inr ⟨93,#[aJ #[aA aM S.modes,aA aO S.acc,aG a S.rules.length cap]],W,by(clear jd;simp[go_sem,Zf, *]),?_⟩);refine(rlive_any S a cap _ (jk.out.later hS (by simp)) HS.out).mono ?_;rintro e w1 ⟨v,rfl,⟨g2,hv,jn,jc⟩,hb⟩;exact⟨v,rfl,⟨g2,by rw[HM.out]at hv;exact hv,by omega,by rw[HM.out]at jc;exact jc⟩,hb⟩
   ·obtain⟨⟨g,hv,hg,je⟩,jg,jh⟩:=ja;refine ES (j:=11) (d:=16) (b:=false) rfl (by kernel_rfl) jh rfl (.inl ⟨aB (some ⟨g,S.rules[i].dst.toNat,none⟩),W,?_,⟨g,rfl,by rw[BM je (by omega),jo.out]⟩,Ext.refl _⟩);clear jd;simp[go_sem,Zf, *]
   ·obtain⟨⟨g,hv,hq⟩,jh⟩:=ja;refine ES (j:=11) (d:=16) (b:=false) rfl (by kernel_rfl) jh rfl (.inl ⟨aH o2,W,?_,rfl,Ext.refl _⟩);clear jd;simp[go_sem,Zf, *]
  case hVx=>exact BB (by simp only[AX,ZN,or_false,forall_eq_or_imp,forall_eq];exact⟨Ab _,Hs _ _ _,Ab _,Ab _,Ab _,Ab _,Ab _,Ab _,Iw _ _,Ab _,Ab _,Ab _,Ab _,Hs _ _ _,Ab _,Ab _,Ab _,Ab _,Ab _,Ab _,Iw _ _,Ab _,Ab _,Ab _,Ab _⟩)
  case hSx=>exact λW W' h hx=>h.trans (ZT hx (by have:=h.size;simp only[A8]at this;omega))
  case hS=>go_grown
  case hfin =>
   intro A W jd jf hS hv jb;have e4:A.tmps.getD 4 Z8=aH (!o2):=hv 24 (by decide);have hA:=NQ (n:=29) jd jf;generalize hx:(λi=>A.tmps.getD i Z8)=x at hA;have e4':x 4=aH (!o2):=by rw[<- hx];exact e4
   rw[hA];clear hA hx e4 hv jb jd jf;simp only[Zt,List.range.loop,List.map];rw[e4'];have hB:Below w.heap.size w W:=((Z2 _ _).alloc (A5 _) _).trans (hS.mono (by omega));go_wp2;go_ret;exact⟨Ad HE.out.symm,hB⟩
def RY (A B:Nat):Bool:=(Zt 8).any λm=>A.testBit m && !B.testBit m
def T9 {A B:Nat}(hA:A<256)(hB:B<256):bits BinOp.andNot IntKind.u8 (A:Int) (B:Int)=((A &&& (255 - B):Nat):Int):=by
 have hx:A &&& (255 - B)<2 ^ 8:=Nat.and_lt_two_pow _ (by omega);show IntKind.u8.wrap ((BitVec.ofInt 8 (A:Int) &&& ~~~ BitVec.ofInt 8 (B:Int)).toNat:Int)=_;rw[BitVec.toNat_and,BitVec.toNat_not,ofInt_u8 A hA,ofInt_u8 B hB,IntKind.wrap_u8'];have e:2 ^ 8 - 1 - B=255 - B:=by omega
 rw[e];omega
def OH {A B:Nat}(hB:B<256)(m:Nat):(A &&& (255 - B)).testBit m=(A.testBit m && (decide (m<8) && !B.testBit m)):=by
 rw[Nat.testBit_and,show 255 - B=2 ^ 8 - (B+1) by omega,Nat.testBit_two_pow_sub_succ (by omega)]
def RZ {A B:Nat}(hA:A<256)(hB:B<256):(bits BinOp.andNot IntKind.u8 (A:Int) (B:Int) != 0)=RY A B:=by
 rw[T9 hA hB,Bool.eq_iff_iff,bne_iff_ne,RY,List.any_eq_true];constructor
 ·intro h;have h':(A &&& (255 - B))≠0:=by omega
  obtain⟨m,hm⟩:=Nat.exists_testBit_of_ne_zero h';rw[OH hB]at hm;simp only[Zg,decide_eq_true_eq]at hm;exact⟨m,by simp[hm.2.1],by simp[hm.1,hm.2.2]⟩
 ·rintro⟨m,hm,h⟩ h0;have h1:(A &&& (255 - B))=0:=by omega
  have:=OH (A:=A) hB m;rw[h1,Nat.zero_testBit]at this;simp at hm;simp only[Zg]at h;rw[h.1,h.2]at this;simp[hm]at this
open Classical in
noncomputable def BO (S:Sch):Int :=
 if validB S=true then(if(B9 S).testBit 0=true then(if RY (CT S) (B9 S)=true then 40 else if OA S=[] then 0 else 41) else 50) else 20
def sound_any (S:Sch)(a:Option Zj)(cap:Nat)(w:Z0)(hR:BC w a S.rules)(h0:0<=S.acc)(h1:S.acc<=255)(hl:S.rules.length<=9223372036854775807)(jc:S.rules.length<=cap)(hS:validB S=true->Fit S) :
  Zu Z1 39 #[aJ #[aA aM S.modes,aA aO S.acc,aG a S.rules.length cap]] w λe w'=>e=aP (aA aM (BO S))/\Below w.heap.size w w':=by
 have HR:=A0 hR;have HS:=A0 hS;clear hR hS;by_cases hv:validB S=true
 ·have ja:=A0 (HS.out hv);have HV:=A0 hv;obtain⟨A,hA⟩:∃ A,CT S=A:=⟨_,rfl⟩
  obtain⟨B,jm⟩:∃ B,B9 S=B:=⟨_,rfl⟩
  have jp:A<256:=by rw[<- hA];exact JL ja.out
  have jf:B<256:=by rw[<- jm];exact KL ja.out
  have HA:=A0 hA;have jb:=A0 jm;clear hA jm;have jk:=Dj B 0;have hd:=RZ jp jf;obtain⟨o,ho⟩:∃ o,RY A B=o:=⟨_,rfl⟩
  rw[ho]at hd;have HO:=A0 ho;clear ho;by_cases jg:B.testBit 0=true
  ·have jd:=A0 jg;clear jg;by_cases jj:o=true
   ·subst jj;have HE:Hid (40=BO S):=by show _=_;rw[BO,if_pos hv,HA.out,jb.out,if_pos jd.out,if_pos HO.out]
    clear hv
    go_enter Tryz.func39,Tryz.ntmps39
    go_wp2_with (first | (go_at_call 63;refine(FN S a cap _ (HR.out.later (by first | exact hB | go_grown) (A5 _)) h0 h1 hl jc).mono ?_;rintro e w1 ⟨he,hb⟩;rw[HV.out]at he;subst he;obtain⟨hz,hc,hf⟩:=Ap hb (by first | (simp only[A8,Zb,Zi];rfl) | rfl);have hB:=Ac (B:=w.heap.size) (w:=w) (by go_grown) hb (A5 _);clear hb) | (go_at_call 64;refine(live_any S a cap _ (HR.out.later (by first | exact hB | go_grown) (A5 _)) ja.out).mono ?_;rintro e w2 ⟨he,hb⟩;rw[show GD S.eds S.modes.toNat S.acc.toNat=B from jb.out]at he;subst he;obtain⟨hz,hc,hf⟩:=Ap hb (by first | (simp only[A8,Zb,Zi];rfl) | rfl);have hB:=Ac (B:=w.heap.size) (w:=w) (by go_grown) hb (A5 _);clear hb) | (go_at_call 65;refine(jk _ jf (by omega) (by omega)).mono ?_;rintro e w4 ⟨he,rfl⟩;rw[show B.testBit (0:Int).toNat=_ from jd.out]at he;subst he))
    go_region_held3 (λw'=>w'.cell? ⟨w.heap.size,0,none⟩=some (aA aM S.modes)/\w'.cell? ⟨w.heap.size,1,none⟩=some (aA aO S.acc)/\w'.cell? ⟨w.heap.size,2,none⟩=some (aG a S.rules.length cap)) (first | (simp[go_sem, *];done) | go_keep) (first | (go_at_call 66;refine(reached_any S a cap _ (HR.out.later (by first | exact hB | go_grown) (A5 _)) ja.out).mono ?_;rintro e w3 ⟨he,hb⟩;rw[show Eb S.eds S.modes.toNat=A from HA.out]at he;subst he;obtain⟨hz,hc,hf⟩:=Ap hb (by first | (simp only[A8,Zb,Zi];rfl) | rfl);have hB:=Ac (B:=w.heap.size) (w:=w) (by go_grown) hb (A5 _);clear hb) | (go_at_call 64;refine(live_any S a cap _ (HR.out.later (by first | exact hB | go_grown) (A5 _)) ja.out).mono ?_;rintro e w2 ⟨he,hb⟩;rw[show GD S.eds S.modes.toNat S.acc.toNat=B from jb.out]at he;subst he;obtain⟨hz,hc,hf⟩:=Ap hb (by first | (simp only[A8,Zb,Zi];rfl) | rfl);have hB:=Ac (B:=w.heap.size) (w:=w) (by go_grown) hb (A5 _);clear hb))
    go_wp2;go_ret;exact⟨BH HE.out,hB⟩
   ·obtain rfl:o=false:=by simpa using jj
    by_cases je:OA S=[]
    ·have jl:=A0 je;have HE:Hid (0=BO S):=by show _=_;rw[BO,if_pos hv,HA.out,jb.out,if_pos jd.out,if_neg (by rw[HO.out];simp),if_pos je]
     clear hv jj je
     go_enter Tryz.func39,Tryz.ntmps39
     go_wp2_with (first | (go_at_call 63;refine(FN S a cap _ (HR.out.later (by first | exact hB | go_grown) (A5 _)) h0 h1 hl jc).mono ?_;rintro e w1 ⟨he,hb⟩;rw[HV.out]at he;subst he;obtain⟨hz,hc,hf⟩:=Ap hb (by first | (simp only[A8,Zb,Zi];rfl) | rfl);have hB:=Ac (B:=w.heap.size) (w:=w) (by go_grown) hb (A5 _);clear hb) | (go_at_call 64;refine(live_any S a cap _ (HR.out.later (by first | exact hB | go_grown) (A5 _)) ja.out).mono ?_;rintro e w2 ⟨he,hb⟩;rw[show GD S.eds S.modes.toNat S.acc.toNat=B from jb.out]at he;subst he;obtain⟨hz,hc,hf⟩:=Ap hb (by first | (simp only[A8,Zb,Zi];rfl) | rfl);have hB:=Ac (B:=w.heap.size) (w:=w) (by go_grown) hb (A5 _);clear hb) | (go_at_call 65;refine(jk _ jf (by omega) (by omega)).mono ?_;rintro e w4 ⟨he,rfl⟩;rw[show B.testBit (0:Int).toNat=_ from jd.out]at he;subst he))
     go_region_held3 (λw'=>w'.cell? ⟨w.heap.size,0,none⟩=some (aA aM S.modes)/\w'.cell? ⟨w.heap.size,1,none⟩=some (aA aO S.acc)/\w'.cell? ⟨w.heap.size,2,none⟩=some (aG a S.rules.length cap)) (first | (simp[go_sem, *];done) | go_keep) (first | (go_at_call 66;refine(reached_any S a cap _ (HR.out.later (by first | exact hB | go_grown) (A5 _)) ja.out).mono ?_;rintro e w3 ⟨he,hb⟩;rw[show Eb S.eds S.modes.toNat=A from HA.out]at he;subst he;obtain⟨hz,hc,hf⟩:=Ap hb (by first | (simp only[A8,Zb,Zi];rfl) | rfl);have hB:=Ac (B:=w.heap.size) (w:=w) (by go_grown) hb (A5 _);clear hb) | (go_at_call 64;refine(live_any S a cap _ (HR.out.later (by first | exact hB | go_grown) (A5 _)) ja.out).mono ?_;rintro e w2 ⟨he,hb⟩;rw[show GD S.eds S.modes.toNat S.acc.toNat=B from jb.out]at he;subst he;obtain⟨hz,hc,hf⟩:=Ap hb (by first | (simp only[A8,Zb,Zi];rfl) | rfl);have hB:=Ac (B:=w.heap.size) (w:=w) (by go_grown) hb (A5 _);clear hb))
     go_wp2_with (first | (go_at_call 67;refine(endless_any S a cap _ (HR.out.later (by first | exact hB | go_grown) (A5 _)) ja.out).mono ?_;rintro e w5 ⟨v,rfl,ji,hb⟩;have hv:=ji.2 jl.out;subst hv;clear ji;obtain⟨hz,hc,hf⟩:=Ap hb (by first | (simp only[A8,Zb,Zi];rfl) | rfl);have hB:=Ac (B:=w.heap.size) (w:=w) (by go_grown) hb (A5 _);clear hb))
     go_ret;exact⟨BH HE.out,hB⟩
    ·have jl:=A0 je;have HE:Hid (41=BO S):=by show _=_;rw[BO,if_pos hv,HA.out,jb.out,if_pos jd.out,if_neg (by rw[HO.out];simp),if_neg je]
     have jn:0<(OA S).length:=by rcases h:OA S with _ | ⟨x,l⟩;exact absurd h je;simp
     obtain⟨n,hn⟩:∃ n,(OA S).length=n:=⟨_,rfl⟩
     rw[hn]at jn;have HN:=A0 hn;clear hv jj je hn
     go_enter Tryz.func39,Tryz.ntmps39
     go_wp2_with (first | (go_at_call 63;refine(FN S a cap _ (HR.out.later (by first | exact hB | go_grown) (A5 _)) h0 h1 hl jc).mono ?_;rintro e w1 ⟨he,hb⟩;rw[HV.out]at he;subst he;obtain⟨hz,hc,hf⟩:=Ap hb (by first | (simp only[A8,Zb,Zi];rfl) | rfl);have hB:=Ac (B:=w.heap.size) (w:=w) (by go_grown) hb (A5 _);clear hb) | (go_at_call 64;refine(live_any S a cap _ (HR.out.later (by first | exact hB | go_grown) (A5 _)) ja.out).mono ?_;rintro e w2 ⟨he,hb⟩;rw[show GD S.eds S.modes.toNat S.acc.toNat=B from jb.out]at he;subst he;obtain⟨hz,hc,hf⟩:=Ap hb (by first | (simp only[A8,Zb,Zi];rfl) | rfl);have hB:=Ac (B:=w.heap.size) (w:=w) (by go_grown) hb (A5 _);clear hb) | (go_at_call 65;refine(jk _ jf (by omega) (by omega)).mono ?_;rintro e w4 ⟨he,rfl⟩;rw[show B.testBit (0:Int).toNat=_ from jd.out]at he;subst he))
     go_region_held3 (λw'=>w'.cell? ⟨w.heap.size,0,none⟩=some (aA aM S.modes)/\w'.cell? ⟨w.heap.size,1,none⟩=some (aA aO S.acc)/\w'.cell? ⟨w.heap.size,2,none⟩=some (aG a S.rules.length cap)) (first | (simp[go_sem, *];done) | go_keep) (first | (go_at_call 66;refine(reached_any S a cap _ (HR.out.later (by first | exact hB | go_grown) (A5 _)) ja.out).mono ?_;rintro e w3 ⟨he,hb⟩;rw[show Eb S.eds S.modes.toNat=A from HA.out]at he;subst he;obtain⟨hz,hc,hf⟩:=Ap hb (by first | (simp only[A8,Zb,Zi];rfl) | rfl);have hB:=Ac (B:=w.heap.size) (w:=w) (by go_grown) hb (A5 _);clear hb) | (go_at_call 64;refine(live_any S a cap _ (HR.out.later (by first | exact hB | go_grown) (A5 _)) ja.out).mono ?_;rintro e w2 ⟨he,hb⟩;rw[show GD S.eds S.modes.toNat S.acc.toNat=B from jb.out]at he;subst he;obtain⟨hz,hc,hf⟩:=Ap hb (by first | (simp only[A8,Zb,Zi];rfl) | rfl);have hB:=Ac (B:=w.heap.size) (w:=w) (by go_grown) hb (A5 _);clear hb))
     go_wp2_with (first | (go_at_call 67;refine(endless_any S a cap _ (HR.out.later (by first | exact hB | go_grown) (A5 _)) ja.out).mono ?_;rintro e w5 ⟨v,rfl,ji,hb⟩;obtain⟨g,cp,hv⟩:=ji.1.slv jl.out;rw[HN.out]at hv;subst hv;clear ji;obtain⟨hz,hc,hf⟩:=Ap hb (by first | (simp only[A8,Zb,Zi];rfl) | rfl);have hB:=Ac (B:=w.heap.size) (w:=w) (by go_grown) hb (A5 _);clear hb))
     go_ret;exact⟨BH HE.out,hB⟩
  ·have jh:B.testBit 0=false:=by simpa using jg
   have jd:=A0 jh;have HE:Hid (50=BO S):=by show _=_;rw[BO,if_pos hv,jb.out,if_neg jg]
   clear hv jg jh hd
   go_enter Tryz.func39,Tryz.ntmps39
   go_wp2_with (first | (go_at_call 63;refine(FN S a cap _ (HR.out.later (by first | exact hB | go_grown) (A5 _)) h0 h1 hl jc).mono ?_;rintro e w1 ⟨he,hb⟩;rw[HV.out]at he;subst he;obtain⟨hz,hc,hf⟩:=Ap hb (by first | (simp only[A8,Zb,Zi];rfl) | rfl);have hB:=Ac (B:=w.heap.size) (w:=w) (by go_grown) hb (A5 _);clear hb) | (go_at_call 64;refine(live_any S a cap _ (HR.out.later (by first | exact hB | go_grown) (A5 _)) ja.out).mono ?_;rintro e w2 ⟨he,hb⟩;rw[show GD S.eds S.modes.toNat S.acc.toNat=B from jb.out]at he;subst he;obtain⟨hz,hc,hf⟩:=Ap hb (by first | (simp only[A8,Zb,Zi];rfl) | rfl);have hB:=Ac (B:=w.heap.size) (w:=w) (by go_grown) hb (A5 _);clear hb) | (go_at_call 65;refine(jk _ jf (by omega) (by omega)).mono ?_;rintro e w4 ⟨he,rfl⟩;rw[show B.testBit (0:Int).toNat=_ from jd.out]at he;subst he))
   go_ret;exact⟨BH HE.out,hB⟩
 ·have jo:validB S=false:=by simpa using hv
  have HV:=A0 jo;have HE:Hid (20=BO S):=by show _=_;rw[BO,if_neg hv]
  clear hv jo
  go_enter Tryz.func39,Tryz.ntmps39
  go_wp2_with (first | (go_at_call 63;refine(FN S a cap _ (HR.out.later (by first | exact hB | go_grown) (A5 _)) h0 h1 hl jc).mono ?_;rintro e w1 ⟨he,hb⟩;rw[HV.out]at he;subst he;obtain⟨hz,hc,hf⟩:=Ap hb (by first | (simp only[A8,Zb,Zi];rfl) | rfl);have hB:=Ac (B:=w.heap.size) (w:=w) (by go_grown) hb (A5 _);clear hb))
  go_ret;exact⟨BH HE.out,hB⟩
def LD (S:Sch)(a:Option Zj)(cap:Nat)(w:Z0)(hR:BC w a S.rules)(hS:Fit S)(hm:0<S.modes.toNat) :
  Zu Z1 120 #[aJ #[aA aM S.modes,aA aO S.acc,aG a S.rules.length cap],aA aM 0] w λe w'=>∃ v,e=aP v/\Hr w' w.heap.size v S.modes.toNat (CT S)/\Below w.heap.size w w':=rreached_any S a cap 0 w hR hS hm
def Iy {w:Z0}{ops:Array ZX}{rest:List ZX}{o:ZX}{a:Act}{Q:Exit->Act->Z0->Prop}(jd:o.guard=none)(s x:Operand)
  (ho:o.op=.call { callee:=.builtin .append,args:=#[s,x],argTypes:=#[36,36] }) (base:Nat) (v:Z6) (n:Nat) (xs:List Z6) (hs:a.eval s=v) (ja:w.ownsRow base 3 1 v n xs)
  (B0:Nat) (vx:Z6) (ys:List Nat) (hx:a.eval x=vx) (jc:Ch w B0 vx ys) (hl:n+ys.length<=1000) (jb:base<=w.heap.size)
  (h:∀ v' w',w'.ownsRow base 3 1 v' (n+ys.length) (xs ++ FP ys)->w.grownBy w' v.ownBlock->wpList Z1 ops Q rest (a.put o.dst v') w'):wpList Z1 ops Q (o :: rest) a w:=by
 obtain⟨i0,hi,je,jf,jg⟩:=info_parts GG;rcases id jc.2 with⟨rfl,h0⟩ | ⟨g,cp,cur,rfl,_⟩
 ·obtain rfl:ys=[]:=Zo h0;refine wpList_append_own_none jd s x 36 ho base 3 i0 1 Y5 hi v n xs hs ja hx (h v w ?_ (World.grownBy.refl w _));simpa[FP] using ja
 ·refine wpList_append_own w jd s x 36 ho base 3 i0 (aA aM 0) 1 8 Y5 hi je jf jg rfl (by decide) v n xs hs ja ⟨g,0,none⟩ ys.length cp (FP ys) hx (by rw[JF];omega)
   (λj u hj=>zZ (g:=g) jc rfl j u hj) (λu hu=>by obtain⟨k,_,rfl⟩:=AJ.1 hu;rfl) (by unfold maxLen;omega) (by omega) jb (λv' w' h1 h2 _=>h v' w' h1 h2)
structure Wk where
 is:Nat->Bool
 ch:Nat->List Nat
def Wk.empty:Wk:=⟨λ_=>false,λ_=>[]⟩
def Wk.put (k:Wk)(t:Nat)(l:List Nat):Wk:=⟨λj=>if j=t then true else k.is j,λj=>if j=t then l else k.ch j⟩
def
  stepK (use:Rl->Bool) (K:Wk) (O:Wk) (i:Nat) (r:Rl):Wk :=
 if K.is r.frm.toNat && use r then
  (if !O.is r.dst.toNat || Az (ints (K.ch r.frm.toNat ++ [i])) (ints (O.ch r.dst.toNat)) then O.put r.dst.toNat (K.ch r.frm.toNat ++ [i]) else O)
 else O
def CF (use:Rl->Bool)(R:List Rl)(K:Wk):Nat->Wk
 | 0=>Wk.empty
 | k+1=>if h:k<R.length then stepK use K (CF use R K k) k R[k] else CF use R K k
def Du (use:Rl->Bool)(R:List Rl)(K:Wk):Wk:=CF use R K R.length
def wkL (is:Nat->Bool)(vs:Nat->Z6):List Z6:=(Zt 8).map (λi=>Y7 (is i)) ++ (Zt 8).map vs
def PE {is:Nat->Bool}{vs:Nat->Z6}{i:Nat}(h:i<8):(wkL is vs)[i]? = some (aH (is i)):=by
 rw[wkL,AK (by simpa using h),XG,List.getElem?_range h];rfl
def PF {is:Nat->Bool}{vs:Nat->Z6}{i:Nat}(h:i<8):(wkL is vs)[8+i]? = some (vs i):=by
 rw[wkL,AM (by simp),XG];simp[h]
def Bu (w:Z0)(g:Nat)(is:Nat->Bool)(vs:Nat->Z6):Prop:=w.heap[g]? = some (.cells (wkL is vs).toArray 229 (0,0))
def Bu.is {w:Z0}{g i:Nat}{is:Nat->Bool}{vs:Nat->Z6}(h:Bu w g is vs)(hi:i<8):w.cell? ⟨g,i,none⟩=some (aH (is i)):=by
 rw[Z3 w g i _ _ (0,0) h,List.getElem?_toArray,PE hi]
def Bu.vs {w:Z0}{g i:Nat}{is:Nat->Bool}{vs:Nat->Z6}(h:Bu w g is vs)(hi:i<8):w.cell? ⟨g,8+i,none⟩=some (vs i):=by
 rw[Z3 w g _ _ _ (0,0) h,List.getElem?_toArray,PF hi]
def Bu.free {w:Z0}{g i:Nat}{is:Nat->Bool}{vs:Nat->Z6}(h:Bu w g is vs):w.frozen? ⟨g,i,none⟩=false:=by unfold Bu at h;simp[Zn,h]
def Bu.below {w w1:Z0}{g B:Nat}{is:Nat->Bool}{vs:Nat->Z6}(h:Bu w g is vs)(hb:Below B w w1)(hg:g<B):Bu w1 g is vs:=(hb.block g hg).trans h
def Bu.lt {w:Z0}{g:Nat}{is:Nat->Bool}{vs:Nat->Z6}(h:Bu w g is vs):g<w.heap.size:=(A7.1 h).1
def Jg (is:Nat->Bool)(vs:Nat->Z6):(wkL is vs).length=16:=by simp[wkL]
def Uc {is is':Nat->Bool}{vs vs':Nat->Z6}{l:List Z6}(hl:l.length=16)(h1:∀ i,i<8->l[i]? = some (aH (is i)))(h2:∀ i,i<8->l[8+i]? = some (vs i)):l=wkL is vs:=by
 apply List.ext_getElem?;intro i;by_cases h:i<8
 · rw[h1 i h,PE h]
 ·by_cases h':i<16
  ·obtain⟨j,rfl⟩:∃ j,i=8+j:=⟨i - 8,by omega⟩
   rw[h2 j (by omega),PF (by omega)]
  · rw[AT (by omega),AT (by rw[Jg];omega)]
def Bu.set {w:Z0}{g t:Nat}{is:Nat->Bool}{vs:Nat->Z6}{v:Z6}(h:Bu w g is vs)(ht:t<8) :
  Bu ((w.setCell ⟨g,t,none⟩ (aH true)).setCell ⟨g,8+t,none⟩ v) g (λj=>if j=t then true else is j) (λj=>if j=t then v else vs j):=by
 unfold Bu at h ⊢;simp only[zy];rw[X6,if_pos rfl,X6,if_pos rfl,h];simp only[xh,Option.isSome_none,Bool.false_eq_true,if_false];congr 2;apply Array.ext';simp only[Array.toList_setIfInBounds];refine Uc (is':=is) (vs':=vs) (by simp[Jg]) (λi hi=>?_) (λi hi=>?_)
 ·rw[Xy (by omega),List.getElem?_set];by_cases e:t=i
  · subst e;rw[if_pos rfl,Jg,if_pos (by omega),if_pos rfl]
  · rw[if_neg e,PE hi,if_neg (λh=>e h.symm)]
 ·rw[List.getElem?_set];by_cases e:t=i
  · subst e;rw[if_pos rfl,ZD,Jg,if_pos (by omega),if_pos rfl]
  · rw[if_neg (by omega),Xy (by omega),PF hi,if_neg (λh=>e h.symm)]
structure NX (B:Nat)(M:Z0)(g:Nat)(K O:Wk)(vK vO:Nat->Z6)(wr:Z0):Prop where
 okK:∀ t,t<8->Ch wr 0 (vK t) (K.ch t)
 okO:∀ t,t<8->Ch wr B (vO t) (O.ch t)
 row:Bu wr g O.is vO
 bl:Below g M wr
 gB:B<=g
section
variable {B:Nat} {M:World} {g:Nat} {K O:Wk} {vK vO:Nat->Value} {wr w1:World}
def NX.below (h:NX B M g K O vK vO wr)(hb:Below wr.heap.size wr w1):NX B M g K O vK vO w1 :=
 ⟨λt ht=>(h.okK t ht).below hb (h.okK t ht).lt,λt ht=>(h.okO t ht).below hb (h.okO t ht).lt,h.row.below hb h.row.lt,h.bl.trans (hb.mono (by have:=h.row.lt;omega)),h.gB⟩
def Mp {w:Z0}{B g i:Nat}{v u:Z6}{xs:List Nat}{is:Nat->Bool}{vs:Nat->Z6}(h:Ch w B v xs)(hg:Bu w g is vs)(u2:Z6)(i2:Nat):Ch ((w.setCell ⟨g,i,none⟩ u).setCell ⟨g,i2,none⟩ u2) B v xs:=by
 refine h.same λb hb=>?_;have ja:b≠g:=λe=>by
  obtain⟨cs',h2⟩:=h.own hb;rw[e]at h2;unfold Bu at hg;rw[hg]at h2;cases h2
 rw[Zc _ _ _ _ ja,Zc _ _ _ _ ja]
def NX.store (h:NX B M g K O vK vO wr){t:Nat}(ht:t<8){v:Z6}{l:List Nat}(hv:Ch wr B v l) :
  NX B M g K (O.put t l) vK (λj=>if j=t then v else vO j) ((wr.setCell ⟨g,t,none⟩ (aH true)).setCell ⟨g,8+t,none⟩ v):=by
 refine⟨λj hj=>Mp (h.okK j hj) h.row _ _,λj hj=>?_,h.row.set ht,(h.bl.setCell (A5 _) _).setCell (A5 _) _,h.gB⟩;show Ch _ _ (if j=t then v else vO j) (if j=t then l else O.ch j);by_cases e:j=t
 · rw[if_pos e,if_pos e];exact Mp hv h.row _ _
 · rw[if_neg e,if_neg e];exact Mp (h.okO j hj) h.row _ _
end
def Ra {use:Rl->Bool}{K O:Wk}{i L:Nat}{r:Rl}(hK:∀ t,t<8->(K.ch t).length<=L)(hO:∀ t,t<8->(O.ch t).length<=L+1)(hf:r.frm.toNat<8):∀ t,t<8->((stepK use K O i r).ch t).length<=L+1:=by
 intro t ht;unfold stepK;split
 ·split
  ·show(if t=r.dst.toNat then K.ch r.frm.toNat ++ [i] else O.ch t).length<=L+1;split
   · have:=hK _ hf;rw[AD];simp only[Zs,X7];omega
   · exact hO t ht
  · exact hO t ht
 · exact hO t ht
def Fw {use:Rl->Bool}{R:List Rl}{K:Wk}{L:Nat}(hK:∀ t,t<8->(K.ch t).length<=L)(hf:∀ r∈R,r.frm.toNat<8):∀ k t,t<8->((CF use R K k).ch t).length<=L+1
 | 0,t,_=>by simp[CF,Wk.empty]
 | k+1,t,ht=>by
  rw[CF];split
  · rename_i h;exact Ra hK (Fw hK hf k) (hf _ (AI h)) t ht
  · exact Fw hK hf k t ht
def Bv (silent:Bool)(r:Rl):Bool:=!silent || C0 r
def PG (r:Rl):(C0 r=true->(!r.inp.toList.isEmpty)=false)/\(C0 r=false->(!r.inp.toList.isEmpty)=true):=by
 have:r.inp.toList.isEmpty=decide (r.inp.size=0):=by
  rw[ZQ,Bool.eq_iff_iff,decide_eq_true_iff,List.isEmpty_iff,<- ByteArray.size_data];constructor
  · intro h;rw[<- Xq,h];rfl
  · intro h;exact Zo (by rw[Xq];exact h)
 unfold C0;rw[this];cases decide (r.inp.size=0) <;> simp
def Aj {w:Z0}{g i:Nat}{y:Z6}{cs cs':Array Z6}{t:X5}{f:Nat × Nat}(h:w.heap[g]? = some (.cells cs t f))(hc:cs.setIfInBounds i y=cs'):(w.setCell ⟨g,i,none⟩ y).heap[g]? = some (.cells cs' t f):=by
 simp only[zy];rw[X6,if_pos rfl,h,<- hc];rfl
def VI {w:Z0}{g:Nat}{x0 x1 x2 x3 x4 x5 x6 x7 x8 x9 x10 x11 x12 x13 x14 x15 y0 y1 y2 y3 y4 y5 y6 y7 y8 y9 y10 y11 y12 y13 y14 y15:Z6}{t:X5}{f:Nat × Nat}(h:w.heap[g]? = some (aK #[x0,x1,x2,x3,x4,x5,x6,x7,x8,x9,x10,x11,x12,x13,x14,x15] t f)) :
  ((((((((((((((((w.setCell ⟨g,0,none⟩ y0).setCell ⟨g,1,none⟩ y1).setCell ⟨g,2,none⟩ y2).setCell ⟨g,3,none⟩ y3).setCell ⟨g,4,none⟩ y4).setCell ⟨g,5,none⟩ y5).setCell ⟨g,6,none⟩ y6).setCell ⟨g,7,none⟩ y7).setCell ⟨g,8,none⟩ y8).setCell ⟨g,9,none⟩ y9).setCell ⟨g,10,none⟩ y10).setCell ⟨g,11,none⟩ y11).setCell ⟨g,12,none⟩ y12).setCell ⟨g,13,none⟩ y13).setCell ⟨g,14,none⟩ y14).setCell ⟨g,15,none⟩ y15).heap[g]? = some (aK #[y0,y1,y2,y3,y4,y5,y6,y7,y8,y9,y10,y11,y12,y13,y14,y15] t f):=by
 have h0:=Aj (i:=0) (y:=y0) (cs':=#[y0,x1,x2,x3,x4,x5,x6,x7,x8,x9,x10,x11,x12,x13,x14,x15]) h rfl;have h1:=Aj (i:=1) (y:=y1) (cs':=#[y0,y1,x2,x3,x4,x5,x6,x7,x8,x9,x10,x11,x12,x13,x14,x15]) h0 rfl;have h2:=Aj (i:=2) (y:=y2) (cs':=#[y0,y1,y2,x3,x4,x5,x6,x7,x8,x9,x10,x11,x12,x13,x14,x15]) h1 rfl;have h3:=Aj (i:=3) (y:=y3) (cs':=#[y0,y1,y2,y3,x4,x5,x6,x7,x8,x9,x10,x11,x12,x13,x14,x15]) h2 rfl;have h4:=Aj (i:=4) (y:=y4) (cs':=#[y0,y1,y2,y3,y4,x5,x6,x7,x8,x9,x10,x11,x12,x13,x14,x15]) h3 rfl;have h5:=Aj (i:=5) (y:=y5) (cs':=#[y0,y1,y2,y3,y4,y5,x6,x7,x8,x9,x10,x11,x12,x13,x14,x15]) h4 rfl;have h6:=Aj (i:=6) (y:=y6) (cs':=#[y0,y1,y2,y3,y4,y5,y6,x7,x8,x9,x10,x11,x12,x13,x14,x15]) h5 rfl;have h7:=Aj (i:=7) (y:=y7) (cs':=#[y0,y1,y2,y3,y4,y5,y6,y7,x8,x9,x10,x11,x12,x13,x14,x15]) h6 rfl;have h8:=Aj (i:=8) (y:=y8) (cs':=#[y0,y1,y2,y3,y4,y5,y6,y7,y8,x9,x10,x11,x12,x13,x14,x15]) h7 rfl;have h9:=Aj (i:=9) (y:=y9) (cs':=#[y0,y1,y2,y3,y4,y5,y6,y7,y8,y9,x10,x11,x12,x13,x14,x15]) h8 rfl;have ja:=Aj (i:=10) (y:=y10) (cs':=#[y0,y1,y2,y3,y4,y5,y6,y7,y8,y9,y10,x11,x12,x13,x14,x15]) h9 rfl;have jb:=Aj (i:=11) (y:=y11) (cs':=#[y0,y1,y2,y3,y4,y5,y6,y7,y8,y9,y10,y11,x12,x13,x14,x15]) ja rfl;have jc:=Aj (i:=12) (y:=y12) (cs':=#[y0,y1,y2,y3,y4,y5,y6,y7,y8,y9,y10,y11,y12,x13,x14,x15]) jb rfl;have jd:=Aj (i:=13) (y:=y13) (cs':=#[y0,y1,y2,y3,y4,y5,y6,y7,y8,y9,y10,y11,y12,y13,x14,x15]) jc rfl;have je:=Aj (i:=14) (y:=y14) (cs':=#[y0,y1,y2,y3,y4,y5,y6,y7,y8,y9,y10,y11,y12,y13,y14,x15]) jd rfl;have jf:=Aj (i:=15) (y:=y15) (cs':=#[y0,y1,y2,y3,y4,y5,y6,y7,y8,y9,y10,y11,y12,y13,y14,y15]) je rfl;exact jf
def QH {w:Z0}{g:Nat}{y0 y1 y2 y3 y4 y5 y6 y7 y8 y9 y10 y11 y12 y13 y14 y15:Z6}{t:X5}{f:Nat × Nat}(h:w.heap[g]? = some (aK #[y0,y1,y2,y3,y4,y5,y6,y7,y8,y9,y10,y11,y12,y13,y14,y15] t f)) :
  w.cell? ⟨g,0,none⟩=some y0/\w.cell? ⟨g,1,none⟩=some y1/\w.cell? ⟨g,2,none⟩=some y2/\w.cell? ⟨g,3,none⟩=some y3/\w.cell? ⟨g,4,none⟩=some y4/\w.cell? ⟨g,5,none⟩=some y5/\w.cell? ⟨g,6,none⟩=some y6/\w.cell? ⟨g,7,none⟩=some y7/\w.cell? ⟨g,8,none⟩=some y8/\w.cell? ⟨g,9,none⟩=some y9/\w.cell? ⟨g,10,none⟩=some y10/\w.cell? ⟨g,11,none⟩=some y11/\w.cell? ⟨g,12,none⟩=some y12/\w.cell? ⟨g,13,none⟩=some y13/\w.cell? ⟨g,14,none⟩=some y14/\w.cell? ⟨g,15,none⟩=some y15:=by
 refine⟨?_,?_,?_,?_,?_,?_,?_,?_,?_,?_,?_,?_,?_,?_,?_,?_⟩
 all_goals (rw[Z3 w g _ _ _ f h];rfl)
def Mq {w:Z0}{g b:Nat}{y0 y1 y2 y3 y4 y5 y6 y7 y8 y9 y10 y11 y12 y13 y14 y15:Z6}(hb:b≠g):((((((((((((((((w.setCell ⟨g,0,none⟩ y0).setCell ⟨g,1,none⟩ y1).setCell ⟨g,2,none⟩ y2).setCell ⟨g,3,none⟩ y3).setCell ⟨g,4,none⟩ y4).setCell ⟨g,5,none⟩ y5).setCell ⟨g,6,none⟩ y6).setCell ⟨g,7,none⟩ y7).setCell ⟨g,8,none⟩ y8).setCell ⟨g,9,none⟩ y9).setCell ⟨g,10,none⟩ y10).setCell ⟨g,11,none⟩ y11).setCell ⟨g,12,none⟩ y12).setCell ⟨g,13,none⟩ y13).setCell ⟨g,14,none⟩ y14).setCell ⟨g,15,none⟩ y15).heap[b]? = w.heap[b]?:=by
 rw[Zc _ _ _ _ hb,Zc _ _ _ _ hb,Zc _ _ _ _ hb,Zc _ _ _ _ hb,Zc _ _ _ _ hb,Zc _ _ _ _ hb,Zc _ _ _ _ hb,Zc _ _ _ _ hb,Zc _ _ _ _ hb,Zc _ _ _ _ hb,Zc _ _ _ _ hb,Zc _ _ _ _ hb,Zc _ _ _ _ hb,Zc _ _ _ _ hb,Zc _ _ _ _ hb,Zc _ _ _ _ hb]
def Vn (w:Z0)(o1 o2 o3:Obj):Bu ((((w.alloc o1).alloc o2).alloc o3).alloc (aK #[aH false,aH false,aH false,aH false,aH false,aH false,aH false,aH false,aG none 0 0,aG none 0 0,aG none 0 0,aG none 0 0,aG none 0 0,aG none 0 0,aG none 0 0,aG none 0 0] 229)) (w.heap.size+1+1+1) Wk.empty.is (λ_=>aG none 0 0):=by
 have h:=Z4 (((w.alloc o1).alloc o2).alloc o3) (aK #[aH false,aH false,aH false,aH false,aH false,aH false,aH false,aH false,aG none 0 0,aG none 0 0,aG none 0 0,aG none 0 0,aG none 0 0,aG none 0 0,aG none 0 0,aG none 0 0] 229);unfold Bu;have e:(wkL Wk.empty.is (λ_=>Zk none 0 0)).toArray=#[aH false,aH false,aH false,aH false,aH false,aH false,aH false,aH false,aG none 0 0,aG none 0 0,aG none 0 0,aG none 0 0,aG none 0 0,aG none 0 0,aG none 0 0,aG none 0 0]:=rfl;rw[e];simpa using h
def next_any
         (S:Sch) (a:Option Zj) (cap:Nat) (K:Wk) (vK:Nat->Z6) (silent:Bool) (L:Nat) (w:Z0) (hR:BC w a S.rules) (hS:Fit S) (hK:∀ t,t<8->Ch w 0 (vK t) (K.ch t)) (hL:∀ t,t<8->(K.ch t).length<=L) (hL2:L<=100) :
  Zu Z1 139 #[aJ #[aA aM S.modes,aA aO S.acc,aG a S.rules.length cap],aJ #[aH (K.is 0),aH (K.is 1),aH (K.is 2),aH (K.is 3),aH (K.is 4),aH (K.is 5),aH (K.is 6),aH (K.is 7),vK 0,vK 1,vK 2,vK 3,vK 4,vK 5,vK 6,vK 7],aH silent] w λe w'=>∃ (vO:Nat->Z6),e=aP (.agg (wkL (Du (Bv silent) S.rules K).is vO).toArray)/\(∀ t,t<8->Ch w' w.heap.size (vO t) ((Du (Bv silent) S.rules K).ch t))/\Below w.heap.size w w':=by
 have HR:=A0 hR;have HS:=A0 hS;have HK:=A0 hK;have HL:=A0 hL;have hlen:=hS.len;have hm1:=hS.m1;clear hR hS hK hL;have jb:∀ t,t<8->∃ b n c,vK t=aG b n c:=λt ht=>(HK.out t ht).form;obtain⟨b0,n0,c0,e0⟩:=jb 0 (by omega);obtain⟨b1,n1,c1,e1⟩:=jb 1 (by omega);obtain⟨b2,n2,c2,e2⟩:=jb 2 (by omega);obtain⟨b3,n3,c3,e3⟩:=jb 3 (by omega);obtain⟨b4,n4,c4,e4⟩:=jb 4 (by omega);obtain⟨b5,n5,c5,e5⟩:=jb 5 (by omega);obtain⟨b6,n6,c6,e6⟩:=jb 6 (by omega);obtain⟨b7,n7,c7,e7⟩:=jb 7 (by omega);clear jb
 go_enter Tryz.func139,Tryz.ntmps139
 go_upto_region 3 with fail
 have jS:Hid (Bu (((w.alloc (aK #[aA aM S.modes,aA aO S.acc,aG a S.rules.length cap] 33)).alloc (aK #[aH (K.is 0),aH (K.is 1),aH (K.is 2),aH (K.is 3),aH (K.is 4),aH (K.is 5),aH (K.is 6),aH (K.is 7),aG b0 n0 c0,aG b1 n1 c1,aG b2 n2 c2,aG b3 n3 c3,aG b4 n4 c4,aG b5 n5 c5,aG b6 n6 c6,aG b7 n7 c7] 229)).alloc (aK #[aH false,aH false,aH false,aH false,aH false,aH false,aH false,aH false,aG none 0 0,aG none 0 0,aG none 0 0,aG none 0 0,aG none 0 0,aG none 0 0,aG none 0 0,aG none 0 0] 229)) (w.heap.size+1) K.is vK):=by
  have h:=Z4 (w.alloc (aK #[aA aM S.modes,aA aO S.acc,aG a S.rules.length cap] 33)) (aK #[aH (K.is 0),aH (K.is 1),aH (K.is 2),aH (K.is 3),aH (K.is 4),aH (K.is 5),aH (K.is 6),aH (K.is 7),aG b0 n0 c0,aG b1 n1 c1,aG b2 n2 c2,aG b3 n3 c3,aG b4 n4 c4,aG b5 n5 c5,aG b6 n6 c6,aG b7 n7 c7] 229);show Bu _ _ _ _;unfold Bu;have e:(wkL K.is vK).toArray=#[aH (K.is 0),aH (K.is 1),aH (K.is 2),aH (K.is 3),aH (K.is 4),aH (K.is 5),aH (K.is 6),aH (K.is 7),aG b0 n0 c0,aG b1 n1 c1,aG b2 n2 c2,aG b3 n3 c3,aG b4 n4 c4,aG b5 n5 c5,aG b6 n6 c6,aG b7 n7 c7]:=by
   rw[<- e0,<- e1,<- e2,<- e3,<- e4,<- e5,<- e6,<- e7];rfl
  rw[e,ZF _ _ _ (by simp)];simpa using h
 have jF:Hid (NX w.heap.size (((w.alloc (aK #[aA aM S.modes,aA aO S.acc,aG a S.rules.length cap] 33)).alloc (aK #[aH (K.is 0),aH (K.is 1),aH (K.is 2),aH (K.is 3),aH (K.is 4),aH (K.is 5),aH (K.is 6),aH (K.is 7),aG b0 n0 c0,aG b1 n1 c1,aG b2 n2 c2,aG b3 n3 c3,aG b4 n4 c4,aG b5 n5 c5,aG b6 n6 c6,aG b7 n7 c7] 229)).alloc (aK #[aH false,aH false,aH false,aH false,aH false,aH false,aH false,aH false,aG none 0 0,aG none 0 0,aG none 0 0,aG none 0 0,aG none 0 0,aG none 0 0,aG none 0 0,aG none 0 0] 229)) (w.heap.size+1+1+1) K Wk.empty vK (λ_=>aG none 0 0) ((((w.alloc (aK #[aA aM S.modes,aA aO S.acc,aG a S.rules.length cap] 33)).alloc (aK #[aH (K.is 0),aH (K.is 1),aH (K.is 2),aH (K.is 3),aH (K.is 4),aH (K.is 5),aH (K.is 6),aH (K.is 7),aG b0 n0 c0,aG b1 n1 c1,aG b2 n2 c2,aG b3 n3 c3,aG b4 n4 c4,aG b5 n5 c5,aG b6 n6 c6,aG b7 n7 c7] 229)).alloc (aK #[aH false,aH false,aH false,aH false,aH false,aH false,aH false,aH false,aG none 0 0,aG none 0 0,aG none 0 0,aG none 0 0,aG none 0 0,aG none 0 0,aG none 0 0,aG none 0 0] 229)).alloc (aK #[aH false,aH false,aH false,aH false,aH false,aH false,aH false,aH false,aG none 0 0,aG none 0 0,aG none 0 0,aG none 0 0,aG none 0 0,aG none 0 0,aG none 0 0,aG none 0 0] 229))) :=
  ⟨λt ht=>(HK.out t ht).below (show Below w.heap.size w _ by go_grown) (HK.out t ht).lt,λt ht=>Ch.nil _ _,Vn _ _ _ _,by go_grown,by omega⟩
 clear e0 e1 e2 e3 e4 e5 e6 e7
 go_loopw [8] (λi wr=>∃ (k:Nat) (vO:Nat->Z6),k<=S.rules.length/\i=aA aM k/\NX w.heap.size (((w.alloc (aK #[aA aM S.modes,aA aO S.acc,aG a S.rules.length cap] 33)).alloc (aK #[aH (K.is 0),aH (K.is 1),aH (K.is 2),aH (K.is 3),aH (K.is 4),aH (K.is 5),aH (K.is 6),aH (K.is 7),aG b0 n0 c0,aG b1 n1 c1,aG b2 n2 c2,aG b3 n3 c3,aG b4 n4 c4,aG b5 n5 c5,aG b6 n6 c6,aG b7 n7 c7] 229)).alloc (aK #[aH false,aH false,aH false,aH false,aH false,aH false,aH false,aH false,aG none 0 0,aG none 0 0,aG none 0 0,aG none 0 0,aG none 0 0,aG none 0 0,aG none 0 0,aG none 0 0] 229)) (w.heap.size+1+1+1) K (CF (Bv silent) S.rules K k) vK vO wr) (λi _=>S.rules.length - (intOf i).toNat)
 case atStart=>exact⟨0,_,by omega,rfl,jF.out⟩
 case round =>
  obtain⟨k,vO,hk,rfl,jz⟩:=hrel;have jc:=A0 jz;have js:=jz.bl;have hB:Below w.heap.size w wr:=(show Below w.heap.size w (((w.alloc (aK #[aA aM S.modes,aA aO S.acc,aG a S.rules.length cap] 33)).alloc (aK #[aH (K.is 0),aH (K.is 1),aH (K.is 2),aH (K.is 3),aH (K.is 4),aH (K.is 5),aH (K.is 6),aH (K.is 7),aG b0 n0 c0,aG b1 n1 c1,aG b2 n2 c2,aG b3 n3 c3,aG b4 n4 c4,aG b5 n5 c5,aG b6 n6 c6,aG b7 n7 c7] 229)).alloc (aK #[aH false,aH false,aH false,aH false,aH false,aH false,aH false,aH false,aG none 0 0,aG none 0 0,aG none 0 0,aG none 0 0,aG none 0 0,aG none 0 0,aG none 0 0,aG none 0 0] 229)) by go_grown).trans (js.mono (by omega));obtain⟨hz, -, -⟩:=Aw js rfl;obtain⟨-,hc,hf⟩:=Aw (js.mono (show w.heap.size+1<=(w.heap.size+1+1+1) by omega)) rfl;simp only[A8]at hz;have jd:Bu wr (w.heap.size+1) K.is vK:=jS.out.below js (by omega);by_cases jy:k<S.rules.length
  ·obtain⟨
       b,
         o,ha,hb,q0,q1,q2,q3,q4⟩:=(HR.out.later hB (A5 _)).at jy
   have hidx:=Bb a b o S.rules.length cap k ha jy;have HA:=A0 ha;clear ha;obtain⟨f0,f1,t0,t1⟩:=HS.out.at0 k jy;have f8:S.rules[k].frm<8:=by omega
   have t8:S.rules[k].dst<8:=by omega
   have qk:=jd.is (i:=S.rules[k].frm.toNat) (by omega);have qv:=jd.vs (i:=S.rules[k].frm.toNat) (by omega);obtain⟨bf,nf,cf,ef⟩:=(HK.out S.rules[k].frm.toNat (by omega)).form;rw[ef]at qv;have jQ:=A0 ef;clear ef;obtain⟨kf,jI⟩:∃ kf,K.is S.rules[k].frm.toNat=kf:=⟨_,rfl⟩
   rw[jI]at qk;obtain⟨O,hO⟩:∃ O,CF (Bv silent) S.rules K k=O:=⟨_,rfl⟩
   have HO:=A0 hO;have HN:Hid (CF (Bv silent) S.rules K (k+1)=stepK (Bv silent) K O k S.rules[k]):=by show _=_;rw[CF,dif_pos jy,hO]
   rw[hO]at jc;have jD:=A0 jI;have HKrow:=A0 jd;clear jI hO jz jd;have jf:=PG S.rules[k];cases kf with
   | false =>
    have jq:Hid (CF (Bv silent) S.rules K (k+1)=O):=by show _=_;rw[HN.out,stepK,jD.out,zN,if_neg (by simp)]
    clear jf;go_wp2
    go_roundw
    case rel=>exact⟨k+1,vO,by omega,by go_num,by rw[jq.out];exact jc.out.below (by go_grown)⟩
    case measure=>simp[intOf];omega
   | true =>
    have ja:=jc.out.row;have qo:=ja.is (i:=S.rules[k].dst.toNat) (by omega);have qov:=ja.vs (i:=S.rules[k].dst.toNat) (by omega);obtain⟨bo,no,co,eo⟩:=(jc.out.okO S.rules[k].dst.toNat (by omega)).form;rw[eo]at qov;have jR:=A0 eo;clear eo;have hgl:=ja.lt;have hz1:=ja.free (i:=S.rules[k].dst.toNat);have hz2:=ja.free (i:=8+S.rules[k].dst.toNat);clear ja;obtain⟨of,jn⟩:∃ of,O.is S.rules[k].dst.toNat=of:=⟨_,rfl⟩
    rw[jn]at qo;have jT:=A0 jn;clear jn;have hL1:=HL.out S.rules[k].frm.toNat (by omega);have jW:Hid ((O.ch S.rules[k].dst.toNat).length<=L+1):=by show _<=_;rw[<- HO.out];exact Fw HL.out (λr hr=>by obtain⟨i,hi,rfl⟩:=ZH.1 hr;have:=HS.out.at0 i hi;omega) _ _ (by omega)
    have hOL1:=jW.out;have je:(silent=false\/silent=true/\C0 S.rules[k]=true)\/(silent=true/\C0 S.rules[k]=false):=by
     cases silent <;> cases C0 S.rules[k] <;> simp
    rcases je with je | ⟨hs,he⟩
    ·have HU:Hid (Bv silent S.rules[k]=true):=by
      show _=_;unfold Bv;rcases je with h | ⟨h1,h2⟩
      · rw[h];rfl
      · rw[h2];simp
     have jq:Hid (CF (Bv silent) S.rules K (k+1)=if !O.is S.rules[k].dst.toNat || Az (ints (K.ch S.rules[k].frm.toNat ++ [k])) (ints (O.ch S.rules[k].dst.toNat)) then O.put S.rules[k].dst.toNat (K.ch S.rules[k].frm.toNat ++ [k]) else O):=by
      show _=_;rw[HN.out,stepK,jD.out,HU.out,zC,if_pos rfl]
     have jh:=λh=>jf.1 h;have h7:World.ownsRow ((wr.alloc (aK #[aA aM S.rules[k].frm,aA aM S.rules[k].dst,aI S.rules[k].inp,aI S.rules[k].out,aA aM S.rules[k].cost] 88)).alloc (aK #[] 3)) (wr.heap.size+1) 3 1 (aG (some ⟨wr.heap.size+1,0,none⟩) 0 0) 0 [] :=
      ⟨rfl,.inr ⟨_,0,#[],rfl,A5 _,by have:=Z4 (wr.alloc (aK #[aA aM S.rules[k].frm,aA aM S.rules[k].dst,aI S.rules[k].inp,aI S.rules[k].out,aA aM S.rules[k].cost] 88)) (aK #[] 3);simpa using this,A5 _,Ze _,rfl,rfl⟩⟩
     have jt:Ch ((wr.alloc (aK #[aA aM S.rules[k].frm,aA aM S.rules[k].dst,aI S.rules[k].inp,aI S.rules[k].out,aA aM S.rules[k].cost] 88)).alloc (aK #[] 3)) 0 (aG bf nf cf) (K.ch S.rules[k].frm.toNat):=by
      have h:=jc.out.okK S.rules[k].frm.toNat (by omega);rw[jQ.out]at h;exact h.below (by go_grown) h.lt
     obtain⟨i0,hi,iz0,iz1,iz2⟩:=info_parts GG;have jO:=A0 jt;have H7:=A0 h7;have hgE:w.heap.size+1+1+1+1<=wr.heap.size:=by omega
     clear jf h7 jt;obtain⟨bb,jp⟩:∃ bb,Az (ints (K.ch S.rules[k].frm.toNat ++ [k])) (ints (O.ch S.rules[k].dst.toNat))=bb:=⟨_,rfl⟩
     have jE:Hid (CF (Bv silent) S.rules K (k+1)=if !of || bb then O.put S.rules[k].dst.toNat (K.ch S.rules[k].frm.toNat ++ [k]) else O):=by
      show _=_;rw[jq.out,jT.out,jp]
     have jN:=A0 jp;clear jp;have jL:Hid (∀ W,NX w.heap.size (((w.alloc (aK #[aA aM S.modes,aA aO S.acc,aG a S.rules.length cap] 33)).alloc (aK #[aH (K.is 0),aH (K.is 1),aH (K.is 2),aH (K.is 3),aH (K.is 4),aH (K.is 5),aH (K.is 6),aH (K.is 7),aG b0 n0 c0,aG b1 n1 c1,aG b2 n2 c2,aG b3 n3 c3,aG b4 n4 c4,aG b5 n5 c5,aG b6 n6 c6,aG b7 n7 c7] 229)).alloc (aK #[aH false,aH false,aH false,aH false,aH false,aH false,aH false,aH false,aG none 0 0,aG none 0 0,aG none 0 0,aG none 0 0,aG none 0 0,aG none 0 0,aG none 0 0,aG none 0 0] 229)) (w.heap.size+1+1+1) K O vK vO W->SlS W bo (ints (O.ch S.rules[k].dst.toNat))/\no=(ints (O.ch S.rules[k].dst.toNat)).length):=λW h=>by
      have h2:=h.okO S.rules[k].dst.toNat (by omega);rw[jR.out]at h2;exact⟨h2.sls.1,h2.sls.2.trans (Ax _).symm⟩
     have jX:(of=false\/of=true/\bb=true)\/(of=true/\bb=false):=by cases of <;> cases bb <;> simp
     rcases je with hs | ⟨hs,he⟩
     all_goals
      subst hs
      try have hemp3:=jh he
      clear jh;rcases jX with(jn | ⟨jn,jp⟩) | ⟨jn,jp⟩
     all_goals
      subst jn
      try subst jp
      go_wp2_with (first | (at_builtin;refine Iy rfl _ _ rfl (wr.heap.size+1) (aG (some ⟨wr.heap.size+1,0,none⟩) 0 0) 0 [] rfl H7.out 0 (aG bf nf cf) (K.ch S.rules[k].frm.toNat) rfl jO.out (by omega) (by simp) ?_;intro v1 w1 ji jm;have jK:Hid (World.ownsRow w1 (wr.heap.size+1) 3 1 v1 (K.ch S.rules[k].frm.toNat).length (FP (K.ch S.rules[k].frm.toNat))):=(by have h:=ji;rw[ZS,ZP]at h;exact h);have jG:Below wr.heap.size wr w1:=(by exact(((Z2 _ wr).alloc (A5 _) _).alloc (by simp) _).grown jm (by simp only[A8];omega) (λq hq=>by(have jJ:some (wr.heap.size+1)=some q:=hq;injection jJ;omega)));have hz3:=jG.size;have jk:Below (wr.heap.size+1) (wr.alloc (aK #[aA aM S.rules[k].frm,aA aM S.rules[k].dst,aI S.rules[k].inp,aI S.rules[k].out,aA aM S.rules[k].cost] 88)) w1:=(by exact((Z2 _ _).alloc (by simp) _).grown jm (by simp only[A8];omega) (λq hq=>by(have jJ:some (wr.heap.size+1)=some q:=hq;injection jJ;omega)));have jo:=jk.size;have HB1:=A0 jG;have jA:=A0 jk;clear ji jm jG jk) | (at_builtin;refine wpList_append_own _ rfl _ _ 36 rfl (wr.heap.size+1) 3 i0 (aA aM 0) 1 8 Y5 hi iz0 iz1 iz2 rfl (by decide) v1 (K.ch S.rules[k].frm.toNat).length (FP (K.ch S.rules[k].frm.toNat)) rfl (World.ownsRow.alloc jK.out _) ⟨w1.heap.size,0,none⟩ 1 1 [aA aM (k:Int)] rfl rfl (cell_one_new _ _ _) (by simp[Value.oneCell']) (by unfold maxLen;omega) (by omega) (by simp only[A8]at jo ⊢;omega) ?_;intro v2 w2 jj jv _;have jx:=A0 (MR jj);have jH:Below (wr.heap.size+1) (wr.alloc (aK #[aA aM S.rules[k].frm,aA aM S.rules[k].dst,aI S.rules[k].inp,aI S.rules[k].out,aA aM S.rules[k].cost] 88)) w2:=(by exact(jA.out.alloc (by simp only[A8]at jo ⊢;omega) _).grown jv (by simp only[A8]at jo ⊢;omega) (λq hq=>by have:=jK.out;exact Ch.ge (xs:=K.ch S.rules[k].frm.toNat) this q hq));obtain⟨jZ,hcA,hfA⟩:=Aw jH rfl;have hzA2:wr.heap.size+1<=w2.heap.size:=(by simpa using jZ);have jl:Below wr.heap.size wr w2:=(by exact((Z2 _ wr).alloc (A5 _) _).trans (jH.mono (by omega)));have jg:=A0 (jc.out.below jl);obtain⟨bA,nA,cA,jY⟩:=jx.out.form;subst jY;have jB:=A0 (jx.out.mono (show w.heap.size<=wr.heap.size+1 by omega));have hB:=hB.trans (jl.mono (show w.heap.size<=wr.heap.size by omega));clear jj jv jH jl) | (go_at_call 140;refine(before_any bA bo nA no cA co (ints (K.ch S.rules[k].frm.toNat ++ [k])) (ints (O.ch S.rules[k].dst.toNat)) _ (jx.out.sls.2.trans (Ax _).symm) (jL.out _ jg.out).2 jx.out.sls.1 (jL.out _ jg.out).1 (by rw[Ax,AD];simp only[Zs,X7];omega) (by rw[Ax];omega)).mono ?_;rintro ee w3 ⟨jM,hb⟩;rw[jN.out]at jM;subst jM;have jr:=A0 (jg.out.below hb);have jP:=A0 (jB.out.below hb jB.out.lt);obtain⟨hzB,hcB,hfB⟩:=Ap hb rfl;have hB:=hB.trans (hb.mono (show w.heap.size<=w2.heap.size by have:=hB.size;omega));clear hb) | fail)
      first
       | (
         go_roundw
         case rel=>first | exact⟨k+1,vO,by omega,by go_num,by rw[jE.out];exact jr.out⟩ | exact⟨k+1,_,by omega,by go_num,by rw[jE.out];exact jr.out.store (by omega) jP.out⟩ | exact⟨k+1,_,by omega,by go_num,by rw[jE.out];exact jg.out.store (by omega) jB.out⟩
         case measure=>simp[intOf];omega)
       | fail
    ·have jq:Hid (CF (Bv silent) S.rules K (k+1)=O):=by show _=_;rw[HN.out,stepK,jD.out];unfold Bv;rw[hs,he];rfl
     have hemp2:=jf.2 he;subst hs;clear jf he;go_wp2
     go_roundw
     case rel=>exact⟨k+1,vO,by omega,by go_num,by rw[jq.out];exact jc.out.below (by go_grown)⟩
     case measure=>simp[intOf];omega
  ·obtain rfl:k=S.rules.length:=by omega
   go_upto_region 12 with fail
   obtain⟨O,hO⟩:∃ O,CF (Bv silent) S.rules K S.rules.length=O:=⟨_,rfl⟩
   have HO:Hid (Du (Bv silent) S.rules K=O):=hO;have jc:Hid (NX w.heap.size (((w.alloc (aK #[aA aM S.modes,aA aO S.acc,aG a S.rules.length cap] 33)).alloc (aK #[aH (K.is 0),aH (K.is 1),aH (K.is 2),aH (K.is 3),aH (K.is 4),aH (K.is 5),aH (K.is 6),aH (K.is 7),aG b0 n0 c0,aG b1 n1 c1,aG b2 n2 c2,aG b3 n3 c3,aG b4 n4 c4,aG b5 n5 c5,aG b6 n6 c6,aG b7 n7 c7] 229)).alloc (aK #[aH false,aH false,aH false,aH false,aH false,aH false,aH false,aH false,aG none 0 0,aG none 0 0,aG none 0 0,aG none 0 0,aG none 0 0,aG none 0 0,aG none 0 0,aG none 0 0] 229)) (w.heap.size+1+1+1) K O vK vO wr):=by have:=jc.out;rw[hO]at this;exact this
   clear hO jz;have ja:=jc.out.row;obtain⟨p0,m0,d0,g0⟩:=(jc.out.okO 0 (by omega)).form;obtain⟨p1,m1,d1,g1⟩:=(jc.out.okO 1 (by omega)).form;obtain⟨p2,m2,d2,g2⟩:=(jc.out.okO 2 (by omega)).form;obtain⟨p3,m3,d3,g3⟩:=(jc.out.okO 3 (by omega)).form;obtain⟨p4,m4,d4,g4⟩:=(jc.out.okO 4 (by omega)).form;obtain⟨p5,m5,d5,g5⟩:=(jc.out.okO 5 (by omega)).form;obtain⟨p6,m6,d6,g6⟩:=(jc.out.okO 6 (by omega)).form;obtain⟨p7,m7,d7,g7⟩:=(jc.out.okO 7 (by omega)).form;have r0:=ja.is (i:=0) (by omega);have r1:=ja.is (i:=1) (by omega);have r2:=ja.is (i:=2) (by omega);have r3:=ja.is (i:=3) (by omega);have r4:=ja.is (i:=4) (by omega);have r5:=ja.is (i:=5) (by omega);have r6:=ja.is (i:=6) (by omega);have r7:=ja.is (i:=7) (by omega);have r8:=ja.vs (i:=0) (by omega);rw[g0]at r8;have r9:=ja.vs (i:=1) (by omega);rw[g1]at r9;have r10:=ja.vs (i:=2) (by omega);rw[g2]at r10;have r11:=ja.vs (i:=3) (by omega);rw[g3]at r11;have r12:=ja.vs (i:=4) (by omega);rw[g4]at r12;have r13:=ja.vs (i:=5) (by omega);rw[g5]at r13;have r14:=ja.vs (i:=6) (by omega);rw[g6]at r14;have r15:=ja.vs (i:=7) (by omega);rw[g7]at r15;simp only[Nat.reduceAdd]at r8 r9 r10 r11 r12 r13 r14 r15;have jw:wr.heap[w.heap.size+1+1]? = some (aK #[aH false,aH false,aH false,aH false,aH false,aH false,aH false,aH false,aG none 0 0,aG none 0 0,aG none 0 0,aG none 0 0,aG none 0 0,aG none 0 0,aG none 0 0,aG none 0 0] 229 (0,0)):=by
    refine(js.block (w.heap.size+1+1) (by omega)).trans ?_;have:=Z4 ((w.alloc (aK #[aA aM S.modes,aA aO S.acc,aG a S.rules.length cap] 33)).alloc (aK #[aH (K.is 0),aH (K.is 1),aH (K.is 2),aH (K.is 3),aH (K.is 4),aH (K.is 5),aH (K.is 6),aH (K.is 7),aG b0 n0 c0,aG b1 n1 c1,aG b2 n2 c2,aG b3 n3 c3,aG b4 n4 c4,aG b5 n5 c5,aG b6 n6 c6,aG b7 n7 c7] 229)) (aK #[aH false,aH false,aH false,aH false,aH false,aH false,aH false,aH false,aG none 0 0,aG none 0 0,aG none 0 0,aG none 0 0,aG none 0 0,aG none 0 0,aG none 0 0,aG none 0 0] 229);simpa using this
   obtain⟨s0,s1,s2,s3,s4,s5,s6,s7,s8,s9,s10,s11,s12,s13,s14,s15⟩:=QH jw;have sf:∀ i,wr.frozen? ⟨w.heap.size+1+1,i,none⟩=false:=λi=>by simp[Zn,jw]
   have ju:=VI (y0:=aH (O.is 0)) (y1:=aH (O.is 1)) (y2:=aH (O.is 2)) (y3:=aH (O.is 3)) (y4:=aH (O.is 4)) (y5:=aH (O.is 5)) (y6:=aH (O.is 6)) (y7:=aH (O.is 7)) (y8:=aG p0 m0 d0) (y9:=aG p1 m1 d1) (y10:=aG p2 m2 d2) (y11:=aG p3 m3 d3) (y12:=aG p4 m4 d4) (y13:=aG p5 m5 d5) (y14:=aG p6 m6 d6) (y15:=aG p7 m7 d7) jw;have jC:=A0 ju;have jU:=A0 jw;have jV:Hid (#[aH (O.is 0),aH (O.is 1),aH (O.is 2),aH (O.is 3),aH (O.is 4),aH (O.is 5),aH (O.is 6),aH (O.is 7),aG p0 m0 d0,aG p1 m1 d1,aG p2 m2 d2,aG p3 m3 d3,aG p4 m4 d4,aG p5 m5 d5,aG p6 m6 d6,aG p7 m7 d7]=(wkL O.is vO).toArray):=by
    show _=_;rw[<- g0,<- g1,<- g2,<- g3,<- g4,<- g5,<- g6,<- g7];rfl
   clear ja jw ju g0 g1 g2 g3 g4 g5 g6 g7;go_wp2;obtain⟨u0,u1,u2,u3,u4,u5,u6,u7,u8,u9,u10,u11,u12,u13,u14,u15⟩:=QH jC.out;refine bodyPost_ret (v:=aJ #[aH (O.is 0),aH (O.is 1),aH (O.is 2),aH (O.is 3),aH (O.is 4),aH (O.is 5),aH (O.is 6),aH (O.is 7),aG p0 m0 d0,aG p1 m1 d1,aG p2 m2 d2,aG p3 m3 d3,aG p4 m4 d4,aG p5 m5 d5,aG p6 m6 d6,aG p7 m7 d7]) (by simp[results,Tryz.results139,go_sem,u0,u1,u2,u3,u4,u5,u6,u7,u8,u9,u10,u11,u12,u13,u14,u15]) rfl ⟨vO,?_,?_,?_⟩
   · rw[jV.out,HO.out]
   ·intro t ht;rw[HO.out];refine(jc.out.okO t ht).same λq hq=>Mq λe=>?_;obtain⟨cs',h2⟩:=(jc.out.okO t ht).own hq;rw[e,jU.out]at h2;cases h2
   · exact((((((((((((((((hB.setCell (by simp;omega) _)).setCell (by simp;omega) _).setCell (by simp;omega) _).setCell (by simp;omega) _).setCell (by simp;omega) _).setCell (by simp;omega) _).setCell (by simp;omega) _).setCell (by simp;omega) _).setCell (by simp;omega) _).setCell (by simp;omega) _).setCell (by simp;omega) _).setCell (by simp;omega) _).setCell (by simp;omega) _).setCell (by simp;omega) _).setCell (by simp;omega) _).setCell (by simp;omega) _
def inB (a b c:Int):Bool:=decide (b<=a) && decide (a<=c)
def Ex {a b c:Int}(h:b<=a)(h2:a<=c):inB a b c=true:=by simp[inB,h,h2]
def F5 {a b c:Int}(h:¬ (b<=a/\a<=c)):inB a b c=false:=by
 unfold inB;rw[Xc];simp;omega
def CR (a b c:Int)(w:Z0):Zu Z1 51 #[aA aM a,aA aM b,aA aM c] w λe w'=>e=aP (aH (inB a b c))/\w'=w:=by
 by_cases h:b<=a
 ·by_cases h2:a<=c
  ·have H:=A0 (Ex h h2)
   go_enter Tryz.func51,xz
   go_wp2;go_ret;exact⟨Ad (by rw[H.out];try (simp[h2])),rfl⟩
  ·have H:=A0 (F5 (a:=a) (b:=b) (c:=c) (by omega))
   go_enter Tryz.func51,xz
   go_wp2;go_ret;exact⟨Ad (by rw[H.out];try (simp;omega)),rfl⟩
 ·have H:=A0 (F5 (a:=a) (b:=b) (c:=c) (by omega))
  go_enter Tryz.func51,xz
  go_wp2;go_ret;exact⟨Ad (by rw[H.out];try (simp;omega)),rfl⟩
def OI {c:Int}:(BD c == 1)=(decide (97<=c) && decide (c<=122)):=by
 unfold BD;by_cases h:97<=c/\c<=122
 · simp[h]
 ·rw[if_neg h];have:(decide (97<=c) && decide (c<=122))=false:=by rw[Xc];simp;omega
  rw[this];split
  · rfl
  · split <;> rfl
def small_any (s:ByteArray)(w:Z0)(hs:s.size<=9223372036854775807) :
  Zu Z1 60 #[aI s] w λe w'=>e=aP (aH (F4 s))/\w=w':=by
 go_enter Tryz.func60,Tryz.ntmps60
 go_wp2
 go_loop [3] (λi=>∃ k:Nat,k<=s.size/\i=aA aM k/\MO (s.data.toList.take k)=true) (λi=>s.size - (intOf i).toNat)
 case atStart=>exact⟨0,Ze _,rfl,rfl⟩
 case round =>
  obtain⟨k,hk,rfl,ht⟩:=hrel;have HT:=A0 ht;clear ht;by_cases ja:k<s.size
  ·have b0:(0:Int)<=(s[k].toNat:Int):=by omega
   have b1:(s[k].toNat:Int)<=255:=by have:=s[k].toNat_lt;omega
   by_cases hc:(97:Int)<=(s[k].toNat:Int)/\(s[k].toNat:Int)<=122
   ·have HC:Hid ((BD (s[k].toNat:Int) == 1)=true):=by show _=true;rw[OI];simp;omega
    obtain⟨q1,q2⟩:=hc;go_wp2
    go_round
    case rel=>exact⟨k+1,by omega,by go_num,FM s k ja HT.out HC.out⟩
    case measure=>simp[intOf];omega
   ·have HC:Hid ((BD (s[k].toNat:Int) == 1)=false):=by show _=false;rw[OI,Xc];simp;omega
    by_cases q1:(97:Int)<=(s[k].toNat:Int)
    ·have q2:(122:Int)<(s[k].toNat:Int):=by omega
     clear hc;go_wp2;go_ret;exact⟨Ad (DR s k ja HC.out).symm,rfl⟩
    ·clear hc;go_wp2;go_ret;exact⟨Ad (DR s k ja HC.out).symm,rfl⟩
  ·have HA:=A0 (FL s k ja);go_wp2;go_ret;exact⟨Ad (by rw[F4,<- HA.out];exact HT.out.symm),rfl⟩
def OJ {c:Int}:(BD c == 0)=(!(decide (97<=c) && decide (c<=122)) && (!(decide (65<=c) && decide (c<=90)) && !(decide (48<=c) && decide (c<=57)))):=by
 unfold BD;by_cases h:97<=c/\c<=122
 · simp[h]
 ·by_cases h2:65<=c/\c<=90
  · rw[if_neg h,if_pos h2];simp[h2]
  ·by_cases h3:48<=c/\c<=57
   · rw[if_neg h,if_neg h2,if_pos h3];simp[h3]
   · rw[if_neg h,if_neg h2,if_neg h3];simp;omega
def plain_any (s:ByteArray)(w:Z0)(hs:s.size<=9223372036854775807) :
  Zu Z1 61 #[aI s] w λe w'=>e=aP (aH (EB s))/\w=w':=by
 go_enter Tryz.func61,Tryz.ntmps61
 go_wp2
 go_loop [3] (λi=>∃ k:Nat,k<=s.size/\i=aA aM k/\He (s.data.toList.take k)=true) (λi=>s.size - (intOf i).toNat)
 case atStart=>exact⟨0,Ze _,rfl,rfl⟩
 case round
       =>
  obtain⟨k,hk,rfl,ht⟩:=hrel;have HT:=A0 ht;clear ht;by_cases ja:k<s.size
  ·have
      b0:(0:Int)<=(s[k].toNat:Int):=by omega
   have b1:(s[k].toNat:Int)<=255:=by have:=s[k].toNat_lt;omega
   rcases(show((97:Int)<=(s[k].toNat:Int)/\(s[k].toNat:Int)<=122)\/((65:Int)<=(s[k].toNat:Int)/\(s[k].toNat:Int)<=90)\/((48:Int)<=(s[k].toNat:Int)/\(s[k].toNat:Int)<=57)\/((122:Int)<(s[k].toNat:Int))\/((90:Int)<(s[k].toNat:Int)/\(s[k].toNat:Int)<97)\/((57:Int)<(s[k].toNat:Int)/\(s[k].toNat:Int)<65)\/((s[k].toNat:Int)<48) by omega) with h | h | h | h | h | h | h
   all_goals first
    | (
      have HC:Hid ((!(BD (s[k].toNat:Int) == 0))=true):=by
       show _=true;rw[OJ];simp;omega
      go_wp2
      go_round
      case rel=>exact⟨k+1,by omega,by go_num,FM s k ja HT.out HC.out⟩
      case measure=>simp[intOf];omega)
    | (
      have HC:Hid ((!(BD (s[k].toNat:Int) == 0))=false):=by
       show _=false;rw[OJ];simp;omega
      go_wp2;go_ret;exact⟨Ad (DR s k ja HC.out).symm,rfl⟩)
  ·have HA:=A0 (FL s k ja);go_wp2;go_ret;exact⟨Ad (by rw[EB,<- HA.out];exact HT.out.symm),rfl⟩
def Rc (m:Int)(r:Rl):DB m r=(inB r.frm 0 (m - 1) && (inB r.dst 0 (m - 1) && (decide ((r.inp.size:Int)<=4) && (F4 r.inp && (decide ((r.out.size:Int)<=4) && (EB r.out && inB r.cost 0 1000)))))):=by
 unfold DB inB;rw[show decide (r.frm<=m - 1)=decide (r.frm<m) from by rw[decide_eq_decide];omega,show decide (r.dst<=m - 1)=decide (r.dst<m) from by rw[decide_eq_decide];omega];simp only[Bool.and_assoc]
def M5 (r q:Rl):Et r q=Et q r:=by
 unfold Et;rw[show decide (r.frm=q.frm)=decide (q.frm=r.frm) from by rw[decide_eq_decide];exact eq_comm,show decide (r.dst=q.dst)=decide (q.dst=r.dst) from by rw[decide_eq_decide];exact eq_comm,
  show decide (r.inp.toList=q.inp.toList)=decide (q.inp.toList=r.inp.toList) from by rw[decide_eq_decide];exact eq_comm,show decide (r.out.toList=q.out.toList)=decide (q.out.toList=r.out.toList) from by rw[decide_eq_decide];exact eq_comm,
  show decide (r.cost=q.cost)=decide (q.cost=r.cost) from by rw[decide_eq_decide];exact eq_comm]
def rright_any (S:Sch)(a:Option Zj)(cap i:Nat)(w:Z0)(hR:BC w a S.rules)(hl:S.rules.length<=9223372036854775807)(hi:i<S.rules.length)(hm:1<=S.modes)(hm2:S.modes<=8) :
  Zu Z1 34 #[aJ #[aA aM S.modes,aA aO S.acc,aG a S.rules.length cap],aA aM (i:Int)] w λe w'=>e=aP (aH (CW S S.rules[i] (S.rules.take i)))/\Below w.heap.size w w':=by
 have HR:=A0 hR;clear hR;obtain⟨b,o,ha,hbw,p0,p1,p2,p3,p4⟩:=HR.out.at hi;have jb:=Bb a b o S.rules.length cap i ha hi;have HA:=A0 ha;clear ha;generalize hr:S.rules[i]=r at *;have HRI:=A0 hr;clear hr
 go_enter Tryz.func34,Tryz.ntmps34
 go_wp2
 go_loopg [6] i (λg j wr=>∃ k:Nat,k<=i/\g=i - k/\j=aA aM k/\(S.rules.take k).any (Et r)=false/\Below (w.heap.size+2) ((w.alloc (aK #[aA aM S.modes,aA aO S.acc,aG a S.rules.length cap] 33)).alloc (aK #[aA aM r.frm,aA aM r.dst,aI r.inp,aI r.out,aA aM r.cost] 88)) wr)
 case atStart=>exact⟨0,Ze _,rfl,rfl,rfl,Z2 _ _⟩
 case round =>
  obtain⟨k,hk,rfl,rfl,jf,je⟩:=hrel;have HN:=A0 jf;clear jf;have hB:Below w.heap.size w wr:=(((Z2 _ _).alloc (A5 _) _).alloc (by simp) _).trans (je.mono (by omega));obtain⟨hz,hc,hf⟩:=Aw je rfl;by_cases jg:k<i
  ·have ja:k<S.rules.length:=by omega
   obtain⟨b',o',jc,hb',q0,q1,q2,q3,q4⟩:=HR.out.at ja;have hidx:=Bb a b' o' S.rules.length cap k jc ja;have HA':=A0 jc;clear jc jb;have hcmp:=Lb S.rules[k] r;by_cases hq:Et r S.rules[k]=true
   ·have jh:Et S.rules[k] r=true:=by rw[M5];exact hq
    have HQ:Hid (CW S r (S.rules.take i)=false):=by
     have:=SG (R:=S.rules.take i) (p:=Et r) (k:=k) (by rw[AO];omega) (by rw[Xi];exact hq);show _=false;simp[CW,this]
    clear hq;go_wp2
    go_region
    go_wp2;go_ret;exact⟨Ad HQ.out.symm,by go_grown⟩
   ·have jd:Et r S.rules[k]=false:=by simpa using hq
    have jh:Et S.rules[k] r=false:=by rw[M5];exact jd
    have HQ:=A0 jd;clear hq jd;go_wp2
    go_region
    go_wp2
    go_roundg (i - (k+1))
    case rel=>exact⟨k+1,by omega,rfl,by go_num,NW ja HN.out HQ.out,by go_grown⟩
    case measure=>omega
  ·obtain rfl:k=i:=by omega
   clear jg;have HG:Hid (CW S r (S.rules.take k)=DB S.modes r):=by show _=_;simp[CW,HN.out]
   have HI:=A0 (Rc S.modes r)
   go_wp2_with (first
    | (go_at_call 51;refine(CR _ _ _ _).mono ?_;rintro e w' ⟨rfl,rfl⟩)
    | (go_at_call 60;refine(small_any _ _ (by omega)).mono ?_;rintro e w' ⟨rfl,rfl⟩)
    | (go_at_call 61;refine(plain_any _ _ (by omega)).mono ?_;rintro e w' ⟨rfl,rfl⟩))
   all_goals go_ret
   all_goals exact⟨Ad (by rw[HG.out,HI.out];first | (simp[*];done) | (simp[*];omega)),by go_grown⟩
def rcheck_any (S:Sch)(a:Option Zj)(cap:Nat)(w:Z0)(hR:BC w a S.rules)(h0:0<=S.acc)(h1:S.acc<=255)(hl:S.rules.length<=9223372036854775807) :
  Zu Z1 91 #[aJ #[aA aM S.modes,aA aO S.acc,aG a S.rules.length cap]] w (Lc S w):=by
 by_cases hm:¬ (1<=S.modes/\S.modes<=8)
 ·have H:=A0 (CX (S:=S) (Dl (by unfold EI;simp only[Xc,decide_eq_false_iff_not];omega)));have g1:inB S.modes 1 8=false:=F5 hm;clear hm
  go_enter Tryz.func91,Tryz.ntmps91
  go_wp2_with fail
  go_quiet ((go_at_call 51;exact xn (CR _ _ _ _)))
  go_wp2
  go_ret2
  exact⟨-1,by rw[H.out];rfl,((Z2 _ _).alloc (A5 _) _).trans (below_drewN _ _)⟩
 have jk:1<=S.modes/\S.modes<=8:=by omega
 clear hm;obtain⟨hm,je⟩:=jk;have g1:inB S.modes 1 8=true:=Ex hm je;obtain⟨p2,ja⟩:∃ p,(2:Int) ^ S.modes.toNat=p:=⟨_,rfl⟩
 have hp0:0<=p2/\p2<=256:=by
  rw[<- ja];exact Px _ (by omega)
 have hw:wrap64 (2 ^ S.modes.toNat)=p2:=by rw[ja];exact IntWalk.wrap64_in _ (by omega)
 have jm:IntKind.i64.wrap (2 ^ S.modes.toNat)=p2:=by rw[ja];exact Zq _ (by omega)
 have hs:wrap64 (p2 - 1)=p2 - 1:=IntWalk.wrap64_in _ (by omega);have jl:IntKind.i64.wrap (p2 - 1)=p2 - 1:=Zq _ (by omega);by_cases hp:¬ (1<=S.acc/\S.acc<=p2 - 1)
 ·have H:=A0 (CX (S:=S) (Dl (by unfold EI;rw[ja];simp only[Xc,decide_eq_false_iff_not];omega)));have g2:inB S.acc 1 (p2 - 1)=false:=F5 hp;have jf:=A0 ja;clear ja hp
  go_enter Tryz.func91,Tryz.ntmps91
  go_wp2_with fail
  go_quiet ((go_at_call 51;exact xn (CR _ _ _ _)))
  go_wp2
  go_ret2
  exact⟨-1,by rw[H.out];rfl,((Z2 _ _).alloc (A5 _) _).trans (below_drewN _ _)⟩
 have jc:1<=S.acc/\S.acc<=p2 - 1:=by omega
 have g2:inB S.acc 1 (p2 - 1)=true:=Ex jc.1 jc.2;by_cases hl64:64<S.rules.length
 ·have H:=A0 (CX (S:=S) (Dl (by unfold EI;rw[ja];simp only[Xc,decide_eq_false_iff_not];omega)));have hd:decide (64<(S.rules.length:Int))=true:=by simp;omega
  have jf:=A0 ja;clear ja hp jc
  go_enter Tryz.func91,Tryz.ntmps91
  go_wp2_with fail
  go_quiet ((go_at_call 51;exact xn (CR _ _ _ _)))
  go_wp2
  go_ret2
  exact⟨-1,by rw[H.out];rfl,((Z2 _ _).alloc (A5 _) _).trans (below_drewN _ _)⟩
 have hd:decide (64<(S.rules.length:Int))=false:=by simp;omega
 have HH:Hid (EI S=true):=by show _=true;unfold EI;rw[ja];simp only[Zg,decide_eq_true_eq];omega
 have jf:=A0 ja;clear ja hp jc;have HR:=A0 hR;clear hR
 go_enter Tryz.func91,Tryz.ntmps91
 go_wp2_with fail
 go_quiet ((go_at_call 51;exact xn (CR _ _ _ _)))
 go_wp2;clear hw jm hs jl g1 g2
 go_loopg [4] S.rules.length (λg i wr=>∃ k:Nat,k<=S.rules.length/\g=S.rules.length - k/\i=aA aM k/\Fd S k/\Below (w.heap.size+1) (w.alloc (aK #[aA aM S.modes,aA aO S.acc,aG a S.rules.length cap] 33)) wr)
 case atStart=>exact⟨0,Ze _,rfl,rfl,λi _ h=>by omega,(below_drewN _ _)⟩
 case round =>
  obtain⟨k,hk,rfl,rfl,hv,jd⟩:=hrel;have HV:=A0 hv;clear hv;have hB:Below w.heap.size w wr:=((Z2 _ _).alloc (A5 _) _).trans (jd.mono (by omega));obtain⟨hz,hc,hf⟩:=Aw jd rfl;by_cases jb:k<S.rules.length
  ·have jg:Hid (BC wr a S.rules):=HR.out.later hB (A5 _);by_cases hg:CW S S.rules[k] (S.rules.take k)=true
   ·have HB:Hid (Fd S (k+1)):=I5 jb HV.out hg
    go_wp2_with (go_at_call 34;refine(rright_any S a cap k _ jg.out hl jb hm je).mono ?_;rintro e w1 ⟨rfl,hb⟩;obtain⟨jn,jh,ji⟩:=Ap hb rfl;have hB:=Ac (B:=w.heap.size) (w:=w) (by go_grown) hb (A5 _))
    go_roundg (S.rules.length - (k+1))
    case rel=>exact⟨k+1,by omega,rfl,by go_num,HB.out,jd.trans ((by assumption:Below wr.heap.size wr w1).mono (by simp at hz;omega))⟩
    case measure=>omega
   ·have jj:CW S S.rules[k] (S.rules.take k)=false:=by simpa using hg
    have HB:Hid (I4 S=20):=CX (Oj jb jj);clear hg
    go_wp2_with (go_at_call 34;refine(rright_any S a cap k _ jg.out hl jb hm je).mono ?_;rintro e w1 ⟨rfl,hb⟩;obtain⟨jn,jh,ji⟩:=Ap hb rfl;have hB:=Ac (B:=w.heap.size) (w:=w) (by go_grown) hb (A5 _))
    go_ret2
    exact⟨k,by rw[HB.out];rfl,by go_grown⟩
  ·obtain rfl:k=S.rules.length:=by omega
   have HB:Hid (I4 S=0):=Ld ⟨HH.out,HV.out⟩;go_wp2
   go_ret2
   exact⟨_,by rw[HB.out];rfl,hB⟩
def rvalid_any (S:Sch)(a:Option Zj)(cap:Nat)(w:Z0)(hR:BC w a S.rules)(h0:0<=S.acc)(h1:S.acc<=255)(hl:S.rules.length<=9223372036854775807) :
  Zu Z1 58 #[aJ #[aA aM S.modes,aA aO S.acc,aG a S.rules.length cap]] w λe w'=>e=aP (aH (validB S))/\Below w.heap.size w w':=by
 have HR:Hid (BC (w.alloc (aK #[aA aM S.modes,aA aO S.acc,aG a S.rules.length cap] 33)) a S.rules):=hR.later ((Z2 _ _).alloc (A5 _) _) (A5 _);have HE:Hid ((I4 S == 0)=validB S):=by show _=_;unfold I4;cases validB S <;> rfl
 clear hR
 go_enter Tryz.func58,Tryz.ntmps58
 go_wp2_with (go_at_call 91;refine(rcheck_any S a cap _ HR.out h0 h1 hl).mono ?_;rintro e w1 ⟨i,rfl,hb⟩;have hB:=Ac (B:=w.heap.size) (w:=w) (by go_grown) hb (A5 _);clear hb)
 go_ret;exact⟨Ad HE.out,hB⟩
def Rl.cells (r:Rl):List Z6:=[aA aM r.frm,aA aM r.dst,aI r.inp,aI r.out,aA aM r.cost]
def B4 (R:List Rl):List Z6:=R.flatMap Rl.cells
def C2 (R:List Rl):(B4 R).length=R.length*5:=by
 induction R with
 | nil=>rfl
 | cons r R ih=>rw[B4,ZA,AD];have:(R.flatMap Rl.cells).length=R.length*5:=ih;rw[this];simp[Rl.cells];omega
def Ht:∀ {R:List Rl} {i j:Nat} (hi:i<R.length) (hj:j<5),(B4 R)[i*5+j]? = R[i].cells[j]?
 | r :: R,0,j,_,hj=>by
  rw[B4,ZA,Nat.zero_mul,ZS,AK (by simp[Rl.cells];omega)];rfl
 | r :: R,i+1,j,hi,hj=>by
  rw[B4,ZA,AM (by simp[Rl.cells];omega)];have:(i+1)*5+j - r.cells.length=i*5+j:=by simp[Rl.cells];omega
  rw[this];exact Ht (R:=R) (by simpa using hi) hj
def Cg (w:Z0)(B:Nat)(v:Z6)(R:List Rl):Prop:=w.ownsRow B 88 5 v R.length (B4 R)
def Cg.rules {w:Z0}{B:Nat}{v:Z6}{R:List Rl}(h:Cg w B v R):∃ a c,v=aG a R.length c/\BC w a R/\R.length<=c:=by
 rcases id h.2 with⟨rfl,h0⟩ | ⟨g,cap,cur,rfl,h1,h2,h3,h4⟩
 ·obtain rfl:R=[]:=Zo h0;exact⟨none,0,rfl,.inl rfl,A5 _⟩
 ·refine⟨some ⟨g,0,none⟩,cap,rfl,.inr ⟨g,0,rfl,(A7.1 h2).1,λi hi=>?_⟩,h3⟩;have hc:∀ j,j<5->w.cell? ⟨g,0+i*5+j,none⟩=R[i].cells[j]?:=λj hj=>by
   have hg:=Ht (R:=R) hi hj;cases hq:R[i].cells[j]? with
   | none=>simp[Rl.cells]at hq;omega
   | some u =>
    rw[hq]at hg;have:=zZ (g:=g) h rfl (i*5+j) u hg;rw[Addr.add_lit]at this;rw[ZS]at this ⊢;exact this
  exact⟨hc 0 (by omega),hc 1 (by omega),hc 2 (by omega),hc 3 (by omega),hc 4 (by omega)⟩
def Cg.below {w w1:Z0}{B C:Nat}{v:Z6}{R:List Rl}(h:Cg w B v R)(hb:Below C w w1)(hv:∀ g,v.ownBlock=some g->g<C):Cg w1 B v R:=by
 refine⟨h.1,h.2.imp id ?_⟩;rintro⟨g,cap,cur,rfl,h1,h2,h3⟩;exact⟨g,cap,cur,rfl,h1,(hb.block g (hv g rfl)).trans h2,h3⟩
def Cg.ge {w:Z0}{B:Nat}{v:Z6}{R:List Rl}(h:Cg w B v R):∀ g,v.ownBlock=some g->B<=g:=by
 intro g hg;rcases h.2 with⟨rfl,_⟩ | ⟨g',cap,cur,rfl,h1,h2,h3⟩
 · cases hg
 · cases hg;exact h1
def Cg.lt {w:Z0}{B:Nat}{v:Z6}{R:List Rl}(h:Cg w B v R):∀ g,v.ownBlock=some g->g<w.heap.size:=by
 intro g hg;rcases h.2 with⟨rfl,_⟩ | ⟨g',cap,cur,rfl,h1,h2,h3⟩
 · cases hg
 · cases hg;exact(A7.1 h2).1
def Cg.drop {w:Z0}{B:Nat}{a:Option Zj}{n c:Nat}{R:List Rl}{r:Rl}(h:Cg w B (aG a n c) (R ++ [r])):Cg w B (aG a R.length c) R:=by
 refine⟨by rw[C2],.inr ?_⟩;rcases h.2 with⟨he,h0⟩ | ⟨g,cap,cur,he,h1,h2,h3,h4,h5,h6⟩
 · simp at h0
 ·injection he with e1 e2 e3;subst e1 e3;refine⟨g,c,cur,rfl,h1,h2,by simp at h3;omega,h4,h5,?_⟩;have:B4 (R ++ [r])=B4 R ++ r.cells:=by simp[B4]
  rw[this]at h6;have h7:=congrArg (List.take (R.length*5)) h6;have e7:List.take (R.length*5) (B4 R)=B4 R:=AH (by rw[C2];omega);rw[List.take_take,List.take_append_of_le_length (by rw[C2];omega),e7,show min (R.length*5) ((R ++ [r]).length*5)=R.length*5 by rw[AD];omega]at h7;exact h7
def Iz (v0:Z6)(r:Rl)(v:Z6)(W:Z0):Prop:=∃ g,v=aG (some ⟨g,0,none⟩) 1 1/\W.heap[g]? = some (aK #[aA aM r.frm,aA aM r.dst,aI r.inp,aI r.out,aA aM r.cost] 88 (0,0))/\v0.ownBlock≠some g
def Mr (v0:Z6)(r:Rl):Bq (Iz v0 r):=by
 rintro v w w' ⟨g,hv,hg,ja⟩ hx;exact⟨g,hv,(Z7 hx g (A7.1 hg).1).trans hg,ja⟩
def Ms (v0:Z6)(r:Rl):∀ v w w',Iz v0 r v w->World.grownBy w w' v0.ownBlock->Iz v0 r v w':=by
 rintro v w w' ⟨g,hv,hg,ja⟩ hx;exact⟨g,hv,(hx.block g (A7.1 hg).1 (λe=>ja e.symm)).trans hg,ja⟩
def JR:(Tryz.prog.info? 88).map (λi=>(i.zero,i.size,i.bytes))=some (some (aJ #[aA aM 0,aA aM 0,aI ⟨#[]⟩,aI ⟨#[]⟩,aA aM 0]),5,56):=by kernel_rfl
section
variable {w M0:World} {g ga:Nat} {T6 T4:Array Value} {mo ac:Int} {v:Value} {R:List Rl} {wr w1:World}
def Cg.set {g i:Nat}{u:Z6}{B:Nat}(h:Cg wr B v R)(hg:g<B):Cg (wr.setCell ⟨g,i,none⟩ u) B v R:=by
 refine⟨h.1,h.2.imp id ?_⟩;rintro⟨b,cap,cur,rfl,h1,h2,h3⟩;refine⟨b,cap,cur,rfl,h1,?_,h3⟩;rw[Zc _ _ _ _ (by show b≠g;omega)];exact h2
end
def Gy {W:Z0}{g:Nat}{r:Rl}{t:X5}(h:W.heap[g]? = some (aK #[aA aM r.frm,aA aM r.dst,aI r.inp,aI r.out,aA aM r.cost] t (0,0))):∀ j u,r.cells[j]? = some u->W.cell? ((⟨g,0,none⟩:Zj).add j)=some u:=by
 intro j u hj;have hc:=Z3 W g j _ _ (0,0) h;have e:(⟨g,0,none⟩:Zj).add j=⟨g,j,none⟩:=by rw[Addr.add_lit,ZS]
 rw[e,hc];simpa[Rl.cells] using hj
def Vo (r:Rl):∀ u∈r.cells,u.oneCell'=true:=by
 intro u hu;simp only[Rl.cells,AX,ZN,or_false]at hu;rcases hu with rfl | rfl | rfl | rfl | rfl <;> rfl
def PH {A:Act}{W:Z0}{o:ZX}{s x:Operand}{B:Nat}{v u:Z6}{R:List Rl}{r:Rl}
  (ho:o.op=.call { callee:=.builtin .append,args:=#[s,x],argTypes:=#[31,31] }) (hs:A.eval s=v) (ja:Cg W B v R) (hx:A.eval x=u) (hu:Iz v r u W) (hl:R.length<1000) (hB:B<=W.heap.size) :
  EY Z1 A o W (λv' w'=>Cg w' B v' (R ++ [r])/\W.grownBy w' v.ownBlock):=by
 obtain⟨i0,hi,jb,jc,jd⟩:=info_parts JR;obtain⟨g,hv,hg,hne⟩:=hu;obtain⟨v',w',hr,h1,h2,h3⟩:=run_append_own (P:=Z1) (w:=W) B 31 o.type 88 i0 _ 5 56 Tryz.underlying31 hi jb jc jd rfl (by decide) v R.length (B4 R) ja ⟨g,0,none⟩ 1 1 r.cells rfl (Gy hg) (Vo r) (by unfold maxLen;omega) (by omega) hB;refine .inl ⟨v',w',?_,?_,h2⟩
 ·unfold execOp;simp only[ho,resolve,invoke,builtin,Sem.run_bind,Sem.run_pure,Result.andThen_ok,List.map_toArray,Y4,List.map_nil,hs,hx,hv,hr]
 ·have e:B4 R ++ r.cells=B4 (R ++ [r]):=by simp[B4]
  have e2:(R ++ [r]).length=R.length+1:=by simp
  unfold Cg;rw[e2,<- e];exact h1
def Cg.ruls {w:Z0}{B:Nat}{b:Option Zj}{n c:Nat}{R:List Rl}(h:Cg w B (aG b n c) R):BC w b R/\n=R.length/\R.length<=c:=by
 obtain⟨a,c',he,h1,h2⟩:=h.rules;injection he with e1 e2 e3;subst e1 e3;exact⟨h1,e2,h2⟩
def Cg.mono {w:Z0}{B C:Nat}{v:Z6}{R:List Rl}(h:Cg w B v R)(hC:C<=B):Cg w C v R :=
 ⟨h.1,h.2.imp id λ⟨g,cap,cur,hv,hg,h2⟩=>⟨g,cap,cur,hv,AA hC hg,h2⟩⟩
def KV {P:Program}{ops:Array ZX}{Q:Exit->Act->Z0->Prop}{L:Nat}{K:Act->Z0->Prop}{o:ZX}{A:Act}{W:Z0}{ty t:X5}{p v:Operand}{g:Nat}{x' y' z':Z6}{n m:Int}{a:Option Zj}{k c:Nat}
  (ho:ops[L]? = some o) (hg:o.guard=none) (ja:o.op=.store ty p v) (hd:o.dst=none) (hp:A.eval p=aB (some ⟨g,0,none⟩)) (hv:A.eval v=aJ #[aA aM n,aA aO m,aG a k c]) (hr:W.heap[g]? = some (aK #[x',y',z'] t (0,0))) (jb:(sizeOf ty).run P W=.ok 3 W)
  (hK:K A (((W.setCell ⟨g,0,none⟩ (aA aM n)).setCell ⟨g,1,none⟩ (aA aO m)).setCell ⟨g,2,none⟩ (aG a k c))):wpOp P ops Q L K A W:=by
 unfold wpOp;rw[ho];have hw:Zv o (yielded ops A.tmps)=true:=by unfold Zv;rw[hg]
 simp only[hw,if_pos];refine .inl ?_;unfold xe execOp;obtain⟨c0,c1,c2⟩:=cells3 hr;have hf:∀ i,W.frozen? ⟨g,i,none⟩=false:=λi=>by simp[Zn,hr]
 simp only[ja,hp,hv];simp[go_sem,hf,c0,c1,c2,jb];rw[hd];exact hK
structure TX0 (wl:Z0)(B0 gt:Nat)(mo ac:Int)(v:Z6)(wr:Z0):Prop where
 bl:Below B0 wl wr
 rep:wr.heap[gt]? = some (aK #[aA aM mo,aA aO ac,v] 33 (0,0))
 ge:B0<=gt
structure TX (wl:Z0)(B0 gt:Nat)(mo ac:Int)(v:Z6)(T:List Rl)(wr:Z0):Prop extends TX0 wl B0 gt mo ac v wr where
 own:Cg wr B0 v T
section
variable {wl:World} {B0 gt:Nat} {mo ac:Int} {v v':Value} {T T':List Rl} {wr w1:World} {row:Option Nat}
def TX0.gs (h:TX0 wl B0 gt mo ac v wr):gt<wr.heap.size:=(A7.1 h.rep).1
def TX0.below (h:TX0 wl B0 gt mo ac v wr)(hb:Below wr.heap.size wr w1):TX0 wl B0 gt mo ac v w1 :=
 ⟨h.bl.trans (hb.mono (AA h.ge (Nat.le_of_lt h.gs))),(hb.block gt h.gs).trans h.rep,h.ge⟩
def TX.below (h:TX wl B0 gt mo ac v T wr)(hb:Below wr.heap.size wr w1):TX wl B0 gt mo ac v T w1:=⟨h.toTX0.below hb,h.own.below hb h.own.lt⟩
def TX0.cells (h:TX0 wl B0 gt mo ac v wr):wr.cell? ⟨gt,0,none⟩=some (aA aM mo)/\wr.cell? ⟨gt,1,none⟩=some (aA aO ac)/\wr.cell? ⟨gt,2,none⟩=some v:=cells3 h.rep
def TX0.free (h:TX0 wl B0 gt mo ac v wr)(i:Nat):wr.frozen? ⟨gt,i,none⟩=false:=by simp[Zn,h.rep]
def Cg.ne_of {B:Nat}{cs:Array Z6}(h:Cg wr B v T)(hr:wr.heap[gt]? = some (.cells cs 33 (0,0))):∀ q,v.ownBlock=some q->q≠gt:=by
 intro q hq e;subst e;rcases h.2 with⟨rfl,_⟩ | ⟨g',cap,cur,rfl,h1,h2,h3⟩
 · cases hq
 ·cases hq;rw[hr]at h2;injection h2 with h2;injection h2 with _ h2 _;exact absurd h2 (by decide)
def TX0.grown (h:TX0 wl B0 gt mo ac v wr)(hg:wr.grownBy w1 row)(hr:∀ k,row=some k->B0<=k)(hn:∀ k,row=some k->k≠gt):TX0 wl B0 gt mo ac v w1 :=
 ⟨h.bl.grown hg (AA h.ge (Nat.le_of_lt h.gs)) hr,(hg.block gt h.gs (λe=>hn gt e.symm rfl)).trans h.rep,h.ge⟩
def TX0.put (h:TX0 wl B0 gt mo ac v wr)(ho:Cg wr B0 v' T'):TX wl B0 gt mo ac v' T' (wr.setCell ⟨gt,2,none⟩ v'):=by
 refine⟨⟨h.bl.setCell h.ge _,Aj h.rep rfl,h.ge⟩,?_⟩;have ja:=ho.ne_of h.rep;refine⟨ho.1,ho.2.imp id ?_⟩;rintro⟨b,cap,cur,rfl,h1,h2,h3⟩;refine⟨b,cap,cur,rfl,h1,?_,h3⟩;rw[Zc _ _ _ _ (ja b rfl)];exact h2
end
end Go.Proofs.YtpljngaejaehcaaGreatDoor.Fl
