/- Texts that the claims share. -/
import Derived.Deep.CutBlock
import Derived.Laws.Concat
import Derived.Test.YtpljngaejaehcaaGreatDoorMF3
import Derived.Test.YtpljngaejaehcaaGreatDoorMD1
open Go.Value renaming int->aA,pointer->aB,slice->aG,bool->aH,string->aI,agg->aJ,slice->Zk
open Go.Obj renaming cells->aK
open Go.IntKind renaming i64->aM,u8->aO
open Go.Ending renaming returned->aP
open Go.Act renaming eval->Zf,put->ZE
open Go renaming Addr->Zj,Calls->Zu,Oper->ZX,TypeId->X5,Value->Z6,World->Z0,cell_of_row->Z3,heap_alloc_new->Z4,undef->Z8
open Array renaming length_toList->Xq,toList_append->XQ
open Go.RowKit.Below renaming block->Z7,heap_alloc->ZF,heap_setCell->Zc,mono->ZT,refl->Z2
open Bool renaming and_eq_true->Zg
open ByteArray renaming size_append->zv
open Go.Instr renaming indexAt->ZK,slice->Xm,sliceBound->XA,sliceBounds->Xw
open List renaming append_assoc->Zw,eq_nil_of_length_eq_zero->Zo,foldl->Zp,map_cons->Y4,not_mem_nil->ZN,range'->Zd,setIfInBounds_toArray->Z5,set_cons_succ->Za,set_cons_zero->Z9,size_toArray->zm,take_length->zg
open Go.Region renaming binds->Zl
open Go.Proofs.Tryz renaming prog->Z1
open Go.World renaming frozen?->Zn
set_option maxHeartbeats 12800000
set_option maxRecDepth 100000
set_option linter.unusedVariables false
set_option linter.unusedSimpArgs false
set_option linter.defProp false
namespace Go.Proofs.YtpljngaejaehcaaGreatDoor.Fl
open Go.RowKit
def Df (x y:Int)(s o:ByteArray)(w:Z0)(hs:s.size<=1000) :
  Zu Z1 50 #[aJ #[aA aM x,aA aM y],aI s,aI o] w λe w'=>e=aP (aJ #[aA aM x,aA aM y,aI s,aI o,aA aM (s.size:Int)])/\Below w.heap.size w w':=by
 go_enter Tryz.func50,Tryz.ntmps50
 go_wp2_with fail
 refine bodyPost_ret (v:=aJ #[aA aM x,aA aM y,aI s,aI o,aA aM (s.size:Int)]) (by simp[results,Tryz.results50,go_sem]) rfl ⟨rfl,by go_grown⟩
def CC {w:Z0}{g:Nat}{a b:Z6}{t:X5}{f:Nat × Nat}(h:w.heap[g]? = some (aK #[a,b] t f)):w.cell? ⟨g,0,none⟩=some a/\w.cell? ⟨g,1,none⟩=some b :=
 ⟨Z3 w g 0 _ _ f h,Z3 w g 1 _ _ f h⟩
def LE (B:Nat)(R:List Rl)(v:Z6)(W:Z0):Prop:=∃ g,v=aG (some ⟨g,0,none⟩) R.length R.length/\W.heap[g]? = some (.cells (B4 R).toArray 88 (0,0))/\B<=g
def Ep (B:Nat)(R:List Rl):Bq (LE B R):=by
 rintro v w w' ⟨g,hv,hg,hB⟩ hx;exact⟨g,hv,(Z7 hx g (A7.1 hg).1).trans hg,hB⟩
def OK {B g:Nat}{R:List Rl}{W:Z0}(hg:W.heap[g]? = some (.cells (B4 R).toArray 88 (0,0)))(hB:B<=g)(hl:R.length<=1000):Cg W B (aG (some ⟨g,0,none⟩) R.length R.length) R:=by
 refine⟨C2 R,.inr ⟨g,R.length,(B4 R).toArray,rfl,hB,hg,A5 _,by unfold maxLen;omega,by simp[C2],?_⟩⟩;rw[List.toList_toArray,<- C2 R,zg]
def CV (j:Nat):Sch:=match j with
 | 0=>⟨1,1,[⟨0,0,⟨#[97]⟩,⟨#[97]⟩,1⟩,⟨0,0,⟨#[98]⟩,⟨#[98]⟩,1⟩,⟨0,0,⟨#[99]⟩,⟨#[99]⟩,1⟩]⟩
 | 1=>⟨1,1,[⟨0,0,⟨#[97]⟩,⟨#[65]⟩,1⟩,⟨0,0,⟨#[98,97]⟩,⟨#[66]⟩,2⟩,⟨0,0,⟨#[99,97]⟩,⟨#[67]⟩,2⟩,⟨0,0,⟨#[98]⟩,⟨#[98]⟩,1⟩]⟩
 | 2=>⟨2,1,[⟨0,1,⟨#[99]⟩,⟨#[]⟩,1⟩,⟨1,0,⟨#[97]⟩,⟨#[65]⟩,1⟩,⟨1,0,⟨#[98]⟩,⟨#[66]⟩,1⟩,⟨0,0,⟨#[97]⟩,⟨#[97]⟩,1⟩,⟨0,0,⟨#[98]⟩,⟨#[98]⟩,1⟩]⟩
 | 3=>⟨1,1,[⟨0,0,⟨#[97]⟩,⟨#[97]⟩,1⟩,⟨0,0,⟨#[98]⟩,⟨#[98]⟩,1⟩,⟨0,0,⟨#[97,98]⟩,⟨#[97,98,99,49]⟩,2⟩,⟨0,0,⟨#[99]⟩,⟨#[99]⟩,1⟩]⟩
 | 4=>⟨1,1,[⟨0,0,⟨#[97]⟩,⟨#[97]⟩,1⟩,⟨0,0,⟨#[98]⟩,⟨#[98]⟩,0⟩,⟨0,0,⟨#[99]⟩,⟨#[98]⟩,7⟩,⟨0,0,⟨#[98]⟩,⟨#[99]⟩,9⟩]⟩
 | _=>⟨1,1,[⟨0,0,⟨#[97]⟩,⟨#[97]⟩,1⟩,⟨0,0,⟨#[97]⟩,⟨#[65]⟩,1⟩,⟨0,0,⟨#[97,97]⟩,⟨#[66]⟩,2⟩,⟨0,0,⟨#[98]⟩,⟨#[98]⟩,1⟩,⟨0,0,⟨#[98]⟩,⟨#[]⟩,20⟩]⟩
def Vq (B:Nat)(R:List Rl)(v:Z6)(W:Z0):Prop:=∃ g,v=aJ #[aA aM 2,aA aO 1,aG (some ⟨g,0,none⟩) R.length R.length]/\W.heap[g]? = some (.cells (B4 R).toArray 88 (0,0))/\B<=g
def PI (B:Nat)(R:List Rl):Bq (Vq B R):=by
 rintro v w w' ⟨g,hv,hg,hB⟩ hx;exact⟨g,hv,(Z7 hx g (A7.1 hg).1).trans hg,hB⟩
def OL (k:Int)(w:Z0)(e:Ending)(w':Z0):Prop :=
 ∃ (S:Sch) (b:Option Zj) (n:Nat),e=aP (aJ #[aA aM S.modes,aA aO S.acc,aG b S.rules.length n])/\n=S.rules.length/\1<=S.modes/\S.modes<=2/\S.acc=1/\2<=S.rules.length/\S.rules.length<=5/\Cg w' w.heap.size (aG b S.rules.length n) S.rules/\Below w.heap.size w w'/\∃ j:Nat,j<6/\k % 6=(j:Int)/\S=CV j
def TA {w w':Z0}{B g:Nat}{mo:Int}{R:List Rl}(hg:w'.heap[g]? = some (.cells (B4 R).toArray 88 (0,0)))(hB:B<=g)(hw:w.heap.size<=B)(h1:1<=mo)(h2:mo<=2)(h3:2<=R.length)(h4:R.length<=5)(hb:Below w.heap.size w w'){k:Int}(hj:∃ j:Nat,j<6/\k % 6=(j:Int)/\(⟨mo,1,R⟩:Sch)=CV j):OL k w (aP (aJ #[aA aM mo,aA aO 1,aG (some ⟨g,0,none⟩) R.length R.length])) w' :=
 ⟨⟨mo,1,R⟩,_,_,rfl,rfl,h1,h2,rfl,h3,h4,(OK hg hB (by omega)).mono hw,hb,hj⟩
def base_any (k:Int)(w:Z0)(hk0:0<=k)(hk1:k<=255) :
  Zu Z1 23 #[aA aO k] w (OL k w):=by
 go_enter Tryz.func23,Tryz.ntmps23
 go_upto_block 0 with fail
 obtain⟨wb,jh⟩:∃ wb,wb=((w.alloc (aK #[aA aM 0,aA aO 0,aG none 0 0] 33)).alloc (aK #[aA aM 1,aA aO 1,aG none 0 0] 33)).alloc (aK #[aA aM 0,aA aM 0] 114):=⟨_,rfl⟩
 have hb0:Below (w.heap.size+1) wb wb:=Z2 _ _;have hws:wb.heap.size=w.heap.size+3:=by rw[jh];simp
 have jj:Hid (wb.heap[w.heap.size+1]? = some (aK #[aA aM 1,aA aO 1,aG none 0 0] 33 (0,0))):=by
  show _=_;rw[jh,ZF _ _ _ (by simp only[A8];omega)];have:=Z4 (w.alloc (aK #[aA aM 0,aA aO 0,aG none 0 0] 33)) (aK #[aA aM 1,aA aO 1,aG none 0 0] 33);simpa only[A8] using this
 have jk:Hid (wb.heap[w.heap.size+1+1]? = some (aK #[aA aM 0,aA aM 0] 114 (0,0))):=by
  show _=_;rw[jh];have:=Z4 ((w.alloc (aK #[aA aM 0,aA aO 0,aG none 0 0] 33)).alloc (aK #[aA aM 1,aA aO 1,aG none 0 0] 33)) (aK #[aA aM 0,aA aM 0] 114);simpa only[A8] using this
 have jw:Hid (wb.heap[w.heap.size]? = some (aK #[aA aM 0,aA aO 0,aG none 0 0] 33 (0,0))):=by
  show _=_;rw[jh,ZF _ _ _ (by simp only[A8];omega),ZF _ _ _ (by simp only[A8];omega)];exact Z4 _ _
 have jy:Below w.heap.size w wb:=by rw[jh];exact(((Z2 _ w).alloc (A5 _) _).alloc (by simp only[A8];omega) _).alloc (by simp only[A8];omega) _
 have HWB:=A0 jh;rw[<- jh];clear jh
 go_cut [] (λwx=>∃ wc:Z0,wc=wx/\∃ (mo:Int) (R:List Rl) (g:Nat),1<=mo/\mo<=2/\2<=R.length/\R.length<=5/\(∃ j:Nat,j<6/\k % 6=(j:Int)/\(⟨mo,1,R⟩:Sch)=CV j)/\wb.heap.size<=g/\wc.heap[g]? = some (.cells (B4 R).toArray 88 (0,0))/\wc.heap[w.heap.size+1]? = some (aK #[aA aM mo,aA aO 1,aG (some ⟨g,0,none⟩) R.length R.length] 33 (0,0))/\Below (w.heap.size+1) wb wc)
 case first
       =>
  rcases(show k % 6=0\/k % 6=1\/k % 6=2\/k % 6=3\/k % 6=4\/k % 6=5 by omega) with hq | hq | hq | hq | hq | hq
  ·have jm
        : ((k % 6:Int) == 0)=true:=by rw[hq];rfl
   have jn:((k % 6:Int) == 1)=false:=by rw[hq];rfl
   have jo:((k % 6:Int) == 2)=false:=by rw[hq];rfl
   have jp:((k % 6:Int) == 3)=false:=by rw[hq];rfl
   have jq:((k % 6:Int) == 4)=false:=by rw[hq];rfl
   have HQ:Hid (k % 6=((0:Nat):Int)):=hq;clear hq
   go_upto_region 6 with fail
   refine wp_region_sq wb (Ext.refl _) 78 8 [qc (aJ #[aA aM 0,aA aM 0]),qc (aJ #[aA aM 0,aA aM 0,aI ⟨#[97]⟩,aI ⟨#[97]⟩,aA aM 1]),qc (aJ #[aA aM 0,aA aM 0]),qc (aJ #[aA aM 0,aA aM 0,aI ⟨#[98]⟩,aI ⟨#[98]⟩,aA aM 1]),qc (aJ #[aA aM 0,aA aM 0]),qc (aJ #[aA aM 0,aA aM 0,aI ⟨#[99]⟩,aI ⟨#[99]⟩,aA aM 1]),⟨LE wb.heap.size (CV 0).rules,Ep _ _⟩,qc (aB (some ⟨w.heap.size+1,2,none⟩))] (Zd 22 8) (by kernel_rfl) rfl ?hop λA1 W x hS hv hx hA jf=>?_
   case hop
        =>
    repeat' apply And.intro
    all_goals first
     | exact True.intro
     | (
       intro A W jd hS jc ja;have h4:A.tmps.getD 4 Z8=aB (some ⟨w.heap.size+1+1,0,none⟩):=ja 4 (by kernel_rfl);have h3:A.tmps.getD 3 Z8=aB (some ⟨w.heap.size+1,0,none⟩):=ja 3 (by kernel_rfl);obtain⟨z0,z1⟩:=CC ((hS.block (w.heap.size+1+1) (by omega)).trans jk.out);clear ja;simp[Ae,Zl,Vp,qc]at jc
       first
        | (refine Ak rfl (.inl ⟨_,W,?_,rfl,Ext.refl _⟩);clear jd hS;simp[go_sem,Zf, *];done)
        | (refine Ak rfl (.inr ⟨_,#[aJ #[aA aM _,aA aM _],aI _,aI _],W,?_,(Df _ _ _ _ W ?_).mono λe w' h=>⟨_,h.1,rfl,h.2⟩⟩) <;> first | decide | (clear jd hS;simp[go_sem,Zf, *];done))
        | (refine Ak rfl (.inl ⟨aG (some ⟨W.heap.size,0,none⟩) 3 3,W.alloc (.cells (B4 (CV 0).rules).toArray 88),?_,⟨W.heap.size,rfl,Z4 _ _,hS.size⟩,(Z2 _ _).alloc (A5 _) _⟩);clear jd hS;simp[go_sem,Zf, *] <;> rfl))
   have jb:=(hS.block (w.heap.size+1) (by omega)).trans jj.out;have jg:LE wb.heap.size (CV 0).rules (x 28) W:=hv 6 (by decide);obtain⟨g,e9,hg,je⟩:=jg;have e10:x 29=aB (some ⟨w.heap.size+1,2,none⟩):=hv 7 (by decide);refine Bw rfl rfl rfl rfl (Al ((hx _).symm.trans e10)) (Al ((hx _).symm.trans e9)) (by simp[Zn,jb]) (cells3 jb).2.2 (by kernel_rfl) ?_;rw[hA];simp only[Zd,Zp,ZE,Z5,Za,Z9];clear hA hx hv jf
   go_wp2_with fail
   go_meet
   refine⟨_,rfl,1,(CV 0).rules,g,by omega,by omega,by decide,by decide,⟨_,by omega,HQ.out,rfl⟩,je,?_,Aj jb rfl,(hS.mono (by omega)).setCell (by show _<=w.heap.size+1;omega) _⟩;rw[Zc _ _ _ _ (by show g≠w.heap.size+1;omega)];exact hg
  ·have jm
        : ((k % 6:Int) == 0)=false:=by rw[hq];rfl
   have jn:((k % 6:Int) == 1)=true:=by rw[hq];rfl
   have jo:((k % 6:Int) == 2)=false:=by rw[hq];rfl
   have jp:((k % 6:Int) == 3)=false:=by rw[hq];rfl
   have jq:((k % 6:Int) == 4)=false:=by rw[hq];rfl
   have HQ:Hid (k % 6=((1:Nat):Int)):=hq;clear hq
   go_upto_region 8 with fail
   refine wp_region_sq wb (Ext.refl _) 78 10 [qc (aJ #[aA aM 0,aA aM 0]),qc (aJ #[aA aM 0,aA aM 0,aI ⟨#[97]⟩,aI ⟨#[65]⟩,aA aM 1]),qc (aJ #[aA aM 0,aA aM 0]),qc (aJ #[aA aM 0,aA aM 0,aI ⟨#[98,97]⟩,aI ⟨#[66]⟩,aA aM 2]),qc (aJ #[aA aM 0,aA aM 0]),qc (aJ #[aA aM 0,aA aM 0,aI ⟨#[99,97]⟩,aI ⟨#[67]⟩,aA aM 2]),qc (aJ #[aA aM 0,aA aM 0]),qc (aJ #[aA aM 0,aA aM 0,aI ⟨#[98]⟩,aI ⟨#[98]⟩,aA aM 1]),⟨LE wb.heap.size (CV 1).rules,Ep _ _⟩,qc (aB (some ⟨w.heap.size+1,2,none⟩))] (Zd 32 10) (by kernel_rfl) rfl ?hop λA1 W x hS hv hx hA jf=>?_
   case hop
        =>
    repeat' apply And.intro
    all_goals first
     | exact True.intro
     | (
       intro A W jd hS jc ja;have h4:A.tmps.getD 4 Z8=aB (some ⟨w.heap.size+1+1,0,none⟩):=ja 4 (by kernel_rfl);have h3:A.tmps.getD 3 Z8=aB (some ⟨w.heap.size+1,0,none⟩):=ja 3 (by kernel_rfl);obtain⟨z0,z1⟩:=CC ((hS.block (w.heap.size+1+1) (by omega)).trans jk.out);clear ja;simp[Ae,Zl,Vp,qc]at jc
       first
        | (refine Ak rfl (.inl ⟨_,W,?_,rfl,Ext.refl _⟩);clear jd hS;simp[go_sem,Zf, *];done)
        | (refine Ak rfl (.inr ⟨_,#[aJ #[aA aM _,aA aM _],aI _,aI _],W,?_,(Df _ _ _ _ W ?_).mono λe w' h=>⟨_,h.1,rfl,h.2⟩⟩) <;> first | decide | (clear jd hS;simp[go_sem,Zf, *];done))
        | (refine Ak rfl (.inl ⟨aG (some ⟨W.heap.size,0,none⟩) 4 4,W.alloc (.cells (B4 (CV 1).rules).toArray 88),?_,⟨W.heap.size,rfl,Z4 _ _,hS.size⟩,(Z2 _ _).alloc (A5 _) _⟩);clear jd hS;simp[go_sem,Zf, *] <;> rfl))
   have jb:=(hS.block (w.heap.size+1) (by omega)).trans jj.out;have jg:LE wb.heap.size (CV 1).rules (x 40) W:=hv 8 (by decide);obtain⟨g,e9,hg,je⟩:=jg;have e10:x 41=aB (some ⟨w.heap.size+1,2,none⟩):=hv 9 (by decide);refine Bw rfl rfl rfl rfl (Al ((hx _).symm.trans e10)) (Al ((hx _).symm.trans e9)) (by simp[Zn,jb]) (cells3 jb).2.2 (by kernel_rfl) ?_;rw[hA];simp only[Zd,Zp,ZE,Z5,Za,Z9];clear hA hx hv jf
   go_wp2_with fail
   go_meet
   refine⟨_,rfl,1,(CV 1).rules,g,by omega,by omega,by decide,by decide,⟨_,by omega,HQ.out,rfl⟩,je,?_,Aj jb rfl,(hS.mono (by omega)).setCell (by show _<=w.heap.size+1;omega) _⟩;rw[Zc _ _ _ _ (by show g≠w.heap.size+1;omega)];exact hg
  ·have jm
        : ((k % 6:Int) == 0)=false:=by rw[hq];rfl
   have jn:((k % 6:Int) == 1)=false:=by rw[hq];rfl
   have jo:((k % 6:Int) == 2)=true:=by rw[hq];rfl
   have jp:((k % 6:Int) == 3)=false:=by rw[hq];rfl
   have jq:((k % 6:Int) == 4)=false:=by rw[hq];rfl
   have HQ:Hid (k % 6=((2:Nat):Int)):=hq;clear hq
   go_upto_region 10 with fail
   refine wp_region_sq wb (Ext.refl _) 78 12 [qc (aJ #[aA aM 0,aA aM 1]),qc (aJ #[aA aM 0,aA aM 1,aI ⟨#[99]⟩,aI ⟨#[]⟩,aA aM 1]),qc (aJ #[aA aM 1,aA aM 0]),qc (aJ #[aA aM 1,aA aM 0,aI ⟨#[97]⟩,aI ⟨#[65]⟩,aA aM 1]),qc (aJ #[aA aM 1,aA aM 0]),qc (aJ #[aA aM 1,aA aM 0,aI ⟨#[98]⟩,aI ⟨#[66]⟩,aA aM 1]),qc (aJ #[aA aM 0,aA aM 0]),qc (aJ #[aA aM 0,aA aM 0,aI ⟨#[97]⟩,aI ⟨#[97]⟩,aA aM 1]),qc (aJ #[aA aM 0,aA aM 0]),qc (aJ #[aA aM 0,aA aM 0,aI ⟨#[98]⟩,aI ⟨#[98]⟩,aA aM 1]),⟨LE wb.heap.size (CV 2).rules,Ep _ _⟩,⟨Vq wb.heap.size (CV 2).rules,PI _ _⟩] (Zd 44 12) (by kernel_rfl) rfl ?hop λA1 W x hS hv hx hA jf=>?_
   case hop
        =>
    repeat' apply And.intro
    all_goals first
     | exact True.intro
     | (
       intro A W jd hS jc ja;have h4:A.tmps.getD 4 Z8=aB (some ⟨w.heap.size+1+1,0,none⟩):=ja 4 (by kernel_rfl);have h3:A.tmps.getD 3 Z8=aB (some ⟨w.heap.size+1,0,none⟩):=ja 3 (by kernel_rfl);obtain⟨z0,z1⟩:=CC ((hS.block (w.heap.size+1+1) (by omega)).trans jk.out);clear ja;simp[Ae,Zl,Vp,qc]at jc
       first
        | (refine Ak rfl (.inl ⟨_,W,?_,rfl,Ext.refl _⟩);clear jd hS;simp[go_sem,Zf, *];done)
        | (refine Ak rfl (.inr ⟨_,#[aJ #[aA aM _,aA aM _],aI _,aI _],W,?_,(Df _ _ _ _ W ?_).mono λe w' h=>⟨_,h.1,rfl,h.2⟩⟩) <;> first | decide | (clear jd hS;simp[go_sem,Zf, *];done))
        | (obtain⟨g9,e9,ju,jx⟩:=jc;refine Ak rfl (.inl ⟨_,W,?_,⟨g9,rfl,ju,jx⟩,Ext.refl _⟩);clear jd hS ju;simp[go_sem,Zf, *] <;> rfl)
        | (refine Ak rfl (.inl ⟨aG (some ⟨W.heap.size,0,none⟩) 5 5,W.alloc (.cells (B4 (CV 2).rules).toArray 88),?_,⟨W.heap.size,rfl,Z4 _ _,hS.size⟩,(Z2 _ _).alloc (A5 _) _⟩);clear jd hS;simp[go_sem,Zf, *] <;> rfl))
   have jb:=(hS.block (w.heap.size+1) (by omega)).trans jj.out;have jg:Vq wb.heap.size (CV 2).rules (x 55) W:=hv 11 (by decide);obtain⟨g,e9,hg,je⟩:=jg;have h3:A1.tmps.getD 3 Z8=aB (some ⟨w.heap.size+1,0,none⟩):=jf 3 (by decide);refine KV rfl rfl rfl rfl (Al h3) (Al ((hx _).symm.trans e9)) jb (by kernel_rfl) ?_;rw[hA];simp only[Zd,Zp,ZE,Z5,Za,Z9];clear hA hx hv jf
   go_wp2_with fail
   go_meet
   refine⟨_,rfl,2,(CV 2).rules,g,by omega,by omega,by decide,by decide,⟨_,by omega,HQ.out,rfl⟩,je,?_,RW jb,((((hS.mono (by omega)).setCell (by show _<=w.heap.size+1;omega) _).setCell (by show _<=w.heap.size+1;omega) _).setCell (by show _<=w.heap.size+1;omega) _)⟩;rw[Zc _ _ _ _ (by show g≠w.heap.size+1;omega),Zc _ _ _ _ (by show g≠w.heap.size+1;omega),Zc _ _ _ _ (by show g≠w.heap.size+1;omega)];exact hg
  ·have jm
        : ((k % 6:Int) == 0)=false:=by rw[hq];rfl
   have jn:((k % 6:Int) == 1)=false:=by rw[hq];rfl
   have jo:((k % 6:Int) == 2)=false:=by rw[hq];rfl
   have jp:((k % 6:Int) == 3)=true:=by rw[hq];rfl
   have jq:((k % 6:Int) == 4)=false:=by rw[hq];rfl
   have HQ:Hid (k % 6=((3:Nat):Int)):=hq;clear hq
   go_upto_region 12 with fail
   refine wp_region_sq wb (Ext.refl _) 78 10 [qc (aJ #[aA aM 0,aA aM 0]),qc (aJ #[aA aM 0,aA aM 0,aI ⟨#[97]⟩,aI ⟨#[97]⟩,aA aM 1]),qc (aJ #[aA aM 0,aA aM 0]),qc (aJ #[aA aM 0,aA aM 0,aI ⟨#[98]⟩,aI ⟨#[98]⟩,aA aM 1]),qc (aJ #[aA aM 0,aA aM 0]),qc (aJ #[aA aM 0,aA aM 0,aI ⟨#[97,98]⟩,aI ⟨#[97,98,99,49]⟩,aA aM 2]),qc (aJ #[aA aM 0,aA aM 0]),qc (aJ #[aA aM 0,aA aM 0,aI ⟨#[99]⟩,aI ⟨#[99]⟩,aA aM 1]),⟨LE wb.heap.size (CV 3).rules,Ep _ _⟩,qc (aB (some ⟨w.heap.size+1,2,none⟩))] (Zd 58 10) (by kernel_rfl) rfl ?hop λA1 W x hS hv hx hA jf=>?_
   case hop
        =>
    repeat' apply And.intro
    all_goals first
     | exact True.intro
     | (
       intro A W jd hS jc ja;have h4:A.tmps.getD 4 Z8=aB (some ⟨w.heap.size+1+1,0,none⟩):=ja 4 (by kernel_rfl);have h3:A.tmps.getD 3 Z8=aB (some ⟨w.heap.size+1,0,none⟩):=ja 3 (by kernel_rfl);obtain⟨z0,z1⟩:=CC ((hS.block (w.heap.size+1+1) (by omega)).trans jk.out);clear ja;simp[Ae,Zl,Vp,qc]at jc
       first
        | (refine Ak rfl (.inl ⟨_,W,?_,rfl,Ext.refl _⟩);clear jd hS;simp[go_sem,Zf, *];done)
        | (refine Ak rfl (.inr ⟨_,#[aJ #[aA aM _,aA aM _],aI _,aI _],W,?_,(Df _ _ _ _ W ?_).mono λe w' h=>⟨_,h.1,rfl,h.2⟩⟩) <;> first | decide | (clear jd hS;simp[go_sem,Zf, *];done))
        | (refine Ak rfl (.inl ⟨aG (some ⟨W.heap.size,0,none⟩) 4 4,W.alloc (.cells (B4 (CV 3).rules).toArray 88),?_,⟨W.heap.size,rfl,Z4 _ _,hS.size⟩,(Z2 _ _).alloc (A5 _) _⟩);clear jd hS;simp[go_sem,Zf, *] <;> rfl))
   have jb:=(hS.block (w.heap.size+1) (by omega)).trans jj.out;have jg:LE wb.heap.size (CV 3).rules (x 66) W:=hv 8 (by decide);obtain⟨g,e9,hg,je⟩:=jg;have e10:x 67=aB (some ⟨w.heap.size+1,2,none⟩):=hv 9 (by decide);refine Bw rfl rfl rfl rfl (Al ((hx _).symm.trans e10)) (Al ((hx _).symm.trans e9)) (by simp[Zn,jb]) (cells3 jb).2.2 (by kernel_rfl) ?_;rw[hA];simp only[Zd,Zp,ZE,Z5,Za,Z9];clear hA hx hv jf
   go_wp2_with fail
   go_meet
   refine⟨_,rfl,1,(CV 3).rules,g,by omega,by omega,by decide,by decide,⟨_,by omega,HQ.out,rfl⟩,je,?_,Aj jb rfl,(hS.mono (by omega)).setCell (by show _<=w.heap.size+1;omega) _⟩;rw[Zc _ _ _ _ (by show g≠w.heap.size+1;omega)];exact hg
  ·have jm:((k % 6:Int) == 0)=false:=by rw[hq];rfl
   have jn:((k % 6:Int) == 1)=false:=by rw[hq];rfl
   have jo:((k % 6:Int) == 2)=false:=by rw[hq];rfl
   have jp:((k % 6:Int) == 3)=false:=by rw[hq];rfl
   have jq:((k % 6:Int) == 4)=true:=by rw[hq];rfl
   have HQ:Hid (k % 6=((4:Nat):Int)):=hq;clear hq;obtain⟨z0,z1⟩:=CC jk.out
   go_wp2_with fail
   refine(Df 0 0 ⟨#[97]⟩ ⟨#[97]⟩ wb (by decide)).mono ?_;rintro e w1 ⟨rfl,js⟩;clear z0 z1;have jA:=js.size;have jr:=A0 ((js.block (w.heap.size+1) (by omega)).trans jj.out);obtain⟨r0,r1,r2⟩:=cells3 jr.out;have rf:∀ i,w1.frozen? ⟨w.heap.size+1,i,none⟩=false:=λi=>by simp[Zn,jr.out]
   go_wp2_with fail
   go_meet
   refine⟨_,rfl,1,[⟨0,0,⟨#[97]⟩,⟨#[97]⟩,1⟩,⟨0,0,⟨#[98]⟩,⟨#[98]⟩,0⟩,⟨0,0,⟨#[99]⟩,⟨#[98]⟩,7⟩,⟨0,0,⟨#[98]⟩,⟨#[99]⟩,9⟩],w1.heap.size,by omega,by omega,by decide,by decide,⟨_,by omega,HQ.out,rfl⟩,jA,?_,Aj ((ZF _ _ _ (by omega)).trans jr.out) rfl,((js.mono (by omega)).alloc (by omega) _).setCell (by show _<=w.heap.size+1;omega) _⟩;rw[Zc _ _ _ _ (by show w1.heap.size≠w.heap.size+1;omega)];exact Z4 _ _
  ·have jm
        : ((k % 6:Int) == 0)=false:=by rw[hq];rfl
   have jn:((k % 6:Int) == 1)=false:=by rw[hq];rfl
   have jo:((k % 6:Int) == 2)=false:=by rw[hq];rfl
   have jp:((k % 6:Int) == 3)=false:=by rw[hq];rfl
   have jq:((k % 6:Int) == 4)=false:=by rw[hq];rfl
   have HQ:Hid (k % 6=((5:Nat):Int)):=hq;clear hq
   go_upto_region 4 with fail
   refine wp_region_sq wb (Ext.refl _) 78 11 [qc (aJ #[aA aM 0,aA aM 0]),qc (aJ #[aA aM 0,aA aM 0,aI ⟨#[97]⟩,aI ⟨#[97]⟩,aA aM 1]),qc (aJ #[aA aM 0,aA aM 0]),qc (aJ #[aA aM 0,aA aM 0,aI ⟨#[97]⟩,aI ⟨#[65]⟩,aA aM 1]),qc (aJ #[aA aM 0,aA aM 0]),qc (aJ #[aA aM 0,aA aM 0,aI ⟨#[97,97]⟩,aI ⟨#[66]⟩,aA aM 2]),qc (aJ #[aA aM 0,aA aM 0]),qc (aJ #[aA aM 0,aA aM 0,aI ⟨#[98]⟩,aI ⟨#[98]⟩,aA aM 1]),qc (aJ #[aA aM 0,aA aM 0,aI ⟨#[98]⟩,aI ⟨#[]⟩,aA aM 20]),⟨LE wb.heap.size (CV 5).rules,Ep _ _⟩,qc (aB (some ⟨w.heap.size+1,2,none⟩))] (Zd 9 11) (by kernel_rfl) rfl ?hop λA1 W x hS hv hx hA jf=>?_
   case hop
        =>
    repeat' apply And.intro
    all_goals first
     | exact True.intro
     | (
       intro A W jd hS jc ja;have h4:A.tmps.getD 4 Z8=aB (some ⟨w.heap.size+1+1,0,none⟩):=ja 4 (by kernel_rfl);have h3:A.tmps.getD 3 Z8=aB (some ⟨w.heap.size+1,0,none⟩):=ja 3 (by kernel_rfl);obtain⟨z0,z1⟩:=CC ((hS.block (w.heap.size+1+1) (by omega)).trans jk.out);clear ja;simp[Ae,Zl,Vp,qc]at jc
       first
        | (refine Ak rfl (.inl ⟨_,W,?_,rfl,Ext.refl _⟩);clear jd hS;simp[go_sem,Zf, *];done)
        | (refine Ak rfl (.inr ⟨_,#[aJ #[aA aM _,aA aM _],aI _,aI _],W,?_,(Df _ _ _ _ W ?_).mono λe w' h=>⟨_,h.1,rfl,h.2⟩⟩) <;> first | decide | (clear jd hS;simp[go_sem,Zf, *];done))
        | (refine Ak rfl (.inl ⟨aG (some ⟨W.heap.size,0,none⟩) 5 5,W.alloc (.cells (B4 (CV 5).rules).toArray 88),?_,⟨W.heap.size,rfl,Z4 _ _,hS.size⟩,(Z2 _ _).alloc (A5 _) _⟩);clear jd hS;simp[go_sem,Zf, *] <;> rfl))
   have jb:=(hS.block (w.heap.size+1) (by omega)).trans jj.out;have jg:LE wb.heap.size (CV 5).rules (x 18) W:=hv 9 (by decide);obtain⟨g,e9,hg,je⟩:=jg;have e10:x 19=aB (some ⟨w.heap.size+1,2,none⟩):=hv 10 (by decide);refine Bw rfl rfl rfl rfl (Al ((hx _).symm.trans e10)) (Al ((hx _).symm.trans e9)) (by simp[Zn,jb]) (cells3 jb).2.2 (by kernel_rfl) ?_;rw[hA];simp only[Zd,Zp,ZE,Z5,Za,Z9];clear hA hx hv jf
   go_wp2_with fail
   go_meet
   refine⟨_,rfl,1,(CV 5).rules,g,by omega,by omega,by decide,by decide,⟨_,by omega,HQ.out,rfl⟩,je,?_,Aj jb rfl,(hS.mono (by omega)).setCell (by show _<=w.heap.size+1;omega) _⟩;rw[Zc _ _ _ _ (by show g≠w.heap.size+1;omega)];exact hg
 case rest =>
  obtain⟨wc,rfl,mo,R,g,h1,h2,h3,h4,jz,je,hg,jb,jt⟩:=hcut;have HR:=A0 hg;have HREP:=A0 jb;have ji:=(jt.block w.heap.size (by omega)).trans jw.out;have jl:=A0 ji;obtain⟨c0,c1,c2⟩:=cells3 jb;obtain⟨y0,y1,y2⟩:=cells3 ji;have yf:∀ i,wc.frozen? ⟨w.heap.size,i,none⟩=false:=λi=>by simp[Zn,jl.out]
  have jv:=A0 jt;clear hg jb ji jt
  go_wp2_with fail
  obtain⟨r0,r1,r2⟩:=cells3 (RW (a:=aA aM mo) (b:=aA aO 1) (c:=aG (some ⟨g,0,none⟩) R.length R.length) jl.out);refine bodyPost_ret (v:=aJ #[aA aM mo,aA aO 1,aG (some ⟨g,0,none⟩) R.length R.length]) (by simp[results,Tryz.results23,go_sem,r0,r1,r2]) rfl (TA (B:=wb.heap.size) ?_ je (by omega) h1 h2 h3 h4 ?_ jz)
  ·rw[Zc _ _ _ _ (by show g≠w.heap.size;omega),Zc _ _ _ _ (by show g≠w.heap.size;omega),Zc _ _ _ _ (by show g≠w.heap.size;omega)];exact HR.out
  · exact(((jy.trans (jv.out.mono (by omega))).setCell (by simp) _).setCell (by simp) _).setCell (by simp) _
def cells5 {w:Z0}{g:Nat}{a b c d e:Z6}{t:X5}{f:Nat × Nat}(h:w.heap[g]? = some (aK #[a,b,c,d,e] t f)):w.cell? ⟨g,0,none⟩=some a/\w.cell? ⟨g,1,none⟩=some b/\w.cell? ⟨g,2,none⟩=some c/\w.cell? ⟨g,3,none⟩=some d/\w.cell? ⟨g,4,none⟩=some e :=
 ⟨Z3 w g 0 _ _ f h,Z3 w g 1 _ _ f h,Z3 w g 2 _ _ f h,Z3 w g 3 _ _ f h,Z3 w g 4 _ _ f h⟩
def Wa {w:Z0}{g:Nat}{x0 x1 x2 x3 x4 a b c d e:Z6}{t:X5}{f:Nat × Nat}(h:w.heap[g]? = some (aK #[x0,x1,x2,x3,x4] t f)) :
  (((((w.setCell ⟨g,0,none⟩ a).setCell ⟨g,1,none⟩ b).setCell ⟨g,2,none⟩ c).setCell ⟨g,3,none⟩ d).setCell ⟨g,4,none⟩ e).heap[g]? = some (aK #[a,b,c,d,e] t f) :=
 Aj (Aj (Aj (Aj (Aj h rfl) rfl) rfl) rfl) rfl
def TB {w w':Z0}{B g:Nat}{a b c d e:Z6}(h:Below B w w')(hg:B<=g):Below B w (((((w'.setCell ⟨g,0,none⟩ a).setCell ⟨g,1,none⟩ b).setCell ⟨g,2,none⟩ c).setCell ⟨g,3,none⟩ d).setCell ⟨g,4,none⟩ e) :=
 ((((h.setCell hg _).setCell hg _).setCell hg _).setCell hg _).setCell hg _
def made1_any (f d c m:Int)(ai ao:Option Zj)(li ci lo co:Nat)(ZI ZO:Nat->Int)(w:Z0)(hf0:0<=f)(hf1:f<=255)(hd0:0<=d)(hd1:d<=255)(hc0:0<=c)(hc1:c<=255)(hm0:1<=m)(hm1:m<=2)(hI:Bt w ai li ZI)(hO:Bt w ao lo ZO) :
  Zu Z1 33 #[aJ #[aG ai li ci,aG ao lo co,aA aO f,aA aO d,aA aO c],aA aM m] w λe w'=>∃ r:Rl,e=aP (aJ #[aA aM r.frm,aA aM r.dst,aI r.inp,aI r.out,aA aM r.cost])/\r.inp.size<=2/\r.out.size<=2/\Below w.heap.size w w':=by
 have HI:=A0 hI;have HO:=A0 hO;clear hI hO;have hmz:m≠0:=by omega
 go_enter Tryz.func33,Tryz.ntmps33
 go_upto_region 2 with fail
 have hmb:(m == 0)=false:=by simp;omega
 go_region
 go_upto_block 0 with fail
 have jq:Hid (Below (w.heap.size+2) ((w.alloc (aK #[aG ai li ci,aG ao lo co,aA aO f,aA aO d,aA aO c] 91)).alloc (aK #[aA aM 0,aA aM 0,aI ⟨#[]⟩,aI ⟨#[]⟩,aA aM 0] 88)) ((((w.alloc (aK #[aG ai li ci,aG ao lo co,aA aO f,aA aO d,aA aO c] 91)).alloc (aK #[aA aM 0,aA aM 0,aI ⟨#[]⟩,aI ⟨#[]⟩,aA aM 0] 88)).alloc (aK #[aA aM (f % m),aA aM (d % m),aI ⟨#[]⟩,aI ⟨#[]⟩,aA aM (c*2)] 88))).drew):=(((Z2 _ _).alloc (by simp) _).trans (below_drewN _ 1))
 have js:Hid (((((w.alloc (aK #[aG ai li ci,aG ao lo co,aA aO f,aA aO d,aA aO c] 91)).alloc (aK #[aA aM 0,aA aM 0,aI ⟨#[]⟩,aI ⟨#[]⟩,aA aM 0] 88)).alloc (aK #[aA aM (f % m),aA aM (d % m),aI ⟨#[]⟩,aI ⟨#[]⟩,aA aM (c*2)] 88))).drew.heap[w.heap.size+1+1]? = some (aK #[aA aM (f % m),aA aM (d % m),aI ⟨#[]⟩,aI ⟨#[]⟩,aA aM (c*2)] 88 (0,0))):=by
  have:=Z4 ((w.alloc (aK #[aG ai li ci,aG ao lo co,aA aO f,aA aO d,aA aO c] 91)).alloc (aK #[aA aM 0,aA aM 0,aI ⟨#[]⟩,aI ⟨#[]⟩,aA aM 0] 88)) (aK #[aA aM (f % m),aA aM (d % m),aI ⟨#[]⟩,aI ⟨#[]⟩,aA aM (c*2)] 88);simp only[A8]at this;exact this
 go_cut [] (λwx=>∃ wz:Z0,wz=wx/\∃ s:ByteArray,s.size<=2/\wz.heap[w.heap.size+1+1]? = some (aK #[aA aM (f % m),aA aM (d % m),aI s,aI ⟨#[]⟩,aA aM (c*2)] 88 (0,0))/\Below (w.heap.size+2) ((w.alloc (aK #[aG ai li ci,aG ao lo co,aA aO f,aA aO d,aA aO c] 91)).alloc (aK #[aA aM 0,aA aM 0,aI ⟨#[]⟩,aI ⟨#[]⟩,aA aM 0] 88)) wz)
 case first =>
  go_wp2_with fail
  go_loopw [6] (λi wr=>∃ (j:Nat) (s:ByteArray),j<=2/\i=aA aM j/\s.size=j/\wr.heap[w.heap.size+1+1]? = some (aK #[aA aM (f % m),aA aM (d % m),aI s,aI ⟨#[]⟩,aA aM (c*2)] 88 (0,0))/\Below (w.heap.size+2) ((w.alloc (aK #[aG ai li ci,aG ao lo co,aA aO f,aA aO d,aA aO c] 91)).alloc (aK #[aA aM 0,aA aM 0,aI ⟨#[]⟩,aI ⟨#[]⟩,aA aM 0] 88)) wr) (λi _=>2 - (intOf i).toNat)
  case atStart=>exact⟨0,⟨#[]⟩,by omega,rfl,rfl,js.out,jq.out⟩
  case round =>
   obtain⟨j,s,hj,rfl,hs,ja,jc⟩:=hrel;have jb:=A0 ja;have jf:=A0 jc;have HS:=A0 hs;have hB:Below w.heap.size w wr:=(((Z2 _ _).alloc (A5 _) _).alloc (by simp) _).trans (jc.mono (by omega));have HB:=A0 hB;obtain⟨hz,hc,hf⟩:=Aw jc rfl;simp only[A8]at hz;have r0:=Z3 wr _ 0 _ _ (0,0) ja;have r1:=Z3 wr _ 1 _ _ (0,0) ja;have r2:=Z3 wr _ 2 _ _ (0,0) ja;have r3:=Z3 wr _ 3 _ _ (0,0) ja;have r4:=Z3 wr _ 4 _ _ (0,0) ja;have rf:∀ i,wr.frozen? ⟨w.heap.size+1+1,i,none⟩=false:=λi=>by simp[Zn,ja]
   clear ja jc hB hs;by_cases jg:j<li
   ·by_cases jw:j<2
    ·have jk:(j:Int)<2:=by omega
     obtain⟨bz,oz,je,jB,jC,jl,jm⟩:=(HI.out.later HB.out (A5 _)).at jg;have jj:=EV ai bz oz li ci j je jg;have jv:=A0 je;clear je;have jy:(⟨#[97,98,99]⟩:ByteArray).extract 0 1=⟨#[97]⟩:=by decide
     have jz:(⟨#[97,98,99]⟩:ByteArray).extract 1 2=⟨#[98]⟩:=by decide
     have jA:(⟨#[97,98,99]⟩:ByteArray).extract 2 3=⟨#[99]⟩:=by decide
     have ji:∀ (y:UInt8) (W:Z0),(Op.stringOp .add s ⟨#[y]⟩).run Z1 W=.ok (aI (s ++ ⟨#[y]⟩)) W:=λy W=>run_string_add_sum W s ⟨#[y]⟩ (by have:=HS.out;rw[this];show j+1<=_;omega);rcases(show ZI j % 3=0\/ZI j % 3=1\/ZI j % 3=2 by omega) with h3 | h3 | h3
     all_goals
      go_upto_region 5 with fail
      go_region
      go_wp2_with fail
      go_roundw
      case rel=>exact⟨j+1,_,by omega,by go_num,by rw[zv,HS.out];rfl,Aj jb.out rfl,(jf.out.setCell (by show _<=w.heap.size+1+1;omega) _).trans (below_drewN _ 1)⟩
      case measure=>simp[intOf];omega
    ·obtain rfl:j=2:=by omega
     go_wp2_with fail
     go_meet
     exact⟨_,rfl,s,by have:=HS.out;omega,jb.out,jf.out⟩
   ·have jx:¬ (j:Int)<(li:Int):=by omega
    go_wp2_with fail
    go_meet
    exact⟨_,rfl,s,by have:=HS.out;omega,jb.out,jf.out⟩
 case rest
      =>
  obtain⟨wc,rfl,s1,jp,jd,jo⟩:=hcut;have jt:=A0 jd;have jr:=A0 jo;have jn:=A0 jp;clear jd jo jp;have ju:Hid (((w.alloc (aK #[aG ai li ci,aG ao lo co,aA aO f,aA aO d,aA aO c] 91)).alloc (aK #[aA aM 0,aA aM 0,aI ⟨#[]⟩,aI ⟨#[]⟩,aA aM 0] 88)).heap[w.heap.size+1]? = some (aK #[aA aM 0,aA aM 0,aI ⟨#[]⟩,aI ⟨#[]⟩,aA aM 0] 88 (0,0))):=by
   have:=Z4 (w.alloc (aK #[aG ai li ci,aG ao lo co,aA aO f,aA aO d,aA aO c] 91)) (aK #[aA aM 0,aA aM 0,aI ⟨#[]⟩,aI ⟨#[]⟩,aA aM 0] 88);simp only[A8]at this;exact this
  go_wp2_with fail
  go_loopw [7] (λi wr=>∃ (j:Nat) (s:ByteArray),j<=2/\i=aA aM j/\s.size=j/\wr.heap[w.heap.size+1+1]? = some (aK #[aA aM (f % m),aA aM (d % m),aI s1,aI s,aA aM (c*2)] 88 (0,0))/\Below (w.heap.size+2) ((w.alloc (aK #[aG ai li ci,aG ao lo co,aA aO f,aA aO d,aA aO c] 91)).alloc (aK #[aA aM 0,aA aM 0,aI ⟨#[]⟩,aI ⟨#[]⟩,aA aM 0] 88)) wr) (λi _=>2 - (intOf i).toNat)
  case atStart=>exact⟨0,⟨#[]⟩,by omega,rfl,rfl,jt.out,jr.out⟩
  case round =>
   obtain⟨j,s,hj,rfl,hs,ja,jc⟩:=hrel;have jb:=A0 ja;have jf:=A0 jc;have HS:=A0 hs;have hB:Below w.heap.size w wr:=(((Z2 _ _).alloc (A5 _) _).alloc (by simp) _).trans (jc.mono (by omega));have HB:=A0 hB;obtain⟨hz,hc,hf⟩:=Aw jc rfl;simp only[A8]at hz;have r0:=Z3 wr _ 0 _ _ (0,0) ja;have r1:=Z3 wr _ 1 _ _ (0,0) ja;have r2:=Z3 wr _ 2 _ _ (0,0) ja;have r3:=Z3 wr _ 3 _ _ (0,0) ja;have r4:=Z3 wr _ 4 _ _ (0,0) ja;have rf:∀ i,wr.frozen? ⟨w.heap.size+1+1,i,none⟩=false:=λi=>by simp[Zn,ja]
   have jh:=A0 ((jc.block (w.heap.size+1) (by omega)).trans ju.out);obtain⟨y0,y1,y2,y3,y4⟩:=cells5 jh.out;have yf:∀ i,wr.frozen? ⟨w.heap.size+1,i,none⟩=false:=λi=>by simp[Zn,jh.out]
   clear ja jc hB hs;by_cases jg:j<lo
   ·by_cases jw:j<2
    ·have jk:(j:Int)<2:=by omega
     obtain⟨bz,oz,je,jB,jC,jl,jm⟩:=(HO.out.later HB.out (A5 _)).at jg;have jj:=EV ao bz oz lo co j je jg;have jv:=A0 je;clear je;have jy:(⟨#[97,98,99,65,66,49]⟩:ByteArray).extract 0 1=⟨#[97]⟩:=by decide
     have jz:(⟨#[97,98,99,65,66,49]⟩:ByteArray).extract 1 2=⟨#[98]⟩:=by decide
     have jA:(⟨#[97,98,99,65,66,49]⟩:ByteArray).extract 2 3=⟨#[99]⟩:=by decide
     have hx3:(⟨#[97,98,99,65,66,49]⟩:ByteArray).extract 3 4=⟨#[65]⟩:=by decide
     have hx4:(⟨#[97,98,99,65,66,49]⟩:ByteArray).extract 4 5=⟨#[66]⟩:=by decide
     have hx5:(⟨#[97,98,99,65,66,49]⟩:ByteArray).extract 5 6=⟨#[49]⟩:=by decide
     have ji:∀ (y:UInt8) (W:Z0),(Op.stringOp .add s ⟨#[y]⟩).run Z1 W=.ok (aI (s ++ ⟨#[y]⟩)) W:=λy W=>run_string_add_sum W s ⟨#[y]⟩ (by have:=HS.out;rw[this];show j+1<=_;omega);rcases(show ZO j % 6=0\/ZO j % 6=1\/ZO j % 6=2\/ZO j % 6=3\/ZO j % 6=4\/ZO j % 6=5 by omega) with h3 | h3 | h3 | h3 | h3 | h3
     all_goals
      go_upto_region 9 with fail
      go_region
      go_wp2_with fail
      go_roundw
      case rel=>exact⟨j+1,_,by omega,by go_num,by rw[zv,HS.out];rfl,Aj jb.out rfl,(jf.out.setCell (by show _<=w.heap.size+1+1;omega) _).trans (below_drewN _ 1)⟩
      case measure=>simp[intOf];omega
    ·obtain rfl:j=2:=by omega
     go_wp2_with fail
     obtain⟨c0,c1,c2,c3,c4⟩:=cells5 (Wa (a:=aA aM (f % m)) (b:=aA aM (d % m)) (c:=aI s1) (d:=aI s) (e:=aA aM (c*2)) jh.out);refine bodyPost_ret (v:=aJ #[aA aM (f % m),aA aM (d % m),aI s1,aI s,aA aM (c*2)]) (by simp[results,Tryz.results33,go_sem,c0,c1,c2,c3,c4]) rfl ⟨⟨f % m,d % m,s1,s,c*2⟩,rfl,jn.out,by have:=HS.out;show s.size<=2;omega,TB HB.out (by omega)⟩
   ·have jx:¬ (j:Int)<(lo:Int):=by omega
    go_wp2_with fail
    obtain⟨c0,c1,c2,c3,c4⟩:=cells5 (Wa (a:=aA aM (f % m)) (b:=aA aM (d % m)) (c:=aI s1) (d:=aI s) (e:=aA aM (c*2)) jh.out);refine bodyPost_ret (v:=aJ #[aA aM (f % m),aA aM (d % m),aI s1,aI s,aA aM (c*2)]) (by simp[results,Tryz.results33,go_sem,c0,c1,c2,c3,c4]) rfl ⟨⟨f % m,d % m,s1,s,c*2⟩,rfl,jn.out,by have:=HS.out;show s.size<=2;omega,TB HB.out (by omega)⟩
def G9 (w:Z0)(B:Nat)(v:Z6)(R:List Rl):Prop :=
 Cg w B v R\/∃ (g:Nat) (r0:Rl),v=aG (some ⟨g,5,none⟩) R.length R.length/\B<=g/\w.heap[g]? = some (.cells (B4 (r0 :: R)).toArray 88 (0,0))
section
variable {w w1:World} {B C:Nat} {v:Value} {R:List Rl}
def G9.below (h:G9 w B v R)(hb:Below C w w1)(hv:∀ g,v.ownBlock=some g->g<C):G9 w1 B v R:=by
 refine h.imp (λh=>h.below hb hv) ?_;rintro⟨g,r0,rfl,h1,h2⟩;exact⟨g,r0,rfl,h1,(hb.block g (hv g rfl)).trans h2⟩
def G9.ge (h:G9 w B v R):∀ g,v.ownBlock=some g->B<=g:=by
 rcases h with h | ⟨g,r0,rfl,h1,h2⟩
 · exact h.ge
 · intro q hq;cases hq;exact h1
def G9.lt (h:G9 w B v R):∀ g,v.ownBlock=some g->g<w.heap.size:=by
 rcases h with h | ⟨g,r0,rfl,h1,h2⟩
 · exact h.lt
 · intro q hq;cases hq;exact(A7.1 h2).1
def KW {g:Nat}{r0:Rl}(h2:w.heap[g]? = some (.cells (B4 (r0 :: R)).toArray 88 (0,0))):∀ j u,(B4 R)[j]? = some u->w.cell? ((⟨g,5,none⟩:Zj).add j)=some u:=by
 intro j u hj;rw[Addr.add_lit,Z3 w g (5+j) _ _ (0,0) h2,List.getElem?_toArray];rw[show B4 (r0 :: R)=r0.cells ++ B4 R by simp[B4],AM (by simp[Rl.cells])];rw[<- hj];congr 1;simp[Rl.cells]
def G9.rules (h:G9 w B v R):∃ a c,v=aG a R.length c/\BC w a R/\R.length<=c:=by
 rcases h with h | ⟨g,r0,rfl,h1,h2⟩
 · exact h.rules
 ·refine⟨_,_,rfl,.inr ⟨g,5,rfl,(A7.1 h2).1,λi hi=>?_⟩,A5 _⟩;have hc:∀ j,j<5->w.cell? ⟨g,5+i*5+j,none⟩=R[i].cells[j]?:=λj hj=>by
   have hg:=Ht (R:=R) hi hj;cases hq:R[i].cells[j]? with
   | none=>simp[Rl.cells]at hq;omega
   | some u =>
    rw[hq]at hg;have:=KW h2 (i*5+j) u hg;rw[Addr.add_lit]at this;rw[Nat.add_assoc];exact this
  exact⟨hc 0 (by omega),hc 1 (by omega),hc 2 (by omega),hc 3 (by omega),hc 4 (by omega)⟩
def G9.set {g i:Nat}{u:Z6}(h:G9 w B v R)(hg:g<B):G9 (w.setCell ⟨g,i,none⟩ u) B v R:=by
 refine h.imp (λh=>h.set hg) ?_;rintro⟨b,r0,rfl,h1,h2⟩;refine⟨b,r0,rfl,h1,?_⟩;rw[Zc _ _ _ _ (by show b≠g;omega)];exact h2
end
def opres_rowp {A:Act}{W:Z0}{o:ZX}{s x:Operand}{B:Nat}{v u:Z6}{R:List Rl}{r:Rl}
  (ho:o.op=.call { callee:=.builtin .append,args:=#[s,x],argTypes:=#[31,31] }) (hs:A.eval s=v) (ja:G9 W B v R) (hx:A.eval x=u) (hu:Iz v r u W) (hl:R.length<1000) (hB:B<=W.heap.size) :
  EY Z1 A o W (λv' w'=>Cg w' B v' (R ++ [r])/\W.grownBy w' v.ownBlock):=by
 rcases ja with ja | ⟨g0,r0,jg,h1,h2⟩
 · exact PH ho hs ja hx hu hl hB
 ·obtain⟨i0,hi,jh,jc,ji⟩:=info_parts JR;obtain⟨g,hv,hg,hne⟩:=hu;have jd:R.length+1<=maxLen:=by unfold maxLen;omega
  have hr:=run_append_grow (P:=Z1) W 31 o.type 88 i0 _ Tryz.underlying31 hi jh ⟨g0,5,none⟩ R.length R.length (B4 R) (by rw[jc];exact C2 R) (KW h2) ⟨g,0,none⟩ 1 1 r.cells (by rw[jc];rfl) (Gy hg) (by omega) (by omega) (growslice_fits (by omega) (by rw[ji];omega));obtain⟨v',w',jf,jb,hr⟩:∃ v' w',v'=_/\w'=_/\(Builtin.append_ #[31,31] o.type #[aG (some ⟨g0,5,none⟩) R.length R.length,aG (some ⟨g,0,none⟩) 1 1]).run Z1 W=.ok v' w':=⟨_,_,rfl,rfl,hr⟩
  refine .inl ⟨v',w',?_,?_,?_⟩
  ·unfold execOp;simp only[ho,resolve,invoke,builtin,Sem.run_bind,Sem.run_pure,Result.andThen_ok,List.map_toArray,Y4,List.map_nil,hs,hx,hv,jg,hr]
  ·subst jf jb;have e:B4 R ++ r.cells=B4 (R ++ [r]):=by simp[B4]
   have e2:(R ++ [r]).length=R.length+1:=by simp
   have je:=grownCap_ge W (R.length+1) R.length 88;refine⟨by rw[C2],.inr ⟨W.heap.size,_,_,by rw[e2],hB,Z4 W.drew _,by rw[e2];exact je,grownCap_le_maxLen W (R.length+1) R.length _ jd,?_,?_⟩⟩
   ·simp only[Array.size_append,zm,size_zeroCells,C2];have:r.cells.length=5:=rfl;rw[this];simp[Value.cells];omega
   ·simp only[XQ,Zw];rw[<- Zw,e,<- C2];exact List.take_left
  ·subst jb;exact⟨rfl,rfl,rfl,by simp,λk hk _=>ZF W.drew _ k hk⟩
structure RR where
 ai:Option Zj
 li:Nat
 ci:Nat
 ao:Option Zj
 lo:Nat
 co:Nat
 f:Int
 d:Int
 c:Int
 ZI:Nat->Int
 ZO:Nat->Int
structure PJ (w:Z0)(q:RR):Prop where
 f0:0<=q.f
 f1:q.f<=255
 d0:0<=q.d
 d1:q.d<=255
 c0:0<=q.c
 c1:q.c<=255
 i:Bt w q.ai q.li q.ZI
 o:Bt w q.ao q.lo q.ZO
def F1 (w:Z0)(a:Option Zj)(len:Nat)(Q:Nat->RR):Prop :=
 len=0\/∃ b o,a=some ⟨b,o,none⟩/\b<w.heap.size/\∀ i,i<len->(w.cell? ⟨b,o+i*5+0,none⟩=some (aG (Q i).ai (Q i).li (Q i).ci)/\w.cell? ⟨b,o+i*5+1,none⟩=some (aG (Q i).ao (Q i).lo (Q i).co)/\w.cell? ⟨b,o+i*5+2,none⟩=some (aA aO (Q i).f)/\w.cell? ⟨b,o+i*5+3,none⟩=some (aA aO (Q i).d)/\w.cell? ⟨b,o+i*5+4,none⟩=some (aA aO (Q i).c))/\PJ w (Q i)
def PJ.later {w w1:Z0}{q:RR}{B:Nat}(h:PJ w q)(hb:Below B w w1)(hB:w.heap.size<=B):PJ w1 q :=
 ⟨h.f0,h.f1,h.d0,h.d1,h.c0,h.c1,h.i.later hb hB,h.o.later hb hB⟩
def F1.later {w w1:Z0}{a:Option Zj}{len:Nat}{Q:Nat->RR}{B:Nat}(h:F1 w a len Q)(hb:Below B w w1)(hB:w.heap.size<=B):F1 w1 a len Q:=by
 rcases h with h | ⟨b,o,ha,ja,hr⟩
 · exact .inl h
 ·have hc:∀ k,w1.cell? ⟨b,k,none⟩=w.cell? ⟨b,k,none⟩:=λk=>hb.cell (p:=⟨b,k,none⟩) (A9 ja hB);refine .inr ⟨b,o,ha,A9 ja hb.size,λi hi=>⟨?_,(hr i hi).2.later hb hB⟩⟩;rw[hc,hc,hc,hc,hc];exact(hr i hi).1
def F1.at {w:Z0}{a:Option Zj}{len:Nat}{Q:Nat->RR}(h:F1 w a len Q){k:Nat}(hk:k<len):∃ b o,a=some ⟨b,o,none⟩/\b<w.heap.size/\w.cell? ⟨b,o+k*5,none⟩=some (aG (Q k).ai (Q k).li (Q k).ci)/\w.cell? ⟨b,o+k*5+1,none⟩=some (aG (Q k).ao (Q k).lo (Q k).co)/\w.cell? ⟨b,o+k*5+2,none⟩=some (aA aO (Q k).f)/\w.cell? ⟨b,o+k*5+3,none⟩=some (aA aO (Q k).d)/\w.cell? ⟨b,o+k*5+4,none⟩=some (aA aO (Q k).c)/\PJ w (Q k):=by
 rcases h with h | ⟨b,o,ha,ja,hr⟩
 · omega
 ·obtain⟨⟨h0,h1,h2,h3,h4⟩,h5⟩:=hr k hk;exact⟨b,o,ha,ja,h0,h1,h2,h3,h4,h5⟩
def TC (a:Option Zj)(b o len cap k:Nat)(ha:a=some ⟨b,o,none⟩)(hk:k<len)(w:Z0) :
  (ZK 22 (aG a len cap) (aA aM (k:Int))).run Z1 w=.ok (aB (some ⟨b,o+k*5,none⟩)) w:=by
 subst ha;have h0:(0:Int)<=(k:Int):=by omega
 have h1:(k:Int)<(len:Int):=by omega
 simp[go_sem,h0,h1]
def RlV (v:Z6)(_:Z0):Prop:=∃ r:Rl,v=aJ #[aA aM r.frm,aA aM r.dst,aI r.inp,aI r.out,aA aM r.cost]
def Rd:Bq RlV:=λ_ _ _ h _=>h
def IT (v0:Z6)(v:Z6)(W:Z0):Prop:=∃ r:Rl,Iz v0 r v W
def LF (v0:Z6):Bq (IT v0):=by
 rintro v w w' ⟨r,h⟩ hx;exact⟨r,Mr v0 r v w w' h hx⟩
def LG (v0:Z6):∀ v w w',IT v0 v w->World.grownBy w w' v0.ownBlock->IT v0 v w':=by
 rintro v w w' ⟨r,h⟩ hx;exact⟨r,Ms v0 r v w w' h hx⟩
def TD (B:Nat)(R:List Rl)(v:Z6)(W:Z0):Prop:=∃ r:Rl,Cg W B v (R ++ [r])
def OM (B:Nat)(R:List Rl):Bq (TD B R):=by
 rintro v w w' ⟨r,h⟩ hx;exact⟨r,h.below hx h.lt⟩
structure MX (wl:Z0)(B0 gt:Nat)(mo ac:Int)(v:Z6)(R:List Rl)(wr:Z0):Prop extends TX0 wl B0 gt mo ac v wr where
 row:G9 wr B0 v R
def G9.ne_of {wr:Z0}{gt B:Nat}{v:Z6}{T:List Rl}{cs:Array Z6}(h:G9 wr B v T)(hr:wr.heap[gt]? = some (.cells cs 33 (0,0))):∀ q,v.ownBlock=some q->q≠gt:=by
 rcases h with h | ⟨g,r0,rfl,h1,h2⟩
 · exact h.ne_of hr
 ·intro q hq e;cases hq;subst e;rw[hr]at h2;injection h2 with h2;injection h2 with _ h2 _;exact absurd h2 (by decide)
def Re {w:Z0}{B:Nat}{a:Option Zj}{R:List Rl}(h:Cg w B (aG a R.length R.length) R)(hl:1<=R.length):∃ g,a=some ⟨g,0,none⟩/\B<=g/\w.heap[g]? = some (.cells (B4 R).toArray 88 (0,0)):=by
 rcases h.2 with⟨he,h0⟩ | ⟨g,cap',cur,he,p1,p2,p3,p4,p5,p6⟩
 · exfalso;have:R.length=0:=h0;omega
 ·injection he with e1 e2 e3;refine⟨g,e1,p1,?_⟩;have:cur=(B4 R).toArray:=by
   apply Array.ext';rw[<- p6,AH (by rw[Xq,p5,<- e3];exact A5 _)]
  rw[p2,this]
def JY (a:Option Zj)(n cap k:Nat)(hk:k<=cap)(w:Z0) :
  (Xm 31 (aG a n cap) none (some (aA aM (k:Int))) none).run Z1 w=.ok (aG a k cap) w:=by
 have h0:(0:Int)<=(k:Int):=by omega
 have h1:(k:Int)<=(cap:Int):=by omega
 cases a with
 | none=>simp[go_sem,Xm,Xw,XA,asIntOf,h0,h1];intro h;omega
 | some a=>simp[go_sem,Xm,Xw,XA,asIntOf,h0,h1];intro h;omega
def M6 (w:Z0)(e:Ending)(w':Z0):Prop :=
 ∃ (S:Sch) (b:Option Zj) (c:Nat),e=aP (aJ #[aA aM S.modes,aA aO S.acc,aG b S.rules.length c])/\1<=S.modes/\S.modes<=2/\S.acc=1/\S.rules.length<=9/\BC w' b S.rules/\S.rules.length<=c/\Below w.heap.size w w'
def M7 {w w':Z0}{mo:Int}{g:Nat}{b:Option Zj}{c B0:Nat}{R:List Rl}{x y z:Z6}(hr:G9 w' B0 (aG b R.length c) R)(hg:g<B0)(ja:w.heap.size<=g)(h1:1<=mo)(h2:mo<=2)(hl:R.length<=9)(hb:Below w.heap.size w w') :
  M6 w (aP (aJ #[aA aM mo,aA aO 1,aG b R.length c])) (((w'.setCell ⟨g,0,none⟩ x).setCell ⟨g,1,none⟩ y).setCell ⟨g,2,none⟩ z):=by
 have h:=((hr.set (i:=0) (u:=x) hg).set (i:=1) (u:=y) hg).set (i:=2) (u:=z) hg;obtain⟨a',c',he,jc,jb⟩:=h.rules;injection he with e1 e2 e3;subst e1 e3;exact⟨⟨mo,1,R⟩,b,c,rfl,h1,h2,rfl,hl,jc,jb,((hb.setCell ja _).setCell ja _).setCell ja _⟩
def made2_any (x0 x1:Int)(a:Option Zj)(len cap:Nat)(Q:Nat->RR)(w:Z0)(jX:0<=x0)(jY:x0<=255)(h10:0<=x1)(h11:x1<=255)(hQ:F1 w a len Q) :
  Zu Z1 11 #[aJ #[aA aO x0,aA aO x1,aG a len cap]] w (M6 w):=by
 have HQ:=A0 hQ;clear hQ
 go_enter Tryz.func11,Tryz.ntmps11
 go_wp2_with fail
 refine(base_any x0 _ jX jY).mono ?_;rintro e w1 ⟨⟨mo,ac,R0⟩,b,n,rfl,rfl,jp,jt,jZ,jK,jE,jf,hb, -⟩;obtain rfl:ac=1:=jZ;simp only at jp jt jK jE jf ⊢;obtain⟨g,e1,jC,hg⟩:=Re jf (by omega);simp only[A8]at jC;subst e1;have jv:Hid (Below (w.heap.size+2) ((w.alloc (aK #[aA aO x0,aA aO x1,aG a len cap] 24)).alloc (aK #[aA aM 0,aA aO 0,aG none 0 0] 33)) w1):=hb.mono (by simp only[A8];omega);clear hb;obtain⟨hz,hc,hf⟩:=Aw jv.out rfl;simp only[A8]at hz;have jI:g<w1.heap.size:=(A7.1 hg).1
 go_upto_region 2 with fail
 have HG:=A0 hg;clear hg jf
 go_cut [] (λwx=>∃ wz:Z0,wz=wx/\∃ (R:List Rl) (b:Option Zj) (n c:Nat),MX ((w.alloc (aK #[aA aO x0,aA aO x1,aG a len cap] 24)).alloc (aK #[aA aM 0,aA aO 0,aG none 0 0] 33)) (w.heap.size+2) w1.heap.size mo 1 (aG b n c) R wz/\n=R.length/\R.length<=5)
 case first =>
  rcases(show x1 % 2=0\/x1 % 2=1 by omega) with h2 | h2
  ·go_wp2_with fail
   go_meet
   refine⟨_,rfl,R0,some ⟨g,0,none⟩,R0.length,R0.length,⟨⟨jv.out.alloc (by omega) _,Z4 _ _,hz⟩,.inl (OK ((ZF _ _ _ jI).trans HG.out) jC (by omega))⟩,rfl,jE⟩
  ·have hlI:(1:Int)<=(R0.length:Int):=by omega
   have hlN:(1:Int)<(R0.length:Int):=by omega
   go_wp2_with fail
   go_meet
   obtain⟨r0,R,rfl⟩:∃ r0 R,R0=r0 :: R:=by
    cases R0 with
    | nil=>simp at jK
    | cons r0 R=>exact⟨r0,R,rfl⟩
   refine⟨_,rfl,R,some ⟨g,5,none⟩,R.length,R.length,⟨⟨jv.out.alloc (by omega) _,Z4 _ _,hz⟩,.inr ⟨g,r0,rfl,jC,(ZF _ _ _ jI).trans HG.out⟩⟩,rfl,by simp at jE;omega⟩
 case rest
      =>
  obtain⟨wc,rfl,R1,b1,n1,c1,jm,j0,hR1⟩:=hcut;obtain⟨gt,jJ⟩:∃ gt,gt=w1.heap.size:=⟨_,rfl⟩
  rw[<- jJ]at jm ⊢;have hgt2:w.heap.size+2<=gt:=by omega
  have jw:=A0 jm;clear jm hc hf jJ;have jW:Hid (((w.alloc (aK #[aA aO x0,aA aO x1,aG a len cap] 24)).alloc (aK #[aA aM 0,aA aO 0,aG none 0 0] 33)).heap[w.heap.size+1]? = some (aK #[aA aM 0,aA aO 0,aG none 0 0] 33 (0,0))):=by
   have:=Z4 (w.alloc (aK #[aA aO x0,aA aO x1,aG a len cap] 24)) (aK #[aA aM 0,aA aO 0,aG none 0 0] 33);simp only[A8]at this;exact this
  go_wp2_with fail
  go_loopw [4] (λi wr=>∃ (j:Nat) (R:List Rl) (b:Option Zj) (n c:Nat),j<=4/\i=aA aM j/\n=R.length/\R.length<=5+j/\MX ((w.alloc (aK #[aA aO x0,aA aO x1,aG a len cap] 24)).alloc (aK #[aA aM 0,aA aO 0,aG none 0 0] 33)) (w.heap.size+2) gt mo 1 (aG b n c) R wr) (λi _=>4 - (intOf i).toNat)
  case atStart=>exact⟨0,R1,b1,n1,c1,by omega,rfl,j0,by omega,jw.out⟩
  case round =>
   obtain⟨j,R,b,n,c,hj,rfl,rfl,hl,jl⟩:=hrel;have jo:=A0 jl;have hB:Below w.heap.size w wr:=(((Z2 _ _).alloc (A5 _) _).alloc (by simp) _).trans (jl.bl.mono (by omega));have HB:=A0 hB;obtain⟨jQ,hc,hf⟩:=Aw jl.bl rfl;simp only[A8]at jQ;obtain⟨d0,d1,d2⟩:=jl.toTX0.cells;have df:=jl.toTX0.free;have jG:=A0 ((jl.bl.block (w.heap.size+1) (by omega)).trans jW.out);clear jl hB;by_cases js:j<len
   ·by_cases hj4:j<4
    ·have hj4I:(j:Int)<4:=by omega
     obtain⟨bq,oq,jy,hbq,q0,q1,q2,q3,q4,jN⟩:=(HQ.out.later HB.out (A5 _)).at js;have jD:=TC a bq oq len cap j jy js;have jR:=A0 jy;have jU:=A0 jN;clear jy jN
     go_upto_region 6 with fail
     refine L4 (by kernel_rfl) (Vs [λv _=>v=aB (some ⟨gt,2,none⟩),λv _=>v=Zk b R.length c,λv _=>v=aB (some ⟨w.heap.size,2,none⟩),λv _=>v=aG a len cap,λv _=>v=aA aM (j:Int),λv _=>v=aB (some ⟨bq,oq+j*5,none⟩),λv _=>v=aJ #[aG (Q j).ai (Q j).li (Q j).ci,aG (Q j).ao (Q j).lo (Q j).co,aA aO (Q j).f,aA aO (Q j).d,aA aO (Q j).c],λv _=>v=aB (some ⟨gt,0,none⟩),λv _=>v=aA aM mo,RlV,IT (Zk b R.length c),TD (w.heap.size+2) R,λv _=>v=aB (some ⟨gt,2,none⟩)]) (λbo W=>TX0 ((w.alloc (aK #[aA aO x0,aA aO x1,aG a len cap] 24)).alloc (aK #[aA aM 0,aA aO 0,aG none 0 0] 33)) (w.heap.size+2) gt mo 1 (Zk b R.length c) W/\(bo=false->Below wr.heap.size wr W/\G9 W (w.heap.size+2) (Zk b R.length c) R)/\(w.heap.size+2<=W.heap.size)/\∀ q,(Zk b R.length c).ownBlock=some q->q<W.heap.size) (λW W'=>W.grownBy W' (Zk b R.length c).ownBlock) 56 11 13 (by kernel_rfl) rfl (by omega) ?hVx ?hVm ?hSx ?hS ?hop ?hlast
     case hVx=>exact BB (by simp only[AX,ZN,or_false,forall_eq_or_imp,forall_eq];exact⟨Ab _,Ab _,Ab _,Ab _,Ab _,Ab _,Ab _,Ab _,Ab _,Rd,LF _,OM _ _,Ab _⟩)
     case hVm=>exact Oh ⟨λ_=>λ_ _ _ h _=>h,λ_=>λ_ _ _ h _=>h,λ_=>λ_ _ _ h _=>h,λ_=>λ_ _ _ h _=>h,λ_=>λ_ _ _ h _=>h,λ_=>λ_ _ _ h _=>h,λ_=>λ_ _ _ h _=>h,λ_=>λ_ _ _ h _=>h,λ_=>λ_ _ _ h _=>h,λ_=>λ_ _ _ h _=>h,λ_=>LG _,λh=>absurd rfl h,λ_=>λ_ _ _ h _=>h,trivial⟩
     case hSx=>exact λbo W W' h hx=>⟨h.1.below hx,λe=>⟨(h.2.1 e).1.trans (ZT hx (h.2.1 e).1.size),(h.2.1 e).2.below hx (h.2.1 e).2.lt⟩,AA h.2.2.1 hx.size,λq hq=>A9 (h.2.2.2 q hq) hx.size⟩
     case hS=>exact⟨jo.out.toTX0,λ_=>⟨Z2 _ _,jo.out.row⟩,jQ,jo.out.row.lt⟩
     case hop =>
      refine⟨?_,?_,?_,?_,?_,?_,?_,?_,?_,?_,?_,?_,?_,?_,trivial⟩
      all_goals first | rw[if_neg (by decide),if_neg (by decide)] | rw[if_neg (by decide),if_pos (by decide)] | rw[if_pos (by decide)]
      ·intro A W bo jc hS jb ja;obtain⟨d0',d1',d2'⟩:=hS.1.cells;obtain⟨je,ji,jj⟩:=Aw hS.1.bl rfl;have h1:A.tmps.getD 1 Z8=aB (some ⟨w.heap.size,0,none⟩):=ja 1 (by kernel_rfl);have h3:A.tmps.getD 3 Z8=aB (some ⟨gt,0,none⟩):=ja 3 (by kernel_rfl);have h4:A.tmps.getD 4 Z8=aA aM (j:Int):=ja 4 (by kernel_rfl);have jd:Below w.heap.size w W:=(((Z2 _ _).alloc (A5 _) _).alloc (by simp) _).trans (hS.1.bl.mono (by omega));clear ja;simp[Ae,Zl,Vs]at jb;refine Ag rfl (.inl ⟨_,W,?_,rfl,Ext.refl _⟩);clear jc hS jd;simp[go_sem,Zf, *]
      ·intro A W bo jc hS jb ja;obtain⟨d0',d1',d2'⟩:=hS.1.cells;obtain⟨je,ji,jj⟩:=Aw hS.1.bl rfl;have h1:A.tmps.getD 1 Z8=aB (some ⟨w.heap.size,0,none⟩):=ja 1 (by kernel_rfl);have h3:A.tmps.getD 3 Z8=aB (some ⟨gt,0,none⟩):=ja 3 (by kernel_rfl);have h4:A.tmps.getD 4 Z8=aA aM (j:Int):=ja 4 (by kernel_rfl);have jd:Below w.heap.size w W:=(((Z2 _ _).alloc (A5 _) _).alloc (by simp) _).trans (hS.1.bl.mono (by omega));clear ja;simp[Ae,Zl,Vs]at jb;refine Ag rfl (.inl ⟨_,W,?_,rfl,Ext.refl _⟩);clear jc hS jd;simp[go_sem,Zf, *]
      ·intro A W bo jc hS jb ja;obtain⟨d0',d1',d2'⟩:=hS.1.cells;obtain⟨je,ji,jj⟩:=Aw hS.1.bl rfl;have h1:A.tmps.getD 1 Z8=aB (some ⟨w.heap.size,0,none⟩):=ja 1 (by kernel_rfl);have h3:A.tmps.getD 3 Z8=aB (some ⟨gt,0,none⟩):=ja 3 (by kernel_rfl);have h4:A.tmps.getD 4 Z8=aA aM (j:Int):=ja 4 (by kernel_rfl);have jd:Below w.heap.size w W:=(((Z2 _ _).alloc (A5 _) _).alloc (by simp) _).trans (hS.1.bl.mono (by omega));clear ja;simp[Ae,Zl,Vs]at jb;refine Ag rfl (.inl ⟨_,W,?_,rfl,Ext.refl _⟩);clear jc hS jd;simp[go_sem,Zf, *]
      ·intro A W bo jc hS jb ja;obtain⟨d0',d1',d2'⟩:=hS.1.cells;obtain⟨je,ji,jj⟩:=Aw hS.1.bl rfl;have h1:A.tmps.getD 1 Z8=aB (some ⟨w.heap.size,0,none⟩):=ja 1 (by kernel_rfl);have h3:A.tmps.getD 3 Z8=aB (some ⟨gt,0,none⟩):=ja 3 (by kernel_rfl);have h4:A.tmps.getD 4 Z8=aA aM (j:Int):=ja 4 (by kernel_rfl);have jd:Below w.heap.size w W:=(((Z2 _ _).alloc (A5 _) _).alloc (by simp) _).trans (hS.1.bl.mono (by omega));clear ja;simp[Ae,Zl,Vs]at jb;refine Ag rfl (.inl ⟨_,W,?_,rfl,Ext.refl _⟩);clear jc hS jd;simp[go_sem,Zf, *]
      ·intro A W bo jc hS jb ja;obtain⟨d0',d1',d2'⟩:=hS.1.cells;obtain⟨je,ji,jj⟩:=Aw hS.1.bl rfl;have h1:A.tmps.getD 1 Z8=aB (some ⟨w.heap.size,0,none⟩):=ja 1 (by kernel_rfl);have h3:A.tmps.getD 3 Z8=aB (some ⟨gt,0,none⟩):=ja 3 (by kernel_rfl);have h4:A.tmps.getD 4 Z8=aA aM (j:Int):=ja 4 (by kernel_rfl);have jd:Below w.heap.size w W:=(((Z2 _ _).alloc (A5 _) _).alloc (by simp) _).trans (hS.1.bl.mono (by omega));clear ja;simp[Ae,Zl,Vs]at jb;refine Ag rfl (.inl ⟨_,W,?_,rfl,Ext.refl _⟩);clear jc hS jd;simp[go_sem,Zf, *]
      ·intro A W bo jc hS jb ja;obtain⟨d0',d1',d2'⟩:=hS.1.cells;obtain⟨je,ji,jj⟩:=Aw hS.1.bl rfl;have h1:A.tmps.getD 1 Z8=aB (some ⟨w.heap.size,0,none⟩):=ja 1 (by kernel_rfl);have h3:A.tmps.getD 3 Z8=aB (some ⟨gt,0,none⟩):=ja 3 (by kernel_rfl);have h4:A.tmps.getD 4 Z8=aA aM (j:Int):=ja 4 (by kernel_rfl);have jd:Below w.heap.size w W:=(((Z2 _ _).alloc (A5 _) _).alloc (by simp) _).trans (hS.1.bl.mono (by omega));clear ja;simp[Ae,Zl,Vs]at jb;refine Ag rfl (.inl ⟨_,W,?_,rfl,Ext.refl _⟩);clear jc hS jd;simp[go_sem,Zf, *]
      ·intro A W bo jc hS jb ja;obtain⟨d0',d1',d2'⟩:=hS.1.cells;obtain⟨je,ji,jj⟩:=Aw hS.1.bl rfl;have h1:A.tmps.getD 1 Z8=aB (some ⟨w.heap.size,0,none⟩):=ja 1 (by kernel_rfl);have h3:A.tmps.getD 3 Z8=aB (some ⟨gt,0,none⟩):=ja 3 (by kernel_rfl);have h4:A.tmps.getD 4 Z8=aA aM (j:Int):=ja 4 (by kernel_rfl);have jd:Below w.heap.size w W:=(((Z2 _ _).alloc (A5 _) _).alloc (by simp) _).trans (hS.1.bl.mono (by omega));clear ja;simp[Ae,Zl,Vs]at jb;obtain⟨b',o',jx,jA,q0',q1',q2',q3',q4',jq⟩:=(HQ.out.later jd (A5 _)).at js;obtain⟨rfl,rfl⟩:b'=bq/\o'=oq:=by have:=jR.out.symm.trans jx;simp at this;exact⟨this.1.symm,this.2.symm⟩
       clear jx;refine Ag rfl (.inl ⟨_,W,?_,rfl,Ext.refl _⟩);clear jc hS jd;simp[go_sem,Zf, *]
      ·intro A W bo jc hS jb ja;obtain⟨d0',d1',d2'⟩:=hS.1.cells;obtain⟨je,ji,jj⟩:=Aw hS.1.bl rfl;have h1:A.tmps.getD 1 Z8=aB (some ⟨w.heap.size,0,none⟩):=ja 1 (by kernel_rfl);have h3:A.tmps.getD 3 Z8=aB (some ⟨gt,0,none⟩):=ja 3 (by kernel_rfl);have h4:A.tmps.getD 4 Z8=aA aM (j:Int):=ja 4 (by kernel_rfl);have jd:Below w.heap.size w W:=(((Z2 _ _).alloc (A5 _) _).alloc (by simp) _).trans (hS.1.bl.mono (by omega));clear ja;simp[Ae,Zl,Vs]at jb;refine Ag rfl (.inl ⟨_,W,?_,rfl,Ext.refl _⟩);clear jc hS jd;simp[go_sem,Zf, *]
      ·intro A W bo jc hS jb ja;obtain⟨d0',d1',d2'⟩:=hS.1.cells;obtain⟨je,ji,jj⟩:=Aw hS.1.bl rfl;have h1:A.tmps.getD 1 Z8=aB (some ⟨w.heap.size,0,none⟩):=ja 1 (by kernel_rfl);have h3:A.tmps.getD 3 Z8=aB (some ⟨gt,0,none⟩):=ja 3 (by kernel_rfl);have h4:A.tmps.getD 4 Z8=aA aM (j:Int):=ja 4 (by kernel_rfl);have jd:Below w.heap.size w W:=(((Z2 _ _).alloc (A5 _) _).alloc (by simp) _).trans (hS.1.bl.mono (by omega));clear ja;simp[Ae,Zl,Vs]at jb;refine Ag rfl (.inl ⟨_,W,?_,rfl,Ext.refl _⟩);clear jc hS jd;simp[go_sem,Zf, *]
      ·intro A W bo jc hS jb ja;obtain⟨d0',d1',d2'⟩:=hS.1.cells;obtain⟨je,ji,jj⟩:=Aw hS.1.bl rfl;have h1:A.tmps.getD 1 Z8=aB (some ⟨w.heap.size,0,none⟩):=ja 1 (by kernel_rfl);have h3:A.tmps.getD 3 Z8=aB (some ⟨gt,0,none⟩):=ja 3 (by kernel_rfl);have h4:A.tmps.getD 4 Z8=aA aM (j:Int):=ja 4 (by kernel_rfl);have jd:Below w.heap.size w W:=(((Z2 _ _).alloc (A5 _) _).alloc (by simp) _).trans (hS.1.bl.mono (by omega));clear ja;have jq:=jU.out;simp[Ae,Zl,Vs]at jb;refine Ag rfl (.inr ⟨33,#[aJ #[aG (Q j).ai (Q j).li (Q j).ci,aG (Q j).ao (Q j).lo (Q j).co,aA aO (Q j).f,aA aO (Q j).d,aA aO (Q j).c],aA aM mo],W,by(clear jc hS jd jq;simp[go_sem,Zf, *]),?_⟩);obtain⟨b',o',jx,jA,q0',q1',q2',q3',q4',hr⟩:=(HQ.out.later jd (A5 _)).at js;refine(made1_any _ _ _ _ _ _ _ _ _ _ (Q j).ZI (Q j).ZO W hr.f0 hr.f1 hr.d0 hr.d1 hr.c0 hr.c1 jp jt hr.i hr.o).mono ?_;rintro e w' ⟨r,rfl, -, -,hb⟩;exact⟨_,rfl,⟨r,rfl⟩,hb⟩
      ·intro A W bo jc hS jb ja;obtain⟨d0',d1',d2'⟩:=hS.1.cells;obtain⟨je,ji,jj⟩:=Aw hS.1.bl rfl;have h1:A.tmps.getD 1 Z8=aB (some ⟨w.heap.size,0,none⟩):=ja 1 (by kernel_rfl);have h3:A.tmps.getD 3 Z8=aB (some ⟨gt,0,none⟩):=ja 3 (by kernel_rfl);have h4:A.tmps.getD 4 Z8=aA aM (j:Int):=ja 4 (by kernel_rfl);have jd:Below w.heap.size w W:=(((Z2 _ _).alloc (A5 _) _).alloc (by simp) _).trans (hS.1.bl.mono (by omega));clear ja;have jz:RlV (A.tmps.getD 36 Z8) W:=jb ⟨9,.data⟩ (by simp) rfl;obtain⟨r,e36⟩:=jz;have jL:=hS.2.2.2;refine Ag rfl (.inl ⟨aG (some ⟨W.heap.size,0,none⟩) 1 1,W.alloc (aK #[aA aM r.frm,aA aM r.dst,aI r.inp,aI r.out,aA aM r.cost] 88),?_,⟨r,W.heap.size,rfl,Z4 _ _,λe=>absurd (jL _ e) (Nat.lt_irrefl _)⟩,(Z2 _ _).alloc (A5 _) _⟩);rw[A6]at e36;clear jc hS jb jL;simp[go_sem,Zf, *]
      ·intro A W jc hS jb ja;have j2:A.tmps.getD 28 Z8=Zk b R.length c:=jb ⟨1,.data⟩ (by simp) rfl;have jF:IT (Zk b R.length c) (A.tmps.getD 37 Z8) W:=jb ⟨10,.data⟩ (by simp) rfl;obtain⟨r,jF⟩:=jF;refine⟨rfl,(opres_rowp rfl (Al j2) (hS.2.1 rfl).2 rfl (by rw[Al rfl];exact jF) (by omega) hS.2.2.1).mono λv w' h=>⟨⟨r,h.1⟩,h.2,hS.1.grown h.2 (hS.2.1 rfl).2.ge ((hS.2.1 rfl).2.ne_of hS.1.rep),λe=>absurd e (by decide),AA hS.2.2.1 h.2.size,λq hq=>A9 (hS.2.2.2 q hq) h.2.size⟩⟩
      ·intro A W bo jc hS jb ja;obtain⟨d0',d1',d2'⟩:=hS.1.cells;obtain⟨je,ji,jj⟩:=Aw hS.1.bl rfl;have h1:A.tmps.getD 1 Z8=aB (some ⟨w.heap.size,0,none⟩):=ja 1 (by kernel_rfl);have h3:A.tmps.getD 3 Z8=aB (some ⟨gt,0,none⟩):=ja 3 (by kernel_rfl);have h4:A.tmps.getD 4 Z8=aA aM (j:Int):=ja 4 (by kernel_rfl);have jd:Below w.heap.size w W:=(((Z2 _ _).alloc (A5 _) _).alloc (by simp) _).trans (hS.1.bl.mono (by omega));clear ja;simp[Ae,Zl,Vs]at jb;refine Ag rfl (.inl ⟨_,W,?_,rfl,Ext.refl _⟩);clear jc hS jd;simp[go_sem,Zf, *]
      · trivial
     case hlast =>
      intro A1 W jc jH hS hv ja;have jO:A1.tmps.getD 39 Z8=aB (some ⟨gt,2,none⟩):=hv 12 (by decide);have jf:TD (w.heap.size+2) R (A1.tmps.getD 38 Z8) W:=hv 11 (by decide);obtain⟨r,jf⟩:=jf;have jk:(R ++ [r]).length=R.length+1:=by simp
      obtain⟨b',c',jr,j1,jB⟩:=jf.rules;rw[jk]at jr jB;rw[jr]at jf;obtain⟨e0,e1,e2⟩:=hS.1.cells;refine Bw rfl rfl rfl rfl (Al jO) (Al jr) (hS.1.free 2) e2 (by kernel_rfl) ?_;have jn:=A0 (hS.1.put jf);obtain⟨x,hx,hA⟩:=B7 [27,28,29,30,31,32,33,34,35,36,37,38,39] (by kernel_rfl) jc jH ja;obtain⟨wz,jP⟩:∃ wz,wz=W.setCell ⟨gt,2,none⟩ (aG b' (R.length+1) c'):=⟨_,rfl⟩
      rw[<- jP]at jn ⊢;rw[hA];simp only[Zp];simp only[ZE,Z5,Za,Z9];clear hA hx hv ja jc jH jP e0 e1 e2 jr jf j1 jO hS d0 d1 d2 df hc hf q0 q1 q2 q3 q4 jD;have jh:=A0 jk;have jS:=A0 jB;clear jk jB;obtain⟨hzy,hc,hf⟩:=Aw jn.out.bl rfl;obtain⟨d0,d1,d2⟩:=jn.out.toTX0.cells;have df:=jn.out.toTX0.free;have jV:Hid (BC wz b' (R ++ [r])):=(jn.out.own.ruls).1;have ju:=rright_any ⟨mo,1,R ++ [r]⟩ b' c' R.length wz jV.out (by show(R ++ [r]).length<=_;rw[jh.out];omega) (by show R.length<(R ++ [r]).length;rw[jh.out];omega) jp (by show mo<=8;omega);obtain⟨ok,jM⟩:∃ ok,CW ⟨mo,1,R ++ [r]⟩ ((R ++ [r])[R.length]'(by rw[jh.out];omega)) ((R ++ [r]).take R.length)=ok:=⟨_,rfl⟩
      simp only[jM]at ju;rw[show(Sch.rules ⟨mo,1,R ++ [r]⟩).length=R.length+1 from jh.out]at ju;have jT:=A0 ju;clear ju jM
      go_wp2_with fail
      refine jT.out.mono ?_;rintro e w3 ⟨rfl,hb⟩;have jg:=A0 (jn.out.below hb);clear hc hf d0 d1 d2 df hb;obtain⟨hzx,hc,hf⟩:=Aw jg.out.bl rfl;obtain⟨d0,d1,d2⟩:=jg.out.toTX0.cells;have df:=jg.out.toTX0.free;cases ok
      ·have hsl:=JY b' (R.length+1) c' R.length (by have:=jS.out;omega)
       go_wp2_with fail
       go_roundw
       case rel =>
        have ho:Cg w3 (w.heap.size+2) (aG b' R.length c') R:=jg.out.own.drop;have h:=jg.out.toTX0.put ho;exact⟨j+1,R,b',R.length,c',by omega,by go_num,rfl,by omega,⟨h.toTX0,.inl h.own⟩⟩
       case measure=>simp[intOf];omega
      ·go_wp2_with fail
       go_roundw
       case rel=>exact⟨j+1,R ++ [r],b',R.length+1,c',by omega,by go_num,jh.out.symm,by rw[jh.out];omega,⟨jg.out.toTX0,.inl jg.out.own⟩⟩
       case measure=>simp[intOf];omega
    ·obtain rfl:j=4:=by omega
     go_wp2_with fail
     obtain⟨r0',r1',r2'⟩:=cells3 (RW (a:=aA aM mo) (b:=aA aO 1) (c:=aG b R.length c) jG.out);exact bodyPost_ret (v:=aJ #[aA aM mo,aA aO 1,aG b R.length c]) (by simp[results,Tryz.results11,go_sem,r0',r1',r2']) rfl (M7 jo.out.row (by omega) (by omega) jp jt (by omega) HB.out)
   ·have hjI:¬ (j:Int)<(len:Int):=by omega
    go_wp2_with fail
    obtain⟨r0',r1',r2'⟩:=cells3 (RW (a:=aA aM mo) (b:=aA aO 1) (c:=aG b R.length c) jG.out);exact bodyPost_ret (v:=aJ #[aA aM mo,aA aO 1,aG b R.length c]) (by simp[results,Tryz.results11,go_sem,r0',r1',r2']) rfl (M7 jo.out.row (by omega) (by omega) jp jt (by omega) HB.out)
def beforeB_lex:∀ {a b:List Nat},a.length=b.length->(Az (ints a) (ints b)=true↔DM a b)
 | [],[],_=>by simp[ints,Az,DM]
 | [],_ :: _,h=>by simp at h
 | _ :: _,[],h=>by simp at h
 | x
   :: a,y :: b,h=>by
  have ih:=beforeB_lex (a:=a) (b:=b) (by simpa using h);show Az ((x:Int) :: ints a) ((y:Int) :: ints b)=true↔(x<y\/(x=y/\DM a b));rw[Az];by_cases e:x=y
  ·subst e;rw[if_pos rfl,ih];simp
  ·rw[if_neg (by omega),decide_eq_true_iff];constructor
   · intro h;exact .inl (by omega)
   ·rintro(h | h)
    · omega
    · exact absurd h.1 e
def Er {a b:List Nat}(h:a.length=b.length):Az (ints a) (ints b)=true↔sl a b:=by
 rw[beforeB_lex h];constructor
 · intro h2;exact .inr ⟨h,h2⟩
 ·rintro(h2 | h2)
  · omega
  · exact h2.2
structure EO (use:Rl->Bool)(R:List Rl)(start n:Nat)(K:Wk):Prop where
 is:∀ t,K.is t=true↔∃ c,c.length=n/\leads use R start c=some t
 ch:∀ t,K.is t=true->(K.ch t).length=n/\leads use R start (K.ch t)=some t
 least:∀ t c,c.length=n->leads use R start c=some t->sle (K.ch t) c
structure PK (use:Rl->Bool)(R:List Rl)(start n k:Nat)(O:Wk):Prop where
 is:∀ t,O.is t=true↔∃ c i,c.length=n/\i<k/\leads use R start (c ++ [i])=some t
 ch:∀ t,O.is t=true->(O.ch t).length=n+1/\leads use R start (O.ch t)=some t
 least:∀ t c i,c.length=n->i<k->leads use R start (c ++ [i])=some t->sle (O.ch t) (c ++ [i])
def part_step {use:Rl->Bool}{R:List Rl}{start n k:Nat}{K O:Wk}(hK:EO use R start n K)(hO:PK use R start n k O)(hk:k<R.length):PK use R start n (k+1) (stepK use K O k R[k]):=by
 unfold stepK;by_cases h1:(K.is R[k].frm.toNat && use R[k])=true
 ·rw[if_pos h1];simp only[Zg]at h1;obtain⟨hl,hc⟩:=hK.ch _ h1.1;have je:leads use R start (K.ch R[k].frm.toNat ++ [k])=some R[k].dst.toNat:=C1.2 ⟨_,hc,hk,rfl,h1.2,rfl⟩;have jd:(K.ch R[k].frm.toNat ++ [k]).length=n+1:=by rw[AD,hl];rfl
  have ja:∀ t c,c.length=n->leads use R start (c ++ [k])=some t->t=R[k].dst.toNat/\sle (K.ch R[k].frm.toNat ++ [k]) (c ++ [k]):=by
   intro t c jb jc;obtain⟨u,h2,h3,h4,h5,h6⟩:=C1.1 jc;subst h4;exact⟨h6.symm,GR (hK.least _ c jb h2) k⟩
  by_cases h2:(!O.is R[k].dst.toNat || Az (ints (K.ch R[k].frm.toNat ++ [k])) (ints (O.ch R[k].dst.toNat)))=true
  ·rw[if_pos h2];refine⟨λt=>?_,λt ht=>?_,λt c i jb hi jc=>?_⟩
   ·show(if t=R[k].dst.toNat then true else O.is t)=true↔_;by_cases e:t=R[k].dst.toNat
    ·subst e;rw[if_pos rfl];exact⟨λ_=>⟨K.ch R[k].frm.toNat,k,hl,by omega,je⟩,λ_=>rfl⟩
    ·rw[if_neg e,hO.is];constructor
     · rintro⟨c,i,h3,h4,h5⟩;exact⟨c,i,h3,by omega,h5⟩
     ·rintro⟨c,i,h3,h4,h5⟩;by_cases e2:i=k
      · subst e2;exact absurd (ja t c h3 h5).1 e
      · exact⟨c,i,h3,by omega,h5⟩
   ·show(if t=R[k].dst.toNat then K.ch R[k].frm.toNat ++ [k] else O.ch t).length=n+1/\leads use R start (if t=R[k].dst.toNat then K.ch R[k].frm.toNat ++ [k] else O.ch t)=some t;by_cases e:t=R[k].dst.toNat
    · subst e;rw[if_pos rfl];exact⟨jd,je⟩
    ·rw[if_neg e];refine hO.ch t ?_;have:(if t=R[k].dst.toNat then true else O.is t)=true:=ht
     rwa [if_neg e]at this
   ·show sle (if t=R[k].dst.toNat then K.ch R[k].frm.toNat ++ [k] else O.ch t) (c ++ [i]);by_cases e2:i=k
    ·subst e2;obtain⟨h3,h4⟩:=ja t c jb jc;rw[if_pos h3];exact h4
    ·have h5:=hO.least t c i jb (by omega) jc;by_cases e:t=R[k].dst.toNat
     ·rw[if_pos e];subst e;have jg:O.is R[k].dst.toNat=true:=(hO.is _).2 ⟨c,i,jb,by omega,jc⟩;rw[jg]at h2;simp only[Bool.not_true,Bool.false_or]at h2;have h6:=(Er (jd.trans (hO.ch _ jg).1.symm)).1 h2;exact CE (.inr h6) h5
     · rw[if_neg e];exact h5
  ·rw[if_neg h2];have jf:O.is R[k].dst.toNat=true/\Az (ints (K.ch R[k].frm.toNat ++ [k])) (ints (O.ch R[k].dst.toNat))=false:=by
    cases ha:O.is R[k].dst.toNat <;> cases hb:Az (ints (K.ch R[k].frm.toNat ++ [k])) (ints (O.ch R[k].dst.toNat)) <;> simp[ha,hb]at h2 ⊢
   have ji:sle (O.ch R[k].dst.toNat) (K.ch R[k].frm.toNat ++ [k]):=by
    rcases Ir (K.ch R[k].frm.toNat ++ [k]) (O.ch R[k].dst.toNat) with h3 | h3
    · rw[(Er (jd.trans (hO.ch _ jf.1).1.symm)).2 h3]at jf;cases jf.2
    · exact h3
   refine⟨λt=>?_,hO.ch,λt c i jb hi jc=>?_⟩
   ·rw[hO.is];constructor
    · rintro⟨c,i,h3,h4,h5⟩;exact⟨c,i,h3,by omega,h5⟩
    ·rintro⟨c,i,h3,h4,h5⟩;by_cases e2:i=k
     ·subst e2;obtain⟨h6,_⟩:=ja t c h3 h5;subst h6;exact(hO.is _).1 jf.1
     · exact⟨c,i,h3,by omega,h5⟩
   ·by_cases e2:i=k
    ·subst e2;obtain⟨h6,h7⟩:=ja t c jb jc;subst h6;exact CE ji h7
    · exact hO.least t c i jb (by omega) jc
 ·rw[if_neg h1];have jh:∀ t c,c.length=n->leads use R start (c ++ [k])=some t->False:=by
   intro t c jb jc;obtain⟨u,h2,h3,h4,h5,h6⟩:=C1.1 jc;subst h4;exact h1 (by rw[(hK.is _).2 ⟨c,jb,h2⟩,h5];rfl)
  refine⟨λt=>?_,hO.ch,λt c i jb hi jc=>?_⟩
  ·rw[hO.is];constructor
   · rintro⟨c,i,h3,h4,h5⟩;exact⟨c,i,h3,by omega,h5⟩
   ·rintro⟨c,i,h3,h4,h5⟩;by_cases e2:i=k
    · subst e2;exact(jh t c h3 h5).elim
    · exact⟨c,i,h3,by omega,h5⟩
  ·by_cases e2:i=k
   · subst e2;exact(jh t c jb jc).elim
   · exact hO.least t c i jb (by omega) jc
def ON {use:Rl->Bool}{R:List Rl}{start n:Nat}{K:Wk}(hK:EO use R start n K):∀ k,k<=R.length->PK use R start n k (CF use R K k)
 | 0,_=>⟨λt=>⟨λh=>(by cases h),λ⟨_,_,_,h,_⟩=>absurd h (by omega)⟩,λt h=>(by cases h),λ_ _ _ _ h _=>absurd h (by omega)⟩
 | k+1,hk=>by
  rw[CF,dif_pos (show k<R.length by omega)];exact part_step hK (ON hK k (by omega)) (by omega)
def PL {use:Rl->Bool}{R:List Rl}{start n:Nat}{K:Wk}(hK:EO use R start n K):EO use R start (n+1) (Du use R K):=by
 have h:=ON hK R.length (A5 _);have split:∀ t c,c.length=n+1->leads use R start c=some t->∃ d i,c=d ++ [i]/\d.length=n/\i<R.length:=by
  intro t c hc hl;rcases Fq c with rfl | ⟨d,i,rfl⟩
  · simp at hc
  ·obtain⟨u,h2,h3,_⟩:=C1.1 hl;exact⟨d,i,rfl,by simpa using hc,h3⟩
 refine⟨λt=>?_,h.ch,λt c hc hl=>?_⟩
 ·rw[show(Du use R K).is t=(CF use R K R.length).is t from rfl,h.is];constructor
  · rintro⟨c,i,h1,_,h2⟩;exact⟨c ++ [i],by simp[h1],h2⟩
  ·rintro⟨c,h1,h2⟩;obtain⟨d,i,rfl,h3,h4⟩:=split t c h1 h2;exact⟨d,i,h3,h4,h2⟩
 ·obtain⟨d,i,rfl,h3,h4⟩:=split t c hc hl;exact h.least t d i h3 h4 hl
def wk0 (m:Nat)(b:Bool):Wk:=⟨λt=>if t=m then b else false,λ_=>[]⟩
def PM {use:Rl->Bool}{R:List Rl}{start:Nat}:EO use R start 0 (wk0 start true):=by
 refine⟨λt=>?_,λt ht=>?_,λt c hc _=>?_⟩
 ·show(if t=start then true else false)=true↔_;constructor
  ·intro h;by_cases e:t=start
   · subst e;exact⟨[],rfl,rfl⟩
   · rw[if_neg e]at h;cases h
  ·rintro⟨c,hc,hl⟩;obtain rfl:=Zo hc;cases hl;rw[if_pos rfl]
 ·have h:(if t=start then true else false)=true:=ht;by_cases e:t=start
  · subst e;exact⟨rfl,rfl⟩
  · rw[if_neg e]at h;cases h
 ·obtain rfl:=Zo hc;exact Eo _
def CG (use:Rl->Bool)(R:List Rl)(start:Nat)(b:Bool):Nat->Wk
 | 0=>wk0 start b
 | n+1=>Du use R (CG use R start b n)
def J0 {use:Rl->Bool}{R:List Rl}{start:Nat}:∀ n,EO use R start n (CG use R start true n)
 | 0=>PM
 | n+1=>PL (J0 n)
def sa:Z6->Option Zj | aG a _ _=>a | _=>none
def sn:Z6->Nat | aG _ n _=>n | _=>0
def sc:Z6->Nat | aG _ _ c=>c | _=>0
def Ud {w:Z0}{B:Nat}{v:Z6}{xs:List Nat}(h:Ch w B v xs):v=aG (sa v) (sn v) (sc v):=by
 obtain⟨a,n,c,rfl⟩:=h.form;rfl
structure WB (B G:Nat)(w1:Z0)(K:Wk)(p:Nat->Option Zj)(m d:Nat->Nat)(wr:Z0):Prop where
 row:Bu wr G K.is (λt=>aG (p t) (m t) (d t))
 ok:∀ t,t<8->Ch wr B (aG (p t) (m t) (d t)) (K.ch t)
 bl:Below G w1 wr
section
variable {B G:Nat} {w1 wr w2:World} {K O:Wk} {p p':Nat->Option Addr} {m d m' d':Nat->Nat}
def WB.below (h:WB B G w1 K p m d wr)(hb:Below wr.heap.size wr w2):WB B G w1 K p m d w2 :=
 ⟨h.row.below hb h.row.lt,λt ht=>(h.ok t ht).below hb (h.ok t ht).lt,h.bl.trans (hb.mono (by have:=h.row.lt;omega))⟩
def WB.sl (h:WB B G w1 K p m d wr){t:Nat}(ht:t<8):SlS wr (p t) (ints (K.ch t))/\m t=(ints (K.ch t)).length:=⟨(h.ok t ht).sls.1,(h.ok t ht).sls.2.trans (Ax _).symm⟩
def WB.c0 (h:WB B G w1 K p m d wr):wr.cell? ⟨G,0,none⟩=some (aH (K.is 0)):=h.row.is (i:=0) (by omega)
def WB.c1 (h:WB B G w1 K p m d wr):wr.cell? ⟨G,1,none⟩=some (aH (K.is 1)):=h.row.is (i:=1) (by omega)
def WB.c2 (h:WB B G w1 K p m d wr):wr.cell? ⟨G,2,none⟩=some (aH (K.is 2)):=h.row.is (i:=2) (by omega)
def WB.c3 (h:WB B G w1 K p m d wr):wr.cell? ⟨G,3,none⟩=some (aH (K.is 3)):=h.row.is (i:=3) (by omega)
def WB.c4 (h:WB B G w1 K p m d wr):wr.cell? ⟨G,4,none⟩=some (aH (K.is 4)):=h.row.is (i:=4) (by omega)
def WB.c5 (h:WB B G w1 K p m d wr):wr.cell? ⟨G,5,none⟩=some (aH (K.is 5)):=h.row.is (i:=5) (by omega)
def WB.c6 (h:WB B G w1 K p m d wr):wr.cell? ⟨G,6,none⟩=some (aH (K.is 6)):=h.row.is (i:=6) (by omega)
def WB.c7 (h:WB B G w1 K p m d wr):wr.cell? ⟨G,7,none⟩=some (aH (K.is 7)):=h.row.is (i:=7) (by omega)
def WB.c8 (h:WB B G w1 K p m d wr):wr.cell? ⟨G,8,none⟩=some (aG (p 0) (m 0) (d 0)):=h.row.vs (i:=0) (by omega)
def WB.c9 (h:WB B G w1 K p m d wr):wr.cell? ⟨G,9,none⟩=some (aG (p 1) (m 1) (d 1)):=h.row.vs (i:=1) (by omega)
def WB.c10 (h:WB B G w1 K p m d wr):wr.cell? ⟨G,10,none⟩=some (aG (p 2) (m 2) (d 2)):=h.row.vs (i:=2) (by omega)
def WB.c11 (h:WB B G w1 K p m d wr):wr.cell? ⟨G,11,none⟩=some (aG (p 3) (m 3) (d 3)):=h.row.vs (i:=3) (by omega)
def WB.c12 (h:WB B G w1 K p m d wr):wr.cell? ⟨G,12,none⟩=some (aG (p 4) (m 4) (d 4)):=h.row.vs (i:=4) (by omega)
def WB.c13 (h:WB B G w1 K p m d wr):wr.cell? ⟨G,13,none⟩=some (aG (p 5) (m 5) (d 5)):=h.row.vs (i:=5) (by omega)
def WB.c14 (h:WB B G w1 K p m d wr):wr.cell? ⟨G,14,none⟩=some (aG (p 6) (m 6) (d 6)):=h.row.vs (i:=6) (by omega)
def WB.c15 (h:WB B G w1 K p m d wr):wr.cell? ⟨G,15,none⟩=some (aG (p 7) (m 7) (d 7)):=h.row.vs (i:=7) (by omega)
def WB.free (h:WB B G w1 K p m d wr)(i:Nat):wr.frozen? ⟨G,i,none⟩=false:=h.row.free
def WB.arr (h:WB B G w1 K p m d wr):wr.heap[G]? = some (aK #[aH (K.is 0),aH (K.is 1),aH (K.is 2),aH (K.is 3),aH (K.is 4),aH (K.is 5),aH (K.is 6),aH (K.is 7),aG (p 0) (m 0) (d 0),aG (p 1) (m 1) (d 1),aG (p 2) (m 2) (d 2),aG (p 3) (m 3) (d 3),aG (p 4) (m 4) (d 4),aG (p 5) (m 5) (d 5),aG (p 6) (m 6) (d 6),aG (p 7) (m 7) (d 7)] 229 (0,0)):=h.row
def WB.put (h:WB B G w1 K p m d wr)(ho:∀ t,t<8->Ch wr B (aG (p' t) (m' t) (d' t)) (O.ch t)):WB B G w1 O p' m' d' ((((((((((((((((wr.setCell ⟨G,0,none⟩ (aH (O.is 0))).setCell ⟨G,1,none⟩ (aH (O.is 1))).setCell ⟨G,2,none⟩ (aH (O.is 2))).setCell ⟨G,3,none⟩ (aH (O.is 3))).setCell ⟨G,4,none⟩ (aH (O.is 4))).setCell ⟨G,5,none⟩ (aH (O.is 5))).setCell ⟨G,6,none⟩ (aH (O.is 6))).setCell ⟨G,7,none⟩ (aH (O.is 7))).setCell ⟨G,8,none⟩ (aG (p' 0) (m' 0) (d' 0))).setCell ⟨G,9,none⟩ (aG (p' 1) (m' 1) (d' 1))).setCell ⟨G,10,none⟩ (aG (p' 2) (m' 2) (d' 2))).setCell ⟨G,11,none⟩ (aG (p' 3) (m' 3) (d' 3))).setCell ⟨G,12,none⟩ (aG (p' 4) (m' 4) (d' 4))).setCell ⟨G,13,none⟩ (aG (p' 5) (m' 5) (d' 5))).setCell ⟨G,14,none⟩ (aG (p' 6) (m' 6) (d' 6))).setCell ⟨G,15,none⟩ (aG (p' 7) (m' 7) (d' 7))):=by
 refine⟨VI h.arr,λt ht=>?_,((((((((((((((((h.bl.setCell (A5 _) _)).setCell (A5 _) _).setCell (A5 _) _).setCell (A5 _) _).setCell (A5 _) _).setCell (A5 _) _).setCell (A5 _) _).setCell (A5 _) _).setCell (A5 _) _).setCell (A5 _) _).setCell (A5 _) _).setCell (A5 _) _).setCell (A5 _) _).setCell (A5 _) _).setCell (A5 _) _).setCell (A5 _) _⟩;refine(ho t ht).same λq hq=>Mq λe=>?_;obtain⟨cs',h2⟩:=(ho t ht).own hq;rw[e,h.arr]at h2;cases h2
def TE {v:Z6}{xs:List Nat}{B':Nat}(h:WB B G w1 K p m d wr)(hv:Ch wr B' v xs):Ch ((((((((((((((((wr.setCell ⟨G,0,none⟩ (aH (O.is 0))).setCell ⟨G,1,none⟩ (aH (O.is 1))).setCell ⟨G,2,none⟩ (aH (O.is 2))).setCell ⟨G,3,none⟩ (aH (O.is 3))).setCell ⟨G,4,none⟩ (aH (O.is 4))).setCell ⟨G,5,none⟩ (aH (O.is 5))).setCell ⟨G,6,none⟩ (aH (O.is 6))).setCell ⟨G,7,none⟩ (aH (O.is 7))).setCell ⟨G,8,none⟩ (aG (p' 0) (m' 0) (d' 0))).setCell ⟨G,9,none⟩ (aG (p' 1) (m' 1) (d' 1))).setCell ⟨G,10,none⟩ (aG (p' 2) (m' 2) (d' 2))).setCell ⟨G,11,none⟩ (aG (p' 3) (m' 3) (d' 3))).setCell ⟨G,12,none⟩ (aG (p' 4) (m' 4) (d' 4))).setCell ⟨G,13,none⟩ (aG (p' 5) (m' 5) (d' 5))).setCell ⟨G,14,none⟩ (aG (p' 6) (m' 6) (d' 6))).setCell ⟨G,15,none⟩ (aG (p' 7) (m' 7) (d' 7))) B' v xs:=by
 refine hv.same λq hq=>Mq λe=>?_;obtain⟨cs',h2⟩:=hv.own hq;rw[e,h.arr]at h2;cases h2
end
def OO (S:Sch)(a:Option Zj)(cap:Nat)(K:Wk)(p:Nat->Option Zj)(m d:Nat->Nat)(silent:Bool)(L:Nat)(w:Z0)(hR:BC w a S.rules)(hS:Fit S)(hK:∀ t,t<8->Ch w 0 (aG (p t) (m t) (d t)) (K.ch t))(hL:∀ t,t<8->(K.ch t).length<=L)(ja:L<=100) :
  Zu Z1 139 #[aJ #[aA aM S.modes,aA aO S.acc,aG a S.rules.length cap],aJ #[aH (K.is 0),aH (K.is 1),aH (K.is 2),aH (K.is 3),aH (K.is 4),aH (K.is 5),aH (K.is 6),aH (K.is 7),aG (p 0) (m 0) (d 0),aG (p 1) (m 1) (d 1),aG (p 2) (m 2) (d 2),aG (p 3) (m 3) (d 3),aG (p 4) (m 4) (d 4),aG (p 5) (m 5) (d 5),aG (p 6) (m 6) (d 6),aG (p 7) (m 7) (d 7)],aH silent] w λe w'=>∃ (p':Nat->Option Zj) (m' d':Nat->Nat),e=aP (aJ #[aH ((Du (Bv silent) S.rules K).is 0),aH ((Du (Bv silent) S.rules K).is 1),aH ((Du (Bv silent) S.rules K).is 2),aH ((Du (Bv silent) S.rules K).is 3),aH ((Du (Bv silent) S.rules K).is 4),aH ((Du (Bv silent) S.rules K).is 5),aH ((Du (Bv silent) S.rules K).is 6),aH ((Du (Bv silent) S.rules K).is 7),aG (p' 0) (m' 0) (d' 0),aG (p' 1) (m' 1) (d' 1),aG (p' 2) (m' 2) (d' 2),aG (p' 3) (m' 3) (d' 3),aG (p' 4) (m' 4) (d' 4),aG (p' 5) (m' 5) (d' 5),aG (p' 6) (m' 6) (d' 6),aG (p' 7) (m' 7) (d' 7)])/\(∀ t,t<8->Ch w' w.heap.size (aG (p' t) (m' t) (d' t)) ((Du (Bv silent) S.rules K).ch t))/\Below w.heap.size w w':=by
 refine(next_any S a cap K (λt=>aG (p t) (m t) (d t)) silent L w hR hS hK hL ja).mono ?_;rintro e w' ⟨vO,rfl,hc,hb⟩;have hf:∀ t,t<8->vO t=aG (sa (vO t)) (sn (vO t)) (sc (vO t)):=λt ht=>Ud (hc t ht);refine⟨λt=>sa (vO t),λt=>sn (vO t),λt=>sc (vO t),?_,λt ht=>by rw[<- hf t ht];exact hc t ht,hb⟩;simp only;rw[<- hf 0 (by omega),<- hf 1 (by omega),<- hf 2 (by omega),<- hf 3 (by omega),<- hf 4 (by omega),<- hf 5 (by omega),<- hf 6 (by omega),<- hf 7 (by omega)];rfl
def IU (K:Wk)(ok:Nat->Bool)(best:List Nat)(m:Nat):List Nat :=
 if K.is m && (ok m && (best.isEmpty || Az (ints (K.ch m)) (ints best))) then K.ch m else best
def C3 (K:Wk)(ok:Nat->Bool):Nat->List Nat
 | 0=>[]
 | m+1=>IU K ok (C3 K ok m) m
def Ct (S:Sch)(m:Nat):Bool:=!(B9 S).testBit m
def rsF (S:Sch):Nat->Nat->List Nat
 | 0,_=>[]
 | f+1,n=>if C3 (CG (Bv false) S.rules 0 true (n+1)) (Ct S) S.modes.toNat=[] then rsF S f (n+1) else C3 (CG (Bv false) S.rules 0 true (n+1)) (Ct S) S.modes.toNat
def CM (S:Sch):List Nat:=if(B9 S).testBit 0 then rsF S S.modes.toNat 0 else[]
def EX {use:Rl->Bool}{R:List Rl}{start:Nat}(b:Bool)(hf:∀ r∈R,r.frm.toNat<8):∀ n t,t<8->((CG use R start b n).ch t).length<=n
 | 0,t,_=>by simp[CG,wk0]
 | n+1,t,ht=>Fw (EX b hf n) hf R.length t ht
def KX {K:Wk}{ok:Nat->Bool}{L:Nat}(hK:∀ t,t<8->(K.ch t).length<=L):∀ m,m<=8->(C3 K ok m).length<=L
 | 0,_=>by simp[C3]
 | m+1,h=>by
  rw[C3,IU];split
  · exact hK m (by omega)
  · exact KX hK m (by omega)
end Go.Proofs.YtpljngaejaehcaaGreatDoor.Fl
