/- Texts that the claims share: DRef, DOf, DList, DSame, DListed, DHas, DVis, DMake, DFacts, DLit, DLawK, DViews, DLaid. -/
import Derived.Laws.Concat
import Derived.Deep.CutBlock
import Derived.Deep.QuietTactic
import Derived.BigQuiet
import Derived.Laws.RangeString
import Derived.Laws.Strings3
import Derived.Deep.Strs
import Derived.Lib.LaidTab
import Derived.Deep.DeepHandedRow
import Derived.WalkKit
import Derived.ProofKit
import Derived.OpenShut
import Derived.Test.YthjmdgejnakcmaaGreatDoorRows
import Derived.Test.YthjmdgejnakcmaaGreatDoorMD5
import Derived.Test.YthjmdgejnakcmaaGreatDoorMD1
import Derived.Test.YthjmdgejnakcmaaGreatDoorMA1
set_option maxHeartbeats 1600000
set_option maxRecDepth 100000
set_option linter.unusedVariables false
set_option linter.unusedSimpArgs false
namespace Go.Proofs.YthjmdgejnakcmaaGreatDoor
open Go.RowKit Go.WideShapes
theorem QG (g len cap k:Nat) (hk:k<len) (w:World) :
  (Instr.indexAt 165 (.slice (some ⟨g,0,none⟩) len cap) (.int .i64 (k:Int))).run Tryz.prog w=.ok (.pointer (some ⟨g,k,none⟩)) w:=by
 have h0:(0:Int)≤(k:Int):=by omega
 have h1:(k:Int)<(len:Int):=by omega
 simp [go_sem,h0,h1]
theorem Kg {P:Program} {ops:Array Oper} {Q:Exit→Act→World→Prop} {L:Nat} {K:Act→World→Prop} {o:Oper} {A:Act} {W:World} {ty:TypeId} {p v:Operand} {g i:Nat} {f:Bool} {x' y':Value} {a:Option Addr} {k c:Nat}
  (ho:ops[L]? = some o) (hg:o.guard=none) (jc:o.op=.store ty p v) (hd:o.dst=none) (hp:A.eval p=.pointer (some ⟨g,i,none⟩)) (hv:A.eval v=.agg #[.bool f,.slice a k c]) (ja:W.frozen? ⟨g,i,none⟩=false) (jb:W.frozen? ⟨g,i+1,none⟩=false) (c0:W.cell? ⟨g,i,none⟩=some x') (c1:W.cell? ⟨g,i+1,none⟩=some y') (jd:(sizeOf ty).run P W=.ok 2 W)
  (hK:K A ((W.setCell ⟨g,i,none⟩ (.bool f)).setCell ⟨g,i+1,none⟩ (.slice a k c))):wpOp P ops Q L K A W:=by
 unfold wpOp;rw [ho];have hw:Region.wanted o (yielded ops A.tmps)=true:=by unfold Region.wanted;rw [hg]
 simp only [hw,if_pos];refine .inl ?_;unfold Oper.wp execOp;simp only [jc,hp,hv];simp [go_sem,ja,jb,c0,c1,jd];rw [hd];exact hK
def NTR (wW w0:World) (B gB gn:Nat) (vb0:Option Nat) (N0:List NV) (fin:Bool) (vA:Value) (A:List Ar) (v vr:Value) (N:List NV) (D:List Nd) (S:List SV) (R:List Rst) (D2:List Nd) (R2:List Rst) (x:SV) (g:Rst) (b1 b2:Bool) (w:World):Prop :=
 match b1,b2 with
 | false,_=>RL wW w0 B gB gn vb0 N0 fin vA A v vr N D S R w∧CO wW B w x g
 | true,false=>∃ v2 vr2 N2 S2,RL wW w0 B gB gn vb0 N0 fin vA A v2 vr2 N2 D2 S2 R2 w
 | true,true=>True
def NVR (wW w0:World) (B gB gn:Nat) (vb0:Option Nat) (N0:List NV) (fin:Bool) (vA:Value) (A2:List Ar) (D2:List Nd) (R2:List Rst) (va:Value) (w:World):Prop :=
 ∃ v2 vr2 N2 S2,RL1 wW w0 B gB gn vb0 N0 fin vA v2 vr2 N2 D2 S2 R2 w∧As C5 w w0.heap.size va A2∧∀ x∈N2,∀ g,nvB x=some g→va.ownBlock≠some g
section
variable {wW w0:World} {B gB gn:Nat} {vb0:Option Nat} {N0:List NV} {fin:Bool} {vA:Value} {A:List Ar} {v vr:Value} {N:List NV} {D D2:List Nd} {S:List SV} {R R2:List Rst} {x:SV} {g:Rst}
theorem NTR.ext:∀ (b1 b2:Bool) (w w':World),NTR wW w0 B gB gn vb0 N0 fin vA A v vr N D S R D2 R2 x g b1 b2 w→Ext w w'→NTR wW w0 B gB gn vb0 N0 fin vA A v vr N D S R D2 R2 x g b1 b2 w':=by
 intro b1 b2 w w' h hx;cases b1 with
 | false=>exact ⟨h.1.ext hx,h.2.keep fun q cs hq=>Below.block hx q (A9.1 hq).1⟩
 | true =>
  cases b2 with
  | false =>
   obtain ⟨v2,vr2,N2,S2,h2⟩:=h;exact ⟨v2,vr2,N2,S2,h2.ext hx⟩
  | true=>trivial
theorem NTR.boxed {b1:Bool} {w:World} (h:NTR wW w0 B gB gn vb0 N0 fin vA A v vr N D S R D2 R2 x g b1 false w):w.heap[gn]? = some (.cells #[.bool fin,vA] 153 (0,0))∧w0.heap.size≤w.heap.size:=by
 cases b1 with
 | false=>exact ⟨h.1.box,h.1.fr.size⟩
 | true =>
  obtain ⟨v2,vr2,N2,S2,h2⟩:=h;exact ⟨h2.box,h2.fr.size⟩
theorem QH {A2:List Ar}:CQ (NVR wW w0 B gB gn vb0 N0 fin vA A2 D2 R2):=by
 rintro va w w' ⟨v2,vr2,N2,S2,h1,h2,h3⟩ hx;exact ⟨v2,vr2,N2,S2,h1.ext hx,h2.later hx (A7 _),h3⟩
end
theorem OX (a:Option Addr) (b o len cap:Nat) (ha:a=some ⟨b,o,none⟩) (hk:0<len) (w:World) :
  (Instr.indexAt 37 (.slice a len cap) (.int .i64 0)).run Tryz.prog w=.ok (.pointer (some ⟨b,o,none⟩)) w:=by
 subst ha;exact IW b o len cap hk w
theorem rnode_any
         (wW
           :
            World) (B gB:Nat) (Jx:wW.heap.size≤B):∀ (m:Nat) (r:Rst) (a:Option Addr) (c:Nat) (v vr:Value) (N:List NV) (D:List Nd) (S:List SV) (R:List Rst) (w:World),CO wW B w ⟨a,r.length,c⟩ r→r≠[]→(∀ s∈r,s.length<m)→(refV m r R D).2.2.length≤500000→R.length=D.length →
  RSt wW w B gB v vr N D S R→Below B wW w→Calls Tryz.prog 90 #[.pointer (some ⟨gB,0,none⟩),.slice a r.length c] w (S4 wW B gB (refV m r R D) v N w):=by
 intro m
 induction m with
 | zero =>
  intro r a c v vr N D S R w _ kc kb;exfalso;obtain ⟨x,hx⟩:=List.exists_mem_of_ne_nil _ kc;have:=kb x hx;omega
 | succ m ih
       =>
  intro r a c v vr N D S R w hr kc kb kt kS hB hW;have yv:=hr.b;have Ji:=A6 hr;have yi:=A6 kb;have Ku:=A6 kt;have HB:=A6 hB;have HW:=A6 hW;have IH:=A6 ih;have yl:=A6 kS;have yj:Hid (r≠[]):=kc;have jx:=hB.size;have hDl:D.length≤500000:=AC (JH (m+1) r R D) kt;have hRl:R.length≤500000:=by omega
  have j2:(D6 r).length=r.length:=GL r;have j9:=A6 j2;have kT:=hB.slen;have kO:=A6 kT;obtain ⟨ra,rc,yx,hrc, -⟩:=hB.rown.form;obtain ⟨na,nc,yw,hnc, -⟩:=hB.own.form;subst yx yw;have kR:=hB.len;have kM:=A6 kR;have hSl2:S.length≤500000:=by omega
  have hNl2:N.length≤500000:=by omega
  clear hr kb kt hB hW ih kS kc j2 kT kR
  go_enter Tryz.func90,Tryz.ntmps90
  go_wp2
  go_loopw [5] (fun s5 wr=>∃ k:Nat,k≤S.length∧s5=.int .i64 (k:Int)∧(∀ j (hj:j<R.length),j<k→R[j]≠r)∧Below w.heap.size w wr) (fun s5 _=>S.length - (intOf s5).toNat)
  case atStart=>exact ⟨0,Nat.zero_le _,rfl,fun j _ h=>absurd h (Nat.not_lt_zero _),Below.refl _ _⟩
  case round =>
   obtain ⟨k,hk,rfl,k1,hx⟩:=hrel;have kj:=A6 k1;have HX:=A6 hx;have ko:=HB.out.ext hx;have jH:=A6 ko;obtain ⟨rp0,rp1⟩:=Az ko.rep;clear k1 hx ko;by_cases jZ:k<S.length
   ·have kA:k<R.length:=by have:=kO.out;omega
    have ys:(k:Int)<(S.length:Int):=by omega
    obtain ⟨g,yu⟩:∃ g,ra=some ⟨g,0,none⟩:=by
     rcases HB.out.rown.blk with ⟨he,h0⟩ | ⟨g,c1,he,_⟩
     · rw [h0] at jZ;simp at jZ
     · injection he with he;exact ⟨g,he⟩
    subst yu;have jE:=jH.out.rests k jZ kA;have q0:wr.cell? ⟨g,k,none⟩=some (.slice S[k].a S[k].n S[k].c):=by
     have:=jH.out.rown.cell JT (i:=k) (j:=0) jZ (by decide);simpa [JC] using this
    have hidx:=QG g S.length rc k jZ;obtain ⟨x,k7⟩:∃ x,S[k]=x:=⟨_,rfl⟩
    obtain ⟨y,kI⟩:∃ y,R[k]=y:=⟨_,rfl⟩
    rw [k7] at q0 jE;rw [kI] at jE;have ku:Below B wW wr:=HW.out.trans (HX.out.mono jx);have yb:=A6 ku;have k4:=jE.strs ku Jx;have k5:Bz wr a (D6 r):=(Ji.out.strs HW.out Jx).later HX.out (A7 _);have k8:=jE.n;have yy:y.length≤9223372036854775807:=by have:=jE.b;omega
    have yn:=A6 k4;have yo:=A6 k5;have kQ:=A6 kI;have kP:=A6 k8;clear jE k7 kI ku k4 k5 k8;have jc:=sameWords_any (D6 y) (D6 r) x.n r.length x.a a x.c c wr yn.out yo.out (by rw [kP.out,GL]) (by rw [j9.out]) (by rw [kP.out];exact yy) (by omega);rw [QD] at jc;by_cases jG:y=r
    ·rw [decide_eq_true jG] at jc;have kn:=A6 jG;have HC:=A6 jc;clear jG jc
     go_wp2_with (first
      | (go_at_call 111;refine HC.out.mono ?_;rintro e w2 ⟨rfl,jT⟩;have jO:=A6 jT;clear jT))
     go_ret;have hidR:=QE kA kj.out (kQ.out.trans kn.out);rw [S1 (by rw [hidR];exact kA),hidR];exact ⟨_,_,N,S,[],rfl,jH.out.ext jO.out,by simp,fun x hx=>(by cases hx),yb.out.trans (jO.out.mono (by have:=HX.out.size;omega)),FrR.of_below (HX.out.trans (jO.out.mono HX.out.size)),.inl rfl⟩
    ·rw [decide_eq_false jG] at jc;have kn:Hid (¬ y=r):=jG;have HC:=A6 jc;clear jG jc
     go_wp2_with (first
      | (go_at_call 111;refine HC.out.mono ?_;rintro e w2 ⟨rfl,jT⟩;have jO:=A6 jT;clear jT))
     go_roundw
     case rel=>exact ⟨k+1,by omega,by go_num,fun j hj hjk=>(by
      by_cases e:j=k
      · subst e;exact fun h=>kn.out (kQ.out.symm.trans h)
      · exact kj.out j hj (by omega)),HX.out.trans (jO.out.mono HX.out.size)⟩
     case measure=>simp [intOf];omega
   ·have ys:¬ (
           k
            : Int)<(S.length:Int):=by omega
    have hidR:=QF (r:=r) fun j hj=>kj.out j hj (by have:=kO.out;omega);have jL:=A6 (TM (m:=m) (E:=D) hidR);have HL:Hid (RL0 wW w B gB (Value.slice na N.length nc).ownBlock N (.slice na N.length nc) (.slice ra S.length rc) N D S R wr) :=
     ⟨jH.out,HW.out.trans (HX.out.mono jx),FrR.of_below HX.out,.inl rfl,[],by simp,fun x hx=>by cases hx⟩
    clear hidR jH
    go_upto_region 7 with fail
    have j6:Ext wr (wr.alloc (.cells #[.bool false,.slice none 0 0] 153)):=(Below.refl _ _).alloc (A7 _) _;have jK:=A6 (HL.out.ext j6);clear j6
    go_upto_region 8 with (first
     | (at_builtin;go_loud (refine B5 CH rfl _ _ rfl rfl jK.out.bst.own ⟨wr.heap.size,0,none⟩ 1 [⟨false,none,0,0⟩] rfl (BA (heap_alloc_new _ _)) (by simp only [AI];omega) jK.out.bst.size ?_;intro va w7 kC ky jS;have kZ:=jK.out.addD jx kC ky jS;have kD:=jK.out.bst.repD ky;obtain ⟨xa,xc,jF, -, -⟩:=kC.form;rw [AF,AI] at jF;subst jF;have c7:=(Az kD).1;have f7:w7.frozen? ⟨gB,0,none⟩=false:=(by simp [World.frozen?,kD]);have j8:=A6 kZ;clear kZ kD kC ky jS)))
    clear c7 f7 jK rp0 rp1;obtain ⟨w8,kg⟩:∃ w8,w7.setCell ⟨gB,0,none⟩ (.slice xa (N.length+1) xc)=w8:=⟨_,rfl⟩
    rw [kg] at j8 ⊢;clear kg;have j7:Ext w8 (w8.alloc (.cells #[.slice a r.length c] 37)):=(Below.refl _ _).alloc (A7 _) _;have jC:=A6 (j8.out.ext j7);clear j7;obtain ⟨rp0,rp1⟩:=Az j8.out.bst.rep;have jN:Hid (CO wW B (w8.alloc (.cells #[.slice a r.length c] 37)) ⟨a,r.length,c⟩ r):=Ji.out.fr HB.out jC.out.fr
    go_upto_region 9 with (first
     | (at_builtin;go_loud (refine B5 JT rfl _ _ rfl rfl jC.out.bst.rown ⟨w8.heap.size,0,none⟩ 1 [⟨a,r.length,c⟩] rfl (BA (heap_alloc_new _ _)) (by simp only [AI];omega) jC.out.bst.size ?_;intro va w9 jl kz _;have k0:=jC.out.addR jx jN.out jl kz;have kE:=jC.out.bst.repR kz;obtain ⟨ya,yc,Kq, -, -⟩:=jl.form;rw [AF,AI] at Kq;subst Kq;have c9:=(Az kE).2;have f9:w9.frozen? ⟨gB,1,none⟩=false:=(by simp [World.frozen?,kE]);have jD:=A6 k0;clear k0 kE jl kz)))
    clear c9 f9 jC j8 rp0 rp1 jN;obtain ⟨wa,k6⟩:∃ wa,w9.setCell ⟨gB,1,none⟩ (.slice ya (S.length+1) yc)=wa:=⟨_,rfl⟩
    rw [k6] at jD ⊢;clear k6;obtain ⟨x0,r0,kf⟩:∃ x0 r0,r=x0 :: r0:=by
     cases r with
     | nil=>exact absurd rfl yj.out
     | cons x r=>exact ⟨x,r,rfl⟩
    have hfin:F8 r=decide (x0=[]):=by
     rw [kf];cases x0 with
     | nil=>rfl
     | cons=>rfl
    have jj:0<r.length:=by rw [kf];simp
    have jA:CO wW B wa ⟨a,r.length,c⟩ r:=Ji.out.fr HB.out jD.out.fr;have HRLA:=A6 jA;have j4:=jA.strs jD.out.bl Jx;obtain ⟨b0,o0,ks,hb0,q0⟩:=j4.at (k:=0) (by rw [j9.out];exact jj);have js:(D6 r)[0]'(by rw [j9.out];exact jj)=toB x0:=by simp only [kf];rfl
    rw [js,Nat.add_zero] at q0;have jX:=OX a b0 o0 r.length c ks jj;have jJ:=A6 hfin;have HA0:=A6 ks;clear ks jA j4 kf js hfin;have k9:∀ f,Ext wa (wa.alloc (.cells #[.bool f,.slice none 0 0] 153)):=fun f=>(Below.refl _ _).alloc (A7 _) _;have j5:=jD.out.bst.own.lt;have kr:Hid (∀ f,RL wW w B gB wa.heap.size (Value.slice na N.length nc).ownBlock N f (.slice none 0 0) [] (.slice xa (N.length+1) xc) (.slice ya (S.length+1) yc) (N ++ [⟨false,none,0,0⟩]) (D ++ [⟨false,[]⟩]) (S ++ [⟨a,r.length,c⟩]) (R ++ [r]) (wa.alloc (.cells #[.bool f,.slice none 0 0] 153))):=fun f =>
     ⟨⟨jD.out.ext (k9 f),heap_alloc_new _ _,jD.out.fr.size,fun e=>by have:=j5 _ e;omega⟩,As.nil _ _ _,fun x _ g _ e=>by cases e⟩
    clear k9 j5;obtain ⟨fb,kV⟩:∃ fb,F8 r=fb:=⟨_,rfl⟩
    have kh:=A6 kV;clear kV
    go_cut [7] (fun s7 wx=>∃ wz gn,wz=wx∧s7=.pointer (some ⟨gn,0,none⟩)∧RL wW w B gB gn (Value.slice na N.length nc).ownBlock N fb (.slice none 0 0) [] (.slice xa (N.length+1) xc) (.slice ya (S.length+1) yc) (N ++ [⟨false,none,0,0⟩]) (D ++ [⟨false,[]⟩]) (S ++ [⟨a,r.length,c⟩]) (R ++ [r]) wz)
    case first =>
     by_cases js:x0=[]
     ·have ki:Hid (fb=true):=by show _=_;rw [← kh.out,jJ.out];simp [js]
      have ht:(toB x0)=⟨#[]⟩:=by rw [js];rfl
      rw [ht] at q0;clear ht js;go_wp2
      go_meet
      rw [ki.out];exact ⟨_,wa.heap.size,rfl,rfl,kr.out true⟩
     ·have ki:Hid (fb=false):=by show _=_;rw [← kh.out,jJ.out];simp [js]
      obtain ⟨t0,kG⟩:∃ t0,toB x0=t0:=⟨_,rfl⟩
      have hem:t0.toList.isEmpty=false:=by
       rw [← kG,ByteArray.toList_eq];show x0.isEmpty=false;cases x0 with
       | nil=>exact absurd rfl js
       | cons=>rfl
      rw [kG] at q0;clear kG js;go_wp2
      go_meet
      rw [ki.out];exact ⟨_,wa.heap.size,rfl,rfl,kr.out false⟩
    case rest
         =>
     obtain ⟨wz,gn,rfl,rfl,jR⟩:=hcut;have km:=A6 jR;clear jR jX q0 kr;obtain ⟨FA,kq⟩:∃ FA,Df (refV m) r (List.range' 33 94) [] (R ++ [r]) (D ++ [⟨false,[]⟩])=FA:=⟨_,rfl⟩
     have jr:=jL.out;rw [kq] at jr;have hbd2:FA.2.2.length≤500000:=by
      have:=Ku.out;rw [jr] at this;simpa using this
     have jM:=A6 jr;have yd:=A6 kq;clear kq jr jL;have kl:Hid ((R ++ [r]).length=(D ++ [(⟨false,[]⟩:Nd)]).length):=by
      have:=yl.out;show _=_;simp [this]
     go_wp2_with fail
     go_loopw [8] (fun s8 wr=>∃ (j:Nat) (A:List Ar) (vA v' vr':Value) (N':List NV) (D':List Nd) (S':List SV) (R':List Rst),s8=.int .i64 ((33+j:Nat):Int)∧j≤94∧Df (refV m) r (List.range' (33+j) (94 - j)) A R' D'=FA ∧
      RL wW w B gB gn (Value.slice na N.length nc).ownBlock N fb vA A v' vr' N' D' S' R' wr∧D.length<D'.length∧R'.length=D'.length∧A.length≤j) (fun s8 _=>127 - (intOf s8).toNat)
     case atStart=>exact ⟨0,[],.slice none 0 0,_,_,_,_,_,_,rfl,by omega,yd.out,km.out,by simp,kl.out,A7 _⟩
     case round =>
      obtain ⟨j,A,vA,v',vr',N',D',S',R',rfl,hj,jb,jQ,kp,jP,hAl⟩:=hrel;have jg:=A6 jb;have jd:=A6 jQ;have jw:=A6 jP;clear jb jQ jP;by_cases hjl:j<94
      ·have kU:((33+j:Nat):Int)<127:=by omega
       obtain ⟨cc,kv⟩:∃ cc,33+j=cc:=⟨_,rfl⟩
       rw [kv] at kU ⊢;have hcc1:33≤cc:=by omega
       have jI:=A6 kv;clear kv
       go_upto_region 13 with fail
       have jv:=(Ji.out.fr HB.out jd.out.fr).strs jd.out.bl Jx;have jc:=after_any (D6 r) r.length a c (cc:Int) wr jv (by rw [j9.out]) (by omega);rw [afterF_rows] at jc;have HC:=A6 jc;have ju:(cc:Int) % 256=cc:=by omega
       have kX:(B8 r cc).length≤1000:=AC (OW r cc) yv;have k3:List.range' cc (94 - j)=cc :: List.range' (cc+1) (94 - (j+1)):=by
        rw [show 94 - j=(94 - (j+1))+1 by omega,List.range'_succ]
       have jb:=jg.out;rw [jI.out,k3,Df] at jb;have kJ:Hid (∀ s∈B8 r cc,s.length<m):=fun s hs=>by
        obtain ⟨b,_,hb⟩:=Do.1 hs;have:=yi.out _ hb;simp at this;omega
       obtain ⟨g,hg⟩:∃ g,B8 r cc=g:=⟨_,rfl⟩
       rw [hg] at HC kX jb kJ;have kK:=A6 (GL g);clear jv jc k3 hg jg;by_cases jz:g=[]
       ·rw [if_pos jz] at jb;have jg:=A6 jb;have kW:(D6 g).length=0:=by rw [kK.out,jz];rfl
        have ye:=A6 kW;clear jb jz kW
        go_upto_region 14 with (first
         | (go_at_call 112;refine HC.out.mono ?_;rintro e w1 ⟨v9,rfl,jl,jU⟩;obtain ⟨a9,c9,h9, -, -⟩:=jl.form;rw [ye.out] at h9;subst h9;have kk:=A6 (jd.out.ext jU);clear jl jU))
        clear ju
        go_wp2_with fail
        go_roundw
        case rel=>exact ⟨j+1,A,vA,v',vr',N',D',S',R',by rw [← jI.out];go_num,by omega,by rw [show 33+(j+1)=cc+1 by have:=jI.out;omega];exact jg.out,kk.out,kp,jw.out,by omega⟩
        case measure=>simp [intOf];omega
       ·rw [if_neg jz] at jb;have yf:Hid (g≠[]):=jz;have hglI:(0:Int)<(g.length:Int):=by
         have:0<g.length:=List.length_pos_iff.2 jz;omega
        obtain ⟨qi,qM,qE,hq⟩:∃ qi qM qE,refV m g R' D'=(qi,qM,qE):=⟨_,_,_,rfl⟩
        rw [hq] at jb;simp only at jb;have HQ:=A6 hq;have jg:=A6 jb;have hqE:D'.length≤qE.length:=by
         have:=JH m g R' D';rw [hq] at this;exact this
        have yt:qE.length≤500000:=by
         have:=I8 (JH m) r (List.range' (cc+1) (94 - (j+1))) (A ++ [⟨(cc:Int),(qi:Int)⟩]) qM qE;rw [jb] at this;omega
        have k2:qM.length=qE.length:=by
         have:=NR m g R' D' jw.out;rw [hq] at this;exact this
        have yk:=A6 k2;clear jb jz hq k2
        go_upto_region 14 with (first
         | (go_at_call 112;refine HC.out.mono ?_;rintro e w1 ⟨v9,rfl,jl,jU⟩;obtain ⟨a9,c9,h9, -, -⟩:=jl.form;rw [kK.out] at h9;subst h9;have kk:=A6 (jd.out.ext jU);have kN:=A6 jl;clear jl jU))
        have ym:Hid (CO wW B w1 ⟨a9,g.length,c9⟩ g):=CO.of_own (kN.out.mono jd.out.bst.size) kX;clear kN HC;have kg:IntKind.u8.wrap (cc:Int)=cc:=IntWalk.u8_in _ (by omega)
        go_upto_region 15 with fail
        refine B4 (by kernel_rfl) (Vs [vq (.pointer (some ⟨gn,1,none⟩)),vq (vA),vq (.int .i64 (cc:Int)),vq (.int .u8 (cc:Int)),vq (.pointer (some ⟨gB,0,none⟩)),vq (.slice a9 g.length c9),vq (.int .i64 (qi:Int)),vq (.agg #[.int .u8 (cc:Int),.int .i64 (qi:Int)]),EL vA (⟨(cc:Int),(qi:Int)⟩:Ar),NVR wW w B gB gn (Value.slice na N.length nc).ownBlock N fb vA (A ++ [(⟨(cc:Int),(qi:Int)⟩:Ar)]) qE qM,vq (.pointer (some ⟨gn,1,none⟩))]) (Xs [Ext,Ext,Ext,Ext,Ext,Ext,(fun _ _=>True),Ext,Ext,(fun w w'=>w.grownBy w' vA.ownBlock),Ext]) (fun fL=>(fun b1 b2 W=>NTR wW w B gB gn (Value.slice na N.length nc).ownBlock N fb vA A v' vr' N' D' S' R' qE qM ⟨a9,g.length,c9⟩ g b1 b2 W) (fL 6) (fL 9)) [0,1,0,4,0,0,48,124,252,511,0] 89 11 (by kernel_rfl) rfl ?hV ?hS ?hop ?hfin ?hlast
        case hV =>
         refine BC (Av (by simp only [Aj,List.not_mem_nil,or_false,forall_eq_or_imp,forall_eq];exact ⟨An _,An _,An _,An _,An _,An _,An _,An _,Ex _ _,QH,An _⟩)) ?_;exact ⟨.inl rfl,.inl rfl,.inl rfl,.inl rfl,.inl rfl,.inl rfl,.inr (BO ⟨fun _ _=>fun _ _ _ h _=>h,fun _ _=>fun _ _ _ h _=>h,fun _ _=>fun _ _ _ h _=>h,fun _ _=>fun _ _ _ h _=>h,fun _ _=>fun _ _ _ h _=>h,fun _ _=>fun _ _ _ h _=>h,fun h=>absurd rfl h,fun _ h=>absurd h (by decide),fun _ h=>absurd h (by decide),fun _ h=>absurd h (by decide),fun _ _=>fun _ _ _ h _=>h,trivial⟩),.inl rfl,.inl rfl,.inr (BO ⟨fun _ _=>fun _ _ _ h _=>h,fun _ _=>fun _ _ _ h _=>h,fun _ _=>fun _ _ _ h _=>h,fun _ _=>fun _ _ _ h _=>h,fun _ _=>fun _ _ _ h _=>h,fun _ _=>fun _ _ _ h _=>h,fun _ _=>fun _ _ _ h _=>h,fun _ _=>fun _ _ _ h _=>h,fun _ _=>Ey _ _,fun h=>absurd rfl h,fun _ _=>fun _ _ _ h _=>h,trivial⟩),.inl rfl,trivial⟩
        case hS =>
         intro fL hf;show (fun b1 b2 W=>NTR wW w B gB gn (Value.slice na N.length nc).ownBlock N fb vA A v' vr' N' D' S' R' qE qM ⟨a9,g.length,c9⟩ g b1 b2 W) (fL 6) (fL 9) _;rw [hf 6 (by decide),hf 9 (by decide)];exact NTR.ext false false _ _ ⟨kk.out,ym.out⟩ ⟨rfl,rfl,rfl,A7 _,fun _ _=>rfl⟩
        case hop =>
         refine ⟨?_,?c1,?_,?_,?_,?_,?c6,?_,?c8,?c9,?_,?_,trivial⟩
         all_goals first | rw [if_neg (by decide)] | rw [if_pos (by decide)]
         all_goals try exact True.intro
         all_goals try intro ac W fL ji jt j1 jW je jf ja jB
         all_goals try have hS:(fun b1 b2 W=>NTR wW w B gB gn (Value.slice na N.length nc).ownBlock N fb vA A v' vr' N' D' S' R' qE qM ⟨a9,g.length,c9⟩ g b1 b2 W) (fL 6) (fL 9) W:=je
         all_goals try (have jo:fL 6=true:=j1 6 (by decide);rw [jo] at hS)
         all_goals try (have jo:fL 6=false:=(by first | exact jt | exact jW 6 (by decide) (by decide));rw [jo] at hS)
         all_goals try (have jp:fL 9=true:=j1 9 (by decide);rw [jp] at hS)
         all_goals try (have jp:fL 9=false:=(by first | exact jt | exact jW 9 (by decide) (by decide));rw [jp] at hS)
         all_goals try have yr:=gdA ac 7 (.pointer (some ⟨gn,0,none⟩)) (ja 7 (by kernel_rfl))
         all_goals try have hh8:=gdA ac 8 (.int .i64 (cc:Int)) (ja 8 (by kernel_rfl))
         all_goals try have yq:=gdA ac 0 (.pointer (some ⟨gB,0,none⟩)) (ja 0 (by kernel_rfl))
         all_goals try have hh9:=gdA ac 9 (.slice a9 g.length c9) (ja 9 (by kernel_rfl))
         all_goals try (have d71:ac.tmps.getD 71 undef=vA:=jf 1 (by decide);have dd71:=d71;rw [A8] at dd71)
         all_goals try have d78:(EL vA (⟨(cc:Int),(qi:Int)⟩:Ar)) (ac.tmps.getD 78 undef) W:=jf 8 (by decide)
         all_goals try (have jf:=DN jf;simp [D8,Aq,vq] at jf)
         all_goals try clear ja j1 jW jB
         case c1 =>
          have Js:(fun b1 b2 W=>NTR wW w B gB gn (Value.slice na N.length nc).ownBlock N fb vA A v' vr' N' D' S' R' qE qM ⟨a9,g.length,c9⟩ g b1 b2 W) ((upd fL 1) 6) ((upd fL 1) 9) W:=je;obtain ⟨bx0,bx1⟩:=Az (NTR.boxed hS).1;refine Ao rfl (.inl ⟨_,W,?_,rfl,Ext.refl _,Js⟩);clear ji hS je Js jt;simp [go_sem,Act.eval, *]
         case c6 =>
          have jn:=IH.out g a9 c9 v' vr' N' D' S' R' W hS.2 yf.out kJ.out (by rw [HQ.out];exact yt) jw.out hS.1.bst hS.1.bl;rw [HQ.out] at jn;refine Ao rfl (.inr ⟨90,#[.pointer (some ⟨gB,0,none⟩),.slice a9 g.length c9],W,by (clear ji hS je jt jn;simp [go_sem,Act.eval, *]),?_⟩);refine jn.mono ?_;clear jn;rintro e w' hp;obtain ⟨he,v2,vr2,N2,S2,jh⟩:=RL.called hS.1 hp;refine ⟨_,he,rfl,trivial,?_⟩;show NTR wW w B gB gn (Value.slice na N.length nc).ownBlock N fb vA A v' vr' N' D' S' R' qE qM ⟨a9,g.length,c9⟩ g (upd fL 6 6) (upd fL 6 9) w';rw [show upd fL 6 6=true from if_pos rfl,show upd fL 6 9=fL 9 from if_neg (by decide),show fL 9=false from jp];exact ⟨v2,vr2,N2,S2,jh⟩
         case c8 =>
          have Js:(fun b1 b2 W=>NTR wW w B gB gn (Value.slice na N.length nc).ownBlock N fb vA A v' vr' N' D' S' R' qE qM ⟨a9,g.length,c9⟩ g b1 b2 W) ((upd fL 8) 6) ((upd fL 8) 9) W:=je;have j0:vA.ownBlock≠some W.heap.size:=fun e=>by
           obtain ⟨v2,vr2,N2,S2,jh⟩:=hS;have:=jh.own.lt _ e;omega
          refine Ao rfl (.inl ⟨.slice (some ⟨W.heap.size,0,none⟩) 1 1,W.alloc (.cells #[.int .u8 (cc:Int),.int .i64 (qi:Int)] 155),?_,⟨_,rfl,heap_alloc_new _ _,j0⟩,(Below.refl _ _).alloc (A7 _) _,(show (fun b1 b2 W=>NTR wW w B gB gn (Value.slice na N.length nc).ownBlock N fb vA A v' vr' N' D' S' R' qE qM ⟨a9,g.length,c9⟩ g b1 b2 W) ((upd fL 8) 6) ((upd fL 8) 9) _ by
           rw [show upd fL 8 6=fL 6 from if_neg (by decide),show upd fL 8 9=fL 9 from if_neg (by decide)];exact NTR.ext _ _ _ _ je ((Below.refl _ _).alloc (A7 _) _))⟩)
          clear ji hS je Js jt;simp [go_sem,Act.eval, *]
         case c9 =>
          obtain ⟨g62,e62,kx,hn62⟩:=d78;obtain ⟨v2,vr2,N2,S2,jh⟩:=hS;refine Ao rfl ((C4 Dl (.tmp 71) (.tmp 78) rfl (Ay d71) jh.own ⟨g62,0,none⟩ 1 [(⟨(cc:Int),(qi:Int)⟩:Ar)] (Ay e62) (BA kx) (by simp only [AI];omega) jh.fr.size).mono ?_);rintro va w' ⟨ho,kY,yp⟩;refine ⟨⟨v2,vr2,N2,S2,jh.app jx kY,ho,fun y hy g hg e=>?_⟩,kY,?_⟩
          ·rcases yp with h1 | h1
           · rw [h1] at e;exact jh.apart y hy g hg e
           ·rw [h1] at e;injection e with e;have:=jh.toRL0.rows_lt y hy g hg;omega
          ·show NTR wW w B gB gn (Value.slice na N.length nc).ownBlock N fb vA A v' vr' N' D' S' R' qE qM ⟨a9,g.length,c9⟩ g (upd fL 9 6) (upd fL 9 9) w';rw [show upd fL 9 6=fL 6 from if_neg (by decide),show upd fL 9 9=true from if_pos rfl,show fL 6=true from jo];trivial
         all_goals (refine Ao rfl (.inl ⟨_,W,?_,rfl,Ext.refl _,je⟩);clear ji hS je jt;simp [go_sem,Act.eval, *];done)
        case hfin =>
         intro h;exact absurd h (by decide)
        case hlast =>
         intro _ ac W ji jV fL hf je hv ja;have hS:(fun b1 b2 W=>NTR wW w B gB gn (Value.slice na N.length nc).ownBlock N fb vA A v' vr' N' D' S' R' qE qM ⟨a9,g.length,c9⟩ g b1 b2 W) (fL 6) (fL 9) W:=je;clear je;rw [hf 6 (by decide),hf 9 (by decide)] at hS;have jv:ac.tmps.getD 80 undef=.pointer (some ⟨gn,1,none⟩):=hv 10 (by decide);have kd:NVR wW w B gB gn (Value.slice na N.length nc).ownBlock N fb vA (A ++ [(⟨(cc:Int),(qi:Int)⟩:Ar)]) qE qM (ac.tmps.getD 79 undef) W:=hv 9 (by decide);obtain ⟨v2,vr2,N2,S2,jh,ke,jy⟩:=kd;obtain ⟨xb,xc2,jF, -, -⟩:=ke.form;rw [jF] at ke jy;obtain ⟨bx0,bx1⟩:=Az jh.box;refine C3 rfl rfl rfl rfl (Ay jv) (Ay jF) (by simp [World.frozen?,jh.box]) bx1 (by kernel_rfl) ?_;have kB:=jh.setBox (i:=1) (fin':=fb) (y:=.slice xb (A ++ [(⟨(cc:Int),(qi:Int)⟩:Ar)]).length xc2) jx rfl ke jy;obtain ⟨wz2,jk⟩:∃ wz2,W.setCell ⟨gn,1,none⟩ (.slice xb (A ++ [(⟨(cc:Int),(qi:Int)⟩:Ar)]).length xc2)=wz2:=⟨_,rfl⟩
         rw [jk] at kB ⊢;have yh:=A6 kB;clear hS jh ke jy bx0 bx1 kB jk jv;obtain ⟨sx,kF,j3⟩:=Aw [70,71,72,73,74,75,76,77,78,79,80] (by kernel_rfl) ji jV ja;rw [j3];simp only [List.foldl];simp only [Act.put,List.setIfInBounds_toArray,List.set_cons_succ,List.set_cons_zero];clear j3 kF hv ja ji jV hf;clear jF ju kg
         go_wp2_with fail
         go_roundw
         case rel=>exact ⟨j+1,_,_,v2,vr2,N2,qE,S2,qM,by rw [← jI.out];go_num,by omega,by rw [show 33+(j+1)=cc+1 by have:=jI.out;omega];exact jg.out,yh.out,by omega,yk.out,by rw [AF];simp;omega⟩
         case measure=>simp [intOf];omega
      ·obtain rfl:j=94:=by omega
       have jb:=jg.out;rw [show 94 - 94=0 from rfl,List.range'_zero,Df] at jb;have kU:¬ ((33+94:Nat):Int)<127:=by decide
       obtain ⟨xb,xc2,rfl, -, -⟩:=jd.out.own.form;have jm:=jd.out.bst.len;obtain ⟨gr,cr,kH⟩:∃ gr cr,v'=.slice (some ⟨gr,0,none⟩) N'.length cr:=by
        rcases jd.out.bst.own.blk with ⟨_,h0⟩ | ⟨g4,c5,h0, -, -, -⟩
        · rw [h0] at jm;simp at jm;omega
        · exact ⟨g4,c5,h0⟩
       subst kH;have jq:N.length<N'.length:=by have:=kM.out;omega
       have jY:=GB (some ⟨gr,0,none⟩) gr 0 N'.length cr N.length rfl jq;simp only [Nat.zero_add] at jY;have yg:=A6 jb;have HN':=A6 jm;clear jb jm jg
       go_upto_region 16 with fail
       refine B4 (by kernel_rfl) (Vs [vq (.pointer (some ⟨gB,0,none⟩)),vq (.pointer (some ⟨gB,0,none⟩)),vq (.pointer (some ⟨gB,0,none⟩)),vq (.slice (some ⟨gr,0,none⟩) N'.length cr),vq (.int .i64 (N.length:Int)),vq (.agg #[.bool fb,.slice xb A.length xc2]),vq (.pointer (some ⟨gr,N.length*2,none⟩))]) (Xs []) (fun fL=>(fun W=>RL wW w B gB gn (Value.slice na N.length nc).ownBlock N fb (.slice xb A.length xc2) A (.slice (some ⟨gr,0,none⟩) N'.length cr) vr' N' D' S' R' W) ) [0,1,3,7,0,0,31] 89 7 (by kernel_rfl) rfl ?hV ?hS ?hop ?hfin ?hlast
       case hV =>
        refine BC (Av (by simp only [Aj,List.not_mem_nil,or_false,forall_eq_or_imp,forall_eq];and_intros <;> exact An _)) ?_;exact trivial
       case hS =>
        intro fL hf;show (fun W=>RL wW w B gB gn (Value.slice na N.length nc).ownBlock N fb (.slice xb A.length xc2) A (.slice (some ⟨gr,0,none⟩) N'.length cr) vr' N' D' S' R' W)  _;exact jd.out.ext ⟨rfl,rfl,rfl,A7 _,fun _ _=>rfl⟩
       case hop =>
        refine ⟨?_,?_,?_,?_,?_,?_,?_,?_,trivial⟩
        all_goals first | rw [if_neg (by decide)] | rw [if_pos (by decide)]
        all_goals try exact True.intro
        all_goals try intro ac W fL ji jt j1 jW je jf ja jB
        all_goals try have hS:(fun W=>RL wW w B gB gn (Value.slice na N.length nc).ownBlock N fb (.slice xb A.length xc2) A (.slice (some ⟨gr,0,none⟩) N'.length cr) vr' N' D' S' R' W)  W:=je
        all_goals try (
         obtain ⟨rp0,rp1⟩:=Az hS.bst.rep;obtain ⟨bx0,bx1⟩:=Az hS.box)
        all_goals try have yr:=gdA ac 7 (.pointer (some ⟨gn,0,none⟩)) (ja 7 (by kernel_rfl))
        all_goals try have yq:=gdA ac 0 (.pointer (some ⟨gB,0,none⟩)) (ja 0 (by kernel_rfl))
        all_goals try have hh6:=gdA ac 6 (.int .i64 (N.length:Int)) (ja 6 (by kernel_rfl))
        all_goals try (have jf:=DN jf;simp [D8,Aq,vq] at jf)
        all_goals try clear ja j1 jW jB
        all_goals (refine Ao rfl (.inl ⟨_,W,?_,rfl,Ext.refl _,je⟩);clear ji hS je jt;simp [go_sem,Act.eval, *];done)
       case hfin =>
        intro h;exact absurd h (by decide)
       case hlast =>
        intro _ ac W ji jV fL hf je hv ja;have hS:(fun W=>RL wW w B gB gn (Value.slice na N.length nc).ownBlock N fb (.slice xb A.length xc2) A (.slice (some ⟨gr,0,none⟩) N'.length cr) vr' N' D' S' R' W)  W:=je;clear je;have jv:ac.tmps.getD 87 undef=.pointer (some ⟨gr,N.length*2,none⟩):=hv 6 (by decide);have kd:ac.tmps.getD 86 undef=.agg #[.bool fb,.slice xb A.length xc2]:=hv 5 (by decide);have q0:=hS.bst.own.cell CH (i:=N.length) (j:=0) jq (by decide);have q1:=hS.bst.own.cell CH (i:=N.length) (j:=1) jq (by decide);obtain ⟨cs,kw⟩:=hS.bst.own.obj (g:=gr) rfl;refine Kg rfl rfl rfl rfl (Ay jv) (Ay kd) (by simp [World.frozen?,kw]) (by simp [World.frozen?,kw]) q0 q1 (by kernel_rfl) ?_;have ka:=hS.done jx rfl jq;have kL:=A6 ka;obtain ⟨wz2,jk⟩:∃ wz2,(W.setCell ⟨gr,N.length*2,none⟩ (.bool fb)).setCell ⟨gr,N.length*2+1,none⟩ (.slice xb A.length xc2)=wz2:=⟨_,rfl⟩
        rw [jk] at kL ⊢;clear hS q0 q1 kw ka jk jv kd;obtain ⟨sx,kF,j3⟩:=Aw [81,82,83,84,85,86,87] (by kernel_rfl) ji jV ja;rw [j3];simp only [List.foldl];simp only [Act.put,List.setIfInBounds_toArray,List.set_cons_succ,List.set_cons_zero];clear j3 kF hv ja ji jV hf
        go_wp2_with fail
        go_ret;rw [jM.out,← yg.out,kh.out,← kM.out];obtain ⟨N5,ka⟩:=kL.out;exact RL0.post (q:=(N.length,R',D'.set N.length ⟨fb,A⟩)) ka
theorem S5 {L:List ByteArray} (hd:Cz L):∀ i (hi:i<(ofF (Ax 0 L)).length),(ofF (Ax 0 L))[i].arcs.length≤1000:=fun i hi=>by
 obtain ⟨Mt,ja, -⟩:=K1 hd.okR.1 hd.okR.2;obtain ⟨r,_,_,h3⟩:=ja.nd i hi;rw [h3.len];have:=Lx r;omega
theorem JI {L:List ByteArray} (hd:Cz L):(ofF (Ax 0 L)).length≤4200:=by
 have hle:=Rw hd.okR.1;have hln:(Ax 0 L).length=L.length:=by simp [Ax]
 have:=hd.2.1;omega
theorem U7 (L:List ByteArray) (n:Nat) (a:Option Addr) (cap:Nat) (w:World) (hR:Bz w a L) (hL:n=L.length) (hc:n≤cap) (hd:Cz L) :
  Calls Tryz.prog 59 #[.slice a n cap] w fun e w'=>∃ a1 c1,e=.returned (.slice a1 (ofF (Ax 0 L)).length c1)∧(ofF (Ax 0 L)).length≤c1∧Cc w' a1 (ofF (Ax 0 L))∧Below w.heap.size w w':=by
 subst hL;have HR:=A6 hR;have HD:=A6 hd;have ji:(Ax 0 L).length=L.length:=by simp [Ax]
 have jd:=A6 ji;have h200:=hd.2.1;clear hR hd ji;obtain ⟨w2,je⟩:∃ w2,w2=w.alloc (Obj.cells #[Value.slice none 0 0,Value.slice none 0 0] 167):=⟨_,rfl⟩
 have jj:Hid (Below w.heap.size w w2):=by
  show Below _ _ _;rw [je];exact (Below.refl _ _).alloc (A7 _) _
 have jm:Hid (RSt w w2 w.heap.size w.heap.size (.slice none 0 0) (.slice none 0 0) [] [] [] []):=by
  show RSt _ _ _ _ _ _ _ _ _ _;rw [je];exact ⟨heap_alloc_new _ _,As.nil _ _ _,rfl,fun k h=>by simp at h,As.nil _ _ _,rfl,fun k h=>by simp at h,A7 _⟩
 have jl:Hid (CO w w.heap.size w2 ⟨a,(Ax 0 L).length,cap⟩ (Ax 0 L)):=by
  refine ⟨rfl,by show (Ax 0 L).length≤cap;rw [jd.out];exact hc,by rw [jd.out];omega,.inl ?_⟩;rw [OV];exact HR.out
 have ja:=rnode_any w w.heap.size w.heap.size (A7 _) 21 (Ax 0 L) a cap (.slice none 0 0) (.slice none 0 0) [] [] [] [] w2 jl.out HD.out.okR.1.2.2 HD.out.okR.2 (by
  have:=JI HD.out;exact AC this (by omega)) rfl jm.out jj.out
 rw [jd.out] at ja;have HC:=A6 ja;rw [je] at HC;clear ja
 go_enter Tryz.func59,Tryz.ntmps59
 go_upto_region 3 with (first
  | (go_at_call 90;refine HC.out.mono ?_;rintro e w3 ⟨v3,vr3,N3,S3,E3,rfl,jg, -, -,jf, -, -⟩;have jc:=A6 jg;have jn:=A6 jf;clear jg jf))
 have jb:=jc.out.rep;obtain ⟨a3,c3,jp,jo,jh⟩:=Rr.dawg (w:=w3) (B:=w.heap.size) (v:=v3) (D:=ofF (Ax 0 L)) ⟨N3,jc.out.own,jc.out.len,jc.out.arcs⟩ (S5 HD.out);subst jp;have jk:=A6 jh;obtain ⟨r0,r1⟩:=Az jb;clear jb jh;go_wp2;go_ret;exact ⟨_,_,rfl,jo,jk.out,jn.out⟩
def K5 (ws:Wd) (l:Wd):ByteArray × Bool:=(toB (ws ++ l),true)
theorem QI (c:Nat) (g:Rst) (G:List (Nat × Rst)):Kd ((c,g) :: G)=g.map (UInt8.ofNat c :: ·) ++ Kd G:=rfl
theorem QJ {Mt:List Rst} {n:Nat} {rec:Int→List UInt8→List (ByteArray × Bool) × Bool} {ws:Wd}:∀ {G:List (Nat × Rst)} {X:List Ar},DY Mt n G X →
  (∀ (c t:Nat) (g:Rst),(c,g)∈G→t<n→Mt[t]? = some g→rec (t:Int) (ws ++ [UInt8.ofNat c])=(g.map (K5 (ws ++ [UInt8.ofNat c])),true))→EB rec ws X=((Kd G).map (K5 ws),true):=by
 intro G X hA
 induction hA with
 | nil=>intro _;rfl
 | @cons c t g G X h1 h2 h3 _ ih =>
  intro hr;have h:=hr c t g (by simp) h2 h3;have ih2:=ih fun c t g hg=>hr c t g (List.mem_cons_of_mem _ hg);have e:UInt8.ofNat (c:Int).toNat=UInt8.ofNat c:=by rw [Int.toNat_natCast]
  rw [EB];simp only [e,h,if_pos,ih2];rw [QI,List.map_append,List.map_map];have:(K5 ws ∘ fun x=>UInt8.ofNat c :: x)=K5 (ws ++ [UInt8.ofNat c]):=by
   funext l;simp [K5]
  rw [this]
theorem U8 {r:Rst} (h:OkR r) (hf:F8 r=false):grp r≠[]:=by
 intro e;have:=recon h.1 h.2.1;rw [hf,e] at this;simp [Kd] at this;exact h.2.2 this
theorem OkR.fst {r:Rst} (h:OkR r):∃ s,s∈r:=List.exists_mem_of_ne_nil _ h.2.2
theorem visit_tab {Mt:List Rst} {E:List Nd} (hT:Uf Mt E):∀ (m k:Nat) (r:Rst) (ws:Wd),Mt[k]? = some r→(∀ s∈r,s.length<m)→(∀ s∈r,ws.length+s.length≤20)→visitL E m (k:Int) ws=(r.map (K5 ws),true)
 | 0,k,r,ws,hk,hm,_=>by
  exfalso;have ja:=hT.ok r (List.mem_of_getElem? hk);obtain ⟨s,hs⟩:=ja.fst;have:=hm s hs;omega
 | m
   +
    1,k,r,ws,hk,hm,hw=>by
  have ja:=hT.ok r (List.mem_of_getElem? hk);have jd:k<E.length:=by rw [← hT.len];exact (List.getElem?_eq_some_iff.1 hk).1
  obtain ⟨r',h1,h2,h3⟩:=hT.nd k jd;obtain rfl:r=r':=by rw [hk] at h1;injection h1
  have jc:E.getD (k:Int).toNat default=E[k]:=by rw [Int.toNat_natCast,Ab,AE jd];rfl
  have je:¬ ((E[k].fin=false)∧E[k].arcs=[]):=by
   rintro ⟨a,b⟩;rw [h2] at a;have:=h3.len;rw [b] at this;exact U8 ja a (List.eq_nil_of_length_eq_zero this.symm)
  obtain ⟨s0,jh⟩:=ja.fst;have jb:Ix E (k:Int) ws=false:=by
   unfold Ix;rw [jc];have:=hw s0 jh;have e1:¬ (k:Int)<0:=by omega
   have e2:¬ (E.length:Int)≤k:=by omega
   have e3:¬ 20<ws.length:=by omega
   simp only [e1,e2,e3,decide_false,Bool.or_false,Bool.false_or,Bool.and_eq_false_iff,Bool.not_eq_false'];by_cases hf:E[k].fin=true
   · exact .inl hf
   · exact .inr (decide_eq_false fun h=>je ⟨by simpa using hf,h⟩)
  rw [visitL,if_neg (by rw [jb];simp),jc];have hA:=QJ (rec:=visitL E m) (ws:=ws) h3 fun c t g hg ht hM=>by
   obtain ⟨g1,g2,g3,g4⟩:=JF hg;simp only at g3;refine visit_tab hT m t g _ hM (fun s hs=>?_) (fun s hs=>?_)
   ·rw [g3] at hs;obtain ⟨b,_,h5⟩:=Do.1 hs;have:=hm _ h5;simp at this;omega
   ·rw [g3] at hs;obtain ⟨b,_,h5⟩:=Do.1 hs;have:=hw _ h5;simp at this ⊢;omega
  rw [hA,h2];have jg:r.map (K5 ws)=(if F8 r=true then [((⟨ws.toArray⟩:ByteArray),true)] else []) ++ (Kd (grp r)).map (K5 ws):=by
   have jf:=recon ja.1 ja.2.1;refine (congrArg (List.map (K5 ws)) jf).trans ?_;rw [List.map_append];congr 1;split
   · simp [K5,toB]
   · rfl
  rw [jg]
theorem NS {L:List ByteArray} (hd:Cz L):(visitL (ofF (Ax 0 L)) 22 0 []).1=L.map fun s=>(s,true):=by
 obtain ⟨Mt,ja,h0⟩:=K1 hd.okR.1 hd.okR.2;have h:=visit_tab ja 22 0 (Ax 0 L) [] h0 (fun s hs=>by have:=hd.okR.2 s hs;omega) (fun s hs=>by have:=hd.okR.2 s hs;simp;omega);have e:((0:Nat):Int)=0:=rfl;rw [e] at h;rw [h];show (Ax 0 L).map (K5 [])=_;unfold Ax;rw [List.map_map];congr 1
theorem U9 {L:List ByteArray} (hd:Cz L):EC (visitL (ofF (Ax 0 L)) 22 0 []).1:=by
 rw [NS hd];refine ⟨fun x hx=>?_,by rw [AW];exact hd.2.1⟩;obtain ⟨s,_,rfl⟩:=AP.1 hx;rfl
theorem UA {L:List ByteArray} (hd:Cz L):DH (visitL (ofF (Ax 0 L)) 22 0 []).1=L:=by
 rw [NS hd];unfold DH;rw [List.map_map];exact List.map_id'' (fun _=>rfl) _
theorem NU {L:List ByteArray} (hd:Cz L):BQ (ofF (Ax 0 L))=L:=by rw [K4 (U9 hd),UA hd]
theorem NW {L:List ByteArray} {s:ByteArray}:0≤J4 L s↔s∈L:=by
 unfold J4;constructor
 ·intro h;split at h
  ·rename_i h2;have:=List.findIdx_getElem (w:=h2);simp only [decide_eq_true_eq] at this;rw [← this];exact AO h2
  · omega
 ·intro h;rw [if_pos (List.findIdx_lt_length_of_exists ⟨s,h,by simp⟩)];omega
structure BR where
 a:Option Addr
 n:Nat
 c:Nat
 Z:Nat→Int
instance:Inhabited BR:=⟨⟨none,0,0,fun _=>0⟩⟩
def Fq (w:World) (a:Option Addr) (len:Nat) (Q:Nat→BR):Prop :=
 ∀ i,i<len→∃ b o,a=some ⟨b,o,none⟩∧b<w.heap.size∧w.cell? ⟨b,o+i,none⟩=some (.slice (Q i).a (Q i).n (Q i).c)∧Ce w (Q i).a (Q i).n (Q i).Z∧(Q i).n≤9223372036854775807
theorem Fq.later {w w1:World} {a:Option Addr} {len:Nat} {Q:Nat→BR} {B:Nat} (h:Fq w a len Q) (hb:Below B w w1) (hB:w.heap.size≤B):Fq w1 a len Q:=fun i hi=>by
 obtain ⟨b,o,ha,h1,h2,h3,h4⟩:=h i hi;exact ⟨b,o,ha,by have:=hb.size;omega,(hb.cell (p:=⟨b,o+i,none⟩) (by show b<B;omega)).trans h2,h3.later hb hB,h4⟩
theorem M1 (a:Option Addr) (b o len cap k:Nat) (ha:a=some ⟨b,o,none⟩) (hk:k<len) (w:World) :
  (Instr.indexAt 25 (.slice a len cap) (.int .i64 (k:Int))).run Tryz.prog w=.ok (.pointer (some ⟨b,o+k,none⟩)) w:=by
 subst ha;have h0:(0:Int)≤(k:Int):=by omega
 have h1:(k:Int)<(len:Int):=by omega
 simp [go_sem,h0,h1]
theorem PB {L:List ByteArray} (hd:Cz L):Kf (ofF (Ax 0 L)):=fun i hi x hx=>by
 obtain ⟨Mt,ja, -⟩:=K1 hd.okR.1 hd.okR.2;obtain ⟨r,_,_,h3⟩:=ja.nd i hi;obtain ⟨⟨p1,p2,p3⟩,p4⟩:=h3.mem x hx;have:=JI hd;exact ⟨p1,by omega,by omega,by omega⟩
theorem TN {L:List ByteArray} (hd:Cz L):0<(ofF (Ax 0 L)).length:=by
 obtain ⟨Mt,ja,h0⟩:=K1 hd.okR.1 hd.okR.2;rw [← ja.len];exact (List.getElem?_eq_some_iff.1 h0).1
theorem NY {L:List ByteArray} (h1:1≤L.length) (h2:L.length≤200) (hw:∀ x∈L,DC x=true) (hs:L.Pairwise fun x y=>ltS x y=true):Cz L :=
 ⟨h1,h2,fun i hi _=>⟨hw _ (AO hi),fun h0=>List.pairwise_iff_getElem.1 hs (i - 1) i (by omega) hi (by omega)⟩⟩
theorem TO {a b:ByteArray} (h:ltS a b=false) (jb:a≠b):ltS b a=true:=by
 have:=Gk a.toList b.toList;unfold ltS at h ⊢;have ja:(a.toList == b.toList)=false:=by
  cases e:(a.toList == b.toList)
  · rfl
  · exact absurd (by rw [Hl] at e;exact of_decide_eq_true e) jb
 rw [h,ja] at this;simpa using this.symm
theorem S6 {α:Type} {p:α→Bool} {x:α}:∀ {L:List α},x∈L.takeWhile p→p x=true
 | y
   :: r,h=>by
  rw [List.takeWhile_cons] at h;split at h
  ·rename_i hy;rcases Aj.1 h with rfl | h
   · exact hy
   · exact S6 h
  · cases h
theorem dw_head {α:Type} {p:α→Bool}:∀ {L:List α},L.dropWhile p=[]∨∃ y r,L.dropWhile p=y :: r∧p y=false
 | []=>.inl rfl
 | y :: r=>by
  rw [List.dropWhile_cons];split
  · exact dw_head
  · rename_i h;exact .inr ⟨y,r,rfl,by simpa using h⟩
theorem ins_sorted {L:List ByteArray} {s:ByteArray} (h:L.Pairwise fun x y=>ltS x y=true):(GS L s).Pairwise fun x y=>ltS x y=true:=by
 unfold GS;split
 · exact h
 ·rename_i hn;have jc:s ∉ L:=fun hm=>hn (NW.2 hm);have e:=List.takeWhile_append_dropWhile (p:=fun x=>ltS x s) (l:=L);rw [← e,List.pairwise_append] at h;obtain ⟨h1,h2,h3⟩:=h;have hd:∀ y∈L.dropWhile (fun x=>ltS x s),ltS s y=true:=by
   rcases dw_head (p:=fun x=>ltS x s) (L:=L) with e0 | ⟨z,r,e0,hz⟩
   · rw [e0];intro y hy;cases hy
   ·have jd:z∈L:=by rw [← e,e0];simp
    have ja:=TO hz (fun e=>jc (e ▸ jd));rw [e0] at h2;intro y hy;rw [e0] at hy;rcases Aj.1 hy with rfl | hy
    · exact ja
    · exact IX ja ((Ah.1 h2).1 y hy)
  refine List.pairwise_append.2 ⟨h1,Ah.2 ⟨hd,h2⟩,fun x hx y hy=>?_⟩;have jb:ltS x s=true:=S6 (p:=fun x=>ltS x s) hx;rcases Aj.1 hy with rfl | hy
  · exact jb
  · exact IX jb (hd y hy)
theorem ins_mem {L:List ByteArray} {s x:ByteArray}:x∈GS L s↔x=s∨x∈L:=by
 unfold GS;split
 ·rename_i h;have:=NW.1 h;exact ⟨.inr,fun h=>h.elim (fun e=>e ▸ this) id⟩
 ·have e:=List.takeWhile_append_dropWhile (p:=fun x=>ltS x s) (l:=L);constructor
  ·intro h;rcases Ak.1 h with h | h
   · exact .inr (by rw [← e];exact List.mem_append_left _ h)
   ·rcases Aj.1 h with h | h
    · exact .inl h
    · exact .inr (by rw [← e];exact List.mem_append_right _ h)
  ·rintro (rfl | h)
   · simp
   ·rw [← e] at h;rcases Ak.1 h with h | h
    · exact List.mem_append_left _ h
    · exact List.mem_append_right _ (List.mem_cons_of_mem _ h)
theorem TP {L:List ByteArray} (h1:1≤L.length) (h2:L.length≤200) (h3:(List.range L.length).all (fun i=>DC (L.getD i ⟨#[]⟩) && (i == 0 || Op.bytesLess (L.getD (i - 1) ⟨#[]⟩).data.toList (L.getD i ⟨#[]⟩).data.toList))=true):Cz L:=by
 refine ⟨h1,h2,fun i hi _=>?_⟩;have h:=List.all_eq_true.1 h3 i (Am.2 hi);rw [Ab,AE hi] at h;simp only [Option.getD_some,Bool.and_eq_true,Bool.or_eq_true,beq_iff_eq] at h;refine ⟨h.1,fun h0=>?_⟩;rcases h.2 with h' | h'
 · omega
 ·rw [Ab,AE (by omega)] at h';rw [ltS,ByteArray.toList_eq,ByteArray.toList_eq];exact h'
theorem S7 {w:World} {g:Nat} {cs:Array Value} {t:TypeId} {fz:Nat × Nat} {L:List ByteArray} (h:w.heap[g]? = some (.cells cs t fz)) (ja:cs.toList=L.map Value.string):Bz w (some ⟨g,0,none⟩) L:=fun k hk=>by
 refine ⟨g,0,rfl,(A9.1 h).1,?_⟩;rw [cell_of_row _ _ _ _ _ _ h,← Array.getElem?_toList,ja];simp [hk]
structure IZ (w:World) (a:Option Addr) (n c:Nat) (L:List ByteArray):Prop where
 dict:Cz L
 len:n=(ofF (Ax 0 L)).length
 cap:n≤c
 rows:Cc w a (ofF (Ax 0 L))
theorem IZ.later {w w1:World} {a:Option Addr} {n c:Nat} {L:List ByteArray} (h:IZ w a n c L) (hb:Below w.heap.size w w1):IZ w1 a n c L:=⟨h.dict,h.len,h.cap,h.rows.later hb (A7 _)⟩
theorem IZ.go {w w1:World} {a:Option Addr} {n c:Nat} {L:List ByteArray} (h:IZ w a n c L) (hb:Below w.heap.size w w1):IZ w1 a n c L:=h.later hb
theorem IZ.small {w:World} {a:Option Addr} {n c:Nat} {L:List ByteArray} (h:IZ w a n c L):n≤4200∧1≤n:=by
 have h1:=JI h.dict;have h2:=TN h.dict;have h3:=h.len;omega
theorem IZ.big {w:World} {a:Option Addr} {n c:Nat} {L:List ByteArray} (h:IZ w a n c L):(ofF (Ax 0 L)).length≤9223372036854775807:=by
 have h1:=JI h.dict;omega
theorem TQ {L:List ByteArray} {n:Nat} {a:Option Addr} {cap:Nat} {w:World} (hd:Cz L) (hR:Bz w a L) (hL:n=L.length) (hc:n≤cap) (hT:Tab w) :
  Calls Tryz.prog 25 #[.slice a n cap] w fun e w'=>∃ a n c,e=.returned (.tuple #[.slice a n c,.int .i64 0])∧IZ w' a n c L∧Below w.heap.size w w':=by
 refine (Q9 L n a cap w hR hL (by have:=hd.2.1;omega) hc hT hd).mono ?_;rintro e w1 ⟨a1,c1,rfl,ja,h2,h3,hb⟩;exact ⟨a1,_,c1,rfl,⟨hd,rfl,ja,h3⟩,hb⟩
open Go.ChangeShapes Go.WideShapes Go.ChangeAt Go.RowKit
structure S8 where
 a:Option Addr
 len:Nat
 cap:Nat
 Z:Nat→Int
def S8.val (x:S8):Value:=.slice x.a x.len x.cap
structure Tq (w:World) (x:S8):Prop where
 by':Ce w x.a x.len x.Z
 le:x.len≤9223372036854775807
structure S9 where
 a:Option Addr
 len:Nat
 cap:Nat
 Q:Nat→BR
structure SB (w:World) (x:S9):Prop where
 rows:Fq w x.a x.len x.Q
 le:x.len≤9223372036854775807
section
variable {H:Type} {enc:TypeId × Value→H} {w:World} {base:Nat} {spare:Nat→Bool} {held:Bool} {d:DataW H} {p:List MemPlace} {r:Reach} {b0:Nat} {v:Value}
open Go.Deep in
theorem slice_bytes {fuel:Nat} {cs:List Value} {x:DataW H × List MemPlace} (h:DataW.trod enc Tryz.prog w base spare held fuel 26 cs=some x):∃ a len cap Z,cs=[.slice a len cap]∧Ce w a len Z∧len≤9223372036854775807:=by
 rcases open_slice1 Tryz.underlying26 (by kernel_rfl) h with ⟨h0,_⟩ | ⟨ad,l,c,m,n,V,D,Pl,h0,hba,hl,jb,jd,_,jc⟩
 · exact ⟨none,0,0,fun _=>0,h0,.inl rfl,by omega⟩
 ·have hlm:l≤m:=by rw [jd];split <;> omega
  have ja:l≤9223372036854775807:=by unfold maxLen at jb;omega
  have key:∀ i,i<l→∃ z,w.cell? (ad.add i)=some (.int .u8 z)∧0≤z∧z≤255:=fun i hi=>by
   obtain ⟨h1,h2⟩:=jc i (by omega);obtain ⟨z,hz,_,hw⟩:=DataW.trod_int Tryz.underlying5 h2;have:V i=.int .u8 z:=List.head_eq_of_cons_eq hz;rw [this] at h1;exact ⟨z,h1,bounds_u8 hw⟩
  by_cases h9:l=0
  · exact ⟨some ad,l,c,fun _=>0,h0,.inl h9,ja⟩
  ·obtain ⟨Z,hZ⟩:=choose_lt (α:=Int) key;obtain ⟨b,o,sp⟩:=ad;have hs:=World.cell?_spot (hZ 0 (by omega)).1;obtain rfl:sp=none:=by simpa [Addr.add] using hs
   refine ⟨some ⟨b,o,none⟩,l,c,Z,h0,.inr ⟨b,o,rfl,ja,?_,fun i hi=>?_⟩,ja⟩
   ·have:=World.block_lt_of_cell? w _ (hZ 0 (by omega)).1
    rwa [Di] at this
   ·have hk:=hZ i hi;rw [addr_add] at hk;exact hk
theorem OY (hv:Value.okWide Tryz.prog w r b0 26 v) (h:DataW.Trod enc Tryz.prog w base spare held 26 v d p):∃ x:S8,v=x.val∧Tq w x:=by
 obtain ⟨a,len,cap,rfl⟩:=okWide_slice Tryz.underlying26 hv;obtain ⟨f,hf⟩:=h;have ja:DataW.trod enc Tryz.prog w base spare held f 26 [.slice a len cap]=some (d,p):=by simpa [Value.cells] using hf
 obtain ⟨a1,l1,c1,Z,h0,h1,h2⟩:=slice_bytes ja;cases h0;exact ⟨⟨a,len,cap,Z⟩,rfl,h1,h2⟩
end
theorem V9:Tryz.prog.globalNamed "internal/strconv.uint64pow10" = some 0:=by kernel_rfl
theorem Ug:(Tryz.prog.globals[0]?).map (·.type)=some 245:=by kernel_rfl
theorem SC {W:World} (h:laidMetH Tryz.prog [("math/bits.deBruijn32tab",Rows.laid_math_bits_deBruijn32tab),("math/bits.deBruijn64tab",Rows.laid_math_bits_deBruijn64tab),("internal/strconv.uint64pow10",Rows.laid_internal_strconv_uint64pow10)] W):Tab W:=by
 obtain ⟨ps,h1,_⟩:laidMet Tryz.prog [("math/bits.deBruijn32tab",Rows.laid_math_bits_deBruijn32tab),("math/bits.deBruijn64tab",Rows.laid_math_bits_deBruijn64tab),("internal/strconv.uint64pow10",Rows.laid_internal_strconv_uint64pow10)] W:=h;obtain ⟨_,_,_,_,_,q1,_,_,_,_,h2,_⟩:=h1;obtain ⟨_,_,_,_,_,q2,_,_,_,_,h3,_⟩:=h2;obtain ⟨g',t',cs,fuel,p,q,jc,jd,ja,hd,_,_⟩:=h3;obtain rfl:=Option.some.inj (V9.symm.trans jc);obtain rfl:=Option.some.inj (Ug.symm.trans jd);have jb:DataW.trod (fun _=>()) Tryz.prog W 0 (fun _=>true) false fuel 245 cs.toList=some (Lib.tabData .u64 Lib.pow10Tab,p):=hd;show W.var? Tryz.prog "internal/strconv.uint64pow10" = _;rw [ja,← Lib.cells_of_tab Tryz.underlying245 Tryz.underlying221 (by kernel_rfl) (by kernel_rfl) jb]
def putCells (w:World) (g:Nat) (cs:Array Value):World :=
 { w
   with heap:=w.heap.modify g fun
   | .cells _ t f=>.cells cs t f
   | o=>o }
noncomputable def Ia (os:Os):World :=
 putCells (putCells (putCells (World.holding Tryz.prog os ⟨#[],#[],[]⟩) 0 #[.int .u64 1,.int .u64 10,.int .u64 100,.int .u64 1000,.int .u64 10000,.int .u64 100000,.int .u64 1000000,.int .u64 10000000,.int .u64 100000000,.int .u64 1000000000,.int .u64 10000000000,.int .u64 100000000000,.int .u64 1000000000000,.int .u64 10000000000000,.int .u64 100000000000000,.int .u64 1000000000000000,.int .u64 10000000000000000,.int .u64 100000000000000000,.int .u64 1000000000000000000,.int .u64 10000000000000000000])
  1 #[.int .u8 0,.int .u8 1,.int .u8 28,.int .u8 2,.int .u8 29,.int .u8 14,.int .u8 24,.int .u8 3,.int .u8 30,.int .u8 22,.int .u8 20,.int .u8 15,.int .u8 25,.int .u8 17,.int .u8 4,.int .u8 8,.int .u8 31,.int .u8 27,.int .u8 13,.int .u8 23,.int .u8 21,.int .u8 19,.int .u8 16,.int .u8 7,.int .u8 26,.int .u8 12,.int .u8 18,.int .u8 6,.int .u8 11,.int .u8 5,.int .u8 10,.int .u8 9])
  2 #[.int .u8 0,.int .u8 1,.int .u8 56,.int .u8 2,.int .u8 57,.int .u8 49,.int .u8 28,.int .u8 3,.int .u8 61,.int .u8 58,.int .u8 42,.int .u8 50,.int .u8 38,.int .u8 29,.int .u8 17,.int .u8 4,.int .u8 62,.int .u8 47,.int .u8 59,.int .u8 36,.int .u8 45,.int .u8 43,.int .u8 51,.int .u8 22,.int .u8 53,.int .u8 39,.int .u8 33,.int .u8 30,.int .u8 24,.int .u8 18,.int .u8 12,.int .u8 5,.int .u8 63,.int .u8 55,.int .u8 48,.int .u8 27,.int .u8 60,.int .u8 41,.int .u8 37,.int .u8 16,.int .u8 46,.int .u8 35,.int .u8 44,.int .u8 21,.int .u8 52,.int .u8 32,.int .u8 23,.int .u8 11,.int .u8 54,.int .u8 26,.int .u8 40,.int .u8 15,.int .u8 34,.int .u8 20,.int .u8 31,.int .u8 10,.int .u8 25,.int .u8 14,.int .u8 19,.int .u8 9,.int .u8 13,.int .u8 8,.int .u8 7,.int .u8 6]
theorem SD (os:Os) (args:Array Value):laidMet Tryz.prog [("math/bits.deBruijn32tab",Rows.laid_math_bits_deBruijn32tab),("math/bits.deBruijn64tab",Rows.laid_math_bits_deBruijn64tab),("internal/strconv.uint64pow10",Rows.laid_internal_strconv_uint64pow10)] ((Ia os).forCall (fun _ _=>0) ⟨#[],args,[]⟩).memory :=
 laidMet_of_run' 8 (by kernel_rfl) (by kernel_rfl)
end Go.Proofs.YthjmdgejnakcmaaGreatDoor
