/- Texts that the claims share: DRef, DOf, DList, DSame, DListed, DHas, DVis, DMake, DFacts, DLit, DLawK, DViews, DLaid. -/
import Derived.Laws.Concat
import Derived.Deep.CutBlock
import Derived.Deep.QuietTactic
import Derived.BigQuiet
import Derived.Laws.RangeString
import Derived.Laws.Strings3
import Derived.Deep.Strs
import Derived.Lib.LaidTab
import Derived.Deep.DeepHandedRow
import Derived.WalkKit
import Derived.ProofKit
import Derived.OpenShut
import Derived.Test.YthjmdgejnakcmaaGreatDoorRows
import Derived.Test.YthjmdgejnakcmaaGreatDoorMD5
import Derived.Test.YthjmdgejnakcmaaGreatDoorMD1
import Derived.Test.YthjmdgejnakcmaaGreatDoorMA1
set_option linter.unusedVariables false
set_option linter.unusedSimpArgs false
namespace Go.Proofs.YthjmdgejnakcmaaGreatDoor
open Go.RowKit Go.WideShapes
theorem Oj (g len cap k:Nat) (hk:k<len) (w:World) :
  (Instr.indexAt 165 (.slice (some ⟨g,0,none⟩) len cap) (.int .i64 (k:Int))).run Tryz.prog w=.ok (.pointer (some ⟨g,k,none⟩)) w:=by
 have h0:(0:Int)≤(k:Int):=by omega
 have h1:(k:Int)<(len:Int):=by omega
 simp [go_sem,h0,h1]
theorem Jh {P:Program} {ops:Array Oper} {Q:Exit→Act→World→Prop} {L:Nat} {K:Act→World→Prop} {o:Oper} {A:Act} {W:World} {ty:TypeId} {p v:Operand} {g i:Nat} {f:Bool} {x' y':Value} {a:Option Addr} {k c:Nat}
  (ho:ops[L]? = some o) (hg:o.guard=none) (hop:o.op=.store ty p v) (hd:o.dst=none) (hp:A.eval p=.pointer (some ⟨g,i,none⟩)) (hv:A.eval v=.agg #[.bool f,.slice a k c]) (hf0:W.frozen? ⟨g,i,none⟩=false) (hf1:W.frozen? ⟨g,i+1,none⟩=false) (c0:W.cell? ⟨g,i,none⟩=some x') (c1:W.cell? ⟨g,i+1,none⟩=some y') (hsz:(sizeOf ty).run P W=.ok 2 W)
  (hK:K A ((W.setCell ⟨g,i,none⟩ (.bool f)).setCell ⟨g,i+1,none⟩ (.slice a k c))):wpOp P ops Q L K A W:=by
 unfold wpOp
 rw [ho]
 have hw:Region.wanted o (yielded ops A.tmps)=true:=by unfold Region.wanted;rw [hg]
 simp only [hw,if_pos]
 refine .inl ?_
 unfold Oper.wp execOp
 simp only [hop,hp,hv]
 simp [go_sem,hf0,hf1,c0,c1,hsz]
 rw [hd]
 exact hK
def NTR (wW w0:World) (B gB gn:Nat) (vb0:Option Nat) (N0:List NV) (fin:Bool) (vA:Value) (A:List Ar) (v vr:Value) (N:List NV) (D:List Nd) (S:List SV) (R:List Rst) (D2:List Nd) (R2:List Rst) (x:SV) (g:Rst) (b1 b2:Bool) (w:World):Prop :=
 match b1,b2 with
 | false,_=>RL wW w0 B gB gn vb0 N0 fin vA A v vr N D S R w∧C3 wW B w x g
 | true,false=>∃ v2 vr2 N2 S2,RL wW w0 B gB gn vb0 N0 fin vA A v2 vr2 N2 D2 S2 R2 w
 | true,true=>True
def NVR (wW w0:World) (B gB gn:Nat) (vb0:Option Nat) (N0:List NV) (fin:Bool) (vA:Value) (A2:List Ar) (D2:List Nd) (R2:List Rst) (va:Value) (w:World):Prop :=
 ∃ v2 vr2 N2 S2,RL1 wW w0 B gB gn vb0 N0 fin vA v2 vr2 N2 D2 S2 R2 w∧Ab Bh w w0.heap.size va A2∧∀ x∈N2,∀ g,nvB x=some g→va.ownBlock≠some g
section
variable {wW w0:World} {B gB gn:Nat} {vb0:Option Nat} {N0:List NV} {fin:Bool} {vA:Value} {A:List Ar} {v vr:Value} {N:List NV} {D D2:List Nd} {S:List SV} {R R2:List Rst} {x:SV} {g:Rst}
theorem NTR.ext:∀ (b1 b2:Bool) (w w':World),NTR wW w0 B gB gn vb0 N0 fin vA A v vr N D S R D2 R2 x g b1 b2 w→Ext w w'→NTR wW w0 B gB gn vb0 N0 fin vA A v vr N D S R D2 R2 x g b1 b2 w':=by
 intro b1 b2 w w' h hx
 cases b1 with
 | false=>exact ⟨h.1.ext hx,h.2.keep fun q cs hq=>Below.block hx q (A5.1 hq).1⟩
 | true =>
  cases b2 with
  | false =>
   obtain ⟨v2,vr2,N2,S2,h2⟩:=h
   exact ⟨v2,vr2,N2,S2,h2.ext hx⟩
  | true=>trivial
theorem NTR.boxed {b1:Bool} {w:World} (h:NTR wW w0 B gB gn vb0 N0 fin vA A v vr N D S R D2 R2 x g b1 false w):w.heap[gn]? = some (.cells #[.bool fin,vA] 153 (0,0))∧w0.heap.size≤w.heap.size:=by
 cases b1 with
 | false=>exact ⟨h.1.box,h.1.fr.size⟩
 | true =>
  obtain ⟨v2,vr2,N2,S2,h2⟩:=h
  exact ⟨h2.box,h2.fr.size⟩
theorem Ol {A2:List Ar}:Bp (NVR wW w0 B gB gn vb0 N0 fin vA A2 D2 R2):=by
 rintro va w w' ⟨v2,vr2,N2,S2,h1,h2,h3⟩ hx
 exact ⟨v2,vr2,N2,S2,h1.ext hx,h2.later hx (A3 _),h3⟩
end
theorem N8 (a:Option Addr) (b o len cap:Nat) (ha:a=some ⟨b,o,none⟩) (hk:0<len) (w:World) :
  (Instr.indexAt 37 (.slice a len cap) (.int .i64 0)).run Tryz.prog w=.ok (.pointer (some ⟨b,o,none⟩)) w:=by
 subst ha;exact Hp b o len cap hk w
set_option maxHeartbeats 1600000 in
set_option maxRecDepth 100000 in
theorem
    rnode_any
         (wW
           :
            World) (B gB:Nat) (hWB:wW.heap.size≤B):∀ (m:Nat) (r:Rst) (a:Option Addr) (c:Nat) (v vr:Value) (N:List NV) (D:List Nd) (S:List SV) (R:List Rst) (w:World),C3 wW B w ⟨a,r.length,c⟩ r→r≠[]→(∀ s∈r,s.length<m)→(refV m r R D).2.2.length≤500000→R.length=D.length →
  RSt wW w B gB v vr N D S R→Below B wW w→Calls Tryz.prog 90 #[.pointer (some ⟨gB,0,none⟩),.slice a r.length c] w (QM wW B gB (refV m r R D) v N w):=by
 intro m
 induction m with
 | zero =>
  intro r a c v vr N D S R w _ hne hlt
  exfalso
  obtain ⟨x,hx⟩:=List.exists_mem_of_ne_nil _ hne
  have:=hlt x hx;omega
 | succ m ih
       =>
  intro r a c v vr N D S R w hr hne hlt hbd hRD hB hW
  have hrl:=hr.b
  have HRI:=A0 hr;have HLT:=A0 hlt;have HBD:=A0 hbd;have HB:=A0 hB;have HW:=A0 hW;have IH:=A0 ih;have HRD:=A0 hRD;have HNE:Hid (r≠[]):=hne
  have hBs:=hB.size
  have hDl:D.length≤500000:=A8 (IT (m+1) r R D) hbd
  have hRl:R.length≤500000:=by omega
  have hrlI:(BK r).length=r.length:=DL r
  have HRB:=A0 hrlI
  have hSl:=hB.slen
  have HSL:=A0 hSl
  obtain ⟨ra,rc,hvr,hrc, -⟩:=hB.rown.form
  obtain ⟨na,nc,hva,hnc, -⟩:=hB.own.form
  subst hvr hva
  have hNl:=hB.len
  have HNL:=A0 hNl
  have hSl2:S.length≤500000:=by omega
  have hNl2:N.length≤500000:=by omega
  clear hr hlt hbd hB hW ih hRD hne hrlI hSl hNl
  go_enter Tryz.func90,Tryz.ntmps90
  go_wp2
  go_loopw [5] (fun s5 wr=>∃ k:Nat,k≤S.length∧s5=.int .i64 (k:Int)∧(∀ j (hj:j<R.length),j<k→R[j]≠r)∧Below w.heap.size w wr) (fun s5 _=>S.length - (intOf s5).toNat)
  case atStart=>exact ⟨0,Nat.zero_le _,rfl,fun j _ h=>absurd h (Nat.not_lt_zero _),Below.refl _ _⟩
  case round =>
   obtain ⟨k,hk,rfl,hno,hx⟩:=hrel
   have HNO:=A0 hno;have HX:=A0 hx
   have hB2:=HB.out.ext hx
   have HB2:=A0 hB2
   obtain ⟨rp0,rp1⟩:=Ak hB2.rep
   clear hno hx hB2
   by_cases hkS:k<S.length
   ·
    have hkR:k<R.length:=by have:=HSL.out;omega
    have hkI:(k:Int)<(S.length:Int):=by omega
    obtain ⟨g,hra⟩:∃ g,ra=some ⟨g,0,none⟩:=by
     rcases HB.out.rown.blk with ⟨he,h0⟩ | ⟨g,c1,he,_⟩
     · rw [h0] at hkS;simp at hkS
     · injection he with he;exact ⟨g,he⟩
    subst hra
    have hrk:=HB2.out.rests k hkS hkR
    have q0:wr.cell? ⟨g,k,none⟩=some (.slice S[k].a S[k].n S[k].c):=by
     have:=HB2.out.rown.cell In (i:=k) (j:=0) hkS (by decide)
     simpa [IP] using this
    have hidx:=Oj g S.length rc k hkS
    obtain ⟨x,hxk⟩:∃ x,S[k]=x:=⟨_,rfl⟩
    obtain ⟨y,hyk⟩:∃ y,R[k]=y:=⟨_,rfl⟩
    rw [hxk] at q0 hrk
    rw [hyk] at hrk
    have hbl:Below B wW wr:=HW.out.trans (HX.out.mono hBs)
    have HBL:=A0 hbl
    have hs1:=hrk.strs hbl hWB
    have hs2:Ba wr a (BK r):=(HRI.out.strs HW.out hWB).later HX.out (A3 _)
    have hxn:=hrk.n
    have hyl:y.length≤9223372036854775807:=by have:=hrk.b;omega
    have HS1:=A0 hs1;have HS2:=A0 hs2;have HYK:=A0 hyk;have HXN:=A0 hxn
    clear hrk hxk hyk hbl hs1 hs2 hxn
    have hcall:=sameWords_any (BK y) (BK r) x.n r.length x.a a x.c c wr HS1.out HS2.out (by rw [HXN.out,DL]) (by rw [HRB.out]) (by rw [HXN.out];exact hyl) (by omega)
    rw [Og] at hcall
    by_cases hyr:y=r
    ·
     rw [decide_eq_true hyr] at hcall
     have HYR:=A0 hyr
     have HC:=A0 hcall
     clear hyr hcall
     go_wp2_with (first
      | (go_at_call 111;refine HC.out.mono ?_;rintro e w2 ⟨rfl,hb2⟩;have HX2:=A0 hb2;clear hb2))
     go_ret
     have hidR:=Oh hkR HNO.out (HYK.out.trans HYR.out)
     rw [QL (by rw [hidR];exact hkR),hidR]
     exact ⟨_,_,N,S,[],rfl,HB2.out.ext HX2.out,by simp,fun x hx=>(by cases hx),HBL.out.trans (HX2.out.mono (by have:=HX.out.size;omega)),FrR.of_below (HX.out.trans (HX2.out.mono HX.out.size)),.inl rfl⟩
    ·
     rw [decide_eq_false hyr] at hcall
     have HYR:Hid (¬ y=r):=hyr
     have HC:=A0 hcall
     clear hyr hcall
     go_wp2_with (first
      | (go_at_call 111;refine HC.out.mono ?_;rintro e w2 ⟨rfl,hb2⟩;have HX2:=A0 hb2;clear hb2))
     go_roundw
     case rel=>exact ⟨k+1,by omega,by go_num,fun j hj hjk=>(by
      by_cases e:j=k
      · subst e;exact fun h=>HYR.out (HYK.out.symm.trans h)
      · exact HNO.out j hj (by omega)),HX.out.trans (HX2.out.mono HX.out.size)⟩
     case measure=>simp [intOf];omega
   ·
    have hkI:¬ (
           k
            : Int)<(S.length:Int):=by omega
    have hidR:=Oi (r:=r) fun j hj=>HNO.out j hj (by have:=HSL.out;omega)
    have HREF:=A0 (Ri (m:=m) (E:=D) hidR)
    have HL:Hid (RL0 wW w B gB (Value.slice na N.length nc).ownBlock N (.slice na N.length nc) (.slice ra S.length rc) N D S R wr) :=
     ⟨HB2.out,HW.out.trans (HX.out.mono hBs),FrR.of_below HX.out,.inl rfl,[],by simp,fun x hx=>by cases hx⟩
    clear hidR HB2
    go_upto_region 7 with fail
    have hxa7:Ext wr (wr.alloc (.cells #[.bool false,.slice none 0 0] 153)):=(Below.refl _ _).alloc (A3 _) _
    have HL7:=A0 (HL.out.ext hxa7)
    clear hxa7
    go_upto_region 8 with (first
     | (at_builtin;go_loud (refine Aj Bz rfl _ _ rfl rfl HL7.out.bst.own ⟨wr.heap.size,0,none⟩ 1 [⟨false,none,0,0⟩] rfl (An (heap_alloc_new _ _)) (by simp only [AC];omega) HL7.out.bst.size ?_;intro va w7 ho7 hg7 hat7;have hl8:=HL7.out.addD hBs ho7 hg7 hat7;have hr8:=HL7.out.bst.repD hg7;obtain ⟨xa,xc,hxa, -, -⟩:=ho7.form;rw [AB,AC] at hxa;subst hxa;have c7:=(Ak hr8).1;have f7:w7.frozen? ⟨gB,0,none⟩=false:=(by simp [World.frozen?,hr8]);have HL8:=A0 hl8;clear hl8 hr8 ho7 hg7 hat7)))
    clear c7 f7 HL7 rp0 rp1
    obtain ⟨w8,hw8⟩:∃ w8,w7.setCell ⟨gB,0,none⟩ (.slice xa (N.length+1) xc)=w8:=⟨_,rfl⟩
    rw [hw8] at HL8 ⊢
    clear hw8
    have hxa8:Ext w8 (w8.alloc (.cells #[.slice a r.length c] 37)):=(Below.refl _ _).alloc (A3 _) _
    have HL9:=A0 (HL8.out.ext hxa8)
    clear hxa8
    obtain ⟨rp0,rp1⟩:=Ak HL8.out.bst.rep
    have HRI9:Hid (C3 wW B (w8.alloc (.cells #[.slice a r.length c] 37)) ⟨a,r.length,c⟩ r):=HRI.out.fr HB.out HL9.out.fr
    go_upto_region 9 with (first
     | (at_builtin;go_loud (refine Aj In rfl _ _ rfl rfl HL9.out.bst.rown ⟨w8.heap.size,0,none⟩ 1 [⟨a,r.length,c⟩] rfl (An (heap_alloc_new _ _)) (by simp only [AC];omega) HL9.out.bst.size ?_;intro va w9 ho9 hg9 _;have hl9:=HL9.out.addR hBs HRI9.out ho9 hg9;have hr9:=HL9.out.bst.repR hg9;obtain ⟨ya,yc,hya, -, -⟩:=ho9.form;rw [AB,AC] at hya;subst hya;have c9:=(Ak hr9).2;have f9:w9.frozen? ⟨gB,1,none⟩=false:=(by simp [World.frozen?,hr9]);have HLA:=A0 hl9;clear hl9 hr9 ho9 hg9)))
    clear c9 f9 HL9 HL8 rp0 rp1 HRI9
    obtain ⟨wa,hwa⟩:∃ wa,w9.setCell ⟨gB,1,none⟩ (.slice ya (S.length+1) yc)=wa:=⟨_,rfl⟩
    rw [hwa] at HLA ⊢
    clear hwa
    obtain ⟨x0,r0,hr0⟩:∃ x0 r0,r=x0 :: r0:=by
     cases r with
     | nil=>exact absurd rfl HNE.out
     | cons x r=>exact ⟨x,r,rfl⟩
    have hfin:E7 r=decide (x0=[]):=by
     rw [hr0]
     cases x0 with
     | nil=>rfl
     | cons=>rfl
    have hrpos:0<r.length:=by rw [hr0];simp
    have hrla:C3 wW B wa ⟨a,r.length,c⟩ r:=HRI.out.fr HB.out HLA.out.fr
    have HRLA:=A0 hrla
    have hstr:=hrla.strs HLA.out.bl hWB
    obtain ⟨b0,o0,ha0,hb0,q0⟩:=hstr.at (k:=0) (by rw [HRB.out];exact hrpos)
    have hx0:(BK r)[0]'(by rw [HRB.out];exact hrpos)=toB x0:=by simp only [hr0];rfl
    rw [hx0,Nat.add_zero] at q0
    have hidx0:=N8 a b0 o0 r.length c ha0 hrpos
    have HFIN:=A0 hfin
    have HA0:=A0 ha0
    clear ha0 hrla hstr hr0 hx0 hfin
    have hxw:∀ f,Ext wa (wa.alloc (.cells #[.bool f,.slice none 0 0] 153)):=fun f=>(Below.refl _ _).alloc (A3 _) _
    have hva8:=HLA.out.bst.own.lt
    have hRL:Hid (∀ f,RL wW w B gB wa.heap.size (Value.slice na N.length nc).ownBlock N f (.slice none 0 0) [] (.slice xa (N.length+1) xc) (.slice ya (S.length+1) yc) (N ++ [⟨false,none,0,0⟩]) (D ++ [⟨false,[]⟩]) (S ++ [⟨a,r.length,c⟩]) (R ++ [r]) (wa.alloc (.cells #[.bool f,.slice none 0 0] 153))):=fun f =>
     ⟨⟨HLA.out.ext (hxw f),heap_alloc_new _ _,HLA.out.fr.size,fun e=>by have:=hva8 _ e;omega⟩,Ab.nil _ _ _,fun x _ g _ e=>by cases e⟩
    clear hxw hva8
    obtain ⟨fb,hfb⟩:∃ fb,E7 r=fb:=⟨_,rfl⟩
    have HFB:=A0 hfb
    clear hfb
    go_cut [7] (fun s7 wx=>∃ wz gn,wz=wx∧s7=.pointer (some ⟨gn,0,none⟩)∧RL wW w B gB gn (Value.slice na N.length nc).ownBlock N fb (.slice none 0 0) [] (.slice xa (N.length+1) xc) (.slice ya (S.length+1) yc) (N ++ [⟨false,none,0,0⟩]) (D ++ [⟨false,[]⟩]) (S ++ [⟨a,r.length,c⟩]) (R ++ [r]) wz)
    case first =>
     by_cases hx0:x0=[]
     ·
      have HFT:Hid (fb=true):=by show _=_;rw [← HFB.out,HFIN.out];simp [hx0]
      have ht:(toB x0)=⟨#[]⟩:=by rw [hx0];rfl
      rw [ht] at q0
      clear ht hx0
      go_wp2
      go_meet
      rw [HFT.out]
      exact ⟨_,wa.heap.size,rfl,rfl,hRL.out true⟩
     ·
      have HFT:Hid (fb=false):=by show _=_;rw [← HFB.out,HFIN.out];simp [hx0]
      obtain ⟨t0,ht0⟩:∃ t0,toB x0=t0:=⟨_,rfl⟩
      have hem:t0.toList.isEmpty=false:=by
       rw [← ht0,ByteArray.toList_eq]
       show x0.isEmpty=false
       cases x0 with
       | nil=>exact absurd rfl hx0
       | cons=>rfl
      rw [ht0] at q0
      clear ht0 hx0
      go_wp2
      go_meet
      rw [HFT.out]
      exact ⟨_,wa.heap.size,rfl,rfl,hRL.out false⟩
    case rest
         =>
     obtain ⟨wz,gn,rfl,rfl,hRLz⟩:=hcut
     have HRLZ:=A0 hRLz
     clear hRLz hidx0 q0 hRL
     obtain ⟨FA,hFA⟩:∃ FA,DA (refV m) r (List.range' 33 94) [] (R ++ [r]) (D ++ [⟨false,[]⟩])=FA:=⟨_,rfl⟩
     have href:=HREF.out
     rw [hFA] at href
     have hbd2:FA.2.2.length≤500000:=by
      have:=HBD.out
      rw [href] at this
      simpa using this
     have HREF2:=A0 href
     have HFA:=A0 hFA
     clear hFA href HREF
     have HRD':Hid ((R ++ [r]).length=(D ++ [(⟨false,[]⟩:Nd)]).length):=by
      have:=HRD.out
      show _=_
      simp [this]
     go_wp2_with fail
     go_loopw [8] (fun s8 wr=>∃ (j:Nat) (A:List Ar) (vA v' vr':Value) (N':List NV) (D':List Nd) (S':List SV) (R':List Rst),s8=.int .i64 ((33+j:Nat):Int)∧j≤94∧DA (refV m) r (List.range' (33+j) (94 - j)) A R' D'=FA ∧
      RL wW w B gB gn (Value.slice na N.length nc).ownBlock N fb vA A v' vr' N' D' S' R' wr∧D.length<D'.length∧R'.length=D'.length∧A.length≤j) (fun s8 _=>127 - (intOf s8).toNat)
     case atStart=>exact ⟨0,[],.slice none 0 0,_,_,_,_,_,_,rfl,by omega,HFA.out,HRLZ.out,by simp,HRD'.out,A3 _⟩
     case round =>
      obtain ⟨j,A,vA,v',vr',N',D',S',R',rfl,hj,harm,hRLw,hDlt,hRD2,hAl⟩:=hrel
      have HARM:=A0 harm;have HRLW:=A0 hRLw;have HRD2:=A0 hRD2
      clear harm hRLw hRD2
      by_cases hjl:j<94
      ·
       have hcI:((33+j:Nat):Int)<127:=by omega
       obtain ⟨cc,hcc⟩:∃ cc,33+j=cc:=⟨_,rfl⟩
       rw [hcc] at hcI ⊢
       have hcc1:33≤cc:=by omega
       have HCC:=A0 hcc
       clear hcc
       go_upto_region 13 with fail
       have hst:=(HRI.out.fr HB.out HRLW.out.fr).strs HRLW.out.bl hWB
       have hcall:=after_any (BK r) r.length a c (cc:Int) wr hst (by rw [HRB.out]) (by omega)
       rw [afterF_rows] at hcall
       have HC:=A0 hcall
       have hm256:(cc:Int) % 256=cc:=by omega
       have hgl:(As r cc).length≤1000:=A8 (N7 r cc) hrl
       have hrg:List.range' cc (94 - j)=cc :: List.range' (cc+1) (94 - (j+1)):=by
        rw [show 94 - j=(94 - (j+1))+1 by omega,List.range'_succ]
       have harm:=HARM.out
       rw [HCC.out,hrg,DA] at harm
       have HG1:Hid (∀ s∈As r cc,s.length<m):=fun s hs=>by
        obtain ⟨b,_,hb⟩:=CS.1 hs
        have:=HLT.out _ hb
        simp at this;omega
       obtain ⟨g,hg⟩:∃ g,As r cc=g:=⟨_,rfl⟩
       rw [hg] at HC hgl harm HG1
       have HGL:=A0 (DL g)
       clear hst hcall hrg hg HARM
       by_cases hge:g=[]
       ·
        rw [if_pos hge] at harm
        have HARM:=A0 harm
        have hg0:(BK g).length=0:=by rw [HGL.out,hge];rfl
        have HG0:=A0 hg0
        clear harm hge hg0
        go_upto_region 14 with (first
         | (go_at_call 112;refine HC.out.mono ?_;rintro e w1 ⟨v9,rfl,ho9,hb9⟩;obtain ⟨a9,c9,h9, -, -⟩:=ho9.form;rw [HG0.out] at h9;subst h9;have HR1:=A0 (HRLW.out.ext hb9);clear ho9 hb9))
        clear hm256
        go_wp2_with fail
        go_roundw
        case rel=>exact ⟨j+1,A,vA,v',vr',N',D',S',R',by rw [← HCC.out];go_num,by omega,by rw [show 33+(j+1)=cc+1 by have:=HCC.out;omega];exact HARM.out,HR1.out,hDlt,HRD2.out,by omega⟩
        case measure=>simp [intOf];omega
       ·
        rw [if_neg hge] at harm
        have HGE:Hid (g≠[]):=hge
        have hglI:(0:Int)<(g.length:Int):=by
         have:0<g.length:=List.length_pos_iff.2 hge
         omega
        obtain ⟨qi,qM,qE,hq⟩:∃ qi qM qE,refV m g R' D'=(qi,qM,qE):=⟨_,_,_,rfl⟩
        rw [hq] at harm
        simp only at harm
        have HQ:=A0 hq
        have HARM:=A0 harm
        have hqE:D'.length≤qE.length:=by
         have:=IT m g R' D'
         rw [hq] at this;exact this
        have hqF:qE.length≤500000:=by
         have:=Gy (IT m) r (List.range' (cc+1) (94 - (j+1))) (A ++ [⟨(cc:Int),(qi:Int)⟩]) qM qE
         rw [harm] at this;omega
        have hqM:qM.length=qE.length:=by
         have:=M5 m g R' D' HRD2.out
         rw [hq] at this;exact this
        have HQM:=A0 hqM
        clear harm hge hq hqM
        go_upto_region 14 with (first
         | (go_at_call 112;refine HC.out.mono ?_;rintro e w1 ⟨v9,rfl,ho9,hb9⟩;obtain ⟨a9,c9,h9, -, -⟩:=ho9.form;rw [HGL.out] at h9;subst h9;have HR1:=A0 (HRLW.out.ext hb9);have HO9:=A0 ho9;clear ho9 hb9))
        have HRG:Hid (C3 wW B w1 ⟨a9,g.length,c9⟩ g):=C3.of_own (HO9.out.mono HRLW.out.bst.size) hgl
        clear HO9 HC
        have hw8:IntKind.u8.wrap (cc:Int)=cc:=IntWalk.u8_in _ (by omega)
        go_upto_region 15 with fail
        refine Am (by kernel_rfl) (Vs [vq (.pointer (some ⟨gn,1,none⟩)),vq (vA),vq (.int .i64 (cc:Int)),vq (.int .u8 (cc:Int)),vq (.pointer (some ⟨gB,0,none⟩)),vq (.slice a9 g.length c9),vq (.int .i64 (qi:Int)),vq (.agg #[.int .u8 (cc:Int),.int .i64 (qi:Int)]),Dm vA (⟨(cc:Int),(qi:Int)⟩:Ar),NVR wW w B gB gn (Value.slice na N.length nc).ownBlock N fb vA (A ++ [(⟨(cc:Int),(qi:Int)⟩:Ar)]) qE qM,vq (.pointer (some ⟨gn,1,none⟩))]) (Xs [Ext,Ext,Ext,Ext,Ext,Ext,(fun _ _=>True),Ext,Ext,(fun w w'=>w.grownBy w' vA.ownBlock),Ext]) (fun fL=>(fun b1 b2 W=>NTR wW w B gB gn (Value.slice na N.length nc).ownBlock N fb vA A v' vr' N' D' S' R' qE qM ⟨a9,g.length,c9⟩ g b1 b2 W) (fL 6) (fL 9)) [0,1,0,4,0,0,48,124,252,511,0] 89 11 (by kernel_rfl) rfl ?hV ?hS ?hop ?hfin ?hlast
        case hV =>
         refine Ay (Ac (by simp only [AU,List.not_mem_nil,or_false,forall_eq_or_imp,forall_eq];exact ⟨AY _,AY _,AY _,AY _,AY _,AY _,AY _,AY _,EG _ _,Ol,AY _⟩)) ?_
         exact ⟨.inl rfl,.inl rfl,.inl rfl,.inl rfl,.inl rfl,.inl rfl,.inr (B4 ⟨fun _ _=>fun _ _ _ h _=>h,fun _ _=>fun _ _ _ h _=>h,fun _ _=>fun _ _ _ h _=>h,fun _ _=>fun _ _ _ h _=>h,fun _ _=>fun _ _ _ h _=>h,fun _ _=>fun _ _ _ h _=>h,fun h=>absurd rfl h,fun _ h=>absurd h (by decide),fun _ h=>absurd h (by decide),fun _ h=>absurd h (by decide),fun _ _=>fun _ _ _ h _=>h,trivial⟩),.inl rfl,.inl rfl,.inr (B4 ⟨fun _ _=>fun _ _ _ h _=>h,fun _ _=>fun _ _ _ h _=>h,fun _ _=>fun _ _ _ h _=>h,fun _ _=>fun _ _ _ h _=>h,fun _ _=>fun _ _ _ h _=>h,fun _ _=>fun _ _ _ h _=>h,fun _ _=>fun _ _ _ h _=>h,fun _ _=>fun _ _ _ h _=>h,fun _ _=>EH _ _,fun h=>absurd rfl h,fun _ _=>fun _ _ _ h _=>h,trivial⟩),.inl rfl,trivial⟩
        case hS =>
         intro fL hf
         show (fun b1 b2 W=>NTR wW w B gB gn (Value.slice na N.length nc).ownBlock N fb vA A v' vr' N' D' S' R' qE qM ⟨a9,g.length,c9⟩ g b1 b2 W) (fL 6) (fL 9) _
         rw [hf 6 (by decide),hf 9 (by decide)]
         exact NTR.ext false false _ _ ⟨HR1.out,HRG.out⟩ ⟨rfl,rfl,rfl,A3 _,fun _ _=>rfl⟩
        case hop =>
         refine ⟨?_,?c1,?_,?_,?_,?_,?c6,?_,?c8,?c9,?_,?_,trivial⟩
         all_goals first | rw [if_neg (by decide)] | rw [if_pos (by decide)]
         all_goals try exact True.intro
         all_goals try intro ac W fL hsz hfi hms hdn hS0 hdep hbase hund
         all_goals try have hS:(fun b1 b2 W=>NTR wW w B gB gn (Value.slice na N.length nc).ownBlock N fb vA A v' vr' N' D' S' R' qE qM ⟨a9,g.length,c9⟩ g b1 b2 W) (fL 6) (fL 9) W:=hS0
         all_goals try (have hfl6:fL 6=true:=hms 6 (by decide);rw [hfl6] at hS)
         all_goals try (have hfl6:fL 6=false:=(by first | exact hfi | exact hdn 6 (by decide) (by decide));rw [hfl6] at hS)
         all_goals try (have hfl9:fL 9=true:=hms 9 (by decide);rw [hfl9] at hS)
         all_goals try (have hfl9:fL 9=false:=(by first | exact hfi | exact hdn 9 (by decide) (by decide));rw [hfl9] at hS)
         all_goals try have hh7:=gdA ac 7 (.pointer (some ⟨gn,0,none⟩)) (hbase 7 (by kernel_rfl))
         all_goals try have hh8:=gdA ac 8 (.int .i64 (cc:Int)) (hbase 8 (by kernel_rfl))
         all_goals try have hh0:=gdA ac 0 (.pointer (some ⟨gB,0,none⟩)) (hbase 0 (by kernel_rfl))
         all_goals try have hh9:=gdA ac 9 (.slice a9 g.length c9) (hbase 9 (by kernel_rfl))
         all_goals try (have d71:ac.tmps.getD 71 undef=vA:=hdep 1 (by decide);have dd71:=d71;rw [A4] at dd71)
         all_goals try have d78:(Dm vA (⟨(cc:Int),(qi:Int)⟩:Ar)) (ac.tmps.getD 78 undef) W:=hdep 8 (by decide)
         all_goals try (have hdep:=DS hdep;simp [D1,Aa,vq] at hdep)
         all_goals try clear hbase hms hdn hund
         case c1 =>
          have hS1:(fun b1 b2 W=>NTR wW w B gB gn (Value.slice na N.length nc).ownBlock N fb vA A v' vr' N' D' S' R' qE qM ⟨a9,g.length,c9⟩ g b1 b2 W) ((upd fL 1) 6) ((upd fL 1) 9) W:=hS0
          obtain ⟨bx0,bx1⟩:=Ak (NTR.boxed hS).1
          refine AZ rfl (.inl ⟨_,W,?_,rfl,Ext.refl _,hS1⟩)
          clear hsz hS hS0 hS1 hfi;simp [go_sem,Act.eval, *]
         case c6 =>
          have hc60:=IH.out g a9 c9 v' vr' N' D' S' R' W hS.2 HGE.out HG1.out (by rw [HQ.out];exact hqF) HRD2.out hS.1.bst hS.1.bl
          rw [HQ.out] at hc60
          refine AZ rfl (.inr ⟨90,#[.pointer (some ⟨gB,0,none⟩),.slice a9 g.length c9],W,by (clear hsz hS hS0 hfi hc60;simp [go_sem,Act.eval, *]),?_⟩)
          refine hc60.mono ?_
          clear hc60
          rintro e w' hp
          obtain ⟨he,v2,vr2,N2,S2,hl2⟩:=RL.called hS.1 hp
          refine ⟨_,he,rfl,trivial,?_⟩
          show NTR wW w B gB gn (Value.slice na N.length nc).ownBlock N fb vA A v' vr' N' D' S' R' qE qM ⟨a9,g.length,c9⟩ g (upd fL 6 6) (upd fL 6 9) w'
          rw [show upd fL 6 6=true from if_pos rfl,show upd fL 6 9=fL 9 from if_neg (by decide),show fL 9=false from hfl9]
          exact ⟨v2,vr2,N2,S2,hl2⟩
         case c8 =>
          have hS1:(fun b1 b2 W=>NTR wW w B gB gn (Value.slice na N.length nc).ownBlock N fb vA A v' vr' N' D' S' R' qE qM ⟨a9,g.length,c9⟩ g b1 b2 W) ((upd fL 8) 6) ((upd fL 8) 9) W:=hS0
          have hlt62:vA.ownBlock≠some W.heap.size:=fun e=>by
           obtain ⟨v2,vr2,N2,S2,hl2⟩:=hS
           have:=hl2.own.lt _ e;omega
          refine AZ rfl (.inl ⟨.slice (some ⟨W.heap.size,0,none⟩) 1 1,W.alloc (.cells #[.int .u8 (cc:Int),.int .i64 (qi:Int)] 155),?_,⟨_,rfl,heap_alloc_new _ _,hlt62⟩,(Below.refl _ _).alloc (A3 _) _,(show (fun b1 b2 W=>NTR wW w B gB gn (Value.slice na N.length nc).ownBlock N fb vA A v' vr' N' D' S' R' qE qM ⟨a9,g.length,c9⟩ g b1 b2 W) ((upd fL 8) 6) ((upd fL 8) 9) _ by
           rw [show upd fL 8 6=fL 6 from if_neg (by decide),show upd fL 8 9=fL 9 from if_neg (by decide)]
           exact NTR.ext _ _ _ _ hS0 ((Below.refl _ _).alloc (A3 _) _))⟩)
          clear hsz hS hS0 hS1 hfi;simp [go_sem,Act.eval, *]
         case c9 =>
          obtain ⟨g62,e62,hg62,hn62⟩:=d78
          obtain ⟨v2,vr2,N2,S2,hl2⟩:=hS
          refine AZ rfl ((BN DF (.tmp 71) (.tmp 78) rfl (Ai d71) hl2.own ⟨g62,0,none⟩ 1 [(⟨(cc:Int),(qi:Int)⟩:Ar)] (Ai e62) (An hg62) (by simp only [AC];omega) hl2.fr.size).mono ?_)
          rintro va w' ⟨ho,hgr,hat⟩
          refine ⟨⟨v2,vr2,N2,S2,hl2.app hBs hgr,ho,fun y hy g hg e=>?_⟩,hgr,?_⟩
          ·
           rcases hat with h1 | h1
           · rw [h1] at e;exact hl2.apart y hy g hg e
           ·
            rw [h1] at e
            injection e with e
            have:=hl2.toRL0.rows_lt y hy g hg;omega
          ·
           show NTR wW w B gB gn (Value.slice na N.length nc).ownBlock N fb vA A v' vr' N' D' S' R' qE qM ⟨a9,g.length,c9⟩ g (upd fL 9 6) (upd fL 9 9) w'
           rw [show upd fL 9 6=fL 6 from if_neg (by decide),show upd fL 9 9=true from if_pos rfl,show fL 6=true from hfl6]
           trivial
         all_goals (refine AZ rfl (.inl ⟨_,W,?_,rfl,Ext.refl _,hS0⟩);clear hsz hS hS0 hfi;simp [go_sem,Act.eval, *];done)
        case hfin =>
         intro h;exact absurd h (by decide)
        case hlast =>
         intro _ ac W hsz hdf fL hf hS0 hv hbase
         have hS:(fun b1 b2 W=>NTR wW w B gB gn (Value.slice na N.length nc).ownBlock N fb vA A v' vr' N' D' S' R' qE qM ⟨a9,g.length,c9⟩ g b1 b2 W) (fL 6) (fL 9) W:=hS0
         clear hS0
         rw [hf 6 (by decide),hf 9 (by decide)] at hS
         have hst:ac.tmps.getD 80 undef=.pointer (some ⟨gn,1,none⟩):=hv 10 (by decide)
         have hnv:NVR wW w B gB gn (Value.slice na N.length nc).ownBlock N fb vA (A ++ [(⟨(cc:Int),(qi:Int)⟩:Ar)]) qE qM (ac.tmps.getD 79 undef) W:=hv 9 (by decide)
         obtain ⟨v2,vr2,N2,S2,hl2,ho2,hap2⟩:=hnv
         obtain ⟨xb,xc2,hxa, -, -⟩:=ho2.form
         rw [hxa] at ho2 hap2
         obtain ⟨bx0,bx1⟩:=Ak hl2.box
         refine BW rfl rfl rfl rfl (Ai hst) (Ai hxa) (by simp [World.frozen?,hl2.box]) bx1 (by kernel_rfl) ?_
         have hl3:=hl2.setBox (i:=1) (fin':=fb) (y:=.slice xb (A ++ [(⟨(cc:Int),(qi:Int)⟩:Ar)]).length xc2) hBs rfl ho2 hap2
         obtain ⟨wz2,hwz2⟩:∃ wz2,W.setCell ⟨gn,1,none⟩ (.slice xb (A ++ [(⟨(cc:Int),(qi:Int)⟩:Ar)]).length xc2)=wz2:=⟨_,rfl⟩
         rw [hwz2] at hl3 ⊢
         have HL3:=A0 hl3
         clear hS hl2 ho2 hap2 bx0 bx1 hl3 hwz2 hst
         obtain ⟨sx,hsx,hsA⟩:=Af [70,71,72,73,74,75,76,77,78,79,80] (by kernel_rfl) hsz hdf hbase
         rw [hsA]
         simp only [List.foldl]
         simp only [Act.put,List.setIfInBounds_toArray,List.set_cons_succ,List.set_cons_zero]
         clear hsA hsx hv hbase hsz hdf hf
         clear hxa hm256 hw8
         go_wp2_with fail
         go_roundw
         case rel=>exact ⟨j+1,_,_,v2,vr2,N2,qE,S2,qM,by rw [← HCC.out];go_num,by omega,by rw [show 33+(j+1)=cc+1 by have:=HCC.out;omega];exact HARM.out,HL3.out,by omega,HQM.out,by rw [AB];simp;omega⟩
         case measure=>simp [intOf];omega
      ·
       obtain rfl:j=94:=by omega
       have harm:=HARM.out
       rw [show 94 - 94=0 from rfl,List.range'_zero,DA] at harm
       have hcI:¬ ((33+94:Nat):Int)<127:=by decide
       obtain ⟨xb,xc2,rfl, -, -⟩:=HRLW.out.own.form
       have hNl':=HRLW.out.bst.len
       obtain ⟨gr,cr,hvr'⟩:∃ gr cr,v'=.slice (some ⟨gr,0,none⟩) N'.length cr:=by
        rcases HRLW.out.bst.own.blk with ⟨_,h0⟩ | ⟨g4,c5,h0, -, -, -⟩
        · rw [h0] at hNl';simp at hNl';omega
        · exact ⟨g4,c5,h0⟩
       subst hvr'
       have hlt5:N.length<N'.length:=by have:=HNL.out;omega
       have hidx5:=EM (some ⟨gr,0,none⟩) gr 0 N'.length cr N.length rfl hlt5
       simp only [Nat.zero_add] at hidx5
       have HHM:=A0 harm
       have HN':=A0 hNl'
       clear harm hNl' HARM
       go_upto_region 16 with fail
       refine Am (by kernel_rfl) (Vs [vq (.pointer (some ⟨gB,0,none⟩)),vq (.pointer (some ⟨gB,0,none⟩)),vq (.pointer (some ⟨gB,0,none⟩)),vq (.slice (some ⟨gr,0,none⟩) N'.length cr),vq (.int .i64 (N.length:Int)),vq (.agg #[.bool fb,.slice xb A.length xc2]),vq (.pointer (some ⟨gr,N.length*2,none⟩))]) (Xs []) (fun fL=>(fun W=>RL wW w B gB gn (Value.slice na N.length nc).ownBlock N fb (.slice xb A.length xc2) A (.slice (some ⟨gr,0,none⟩) N'.length cr) vr' N' D' S' R' W) ) [0,1,3,7,0,0,31] 89 7 (by kernel_rfl) rfl ?hV ?hS ?hop ?hfin ?hlast
       case hV =>
        refine Ay (Ac (by simp only [AU,List.not_mem_nil,or_false,forall_eq_or_imp,forall_eq];and_intros <;> exact AY _)) ?_
        exact trivial
       case hS =>
        intro fL hf
        show (fun W=>RL wW w B gB gn (Value.slice na N.length nc).ownBlock N fb (.slice xb A.length xc2) A (.slice (some ⟨gr,0,none⟩) N'.length cr) vr' N' D' S' R' W)  _
        exact HRLW.out.ext ⟨rfl,rfl,rfl,A3 _,fun _ _=>rfl⟩
       case hop =>
        refine ⟨?_,?_,?_,?_,?_,?_,?_,?_,trivial⟩
        all_goals first | rw [if_neg (by decide)] | rw [if_pos (by decide)]
        all_goals try exact True.intro
        all_goals try intro ac W fL hsz hfi hms hdn hS0 hdep hbase hund
        all_goals try have hS:(fun W=>RL wW w B gB gn (Value.slice na N.length nc).ownBlock N fb (.slice xb A.length xc2) A (.slice (some ⟨gr,0,none⟩) N'.length cr) vr' N' D' S' R' W)  W:=hS0
        all_goals try (
         obtain ⟨rp0,rp1⟩:=Ak hS.bst.rep
         obtain ⟨bx0,bx1⟩:=Ak hS.box)
        all_goals try have hh7:=gdA ac 7 (.pointer (some ⟨gn,0,none⟩)) (hbase 7 (by kernel_rfl))
        all_goals try have hh0:=gdA ac 0 (.pointer (some ⟨gB,0,none⟩)) (hbase 0 (by kernel_rfl))
        all_goals try have hh6:=gdA ac 6 (.int .i64 (N.length:Int)) (hbase 6 (by kernel_rfl))
        all_goals try (have hdep:=DS hdep;simp [D1,Aa,vq] at hdep)
        all_goals try clear hbase hms hdn hund
        all_goals (refine AZ rfl (.inl ⟨_,W,?_,rfl,Ext.refl _,hS0⟩);clear hsz hS hS0 hfi;simp [go_sem,Act.eval, *];done)
       case hfin =>
        intro h;exact absurd h (by decide)
       case hlast =>
        intro _ ac W hsz hdf fL hf hS0 hv hbase
        have hS:(fun W=>RL wW w B gB gn (Value.slice na N.length nc).ownBlock N fb (.slice xb A.length xc2) A (.slice (some ⟨gr,0,none⟩) N'.length cr) vr' N' D' S' R' W)  W:=hS0
        clear hS0
        have hst:ac.tmps.getD 87 undef=.pointer (some ⟨gr,N.length*2,none⟩):=hv 6 (by decide)
        have hnv:ac.tmps.getD 86 undef=.agg #[.bool fb,.slice xb A.length xc2]:=hv 5 (by decide)
        have q0:=hS.bst.own.cell Bz (i:=N.length) (j:=0) hlt5 (by decide)
        have q1:=hS.bst.own.cell Bz (i:=N.length) (j:=1) hlt5 (by decide)
        obtain ⟨cs,hcs⟩:=hS.bst.own.obj (g:=gr) rfl
        refine Jh rfl rfl rfl rfl (Ai hst) (Ai hnv) (by simp [World.frozen?,hcs]) (by simp [World.frozen?,hcs]) q0 q1 (by kernel_rfl) ?_
        have hl5:=hS.done hBs rfl hlt5
        have HL5:=A0 hl5
        obtain ⟨wz2,hwz2⟩:∃ wz2,(W.setCell ⟨gr,N.length*2,none⟩ (.bool fb)).setCell ⟨gr,N.length*2+1,none⟩ (.slice xb A.length xc2)=wz2:=⟨_,rfl⟩
        rw [hwz2] at HL5 ⊢
        clear hS q0 q1 hcs hl5 hwz2 hst hnv
        obtain ⟨sx,hsx,hsA⟩:=Af [81,82,83,84,85,86,87] (by kernel_rfl) hsz hdf hbase
        rw [hsA]
        simp only [List.foldl]
        simp only [Act.put,List.setIfInBounds_toArray,List.set_cons_succ,List.set_cons_zero]
        clear hsA hsx hv hbase hsz hdf hf
        go_wp2_with fail
        go_ret
        rw [HREF2.out,← HHM.out,HFB.out,← HNL.out]
        obtain ⟨N5,hl5⟩:=HL5.out
        exact RL0.post (q:=(N.length,R',D'.set N.length ⟨fb,A⟩)) hl5
theorem QN {L:List ByteArray} (hd:CP L):∀ i (hi:i<(ofF (Ah 0 L)).length),(ofF (Ah 0 L))[i].arcs.length≤1000:=fun i hi=>by
 obtain ⟨Mt,hgt, -⟩:=Hq hd.okR.1 hd.okR.2
 obtain ⟨r,_,_,h3⟩:=hgt.nd i hi
 rw [h3.len];have:=Kk r;omega
theorem IU {L:List ByteArray} (hd:CP L):(ofF (Ah 0 L)).length≤4200:=by
 have hle:=QG hd.okR.1
 have hln:(Ah 0 L).length=L.length:=by simp [Ah]
 have:=hd.2.1
 omega
set_option maxHeartbeats 800000 in
theorem Sn (L:List ByteArray) (n:Nat) (a:Option Addr) (cap:Nat) (w:World) (hR:Ba w a L) (hL:n=L.length) (hc:n≤cap) (hd:CP L) :
  Calls Tryz.prog 59 #[.slice a n cap] w fun e w'=>∃ a1 c1,e=.returned (.slice a1 (ofF (Ah 0 L)).length c1)∧(ofF (Ah 0 L)).length≤c1∧Bs w' a1 (ofF (Ah 0 L))∧Below w.heap.size w w':=by
 subst hL
 have HR:=A0 hR;have HD:=A0 hd
 have hln:(Ah 0 L).length=L.length:=by simp [Ah]
 have HLN:=A0 hln
 have h200:=hd.2.1
 clear hR hd hln
 obtain ⟨w2,hw2⟩:∃ w2,w2=w.alloc (Obj.cells #[Value.slice none 0 0,Value.slice none 0 0] 167):=⟨_,rfl⟩
 have HB2:Hid (Below w.heap.size w w2):=by
  show Below _ _ _
  rw [hw2]
  exact (Below.refl _ _).alloc (A3 _) _
 have HST:Hid (RSt w w2 w.heap.size w.heap.size (.slice none 0 0) (.slice none 0 0) [] [] [] []):=by
  show RSt _ _ _ _ _ _ _ _ _ _
  rw [hw2]
  exact ⟨heap_alloc_new _ _,Ab.nil _ _ _,rfl,fun k h=>by simp at h,Ab.nil _ _ _,rfl,fun k h=>by simp at h,A3 _⟩
 have HRI:Hid (C3 w w.heap.size w2 ⟨a,(Ah 0 L).length,cap⟩ (Ah 0 L)):=by
  refine ⟨rfl,by show (Ah 0 L).length≤cap;rw [HLN.out];exact hc,by rw [HLN.out];omega,.inl ?_⟩
  rw [J9];exact HR.out
 have hcall:=rnode_any w w.heap.size w.heap.size (A3 _) 21 (Ah 0 L) a cap (.slice none 0 0) (.slice none 0 0) [] [] [] [] w2 HRI.out HD.out.okR.1.2.2 HD.out.okR.2 (by
  have:=IU HD.out
  exact A8 this (by omega)) rfl HST.out HB2.out
 rw [HLN.out] at hcall
 have HC:=A0 hcall
 rw [hw2] at HC
 clear hcall
 go_enter Tryz.func59,Tryz.ntmps59
 go_upto_region 3 with (first
  | (go_at_call 90;refine HC.out.mono ?_;rintro e w3 ⟨v3,vr3,N3,S3,E3,rfl,hb3, -, -,hB3, -, -⟩;have HB3:=A0 hb3;have HW3:=A0 hB3;clear hb3 hB3))
 have hrep:=HB3.out.rep
 obtain ⟨a3,c3,hv3,hc3,hdw⟩:=QC.dawg (w:=w3) (B:=w.heap.size) (v:=v3) (D:=ofF (Ah 0 L)) ⟨N3,HB3.out.own,HB3.out.len,HB3.out.arcs⟩ (QN HD.out)
 subst hv3
 have HDW:=A0 hdw
 obtain ⟨r0,r1⟩:=Ak hrep
 clear hrep hdw
 go_wp2
 go_ret
 exact ⟨_,_,rfl,hc3,HDW.out,HW3.out⟩
def arB (x:Ar):UInt8:=UInt8.ofNat x.c.toNat
def EQ (rec:Int→Wd→Nat × List Wd→Nat × List Wd) (ws:Wd):List Ar→Nat × List Wd→Nat × List Wd
 | [],s=>s
 | x :: r,s=>if s.1=0 then s else EQ rec ws r (rec x.t (ws ++ [arB x]) s)
def
  listF (D:List Nd):Nat→Int→Wd→Nat × List Wd→Nat × List Wd
 | 0,_,_,s=>s
 | m+1,n,ws,s=>if s.1=0∨n<0∨(D.length:Int)≤n∨20<ws.length then (0,s.2) else
  EQ (listF D m) ws (D.getD n.toNat default).arcs (s.1 - 1,if (D.getD n.toNat default).fin=true then s.2 ++ [ws] else s.2)
theorem M6 {rec:Int→Wd→Nat × List Wd→Nat × List Wd} (hr:∀ n ws s,(rec n ws s).2.length+(rec n ws s).1≤s.2.length+s.1) (ws:Wd):∀ X s,(EQ rec ws X s).2.length+(EQ rec ws X s).1≤s.2.length+s.1
 | [],s=>A3 _
 | x :: r,s=>by
  rw [EQ]
  split
  · exact A3 _
  · exact A8 (M6 hr ws r _) (hr _ _ _)
theorem M7 (D:List Nd):∀ m n ws s,(listF D m n ws s).2.length+(listF D m n ws s).1≤s.2.length+s.1
 | 0,_,_,_=>A3 _
 | m
   + 1,n,ws,s=>by
  rw [listF]
  split
  · simp
  ·
   rename_i h
   have h0:s.1≠0:=fun e=>h (.inl e)
   refine A8 (M6 (M7 D m) ws _ _) ?_
   simp only
   split
   · rw [AB,AC];omega
   · omega
theorem Rj (ws:Wd) (c:UInt8):toB ws ++ toB [c]=toB (ws ++ [c]):=by
 refine bytes_inj ?_
 rw [ByteArray.toList_data_append]
 simp [toB]
def FrL (w w':World):Prop:=∀ (q:Nat) (cs:Array Value) (t:TypeId),w.heap[q]? = some (Obj.cells cs t (0,0))→t≠140→t≠9→w'.heap[q]? = w.heap[q]?
theorem FrL.trans {a b c:World} (h:FrL a b) (h2:FrL b c):FrL a c:=fun q cs t hq h3 h4=>by
 have e:=h q cs t hq h3 h4
 exact (h2 q cs t (e.trans hq) h3 h4).trans e
theorem FrL.of_ext {a b:World} (h:Ext a b):FrL a b:=fun q cs t hq _ _=>Below.block h q (A5.1 hq).1
structure Ce (wW w0 w:World) (B gX:Nat) (a:Option Addr) (nD cD left:Nat) (v:Value) (out:List Wd):Prop where
 rep:w.heap[gX]? = some (.cells #[.slice a nD cD,.int .i64 (left:Int),v] 140 (0,0))
 own:Ab B8 w B v (BK out)
 gX:B≤gX
 bl:Below B wW w
 fr:FrL w0 w
theorem Ce.ext {wW w0 w w':World} {B gX:Nat} {a:Option Addr} {nD cD left:Nat} {v:Value} {out:List Wd} (h:Ce wW w0 w B gX a nD cD left v out) (hx:Ext w w'):Ce wW w0 w' B gX a nD cD left v out :=
 ⟨(Below.block hx gX (A5.1 h.rep).1).trans h.rep,h.own.later hx (A3 _),h.gX,h.bl.trans (Below.mono hx (A8 h.gX (Nat.le_of_lt (A5.1 h.rep).1))),h.fr.trans (FrL.of_ext hx)⟩
theorem Ce.size {wW w0 w:World} {B gX:Nat} {a:Option Addr} {nD cD left:Nat} {v:Value} {out:List Wd} (h:Ce wW w0 w B gX a nD cD left v out):B≤w.heap.size:=A8 h.gX (Nat.le_of_lt (A5.1 h.rep).1)
theorem Fa {w:World} {g:Nat} {a b c:Value} {t:TypeId} {f:Nat × Nat} (h:w.heap[g]? = some (.cells #[a,b,c] t f)):w.cell? ⟨g,0,none⟩=some a∧w.cell? ⟨g,1,none⟩=some b∧w.cell? ⟨g,2,none⟩=some c:=by
 refine ⟨?_,?_,?_⟩ <;> (rw [cell_of_row _ _ _ _ _ _ h];rfl)
theorem frz {w:World} {g i:Nat} {cs:Array Value} {t:TypeId} (h:w.heap[g]? = some (.cells cs t (0,0))):w.frozen? ⟨g,i,none⟩=false:=by simp [World.frozen?,h]
theorem Ce.setLeft {wW w0 w:World} {B gX:Nat} {a:Option Addr} {nD cD left l2:Nat} {v:Value} {out:List Wd} (h:Ce wW w0 w B gX a nD cD left v out):Ce wW w0 (w.setCell ⟨gX,1,none⟩ (.int .i64 (l2:Int))) B gX a nD cD l2 v out :=
 ⟨Aq h.rep rfl,h.own.keep fun g hg=>Below.heap_setCell _ _ _ _ (by
  obtain ⟨cs,hcs⟩:=h.own.obj hg
  exact At hcs h.rep (by decide)),h.gX,h.bl.setCell h.gX _,h.fr.trans fun q cs t hq h3 h4=>Below.heap_setCell _ _ _ _ (At hq h.rep h3)⟩
theorem Ce.setOut {wW w0 w w':World} {B gX:Nat} {a:Option Addr} {nD cD left:Nat} {v va:Value} {out:List Wd} {s:Wd} (h:Ce wW w0 w B gX a nD cD left v out) (ho:Ab B8 w' B va (BK out ++ [toB s])) (hg:w.grownBy w' v.ownBlock):Ce wW w0 (w'.setCell ⟨gX,2,none⟩ va) B gX a nD cD left va (out ++ [s]):=by
 have hrep:w'.heap[gX]? = _:=(hg.block gX (A5.1 h.rep).1 fun e=>by
  obtain ⟨cs2,hc2⟩:=h.own.obj e.symm
  exact At h.rep hc2 (by decide) rfl).trans h.rep
 have hrr:BK (out ++ [s])=BK out ++ [toB s]:=by simp [BK]
 have hoo:Ab B8 (w'.setCell ⟨gX,2,none⟩ va) B va (BK (out ++ [s])):=by
  rw [hrr]
  exact ho.keep fun g hg=>Below.heap_setCell _ _ _ _ (by
   obtain ⟨cs,hcs⟩:=ho.obj hg
   exact At hcs hrep (by decide))
 refine ⟨Aq hrep rfl,hoo,h.gX,(h.bl.grown hg h.size fun q hq=>h.own.ge q hq).setCell h.gX _,h.fr.trans fun q cs t hq h3 h4=>(Below.heap_setCell _ _ _ _ (At hq h.rep h3)).trans (hg.block q (A5.1 hq).1 fun e=>?_)⟩
 ·
  obtain ⟨cs2,hc2⟩:=h.own.obj e.symm
  exact At hq hc2 h4 rfl
theorem Ce.repO {wW w0 w w':World} {B gX:Nat} {a:Option Addr} {nD cD left:Nat} {v:Value} {out:List Wd} (h:Ce wW w0 w B gX a nD cD left v out) (hg:w.grownBy w' v.ownBlock):w'.heap[gX]? = some (.cells #[.slice a nD cD,.int .i64 (left:Int),v] 140 (0,0)) :=
 (hg.block gX (A5.1 h.rep).1 fun e=>by
  obtain ⟨cs2,hc2⟩:=h.own.obj e.symm
  exact At h.rep hc2 (by decide) rfl).trans h.rep
def TF (wW w0:World) (B gX:Nat) (a:Option Addr) (nD cD:Nat) (s:Nat × List Wd) (e:Ending) (w':World):Prop:=e=.returned (.tuple #[])∧∃ v',Ce wW w0 w' B gX a nD cD s.1 v' s.2
theorem Ce.called {wW w0 w w':World} {B gX:Nat} {a:Option Addr} {nD cD left l2:Nat} {v v2:Value} {out o2:List Wd} (h:Ce wW w0 w B gX a nD cD left v out) (h2:Ce wW w w' B gX a nD cD l2 v2 o2):Ce wW w0 w' B gX a nD cD l2 v2 o2:=⟨h2.rep,h2.own,h2.gX,h2.bl,h.fr.trans h2.fr⟩
theorem Ce.start {wW w0 w:World} {B gX:Nat} {a:Option Addr} {nD cD left:Nat} {v:Value} {out:List Wd} (h:Ce wW w0 w B gX a nD cD left v out):Ce wW w w B gX a nD cD left v out:=⟨h.rep,h.own,h.gX,h.bl,fun _ _ _ _ _ _=>rfl⟩
theorem El {D:List Nd} {m:Nat} {n:Int} {ws:Wd} {s:Nat × List Wd} (h:s.1=0∨n<0∨(D.length:Int)≤n∨20<ws.length):listF D (m+1) n ws s=(0,s.2):=by rw [listF,if_pos h]
def LNT (wW w0:World) (B gX:Nat) (a:Option Addr) (nD cD left:Nat) (v:Value) (out:List Wd) (b1:Bool) (w:World):Prop :=
 match b1 with
 | false=>Ce wW w0 w B gX a nD cD left v out
 | true=>True
theorem LNT.ext {wW w0:World} {B gX:Nat} {a:Option Addr} {nD cD left:Nat} {v:Value} {out:List Wd}:∀ (b1:Bool) (w w':World),LNT wW w0 B gX a nD cD left v out b1 w→Ext w w'→LNT wW w0 B gX a nD cD left v out b1 w':=by
 intro b1 w w' h hx
 cases b1 with
 | false=>exact Ce.ext h hx
 | true=>trivial
def LPx (wW w0:World) (B gX:Nat) (a:Option Addr) (nD cD:Nat) (s:Nat × List Wd) (v:Value) (w:World):Prop:=v=.tuple #[]∧∃ v',Ce wW w0 w B gX a nD cD s.1 v' s.2
theorem Om {wW w0:World} {B gX:Nat} {a:Option Addr} {nD cD:Nat} {s:Nat × List Wd}:Bp (LPx wW w0 B gX a nD cD s):=by
 rintro v w w' ⟨hv,v',h⟩ hx
 exact ⟨hv,v',h.ext hx⟩
def M8 (x:Int) (v:Value) (w:World):Prop:=∃ g,v=.slice (some ⟨g,0,none⟩) 1 1∧w.heap[g]? = some (.cells #[.int .u8 x] 5 (0,0))
theorem M9 (x:Int):Bp (M8 x):=by
 rintro v w w' ⟨g,rfl,h⟩ hx
 exact ⟨g,rfl,(Below.block hx g (A5.1 h).1).trans h⟩
theorem QO (x:Int):∀ v w w',M8 x v w→FrL w w'→M8 x v w':=by
 rintro v w w' ⟨g,rfl,h⟩ hx
 exact ⟨g,rfl,(hx g _ _ h (by decide) (by decide)).trans h⟩
set_option maxHeartbeats 1600000 in
set_option maxRecDepth 100000 in
theorem
    list_any (
         wW:World) (B gX:Nat) (a:Option Addr) (cD:Nat) (D:List Nd) (hWB:wW.heap.size≤B) (hD:Bs wW a D) (hDl:D.length≤9223372036854775807) (hC:Hs D):∀ (m:Nat) (n:Int) (ws:Wd) (left:Nat) (out:List Wd) (v:Value) (w:World), -9223372036854775808≤n→n≤9223372036854775807→ws.length≤21→22≤m+ws.length→out.length+left≤5000 →
  Ce wW w w B gX a D.length cD left v out→Calls Tryz.prog 69 #[.pointer (some ⟨gX,0,none⟩),.int .i64 n,.string (toB ws)] w (TF wW w B gX a D.length cD (listF D m n ws (left,out))):=by
 intro m
 induction m with
 | zero=>intro n ws left out v w _ _ h1 h2;exfalso;omega
 | succ m ih
       =>
  intro n ws left out v w hn1 hn2 hw21 hmw hol hL
  have HD:=A0 hD;have HL:=A0 hL;have IH:=A0 ih;have HC:=A0 hC
  obtain ⟨rp0,rp1,rp2⟩:=Fa hL.rep
  have fz:=fun i=>frz (i:=i) hL.rep
  have fz1:=fz 1
  obtain ⟨oa,oc,hv, -, -⟩:=hL.own.form
  subst hv
  have hss:(toB ws).size=ws.length:=by simp [toB,ByteArray.size]
  obtain ⟨s,hs⟩:∃ s,toB ws=s:=⟨_,rfl⟩
  have HS:=A0 hs
  rw [hs] at hss ⊢
  clear hD hL ih hC hs fz
  by_cases h0:left=0
  ·
   have HF:=A0 (El (D:=D) (m:=m) (n:=n) (ws:=ws) (s:=(left,out)) (.inl h0))
   have h0I:((left:Int) == 0)=true:=by simp [h0]
   clear h0 hss
   go_enter Tryz.func69,Tryz.ntmps69
   go_wp2
   go_end0
   rw [HF.out]
   exact ⟨rfl,_,HL.out.setLeft (l2:=0)⟩
  ·
   have h0I:(
         (left
            :
             Int) == 0)=false:=by simp [h0]
   by_cases h1:n<0
   ·
    have HF:=A0 (El (D:=D) (m:=m) (n:=n) (ws:=ws) (s:=(left,out)) (.inr (.inl h1)))
    clear h0 hss
    go_enter Tryz.func69,Tryz.ntmps69
    go_wp2
    go_end0
    rw [HF.out]
    exact ⟨rfl,_,HL.out.setLeft (l2:=0)⟩
   ·
    by_cases h2
          :
           (D.length:Int)≤n
    ·
     have HF:=A0 (El (D:=D) (m:=m) (n:=n) (ws:=ws) (s:=(left,out)) (.inr (.inr (.inl h2))))
     clear h0 hss
     go_enter Tryz.func69,Tryz.ntmps69
     go_wp2
     go_end0
     rw [HF.out]
     exact ⟨rfl,_,HL.out.setLeft (l2:=0)⟩
    ·
     by_cases h3
           :
            20<ws.length
     ·
      have HF:=A0 (El (D:=D) (m:=m) (n:=n) (ws:=ws) (s:=(left,out)) (.inr (.inr (.inr h3))))
      have h3I:(20:Int)<(s.size:Int):=by omega
      clear h0 hss h3
      go_enter Tryz.func69,Tryz.ntmps69
      go_wp2
      go_end0
      rw [HF.out]
      exact ⟨rfl,_,HL.out.setLeft (l2:=0)⟩
     ·
      have h3I:¬ (
             20:Int)<(s.size:Int):=by omega
      obtain ⟨k,rfl⟩:∃ k:Nat,n=k:=⟨n.toNat,by omega⟩
      have hk:k<D.length:=by omega
      obtain ⟨b,o,ha,hb,f0,aa,cc,f1,hXl,hX⟩:=HD.out.at hk
      obtain ⟨X,hXe⟩:∃ X,D[k].arcs=X:=⟨_,rfl⟩
      obtain ⟨fi,hfi⟩:∃ fi,D[k].fin=fi:=⟨_,rfl⟩
      have hcX:=HC.out k hk
      rw [hXe] at f1 hXl hX hcX
      rw [hfi] at f0
      have hgd:D.getD k default=D[k]:=by rw [AP,AA hk];rfl
      obtain ⟨FSt,hFS⟩:∃ FSt,EQ (listF D m) ws X (left - 1,if fi=true then out ++ [ws] else out)=FSt:=⟨_,rfl⟩
      have HF:Hid (listF D (m+1) (k:Int) ws (left,out)=FSt):=by
       show _=_
       rw [listF,if_neg (by simp only [not_or];exact ⟨h0,h1,h2,h3⟩),Int.toNat_natCast,hgd,hXe,hfi]
       exact hFS
      have HFS:=A0 hFS;have HX:=A0 hX;have HCX:=A0 hcX;have HF0:=A0 f0;have HF1:=A0 f1
      have hidx:=EM a b o D.length cD k ha hk
      have g0:=(HL.out.bl.cell (p:=⟨b,o+k*2,none⟩) (by show b<B;omega)).trans f0
      have hl1:1≤left:=by omega
      have hw20:ws.length≤20:=by omega
      have HSS:=A0 hss
      have hs20:s.size≤20:=by omega
      have hbB:b<B:=by omega
      have hgXB:=HL.out.gX
      clear h0 h1 h2 h3 ha hXe hfi hX hcX hgd hFS f0 f1 hb hss
      have hl1I:(left:Int) - 1=((left - 1:Nat):Int):=by omega
      have hneb:b≠gX:=by omega
      go_enter Tryz.func69,Tryz.ntmps69
      go_upto_region 3 with fail
      obtain ⟨w2,hw2⟩:∃ w2,w2=w.setCell ⟨gX,1,none⟩ (.int .i64 ((left - 1:Nat):Int)):=⟨_,rfl⟩
      have HL2:Hid (Ce wW w w2 B gX a D.length cD (left - 1) (.slice oa (BK out).length oc) out):=by
       have:=HL.out.setLeft (l2:=left - 1)
       rw [← hw2] at this;exact this
      rw [← hw2]
      clear hw2 rp0 rp1 rp2 fz1 g0
      have g2:=(HL2.out.bl.cell (p:=⟨b,o+k*2,none⟩) (by show b<B;omega)).trans HF0.out
      obtain ⟨rp0,rp1,rp2⟩:=Fa HL2.out.rep
      go_cut [47] (fun s47 wx=>∃ wz,wz=wx∧wz=w2∧s47=.bool fi)
      case first =>
       go_wp2
       go_meet
       exact ⟨_,rfl,rfl,rfl⟩
      case rest
           =>
       obtain ⟨wz,rfl,rfl,rfl⟩:=hcut
       apply_assumption
       obtain ⟨o2,ho2⟩:∃ o2,(if fi=true then out ++ [ws] else out)=o2:=⟨_,rfl⟩
       have HO2:=A0 ho2
       have hol2:o2.length+(left - 1)≤5000:=by
        rw [← ho2];split
        · rw [AB,AC];omega
        · omega
       clear ho2
       go_cut [0] (fun s0 wx=>∃ wz v2,wz=wx∧s0=.pointer (some ⟨gX,0,none⟩)∧Ce wW w wz B gX a D.length cD (left - 1) v2 o2)
       case first =>
        cases fi with
        | true =>
         have HO3:Hid (o2=out ++ [ws]):=by show _=_;rw [← HO2.out,if_pos rfl]
         have hxa7:Ext wz (wz.alloc (.cells #[.string s] 9)):=(Below.refl _ _).alloc (A3 _) _
         have HL7:=A0 (HL2.out.ext hxa7)
         have hrl:(BK out).length+1≤1000000000000:=by rw [DL];omega
         clear hxa7
         go_wp2_with (first
          | (at_builtin;go_loud (refine Aj Bd rfl _ _ rfl rfl HL7.out.own ⟨wz.heap.size,0,none⟩ 1 [s] rfl (An (heap_alloc_new _ _)) hrl HL7.out.size ?_;intro va w7 ho7 hg7 hat7;have hl8:=HL7.out.setOut (s:=ws) (va:=va) (by rw [HS.out];exact ho7) hg7;have hr8:=HL7.out.repO hg7;obtain ⟨xa,xc,hxa, -, -⟩:=ho7.form;rw [AB,AC] at hxa;subst hxa;have c7:=(Fa hr8).2.2;have f7:w7.frozen? ⟨gX,2,none⟩=false:=frz hr8;have HL8:=A0 hl8;clear hl8 hr8 ho7 hg7 hat7)))
         go_meet
         rw [HO3.out]
         exact ⟨_,_,rfl,rfl,HL8.out⟩
        | false =>
         have HO3:Hid (o2=out):=by show _=_;rw [← HO2.out,if_neg (by simp)]
         go_wp2
         go_meet
         rw [HO3.out]
         exact ⟨_,_,rfl,rfl,HL2.out⟩
       case rest
            =>
        obtain ⟨wq,v2,rfl,rfl,hl3⟩:=hcut
        have HL3:=A0 hl3
        have hfs:=HFS.out
        rw [HO2.out] at hfs
        have HFS3:=A0 hfs
        clear hl3 hfs rp0 rp1 rp2 g2
        go_wp2_with fail
        go_loopw [6] (fun s6 wr=>∃ (i l':Nat) (out':List Wd) (v':Value),s6=.int .i64 (i:Int)∧i≤X.length∧EQ (listF D m) ws (X.drop i) (l',out')=FSt∧Ce wW w wr B gX a D.length cD l' v' out'∧out'.length+l'≤5000) (fun s6 _=>X.length - (intOf s6).toNat)
        case atStart=>exact ⟨0,left - 1,o2,v2,rfl,Nat.zero_le _,HFS3.out,HL3.out,hol2⟩
        case round =>
         obtain ⟨i,l',out',v',rfl,hi,harm,hls,hol3⟩:=hrel
         have HARM:=A0 harm;have HLS:=A0 hls
         obtain ⟨rp0,rp1,rp2⟩:=Fa hls.rep
         have g1:=(hls.bl.cell (p:=⟨b,o+k*2+1,none⟩) (by show b<B;omega)).trans HF1.out
         clear harm hls
         by_cases hiX:i<X.length
         ·
          have hiI:(i:Int)<(X.length:Int):=by omega
          by_cases hl0:l'=0
          ·
           have hlI:¬ (0:Int)<(l':Int):=by omega
           have HR:Hid ((l',out')=FSt):=by
            show _=_
            have:=HARM.out
            rw [AE hiX,EQ,if_pos hl0] at this
            exact this
           clear hl0
           go_wp2
           go_end0
           rw [HF.out,← HR.out]
           exact ⟨rfl,_,HLS.out⟩
          ·
           have hlI:(0:Int)<(l':Int):=by omega
           obtain ⟨b3,o3,ha3,hb3,q0,q1⟩:=HX.out.at hiX
           have hidx3:=Dw aa b3 o3 X.length cc i ha3 hiX
           have hxr:=HCX.out X[i] (AG hiX)
           obtain ⟨x,hx⟩:∃ x,X[i]=x:=⟨_,rfl⟩
           have harm:=HARM.out
           rw [AE hiX,EQ,if_neg hl0,hx] at harm
           rw [hx] at q0 q1 hxr
           obtain ⟨xc,xt⟩:=x
           simp only at q0 q1 hxr harm
           obtain ⟨cb,hcb⟩:∃ cb,arB ⟨xc,xt⟩=cb:=⟨_,rfl⟩
           rw [hcb] at harm
           have hcbI:(cb.toNat:Int)=xc:=by
            rw [← hcb]
            show ((UInt8.ofNat xc.toNat).toNat:Int)=xc
            rw [UInt8.toNat_ofNat'];omega
           have HCB:=A0 hcbI;have HQ0:=A0 q0;have HQ1:=A0 q1;have HARM2:=A0 harm
           obtain ⟨t1,ht1⟩:∃ t1,toB [cb]=t1:=⟨_,rfl⟩
           have HT1:=A0 ht1
           have hsz2:¬ 9223372036854775807<s.size+t1.size:=by
            have:t1.size=1:=by rw [← ht1];rfl
            omega
           obtain ⟨hx1,hx2,hx3,hx4⟩:=hxr
           have hbB3:b3<B:=by omega
           clear ha3 hx harm hcb hcbI q0 q1 ht1 HARM hb3
           go_upto_region 8 with fail
           clear rp0 rp1 rp2 g1
           refine Am (by kernel_rfl) (Vs [vq (.pointer (some ⟨gX,0,none⟩)),vq (.pointer (some ⟨gX,0,none⟩)),vq (.pointer (some ⟨gX,0,none⟩)),vq (.pointer (some ⟨gX,0,none⟩)),vq (.slice a D.length cD),vq (.int .i64 (k:Int)),vq (.pointer (some ⟨b,o+k*2,none⟩)),vq (.pointer (some ⟨b,o+k*2+1,none⟩)),vq (.slice aa X.length cc),vq (.int .i64 (i:Int)),vq (.pointer (some ⟨b3,o3+i*2,none⟩)),vq (.pointer (some ⟨b3,o3+i*2+1,none⟩)),vq (.int .i64 xt),vq (.string s),vq (.pointer (some ⟨gX,0,none⟩)),vq (.pointer (some ⟨gX,0,none⟩)),vq (.pointer (some ⟨gX,0,none⟩)),vq (.slice a D.length cD),vq (.int .i64 (k:Int)),vq (.pointer (some ⟨b,o+k*2,none⟩)),vq (.pointer (some ⟨b,o+k*2+1,none⟩)),vq (.slice aa X.length cc),vq (.int .i64 (i:Int)),vq (.pointer (some ⟨b3,o3+i*2,none⟩)),vq (.pointer (some ⟨b3,o3+i*2,none⟩)),vq (.int .u8 xc),M8 xc,vq (.string t1),vq (.string (s ++ t1)),LPx wW w B gX a D.length cD (listF D m xt (ws ++ [cb]) (l',out'))]) (Xs [Ext,Ext,Ext,Ext,Ext,Ext,Ext,Ext,Ext,Ext,Ext,Ext,Ext,Ext,Ext,Ext,Ext,Ext,Ext,Ext,Ext,Ext,Ext,Ext,Ext,Ext,Ext,Ext,Ext,(fun w w'=>FrL w w')]) (fun fL=>(fun b1 W=>LNT wW w B gX a D.length cD l' v' out' b1 W) (fL 29)) [0,0,2,6,14,0,62,126,254,0,1022,2046,4094,0,0,16384,49152,114688,0,507904,1032192,2080768,0,8372224,16760832,33538048,67092480,134201344,268427264,536870911] 108 30 (by kernel_rfl) rfl ?hV ?hS ?hop ?hfin ?hlast
           case hV =>
            refine Ay (Ac (by simp only [AU,List.not_mem_nil,or_false,forall_eq_or_imp,forall_eq];exact ⟨AY _,AY _,AY _,AY _,AY _,AY _,AY _,AY _,AY _,AY _,AY _,AY _,AY _,AY _,AY _,AY _,AY _,AY _,AY _,AY _,AY _,AY _,AY _,AY _,AY _,AY _,M9 _,AY _,AY _,Om⟩)) ?_
            exact ⟨.inl rfl,.inl rfl,.inl rfl,.inl rfl,.inl rfl,.inl rfl,.inl rfl,.inl rfl,.inl rfl,.inl rfl,.inl rfl,.inl rfl,.inl rfl,.inl rfl,.inl rfl,.inl rfl,.inl rfl,.inl rfl,.inl rfl,.inl rfl,.inl rfl,.inl rfl,.inl rfl,.inl rfl,.inl rfl,.inl rfl,.inl rfl,.inl rfl,.inl rfl,.inr (B4 ⟨fun _ _=>fun _ _ _ h _=>h,fun _ _=>fun _ _ _ h _=>h,fun _ _=>fun _ _ _ h _=>h,fun _ _=>fun _ _ _ h _=>h,fun _ _=>fun _ _ _ h _=>h,fun _ _=>fun _ _ _ h _=>h,fun _ _=>fun _ _ _ h _=>h,fun _ _=>fun _ _ _ h _=>h,fun _ _=>fun _ _ _ h _=>h,fun _ _=>fun _ _ _ h _=>h,fun _ _=>fun _ _ _ h _=>h,fun _ _=>fun _ _ _ h _=>h,fun _ _=>fun _ _ _ h _=>h,fun _ _=>fun _ _ _ h _=>h,fun _ _=>fun _ _ _ h _=>h,fun _ _=>fun _ _ _ h _=>h,fun _ _=>fun _ _ _ h _=>h,fun _ _=>fun _ _ _ h _=>h,fun _ _=>fun _ _ _ h _=>h,fun _ _=>fun _ _ _ h _=>h,fun _ _=>fun _ _ _ h _=>h,fun _ _=>fun _ _ _ h _=>h,fun _ _=>fun _ _ _ h _=>h,fun _ _=>fun _ _ _ h _=>h,fun _ _=>fun _ _ _ h _=>h,fun _ _=>fun _ _ _ h _=>h,fun _ _=>QO _,fun _ _=>fun _ _ _ h _=>h,fun _ _=>fun _ _ _ h _=>h,fun h=>absurd rfl h,trivial⟩),trivial⟩
           case hS =>
            intro fL hf
            show (fun b1 W=>LNT wW w B gX a D.length cD l' v' out' b1 W) (fL 29) _
            rw [hf 29 (by decide)]
            exact LNT.ext false _ _ HLS.out ⟨rfl,rfl,rfl,A3 _,fun _ _=>rfl⟩
           case hop =>
            refine ⟨?_,?_,?_,?_,?_,?_,?_,?_,?_,?_,?_,?_,?_,?_,?_,?_,?_,?_,?_,?_,?_,?_,?_,?_,?_,?_,?c26,?c27,?_,?c29,trivial⟩
            all_goals first | rw [if_neg (by decide)] | rw [if_pos (by decide)]
            all_goals try intro ac W fL hsz hfi hms hdn hS0 hdep hbase hund
            all_goals try have hS:(fun b1 W=>LNT wW w B gX a D.length cD l' v' out' b1 W) (fL 29) W:=hS0
            all_goals try (have hfl29:fL 29=true:=hms 29 (by decide);rw [hfl29] at hS)
            all_goals try (have hfl29:fL 29=false:=(by first | exact hfi | exact hdn 29 (by decide) (by decide));rw [hfl29] at hS)
            all_goals try (
             have hSL:Ce wW w W B gX a D.length cD l' v' out':=hS
             obtain ⟨rp0,rp1,rp2⟩:=Fa hSL.rep
             have g1:=(hSL.bl.cell (p:=⟨b,o+k*2+1,none⟩) (by show b<B;omega)).trans HF1.out
             have q0:=(hSL.bl.cell (p:=⟨b3,o3+i*2,none⟩) (by show b3<B;omega)).trans HQ0.out
             have q1:=(hSL.bl.cell (p:=⟨b3,o3+i*2+1,none⟩) (by show b3<B;omega)).trans HQ1.out
             clear hSL)
            all_goals try have hh0:=gdA ac 0 (.pointer (some ⟨gX,0,none⟩)) (hbase 0 (by kernel_rfl))
            all_goals try have hh1:=gdA ac 1 (.int .i64 (k:Int)) (hbase 1 (by kernel_rfl))
            all_goals try have hh2:=gdA ac 2 (.string s) (hbase 2 (by kernel_rfl))
            all_goals try have hh6:=gdA ac 6 (.int .i64 (i:Int)) (hbase 6 (by kernel_rfl))
            all_goals try have d104:(M8 xc) (ac.tmps.getD 104 undef) W:=hdep 26 (by decide)
            all_goals try (have hdep:=DS hdep;simp [D1,Aa,vq] at hdep)
            all_goals try clear hbase hms hdn hund
            case c26 =>
             have hS1:(fun b1 W=>LNT wW w B gX a D.length cD l' v' out' b1 W) ((upd fL 26) 29) W:=hS0
             refine AZ rfl (.inl ⟨.slice (some ⟨W.heap.size,0,none⟩) 1 1,W.alloc (.cells #[.int .u8 xc] 5),?_,⟨_,rfl,heap_alloc_new _ _⟩,(Below.refl _ _).alloc (A3 _) _,(show (fun b1 W=>LNT wW w B gX a D.length cD l' v' out' b1 W) ((upd fL 26) 29) _ by
              rw [show upd fL 26 29=fL 29 from if_neg (by decide)]
              exact LNT.ext _ _ _ hS0 ((Below.refl _ _).alloc (A3 _) _))⟩)
             clear hsz hS hS0 hS1 hfi;simp [go_sem,Act.eval, *]
            case c27 =>
             have hS1:(fun b1 W=>LNT wW w B gX a D.length cD l' v' out' b1 W) ((upd fL 27) 29) W:=hS0
             obtain ⟨g62,e62,hg62⟩:=d104
             have hbr:DB W (some ⟨g62,0,none⟩) [cb]:=.inr ⟨g62,_,rfl,hg62,by simp [HCB.out]⟩
             have hcv:(convert 26 9 (.slice (some ⟨g62,0,none⟩) 1 1)).run Tryz.prog W=.ok (.string t1) W:=by
              have:=conv_bytes hbr 1
              rw [← HT1.out];exact this
             rw [A4] at e62
             refine AZ rfl (.inl ⟨_,W,?_,rfl,Ext.refl _,hS1⟩)
             clear hsz hS hS0 hS1 hfi hbr hg62 rp0 rp1 rp2 g1 q0 q1;simp [go_sem,Act.eval, *]
            case c29 =>
             have hc60:=IH.out xt (ws ++ [cb]) l' out' v' W hx3 hx4 (by rw [AB,AC];omega) (by rw [AB,AC];omega) hol3 (Ce.start hS)
             rw [← Rj,HS.out,HT1.out] at hc60
             refine AZ rfl (.inr ⟨69,#[.pointer (some ⟨gX,0,none⟩),.int .i64 xt,.string (s ++ t1)],W,by (clear hsz hS hS0 hfi hc60;simp [go_sem,Act.eval, *]),?_⟩)
             refine hc60.mono ?_
             clear hc60
             rintro e w' ⟨he,v2,hl2⟩
             refine ⟨_,he,⟨rfl,v2,Ce.called hS hl2⟩,hl2.fr,?_⟩
             show LNT wW w B gX a D.length cD l' v' out' (upd fL 29 29) w'
             rw [show upd fL 29 29=true from if_pos rfl]
             trivial
            all_goals (refine AZ rfl (.inl ⟨_,W,?_,rfl,Ext.refl _,hS0⟩);clear hsz hS hS0 hfi;simp [go_sem,Act.eval, *];done)
           case hlast =>
            intro h;exact absurd rfl h
           case hfin =>
            intro _ ac W hsz hdf fL hf hS0 hv hbase
            have hS:(fun b1 W=>LNT wW w B gX a D.length cD l' v' out' b1 W) (fL 29) W:=hS0
            clear hS0
            rw [hf 29 (by decide)] at hS
            obtain ⟨sx,hsx,hsA⟩:=Af [78,79,80,81,82,83,84,85,86,87,88,89,90,91,92,93,94,95,96,97,98,99,100,101,102,103,104,105,106,107] (by kernel_rfl) hsz hdf hbase
            have hr107:LPx wW w B gX a D.length cD (listF D m xt (ws ++ [cb]) (l',out')) (sx 107) W:=by rw [hsx 107];exact hv 29 (by decide)
            obtain ⟨-,v9,hl9⟩:=hr107
            have HL9:=A0 hl9
            clear hl9 hS
            rw [hsA]
            simp only [List.foldl]
            simp only [Act.put,List.setIfInBounds_toArray,List.set_cons_succ,List.set_cons_zero]
            clear hsA hsx hv hbase hsz hdf hf
            clear hsz2
            go_wp2_with fail
            go_roundw
            case rel=>exact ⟨i+1,_,_,v9,by go_num,by omega,HARM2.out,HL9.out,A8 (by have:=M7 D m xt (ws ++ [cb]) (l',out');omega) hol3⟩
            case measure=>simp [intOf];omega
         ·
          have HR:Hid ((l',out')=FSt):=by
           show _=_
           have:=HARM.out
           rw [List.drop_eq_nil_of_le (by omega),EQ] at this
           exact this
          have hiI:¬ (i:Int)<(X.length:Int):=by omega
          go_wp2
          go_end0
          rw [HF.out,← HR.out]
          exact ⟨rfl,_,HLS.out⟩
def CO (D:List Nd):Nat × List Wd:=listF D 22 0 [] (5000,[])
def On (D:List Nd):Bool:=decide (0<(CO D).1)
set_option maxHeartbeats 800000 in
theorem N9 (D:List Nd) (a:Option Addr) (c:Nat) (w:World) (hD:Bs w a D) (hDl:D.length≤9223372036854775807) (hC:Hs D) :
  Calls Tryz.prog 36 #[.slice a D.length c] w fun e w'=>∃ a1 c1,e=.returned (.tuple #[.slice a1 (CO D).2.length c1,.bool (On D)])∧Ab B8 w' w.heap.size (.slice a1 (CO D).2.length c1) (BK (CO D).2)∧Below w.heap.size w w':=by
 have HD:=A0 hD;clear hD
 obtain ⟨w2,hw2⟩:∃ w2,w2=w.alloc (Obj.cells #[.slice a D.length c,.int .i64 5000,.slice none 0 0] 140):=⟨_,rfl⟩
 have HST:Hid (Ce w w2 w2 w.heap.size w.heap.size a D.length c 5000 (.slice none 0 0) []):=by
  show Ce _ _ _ _ _ _ _ _ _ _ _
  refine ⟨by rw [hw2];exact heap_alloc_new _ _,Ab.nil _ _ _,A3 _,by rw [hw2];exact (Below.refl _ _).alloc (A3 _) _,fun _ _ _ _ _ _=>rfl⟩
 have hcall:=list_any w w.heap.size w.heap.size a c D (A3 _) HD.out hDl hC 22 0 [] 5000 [] (.slice none 0 0) w2 (by omega) (by omega) (by simp) (by simp) (by simp) HST.out
 have hq:listF D 22 0 [] (5000,[])=CO D:=rfl
 rw [hq,hw2] at hcall
 clear hq
 obtain ⟨LF,hLF⟩:∃ LF,CO D=LF:=⟨_,rfl⟩
 have HFW:Hid (On D=decide (0<LF.1)):=by show _=_;rw [On,hLF]
 rw [hLF] at hcall
 rw [hLF]
 obtain ⟨lf,ou⟩:=LF
 have HC:=A0 hcall
 clear hcall hLF HST hw2
 simp only at HFW ⊢
 have hem:toB []=⟨#[]⟩:=rfl
 rw [hem] at HC
 clear hem
 go_enter Tryz.func36,Tryz.ntmps36
 go_upto_region 3 with (first
  | (go_at_call 69;refine HC.out.mono ?_;rintro e w3 ⟨rfl,v3,hl3⟩;obtain ⟨a1,c1,hv3, -, -⟩:=hl3.own.form;subst hv3;have HL3:=A0 hl3;clear hl3))
 obtain ⟨rp0,rp1,rp2⟩:=Fa HL3.out.rep
 clear HC
 go_quiet (fail)
 go_wp2
 go_ret2
 have hlen:=DL ou
 have hdr:∀ k,Ext w3 (w3.drewN k):=fun k=>below_drewN (Below.refl _ _) k
 refine ⟨a1,c1,?_,?_,HL3.out.bl.trans (Below.mono (hdr nq) HL3.out.size)⟩
 · rw [HFW.out,← hlen];rfl
 · rw [← hlen];exact HL3.out.own.later (hdr nq) (A3 _)
def JA (ws:Wd) (l:Wd):ByteArray × Bool:=(toB (ws ++ l),true)
theorem Fb (c:Nat) (g:Rst) (G:List (Nat × Rst)):Fq ((c,g) :: G)=g.map (UInt8.ofNat c :: ·) ++ Fq G:=rfl
theorem Oo {Mt:List Rst} {n:Nat} {rec:Int→List UInt8→List (ByteArray × Bool) × Bool} {ws:Wd}:∀ {G:List (Nat × Rst)} {X:List Ar},Cq Mt n G X →
  (∀ (c t:Nat) (g:Rst),(c,g)∈G→t<n→Mt[t]? = some g→rec (t:Int) (ws ++ [UInt8.ofNat c])=(g.map (JA (ws ++ [UInt8.ofNat c])),true))→Dh rec ws X=((Fq G).map (JA ws),true):=by
 intro G X hA
 induction hA with
 | nil=>intro _;rfl
 | @cons c t g G X h1 h2 h3 _ ih =>
  intro hr
  have h:=hr c t g (by simp) h2 h3
  have ih2:=ih fun c t g hg=>hr c t g (List.mem_cons_of_mem _ hg)
  have e:UInt8.ofNat (c:Int).toNat=UInt8.ofNat c:=by rw [Int.toNat_natCast]
  rw [Dh]
  simp only [e,h,if_pos,ih2]
  rw [Fb,List.map_append,List.map_map]
  have:(JA ws ∘ fun x=>UInt8.ofNat c :: x)=JA (ws ++ [UInt8.ofNat c]):=by
   funext l
   simp [JA]
  rw [this]
theorem So {r:Rst} (h:OkR r) (hf:E7 r=false):grp r≠[]:=by
 intro e
 have:=recon h.1 h.2.1
 rw [hf,e] at this
 simp [Fq] at this
 exact h.2.2 this
theorem OkR.fst {r:Rst} (h:OkR r):∃ s,s∈r:=List.exists_mem_of_ne_nil _ h.2.2
theorem
    visit_tab {Mt:List Rst} {E:List Nd} (hT:Sh Mt E):∀ (m k:Nat) (r:Rst) (ws:Wd),Mt[k]? = some r→(∀ s∈r,s.length<m)→(∀ s∈r,ws.length+s.length≤20)→visitL E m (k:Int) ws=(r.map (JA ws),true)
 | 0,k,r,ws,hk,hm,_=>by
  exfalso
  have hok:=hT.ok r (List.mem_of_getElem? hk)
  obtain ⟨s,hs⟩:=hok.fst
  have:=hm s hs;omega
 | m
   +
    1,k,r,ws,hk,hm,hw=>by
  have hok:=hT.ok r (List.mem_of_getElem? hk)
  have hkE:k<E.length:=by rw [← hT.len];exact (List.getElem?_eq_some_iff.1 hk).1
  obtain ⟨r',h1,h2,h3⟩:=hT.nd k hkE
  obtain rfl:r=r':=by rw [hk] at h1;injection h1
  have hgd:E.getD (k:Int).toNat default=E[k]:=by rw [Int.toNat_natCast,AP,AA hkE];rfl
  have hne:¬ ((E[k].fin=false)∧E[k].arcs=[]):=by
   rintro ⟨a,b⟩
   rw [h2] at a
   have:=h3.len
   rw [b] at this
   exact So hok a (List.eq_nil_of_length_eq_zero this.symm)
  obtain ⟨s0,hs0⟩:=hok.fst
  have hfail:IB E (k:Int) ws=false:=by
   unfold IB
   rw [hgd]
   have:=hw s0 hs0
   have e1:¬ (k:Int)<0:=by omega
   have e2:¬ (E.length:Int)≤k:=by omega
   have e3:¬ 20<ws.length:=by omega
   simp only [e1,e2,e3,decide_false,Bool.or_false,Bool.false_or,Bool.and_eq_false_iff,Bool.not_eq_false']
   by_cases hf:E[k].fin=true
   · exact .inl hf
   · exact .inr (decide_eq_false fun h=>hne ⟨by simpa using hf,h⟩)
  rw [visitL,if_neg (by rw [hfail];simp),hgd]
  have hA:=Oo (rec:=visitL E m) (ws:=ws) h3 fun c t g hg ht hM=>by
   obtain ⟨g1,g2,g3,g4⟩:=Gm hg
   simp only at g3
   refine visit_tab hT m t g _ hM (fun s hs=>?_) (fun s hs=>?_)
   ·
    rw [g3] at hs
    obtain ⟨b,_,h5⟩:=CS.1 hs
    have:=hm _ h5
    simp at this;omega
   ·
    rw [g3] at hs
    obtain ⟨b,_,h5⟩:=CS.1 hs
    have:=hw _ h5
    simp at this ⊢;omega
  rw [hA,h2]
  have hre:r.map (JA ws)=(if E7 r=true then [((⟨ws.toArray⟩:ByteArray),true)] else []) ++ (Fq (grp r)).map (JA ws):=by
   have hrc:=recon hok.1 hok.2.1
   refine (congrArg (List.map (JA ws)) hrc).trans ?_
   rw [List.map_append]
   congr 1
   split
   · simp [JA,toB]
   · rfl
  rw [hre]
theorem MA {L:List ByteArray} (hd:CP L):(visitL (ofF (Ah 0 L)) 22 0 []).1=L.map fun s=>(s,true):=by
 obtain ⟨Mt,hgt,h0⟩:=Hq hd.okR.1 hd.okR.2
 have h:=visit_tab hgt 22 0 (Ah 0 L) [] h0 (fun s hs=>by have:=hd.okR.2 s hs;omega) (fun s hs=>by have:=hd.okR.2 s hs;simp;omega)
 have e:((0:Nat):Int)=0:=rfl
 rw [e] at h
 rw [h]
 show (Ah 0 L).map (JA [])=_
 unfold Ah
 rw [List.map_map]
 congr 1
theorem Sp {L:List ByteArray} (hd:CP L):Di (visitL (ofF (Ah 0 L)) 22 0 []).1:=by
 rw [MA hd]
 refine ⟨fun x hx=>?_,by rw [AN];exact hd.2.1⟩
 obtain ⟨s,_,rfl⟩:=AH.1 hx
 rfl
theorem Sq {L:List ByteArray} (hd:CP L):Cd (visitL (ofF (Ah 0 L)) 22 0 []).1=L:=by
 rw [MA hd]
 unfold Cd
 rw [List.map_map]
 exact List.map_id'' (fun _=>rfl) _
theorem MB {L:List ByteArray} (hd:CP L):B5 (ofF (Ah 0 L))=L:=by rw [J8 (Sp hd),Sq hd]
def Em (r:Rst):Nat:=(r.map List.length).sum
theorem JB (a b:Rst):Em (a ++ b)=Em a+Em b:=by unfold Em;rw [List.map_append,List.sum_append]
theorem JC (c:UInt8):∀ r:Rst,Em (r.map (c :: ·))=r.length+Em r
 | []=>rfl
 | l :: r=>by
  have:=JC c r
  unfold Em at this ⊢
  simp only [List.map_cons,List.sum_cons,List.length_cons] at this ⊢
  omega
theorem Ns {k:Nat}:∀ {r:Rst},(∀ s∈r,s.length≤k)→Em r≤r.length*k
 | [],_=>Nat.zero_le _
 | l :: r,h=>by
  have h1:=Ns (r:=r) fun s hs=>h s (List.mem_cons_of_mem _ hs)
  have h2:=h l (by simp)
  have h3:(l :: r).length*k=r.length*k+k:=by rw [List.length_cons,Nat.succ_mul]
  unfold Em at h1 ⊢
  simp only [List.map_cons,List.sum_cons]
  omega
theorem Oq {Mt:List Rst} {n:Nat} {rec:Int→Wd→Nat × List Wd→Nat × List Wd} {ws:Wd}:∀ {G:List (Nat × Rst)} {X:List Ar},Cq Mt n G X →
  (∀ (c t:Nat) (g:Rst),(c,g)∈G→g≠[]∧(t<n→Mt[t]? = some g→∀ left out,1+Em g<left→∃ l2,left≤l2+(1+Em g)∧rec (t:Int) (ws ++ [UInt8.ofNat c]) (left,out)=(l2,out ++ g.map ((ws ++ [UInt8.ofNat c]) ++ ·)))) →
  ∀ left out,Em (Fq G)<left→∃ l2,left≤l2+Em (Fq G)∧EQ rec ws X (left,out)=(l2,out ++ (Fq G).map (ws ++ ·)):=by
 intro G X hA
 induction hA with
 | nil=>intro _ left out _;exact ⟨left,by omega,by simp [EQ,Fq]⟩
 | @cons c t g G X h1 h2 h3 _ ih =>
  intro hr left out hl
  obtain ⟨hg,h⟩:=hr c t g (by simp)
  rw [Fb,JB,JC] at hl
  have hgl:1≤g.length:=List.length_pos_iff.2 hg
  obtain ⟨l2,e1,e2⟩:=h h2 h3 left out (by omega)
  obtain ⟨l3,e3,e4⟩:=ih (fun c t g hg=>hr c t g (List.mem_cons_of_mem _ hg)) l2 (out ++ g.map ((ws ++ [UInt8.ofNat c]) ++ ·)) (by omega)
  refine ⟨l3,by rw [Fb,JB,JC];omega,?_⟩
  have ec:arB ⟨(c:Int),(t:Int)⟩=UInt8.ofNat c:=by unfold arB;rw [Int.toNat_natCast]
  rw [EQ,if_neg (by simp only;omega),ec,e2,e4,Fb,List.map_append,List.map_map,List.append_assoc]
  have:((fun l=>ws ++ l) ∘ fun x=>UInt8.ofNat c :: x)=fun l=>(ws ++ [UInt8.ofNat c]) ++ l:=by
   funext l
   simp
  rw [this]
theorem
    list_tab {Mt:List Rst} {E:List Nd} (hT:Sh Mt E):∀ (m k:Nat) (r:Rst) (ws:Wd) (left:Nat) (out:List Wd),Mt[k]? = some r→(∀ s∈r,s.length<m)→(∀ s∈r,ws.length+s.length≤20)→1+Em r<left →
  ∃ l2,left≤l2+(1+Em r)∧listF E m (k:Int) ws (left,out)=(l2,out ++ r.map (ws ++ ·))
 | 0,k,r,ws,left,out,hk,hm,_,_=>by
  exfalso
  have hok:=hT.ok r (List.mem_of_getElem? hk)
  obtain ⟨s,hs⟩:=hok.fst
  have:=hm s hs;omega
 | m
   +
    1,k,r,ws,left,out,hk,hm,hw,hl=>by
  have hok:=hT.ok r (List.mem_of_getElem? hk)
  have hkE:k<E.length:=by rw [← hT.len];exact (List.getElem?_eq_some_iff.1 hk).1
  obtain ⟨r',h1,h2,h3⟩:=hT.nd k hkE
  obtain rfl:r=r':=by rw [hk] at h1;injection h1
  have hgd:E.getD (k:Int).toNat default=E[k]:=by rw [Int.toNat_natCast,AP,AA hkE];rfl
  obtain ⟨s0,hs0⟩:=hok.fst
  have h0:=hw s0 hs0
  have hrc:=recon hok.1 hok.2.1
  have hsum:Em r=Em (Fq (grp r)):=by
   refine (congrArg Em hrc).trans ?_
   rw [JB]
   split <;> simp [Em]
  obtain ⟨l2,e1,e2⟩:=Oq (rec:=listF E m) (ws:=ws) h3 (fun c t g hg=>by
   obtain ⟨g1,g2,g3,g4⟩:=Gm hg
   simp only at g3 g4
   refine ⟨g4,fun ht hM left out hl=>list_tab hT m t g _ left out hM (fun s hs=>?_) (fun s hs=>?_) hl⟩
   ·
    rw [g3] at hs
    obtain ⟨b,_,h5⟩:=CS.1 hs
    have:=hm _ h5
    simp at this;omega
   ·
    rw [g3] at hs
    obtain ⟨b,_,h5⟩:=CS.1 hs
    have:=hw _ h5
    simp at this ⊢;omega) (left - 1) (if E7 r=true then out ++ [ws] else out) (by omega)
  refine ⟨l2,by omega,?_⟩
  rw [listF,if_neg (by simp only;omega),hgd,h2]
  simp only
  rw [e2]
  congr 1
  have hre:r.map (ws ++ ·)=(if E7 r=true then [ws] else []) ++ (Fq (grp r)).map (ws ++ ·):=by
   refine (congrArg (List.map (ws ++ ·)) hrc).trans ?_
   rw [List.map_append]
   congr 1
   split
   · simp
   · rfl
  rw [hre]
  split
  · rw [List.append_assoc]
  · rfl
theorem Or {L:List ByteArray} (hd:CP L):(CO (ofF (Ah 0 L))).2=Ah 0 L∧On (ofF (Ah 0 L))=true:=by
 obtain ⟨Mt,hgt,h0⟩:=Hq hd.okR.1 hd.okR.2
 have hs:=Ns (r:=Ah 0 L) (k:=20) fun s hs=>by have:=hd.okR.2 s hs;omega
 have hln:(Ah 0 L).length=L.length:=by simp [Ah]
 have:=hd.2.1
 obtain ⟨l2,e1,e2⟩:=list_tab hgt 22 0 (Ah 0 L) [] 5000 [] h0 (fun s hs=>by have:=hd.okR.2 s hs;omega) (fun s hs=>by have:=hd.okR.2 s hs;simp;omega) (by omega)
 have e:((0:Nat):Int)=0:=rfl
 rw [e] at e2
 unfold On CO
 rw [e2]
 refine ⟨?_,decide_eq_true (by simp only;omega)⟩
 simp
theorem MC {L:List ByteArray} {s:ByteArray}:0≤II L s↔s∈L:=by
 unfold II
 constructor
 ·
  intro h
  split at h
  ·
   rename_i h2
   have:=List.findIdx_getElem (w:=h2)
   simp only [decide_eq_true_eq] at this
   rw [← this];exact AG h2
  · omega
 ·
  intro h
  rw [if_pos (List.findIdx_lt_length_of_exists ⟨s,h,by simp⟩)]
  omega
structure BR where
 a:Option Addr
 n:Nat
 c:Nat
 Z:Nat→Int
instance:Inhabited BR:=⟨⟨none,0,0,fun _=>0⟩⟩
def FE (w:World) (a:Option Addr) (len:Nat) (Q:Nat→BR):Prop :=
 ∀ i,i<len→∃ b o,a=some ⟨b,o,none⟩∧b<w.heap.size∧w.cell? ⟨b,o+i,none⟩=some (.slice (Q i).a (Q i).n (Q i).c)∧Bt w (Q i).a (Q i).n (Q i).Z∧(Q i).n≤9223372036854775807
theorem FE.later {w w1:World} {a:Option Addr} {len:Nat} {Q:Nat→BR} {B:Nat} (h:FE w a len Q) (hb:Below B w w1) (hB:w.heap.size≤B):FE w1 a len Q:=fun i hi=>by
 obtain ⟨b,o,ha,h1,h2,h3,h4⟩:=h i hi
 exact ⟨b,o,ha,by have:=hb.size;omega,(hb.cell (p:=⟨b,o+i,none⟩) (by show b<B;omega)).trans h2,h3.later hb hB,h4⟩
theorem Kn (a:Option Addr) (b o len cap k:Nat) (ha:a=some ⟨b,o,none⟩) (hk:k<len) (w:World) :
  (Instr.indexAt 25 (.slice a len cap) (.int .i64 (k:Int))).run Tryz.prog w=.ok (.pointer (some ⟨b,o+k,none⟩)) w:=by
 subst ha
 have h0:(0:Int)≤(k:Int):=by omega
 have h1:(k:Int)<(len:Int):=by omega
 simp [go_sem,h0,h1]
theorem Ko {L:List ByteArray} (hd:CP L):Hs (ofF (Ah 0 L)):=fun i hi x hx=>by
 obtain ⟨Mt,hgt, -⟩:=Hq hd.okR.1 hd.okR.2
 obtain ⟨r,_,_,h3⟩:=hgt.nd i hi
 obtain ⟨⟨p1,p2,p3⟩,p4⟩:=h3.mem x hx
 have:=IU hd
 exact ⟨p1,by omega,by omega,by omega⟩
theorem Rk {L:List ByteArray} (hd:CP L):0<(ofF (Ah 0 L)).length:=by
 obtain ⟨Mt,hgt,h0⟩:=Hq hd.okR.1 hd.okR.2
 rw [← hgt.len];exact (List.getElem?_eq_some_iff.1 h0).1
theorem MD {L:List ByteArray} (h1:1≤L.length) (h2:L.length≤200) (hw:∀ x∈L,CZ x=true) (hs:L.Pairwise fun x y=>ltS x y=true):CP L :=
 ⟨h1,h2,fun i hi _=>⟨hw _ (AG hi),fun h0=>List.pairwise_iff_getElem.1 hs (i - 1) i (by omega) hi (by omega)⟩⟩
theorem Rm {a b:ByteArray} (h:ltS a b=false) (hne:a≠b):ltS b a=true:=by
 have:=GD a.toList b.toList
 unfold ltS at h ⊢
 have hab:(a.toList == b.toList)=false:=by
  cases e:(a.toList == b.toList)
  · rfl
  · exact absurd (by rw [Ee] at e;exact of_decide_eq_true e) hne
 rw [h,hab] at this
 simpa using this.symm
theorem QP {α:Type} {p:α→Bool} {x:α}:∀ {L:List α},x∈L.takeWhile p→p x=true
 | y
   :: r,h=>by
  rw [List.takeWhile_cons] at h
  split at h
  ·
   rename_i hy
   rcases AU.1 h with rfl | h
   · exact hy
   · exact QP h
  · cases h
theorem dw_head {α:Type} {p:α→Bool}:∀ {L:List α},L.dropWhile p=[]∨∃ y r,L.dropWhile p=y :: r∧p y=false
 | []=>.inl rfl
 | y :: r=>by
  rw [List.dropWhile_cons]
  split
  · exact dw_head
  · rename_i h;exact .inr ⟨y,r,rfl,by simpa using h⟩
theorem
    ins_sorted {L:List ByteArray} {s:ByteArray} (h:L.Pairwise fun x y=>ltS x y=true):(Fh L s).Pairwise fun x y=>ltS x y=true:=by
 unfold Fh
 split
 · exact h
 ·
  rename_i hn
  have hns:s ∉ L:=fun hm=>hn (MC.2 hm)
  have e:=List.takeWhile_append_dropWhile (p:=fun x=>ltS x s) (l:=L)
  rw [← e,List.pairwise_append] at h
  obtain ⟨h1,h2,h3⟩:=h
  have hd:∀ y∈L.dropWhile (fun x=>ltS x s),ltS s y=true:=by
   rcases dw_head (p:=fun x=>ltS x s) (L:=L) with e0 | ⟨z,r,e0,hz⟩
   · rw [e0];intro y hy;cases hy
   ·
    have hzm:z∈L:=by rw [← e,e0];simp
    have hsz:=Rm hz (fun e=>hns (e ▸ hzm))
    rw [e0] at h2
    intro y hy
    rw [e0] at hy
    rcases AU.1 hy with rfl | hy
    · exact hsz
    · exact Hr hsz ((AR.1 h2).1 y hy)
  refine List.pairwise_append.2 ⟨h1,AR.2 ⟨hd,h2⟩,fun x hx y hy=>?_⟩
  have hxs:ltS x s=true:=QP (p:=fun x=>ltS x s) hx
  rcases AU.1 hy with rfl | hy
  · exact hxs
  · exact Hr hxs (hd y hy)
theorem
    ins_mem {L:List ByteArray} {s x:ByteArray}:x∈Fh L s↔x=s∨x∈L:=by
 unfold Fh
 split
 ·
  rename_i h
  have:=MC.1 h
  exact ⟨.inr,fun h=>h.elim (fun e=>e ▸ this) id⟩
 ·
  have e:=List.takeWhile_append_dropWhile (p:=fun x=>ltS x s) (l:=L)
  constructor
  ·
   intro h
   rcases AV.1 h with h | h
   · exact .inr (by rw [← e];exact List.mem_append_left _ h)
   ·
    rcases AU.1 h with h | h
    · exact .inl h
    · exact .inr (by rw [← e];exact List.mem_append_right _ h)
  ·
   rintro (rfl | h)
   · simp
   ·
    rw [← e] at h
    rcases AV.1 h with h | h
    · exact List.mem_append_left _ h
    · exact List.mem_append_right _ (List.mem_cons_of_mem _ h)
theorem Rn {L:List ByteArray} (h1:1≤L.length) (h2:L.length≤200) (h3:(List.range L.length).all (fun i=>CZ (L.getD i ⟨#[]⟩) && (i == 0 || Op.bytesLess (L.getD (i - 1) ⟨#[]⟩).data.toList (L.getD i ⟨#[]⟩).data.toList))=true):CP L:=by
 refine ⟨h1,h2,fun i hi _=>?_⟩
 have h:=List.all_eq_true.1 h3 i (AX.2 hi)
 rw [AP,AA hi] at h
 simp only [Option.getD_some,Bool.and_eq_true,Bool.or_eq_true,beq_iff_eq] at h
 refine ⟨h.1,fun h0=>?_⟩
 rcases h.2 with h' | h'
 · omega
 ·
  rw [AP,AA (by omega)] at h'
  rw [ltS,ByteArray.toList_eq,ByteArray.toList_eq]
  exact h'
theorem QQ {w:World} {g:Nat} {cs:Array Value} {t:TypeId} {fz:Nat × Nat} {L:List ByteArray} (h:w.heap[g]? = some (.cells cs t fz)) (hcs:cs.toList=L.map Value.string):Ba w (some ⟨g,0,none⟩) L:=fun k hk=>by
 refine ⟨g,0,rfl,(A5.1 h).1,?_⟩
 rw [cell_of_row _ _ _ _ _ _ h,← Array.getElem?_toList,hcs]
 simp [hk]
structure GL (w:World) (a:Option Addr) (n c:Nat) (L:List ByteArray):Prop where
 dict:CP L
 len:n=(ofF (Ah 0 L)).length
 cap:n≤c
 rows:Bs w a (ofF (Ah 0 L))
theorem GL.later {w w1:World} {a:Option Addr} {n c:Nat} {L:List ByteArray} (h:GL w a n c L) (hb:Below w.heap.size w w1):GL w1 a n c L:=⟨h.dict,h.len,h.cap,h.rows.later hb (A3 _)⟩
theorem GL.go {w w1:World} {a:Option Addr} {n c:Nat} {L:List ByteArray} (h:GL w a n c L) (hb:Below w.heap.size w w1):GL w1 a n c L:=h.later hb
theorem GL.small {w:World} {a:Option Addr} {n c:Nat} {L:List ByteArray} (h:GL w a n c L):n≤4200∧1≤n:=by
 have h1:=IU h.dict;have h2:=Rk h.dict;have h3:=h.len;omega
theorem GL.big {w:World} {a:Option Addr} {n c:Nat} {L:List ByteArray} (h:GL w a n c L):(ofF (Ah 0 L)).length≤9223372036854775807:=by
 have h1:=IU h.dict;omega
theorem Ro {L:List ByteArray} {n:Nat} {a:Option Addr} {cap:Nat} {w:World} (hd:CP L) (hR:Ba w a L) (hL:n=L.length) (hc:n≤cap) (hT:Tab w) :
  Calls Tryz.prog 25 #[.slice a n cap] w fun e w'=>∃ a n c,e=.returned (.tuple #[.slice a n c,.int .i64 0])∧GL w' a n c L∧Below w.heap.size w w':=by
 refine (Oc L n a cap w hR hL (by have:=hd.2.1;omega) hc hT hd).mono ?_
 rintro e w1 ⟨a1,c1,rfl,hc1,h2,h3,hb⟩
 exact ⟨a1,_,c1,rfl,⟨hd,rfl,hc1,h3⟩,hb⟩
open Go.ChangeShapes Go.WideShapes Go.ChangeAt Go.RowKit
structure NA where
 a:Option Addr
 len:Nat
 cap:Nat
 Z:Nat→Int
def NA.val (x:NA):Value:=.slice x.a x.len x.cap
structure QR (w:World) (x:NA):Prop where
 by':Bt w x.a x.len x.Z
 le:x.len≤9223372036854775807
structure QS where
 a:Option Addr
 len:Nat
 cap:Nat
 Q:Nat→BR
structure QT (w:World) (x:QS):Prop where
 rows:FE w x.a x.len x.Q
 le:x.len≤9223372036854775807
section
variable {H:Type} {enc:TypeId × Value→H} {w:World} {base:Nat} {spare:Nat→Bool} {held:Bool} {d:DataW H} {p:List MemPlace} {r:Reach} {b0:Nat} {v:Value}
open Go.Deep in
theorem
    slice_bytes {fuel:Nat} {cs:List Value} {x:DataW H × List MemPlace} (h:DataW.trod enc Tryz.prog w base spare held fuel 26 cs=some x):∃ a len cap Z,cs=[.slice a len cap]∧Bt w a len Z∧len≤9223372036854775807:=by
 rcases open_slice1 Tryz.underlying26 (by kernel_rfl) h with ⟨h0,_⟩ | ⟨ad,l,c,m,n,V,D,Pl,h0,hba,hl,hcm,hmm,_,hel⟩
 · exact ⟨none,0,0,fun _=>0,h0,.inl rfl,by omega⟩
 ·
  have hlm:l≤m:=by rw [hmm];split <;> omega
  have hle:l≤9223372036854775807:=by unfold maxLen at hcm;omega
  have key:∀ i,i<l→∃ z,w.cell? (ad.add i)=some (.int .u8 z)∧0≤z∧z≤255:=fun i hi=>by
   obtain ⟨h1,h2⟩:=hel i (by omega)
   obtain ⟨z,hz,_,hw⟩:=DataW.trod_int Tryz.underlying5 h2
   have:V i=.int .u8 z:=List.head_eq_of_cons_eq hz
   rw [this] at h1
   exact ⟨z,h1,bounds_u8 hw⟩
  by_cases h9:l=0
  · exact ⟨some ad,l,c,fun _=>0,h0,.inl h9,hle⟩
  ·
   obtain ⟨Z,hZ⟩:=choose_lt (α:=Int) key
   obtain ⟨b,o,sp⟩:=ad
   have hs:=World.cell?_spot (hZ 0 (by omega)).1
   obtain rfl:sp=none:=by simpa [Addr.add] using hs
   refine ⟨some ⟨b,o,none⟩,l,c,Z,h0,.inr ⟨b,o,rfl,hle,?_,fun i hi=>?_⟩,hle⟩
   ·
    have:=World.block_lt_of_cell? w _ (hZ 0 (by omega)).1
    rwa [DD] at this
   ·
    have hk:=hZ i hi
    rw [addr_add] at hk
    exact hk
set_option maxRecDepth 100000 in
theorem NB (hv:Value.okWide Tryz.prog w r b0 26 v) (h:DataW.Trod enc Tryz.prog w base spare held 26 v d p):∃ x:NA,v=x.val∧QR w x:=by
 obtain ⟨a,len,cap,rfl⟩:=okWide_slice Tryz.underlying26 hv
 obtain ⟨f,hf⟩:=h
 have hf2:DataW.trod enc Tryz.prog w base spare held f 26 [.slice a len cap]=some (d,p):=by simpa [Value.cells] using hf
 obtain ⟨a1,l1,c1,Z,h0,h1,h2⟩:=slice_bytes hf2
 cases h0
 exact ⟨⟨a,len,cap,Z⟩,rfl,h1,h2⟩
end
theorem Tf:Tryz.prog.globalNamed "internal/strconv.uint64pow10" = some 0:=by kernel_rfl
theorem TG:(Tryz.prog.globals[0]?).map (·.type)=some 245:=by kernel_rfl
theorem QU {W:World} (h:laidMetH Tryz.prog [("math/bits.deBruijn32tab",Rows.laid_math_bits_deBruijn32tab),("math/bits.deBruijn64tab",Rows.laid_math_bits_deBruijn64tab),("internal/strconv.uint64pow10",Rows.laid_internal_strconv_uint64pow10)] W):Tab W:=by
 obtain ⟨ps,h1,_⟩:laidMet Tryz.prog [("math/bits.deBruijn32tab",Rows.laid_math_bits_deBruijn32tab),("math/bits.deBruijn64tab",Rows.laid_math_bits_deBruijn64tab),("internal/strconv.uint64pow10",Rows.laid_internal_strconv_uint64pow10)] W:=h
 obtain ⟨_,_,_,_,_,q1,_,_,_,_,h2,_⟩:=h1
 obtain ⟨_,_,_,_,_,q2,_,_,_,_,h3,_⟩:=h2
 obtain ⟨g',t',cs,fuel,p,q,hg',ht',hvar,hd,_,_⟩:=h3
 obtain rfl:=Option.some.inj (Tf.symm.trans hg')
 obtain rfl:=Option.some.inj (TG.symm.trans ht')
 have hd2:DataW.trod (fun _=>()) Tryz.prog W 0 (fun _=>true) false fuel 245 cs.toList=some (Lib.tabData .u64 Lib.pow10Tab,p):=hd
 show W.var? Tryz.prog "internal/strconv.uint64pow10" = _
 rw [hvar,← Lib.cells_of_tab Tryz.underlying245 Tryz.underlying221 (by kernel_rfl) (by kernel_rfl) hd2]
def putCells (w:World) (g:Nat) (cs:Array Value):World :=
 { w
   with heap:=w.heap.modify g fun
   | .cells _ t f=>.cells cs t f
   | o=>o }
noncomputable def Hu (os:Os):World :=
 putCells (putCells (putCells (World.holding Tryz.prog os ⟨#[],#[],[]⟩) 0 #[.int .u64 1,.int .u64 10,.int .u64 100,.int .u64 1000,.int .u64 10000,.int .u64 100000,.int .u64 1000000,.int .u64 10000000,.int .u64 100000000,.int .u64 1000000000,.int .u64 10000000000,.int .u64 100000000000,.int .u64 1000000000000,.int .u64 10000000000000,.int .u64 100000000000000,.int .u64 1000000000000000,.int .u64 10000000000000000,.int .u64 100000000000000000,.int .u64 1000000000000000000,.int .u64 10000000000000000000])
  1 #[.int .u8 0,.int .u8 1,.int .u8 28,.int .u8 2,.int .u8 29,.int .u8 14,.int .u8 24,.int .u8 3,.int .u8 30,.int .u8 22,.int .u8 20,.int .u8 15,.int .u8 25,.int .u8 17,.int .u8 4,.int .u8 8,.int .u8 31,.int .u8 27,.int .u8 13,.int .u8 23,.int .u8 21,.int .u8 19,.int .u8 16,.int .u8 7,.int .u8 26,.int .u8 12,.int .u8 18,.int .u8 6,.int .u8 11,.int .u8 5,.int .u8 10,.int .u8 9])
  2 #[.int .u8 0,.int .u8 1,.int .u8 56,.int .u8 2,.int .u8 57,.int .u8 49,.int .u8 28,.int .u8 3,.int .u8 61,.int .u8 58,.int .u8 42,.int .u8 50,.int .u8 38,.int .u8 29,.int .u8 17,.int .u8 4,.int .u8 62,.int .u8 47,.int .u8 59,.int .u8 36,.int .u8 45,.int .u8 43,.int .u8 51,.int .u8 22,.int .u8 53,.int .u8 39,.int .u8 33,.int .u8 30,.int .u8 24,.int .u8 18,.int .u8 12,.int .u8 5,.int .u8 63,.int .u8 55,.int .u8 48,.int .u8 27,.int .u8 60,.int .u8 41,.int .u8 37,.int .u8 16,.int .u8 46,.int .u8 35,.int .u8 44,.int .u8 21,.int .u8 52,.int .u8 32,.int .u8 23,.int .u8 11,.int .u8 54,.int .u8 26,.int .u8 40,.int .u8 15,.int .u8 34,.int .u8 20,.int .u8 31,.int .u8 10,.int .u8 25,.int .u8 14,.int .u8 19,.int .u8 9,.int .u8 13,.int .u8 8,.int .u8 7,.int .u8 6]
theorem QV (os:Os) (args:Array Value):laidMet Tryz.prog [("math/bits.deBruijn32tab",Rows.laid_math_bits_deBruijn32tab),("math/bits.deBruijn64tab",Rows.laid_math_bits_deBruijn64tab),("internal/strconv.uint64pow10",Rows.laid_internal_strconv_uint64pow10)] ((Hu os).forCall (fun _ _=>0) ⟨#[],args,[]⟩).memory :=
 laidMet_of_run' 8 (by kernel_rfl) (by kernel_rfl)
end Go.Proofs.YthjmdgejnakcmaaGreatDoor
