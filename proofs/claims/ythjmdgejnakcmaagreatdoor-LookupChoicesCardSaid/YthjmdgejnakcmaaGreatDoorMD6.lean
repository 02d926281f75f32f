/- Texts that the claims share: DRef, DOf, DList, DSame, DListed, DHas, DVis, DMake, DFacts, DLit, DLawK, DViews. -/
import Derived.Laws.Concat
import Derived.Deep.CutBlock
import Derived.Deep.QuietTactic
import Derived.BigQuiet
import Derived.Laws.RangeString
import Derived.Laws.Strings3
import Derived.Deep.Strs
import Derived.Test.YthjmdgejnakcmaaGreatDoorMD5
import Derived.Test.YthjmdgejnakcmaaGreatDoorMD1
import Derived.Test.YthjmdgejnakcmaaGreatDoorMA1
namespace Go.Proofs.YthjmdgejnakcmaaGreatDoor
open Go.RowKit Go.WideShapes
set_option linter.unusedVariables false
set_option linter.unusedSimpArgs false
theorem idx_rests (g len cap k:Nat) (hk:k<len) (w:World) :
  (Instr.indexAt 165 (.slice (some ⟨g,0,none⟩) len cap) (.int .i64 (k:Int))).run Tryz.prog w=.ok (.pointer (some ⟨g,k,none⟩)) w:=by
 have h0:(0:Int)≤(k:Int):=by omega
 have h1:(k:Int)<(len:Int):=by omega
 simp [go_sem,h0,h1]
theorem wpOp_store_nd {P:Program} {ops:Array Oper} {Q:Exit→Act→World→Prop} {L:Nat} {K:Act→World→Prop} {o:Oper} {A:Act} {W:World} {ty:TypeId} {p v:Operand} {g i:Nat} {f:Bool} {x' y':Value} {a:Option Addr} {k c:Nat}
  (ho:ops[L]? = some o) (hg:o.guard=none) (hop:o.op=.store ty p v) (hd:o.dst=none) (hp:A.eval p=.pointer (some ⟨g,i,none⟩)) (hv:A.eval v=.agg #[.bool f,.slice a k c]) (hf0:W.frozen? ⟨g,i,none⟩=false) (hf1:W.frozen? ⟨g,i+1,none⟩=false) (c0:W.cell? ⟨g,i,none⟩=some x') (c1:W.cell? ⟨g,i+1,none⟩=some y') (hsz:(sizeOf ty).run P W=.ok 2 W)
  (hK:K A ((W.setCell ⟨g,i,none⟩ (.bool f)).setCell ⟨g,i+1,none⟩ (.slice a k c))):wpOp P ops Q L K A W:=by
 unfold wpOp
 rw [ho]
 have hw:Region.wanted o (yielded ops A.tmps)=true:=by unfold Region.wanted;rw [hg]
 simp only [hw,if_pos]
 refine .inl ?_
 unfold Oper.wp execOp
 simp only [hop,hp,hv]
 simp [go_sem,hf0,hf1,c0,c1,hsz]
 rw [hd]
 exact hK
def NTR (wW w0:World) (B gB gn:Nat) (vb0:Option Nat) (N0:List NV) (fin:Bool) (vA:Value) (A:List Ar) (v vr:Value) (N:List NV) (D:List Nd) (S:List SV) (R:List Rst) (D2:List Nd) (R2:List Rst) (x:SV) (g:Rst) (b1 b2:Bool) (w:World):Prop :=
 match b1,b2 with
 | false,_=>RL wW w0 B gB gn vb0 N0 fin vA A v vr N D S R w∧RestIn wW B w x g
 | true,false=>∃ v2 vr2 N2 S2,RL wW w0 B gB gn vb0 N0 fin vA A v2 vr2 N2 D2 S2 R2 w
 | true,true=>True
def NVR (wW w0:World) (B gB gn:Nat) (vb0:Option Nat) (N0:List NV) (fin:Bool) (vA:Value) (A2:List Ar) (D2:List Nd) (R2:List Rst) (va:Value) (w:World):Prop :=
 ∃ v2 vr2 N2 S2,RL1 wW w0 B gB gn vb0 N0 fin vA v2 vr2 N2 D2 S2 R2 w∧OwnG rowArc w w0.heap.size va A2∧∀ x∈N2,∀ g,nvB x=some g→va.ownBlock≠some g
section
variable {wW w0:World} {B gB gn:Nat} {vb0:Option Nat} {N0:List NV} {fin:Bool} {vA:Value} {A:List Ar} {v vr:Value} {N:List NV} {D D2:List Nd} {S:List SV} {R R2:List Rst} {x:SV} {g:Rst}
theorem NTR.ext:∀ (b1 b2:Bool) (w w':World),NTR wW w0 B gB gn vb0 N0 fin vA A v vr N D S R D2 R2 x g b1 b2 w→Ext w w'→NTR wW w0 B gB gn vb0 N0 fin vA A v vr N D S R D2 R2 x g b1 b2 w':=by
 intro b1 b2 w w' h hx
 cases b1 with
 | false=>exact ⟨h.1.ext hx,h.2.keep fun q cs hq=>Below.block hx q (Array.getElem?_eq_some_iff.1 hq).1⟩
 | true =>
  cases b2 with
  | false =>
   obtain ⟨v2,vr2,N2,S2,h2⟩:=h
   exact ⟨v2,vr2,N2,S2,h2.ext hx⟩
  | true=>trivial
theorem NTR.boxed {b1:Bool} {w:World} (h:NTR wW w0 B gB gn vb0 N0 fin vA A v vr N D S R D2 R2 x g b1 false w):w.heap[gn]? = some (.cells #[.bool fin,vA] 153 (0,0))∧w0.heap.size≤w.heap.size:=by
 cases b1 with
 | false=>exact ⟨h.1.box,h.1.fr.size⟩
 | true =>
  obtain ⟨v2,vr2,N2,S2,h2⟩:=h
  exact ⟨h2.box,h2.fr.size⟩
theorem nvr_stays {A2:List Ar}:Stays (NVR wW w0 B gB gn vb0 N0 fin vA A2 D2 R2):=by
 rintro va w w' ⟨v2,vr2,N2,S2,h1,h2,h3⟩ hx
 exact ⟨v2,vr2,N2,S2,h1.ext hx,h2.later hx (Nat.le_refl _),h3⟩
end
theorem idx_strs0a (a:Option Addr) (b o len cap:Nat) (ha:a=some ⟨b,o,none⟩) (hk:0<len) (w:World) :
  (Instr.indexAt 37 (.slice a len cap) (.int .i64 0)).run Tryz.prog w=.ok (.pointer (some ⟨b,o,none⟩)) w:=by
 subst ha;exact idx_strs0 b o len cap hk w
set_option maxHeartbeats 1600000 in
set_option maxRecDepth 100000 in
theorem
    rnode_any
         (wW
           :
            World) (B gB:Nat) (hWB:wW.heap.size≤B):∀ (m:Nat) (r:Rst) (a:Option Addr) (c:Nat) (v vr:Value) (N:List NV) (D:List Nd) (S:List SV) (R:List Rst) (w:World),RestIn wW B w ⟨a,r.length,c⟩ r→r≠[]→(∀ s∈r,s.length<m)→(refV m r R D).2.2.length≤500000→R.length=D.length →
  RSt wW w B gB v vr N D S R→Below B wW w→Calls Tryz.prog 90 #[.pointer (some ⟨gB,0,none⟩),.slice a r.length c] w (RPost wW B gB (refV m r R D) v N w):=by
 intro m
 induction m with
 | zero =>
  intro r a c v vr N D S R w _ hne hlt
  exfalso
  obtain ⟨x,hx⟩:=List.exists_mem_of_ne_nil _ hne
  have:=hlt x hx;omega
 | succ m ih
       =>
  intro r a c v vr N D S R w hr hne hlt hbd hRD hB hW
  have hrl:=hr.b
  have HRI:=Lib.hid hr;have HLT:=Lib.hid hlt;have HBD:=Lib.hid hbd;have HB:=Lib.hid hB;have HW:=Lib.hid hW;have IH:=Lib.hid ih;have HRD:=Lib.hid hRD;have HNE:Hid (r≠[]):=hne
  have hBs:=hB.size
  have hDl:D.length≤500000:=Nat.le_trans (refV_ge (m+1) r R D) hbd
  have hRl:R.length≤500000:=by omega
  have hrlI:(rowsB r).length=r.length:=rowsB_len r
  have HRB:=Lib.hid hrlI
  have hSl:=hB.slen
  have HSL:=Lib.hid hSl
  obtain ⟨ra,rc,hvr,hrc, -⟩:=hB.rown.form
  obtain ⟨na,nc,hva,hnc, -⟩:=hB.own.form
  subst hvr hva
  have hNl:=hB.len
  have HNL:=Lib.hid hNl
  have hSl2:S.length≤500000:=by omega
  have hNl2:N.length≤500000:=by omega
  clear hr hlt hbd hB hW ih hRD hne hrlI hSl hNl
  go_enter Tryz.func90,Tryz.ntmps90
  go_wp2
  go_loopw [5] (fun s5 wr=>∃ k:Nat,k≤S.length∧s5=.int .i64 (k:Int)∧(∀ j (hj:j<R.length),j<k→R[j]≠r)∧Below w.heap.size w wr) (fun s5 _=>S.length - (intOf s5).toNat)
  case atStart=>exact ⟨0,Nat.zero_le _,rfl,fun j _ h=>absurd h (Nat.not_lt_zero _),Below.refl _ _⟩
  case round =>
   obtain ⟨k,hk,rfl,hno,hx⟩:=hrel
   have HNO:=Lib.hid hno;have HX:=Lib.hid hx
   have hB2:=HB.out.ext hx
   have HB2:=Lib.hid hB2
   obtain ⟨rp0,rp1⟩:=cells2 hB2.rep
   clear hno hx hB2
   by_cases hkS:k<S.length
   ·
    have hkR:k<R.length:=by have:=HSL.out;omega
    have hkI:(k:Int)<(S.length:Int):=by omega
    obtain ⟨g,hra⟩:∃ g,ra=some ⟨g,0,none⟩:=by
     rcases HB.out.rown.blk with ⟨he,h0⟩ | ⟨g,c1,he,_⟩
     · rw [h0] at hkS;simp at hkS
     · injection he with he;exact ⟨g,he⟩
    subst hra
    have hrk:=HB2.out.rests k hkS hkR
    have q0:wr.cell? ⟨g,k,none⟩=some (.slice S[k].a S[k].n S[k].c):=by
     have:=HB2.out.rown.cell rowRest_ok (i:=k) (j:=0) hkS (by decide)
     simpa [rowRest] using this
    have hidx:=idx_rests g S.length rc k hkS
    obtain ⟨x,hxk⟩:∃ x,S[k]=x:=⟨_,rfl⟩
    obtain ⟨y,hyk⟩:∃ y,R[k]=y:=⟨_,rfl⟩
    rw [hxk] at q0 hrk
    rw [hyk] at hrk
    have hbl:Below B wW wr:=HW.out.trans (HX.out.mono hBs)
    have HBL:=Lib.hid hbl
    have hs1:=hrk.strs hbl hWB
    have hs2:StrS wr a (rowsB r):=(HRI.out.strs HW.out hWB).later HX.out (Nat.le_refl _)
    have hxn:=hrk.n
    have hyl:y.length≤9223372036854775807:=by have:=hrk.b;omega
    have HS1:=Lib.hid hs1;have HS2:=Lib.hid hs2;have HYK:=Lib.hid hyk;have HXN:=Lib.hid hxn
    clear hrk hxk hyk hbl hs1 hs2 hxn
    have hcall:=sameWords_any (rowsB y) (rowsB r) x.n r.length x.a a x.c c wr HS1.out HS2.out (by rw [HXN.out,rowsB_len]) (by rw [HRB.out]) (by rw [HXN.out];exact hyl) (by omega)
    rw [same_rows] at hcall
    by_cases hyr:y=r
    ·
     rw [decide_eq_true hyr] at hcall
     have HYR:=Lib.hid hyr
     have HC:=Lib.hid hcall
     clear hyr hcall
     go_wp2_with (first
      | (go_at_call 111;refine HC.out.mono ?_;rintro e w2 ⟨rfl,hb2⟩;have HX2:=Lib.hid hb2;clear hb2))
     go_ret
     have hidR:=idxR_find hkR HNO.out (HYK.out.trans HYR.out)
     rw [refV_yes (by rw [hidR];exact hkR),hidR]
     exact ⟨_,_,N,S,[],rfl,HB2.out.ext HX2.out,by simp,fun x hx=>(by cases hx),HBL.out.trans (HX2.out.mono (by have:=HX.out.size;omega)),FrR.of_below (HX.out.trans (HX2.out.mono HX.out.size)),.inl rfl⟩
    ·
     rw [decide_eq_false hyr] at hcall
     have HYR:Hid (¬ y=r):=hyr
     have HC:=Lib.hid hcall
     clear hyr hcall
     go_wp2_with (first
      | (go_at_call 111;refine HC.out.mono ?_;rintro e w2 ⟨rfl,hb2⟩;have HX2:=Lib.hid hb2;clear hb2))
     go_roundw
     case rel=>exact ⟨k+1,by omega,by go_num,fun j hj hjk=>(by
      by_cases e:j=k
      · subst e;exact fun h=>HYR.out (HYK.out.symm.trans h)
      · exact HNO.out j hj (by omega)),HX.out.trans (HX2.out.mono HX.out.size)⟩
     case measure=>simp [intOf];omega
   ·
    have hkI:¬ (
           k
            : Int)<(S.length:Int):=by omega
    have hidR:=idxR_none (r:=r) fun j hj=>HNO.out j hj (by have:=HSL.out;omega)
    have HREF:=Lib.hid (refV_no (m:=m) (E:=D) hidR)
    have HL:Hid (RL0 wW w B gB (Value.slice na N.length nc).ownBlock N (.slice na N.length nc) (.slice ra S.length rc) N D S R wr) :=
     ⟨HB2.out,HW.out.trans (HX.out.mono hBs),FrR.of_below HX.out,.inl rfl,[],by simp,fun x hx=>by cases hx⟩
    clear hidR HB2
    go_upto_region 7 with fail
    have hxa7:Ext wr (wr.alloc (.cells #[.bool false,.slice none 0 0] 153)):=(Below.refl _ _).alloc (Nat.le_refl _) _
    have HL7:=Lib.hid (HL.out.ext hxa7)
    clear hxa7
    go_upto_region 8 with (first
     | (at_builtin;go_loud (refine wpList_append_g rowNode_ok rfl _ _ rfl rfl HL7.out.bst.own ⟨wr.heap.size,0,none⟩ 1 [⟨false,none,0,0⟩] rfl (cells_built (heap_alloc_new _ _)) (by simp only [List.length_singleton];omega) HL7.out.bst.size ?_;intro va w7 ho7 hg7 hat7;have hl8:=HL7.out.addD hBs ho7 hg7 hat7;have hr8:=HL7.out.bst.repD hg7;obtain ⟨xa,xc,hxa, -, -⟩:=ho7.form;rw [List.length_append,List.length_singleton] at hxa;subst hxa;have c7:=(cells2 hr8).1;have f7:w7.frozen? ⟨gB,0,none⟩=false:=(by simp [World.frozen?,hr8]);have HL8:=Lib.hid hl8;clear hl8 hr8 ho7 hg7 hat7)))
    clear c7 f7 HL7 rp0 rp1
    obtain ⟨w8,hw8⟩:∃ w8,w7.setCell ⟨gB,0,none⟩ (.slice xa (N.length+1) xc)=w8:=⟨_,rfl⟩
    rw [hw8] at HL8 ⊢
    clear hw8
    have hxa8:Ext w8 (w8.alloc (.cells #[.slice a r.length c] 37)):=(Below.refl _ _).alloc (Nat.le_refl _) _
    have HL9:=Lib.hid (HL8.out.ext hxa8)
    clear hxa8
    obtain ⟨rp0,rp1⟩:=cells2 HL8.out.bst.rep
    have HRI9:Hid (RestIn wW B (w8.alloc (.cells #[.slice a r.length c] 37)) ⟨a,r.length,c⟩ r):=HRI.out.fr HB.out HL9.out.fr
    go_upto_region 9 with (first
     | (at_builtin;go_loud (refine wpList_append_g rowRest_ok rfl _ _ rfl rfl HL9.out.bst.rown ⟨w8.heap.size,0,none⟩ 1 [⟨a,r.length,c⟩] rfl (cells_built (heap_alloc_new _ _)) (by simp only [List.length_singleton];omega) HL9.out.bst.size ?_;intro va w9 ho9 hg9 _;have hl9:=HL9.out.addR hBs HRI9.out ho9 hg9;have hr9:=HL9.out.bst.repR hg9;obtain ⟨ya,yc,hya, -, -⟩:=ho9.form;rw [List.length_append,List.length_singleton] at hya;subst hya;have c9:=(cells2 hr9).2;have f9:w9.frozen? ⟨gB,1,none⟩=false:=(by simp [World.frozen?,hr9]);have HLA:=Lib.hid hl9;clear hl9 hr9 ho9 hg9)))
    clear c9 f9 HL9 HL8 rp0 rp1 HRI9
    obtain ⟨wa,hwa⟩:∃ wa,w9.setCell ⟨gB,1,none⟩ (.slice ya (S.length+1) yc)=wa:=⟨_,rfl⟩
    rw [hwa] at HLA ⊢
    clear hwa
    obtain ⟨x0,r0,hr0⟩:∃ x0 r0,r=x0 :: r0:=by
     cases r with
     | nil=>exact absurd rfl HNE.out
     | cons x r=>exact ⟨x,r,rfl⟩
    have hfin:finR r=decide (x0=[]):=by
     rw [hr0]
     cases x0 with
     | nil=>rfl
     | cons=>rfl
    have hrpos:0<r.length:=by rw [hr0];simp
    have hrla:RestIn wW B wa ⟨a,r.length,c⟩ r:=HRI.out.fr HB.out HLA.out.fr
    have HRLA:=Lib.hid hrla
    have hstr:=hrla.strs HLA.out.bl hWB
    obtain ⟨b0,o0,ha0,hb0,q0⟩:=hstr.at (k:=0) (by rw [HRB.out];exact hrpos)
    have hx0:(rowsB r)[0]'(by rw [HRB.out];exact hrpos)=toB x0:=by simp only [hr0];rfl
    rw [hx0,Nat.add_zero] at q0
    have hidx0:=idx_strs0a a b0 o0 r.length c ha0 hrpos
    have HFIN:=Lib.hid hfin
    have HA0:=Lib.hid ha0
    clear ha0 hrla hstr hr0 hx0 hfin
    have hxw:∀ f,Ext wa (wa.alloc (.cells #[.bool f,.slice none 0 0] 153)):=fun f=>(Below.refl _ _).alloc (Nat.le_refl _) _
    have hva8:=HLA.out.bst.own.lt
    have hRL:Hid (∀ f,RL wW w B gB wa.heap.size (Value.slice na N.length nc).ownBlock N f (.slice none 0 0) [] (.slice xa (N.length+1) xc) (.slice ya (S.length+1) yc) (N ++ [⟨false,none,0,0⟩]) (D ++ [⟨false,[]⟩]) (S ++ [⟨a,r.length,c⟩]) (R ++ [r]) (wa.alloc (.cells #[.bool f,.slice none 0 0] 153))):=fun f =>
     ⟨⟨HLA.out.ext (hxw f),heap_alloc_new _ _,HLA.out.fr.size,fun e=>by have:=hva8 _ e;omega⟩,OwnG.nil _ _ _,fun x _ g _ e=>by cases e⟩
    clear hxw hva8
    obtain ⟨fb,hfb⟩:∃ fb,finR r=fb:=⟨_,rfl⟩
    have HFB:=Lib.hid hfb
    clear hfb
    go_cut [7] (fun s7 wx=>∃ wz gn,wz=wx∧s7=.pointer (some ⟨gn,0,none⟩)∧RL wW w B gB gn (Value.slice na N.length nc).ownBlock N fb (.slice none 0 0) [] (.slice xa (N.length+1) xc) (.slice ya (S.length+1) yc) (N ++ [⟨false,none,0,0⟩]) (D ++ [⟨false,[]⟩]) (S ++ [⟨a,r.length,c⟩]) (R ++ [r]) wz)
    case first =>
     by_cases hx0:x0=[]
     ·
      have HFT:Hid (fb=true):=by show _=_;rw [← HFB.out,HFIN.out];simp [hx0]
      have ht:(toB x0)=⟨#[]⟩:=by rw [hx0];rfl
      rw [ht] at q0
      clear ht hx0
      go_wp2
      go_meet
      rw [HFT.out]
      exact ⟨_,wa.heap.size,rfl,rfl,hRL.out true⟩
     ·
      have HFT:Hid (fb=false):=by show _=_;rw [← HFB.out,HFIN.out];simp [hx0]
      obtain ⟨t0,ht0⟩:∃ t0,toB x0=t0:=⟨_,rfl⟩
      have hem:t0.toList.isEmpty=false:=by
       rw [← ht0,ByteArray.toList_eq]
       show x0.isEmpty=false
       cases x0 with
       | nil=>exact absurd rfl hx0
       | cons=>rfl
      rw [ht0] at q0
      clear ht0 hx0
      go_wp2
      go_meet
      rw [HFT.out]
      exact ⟨_,wa.heap.size,rfl,rfl,hRL.out false⟩
    case rest
         =>
     obtain ⟨wz,gn,rfl,rfl,hRLz⟩:=hcut
     have HRLZ:=Lib.hid hRLz
     clear hRLz hidx0 q0 hRL
     obtain ⟨FA,hFA⟩:∃ FA,armsC (refV m) r (List.range' 33 94) [] (R ++ [r]) (D ++ [⟨false,[]⟩])=FA:=⟨_,rfl⟩
     have href:=HREF.out
     rw [hFA] at href
     have hbd2:FA.2.2.length≤500000:=by
      have:=HBD.out
      rw [href] at this
      simpa using this
     have HREF2:=Lib.hid href
     have HFA:=Lib.hid hFA
     clear hFA href HREF
     have HRD':Hid ((R ++ [r]).length=(D ++ [(⟨false,[]⟩:Nd)]).length):=by
      have:=HRD.out
      show _=_
      simp [this]
     go_wp2_with fail
     go_loopw [8] (fun s8 wr=>∃ (j:Nat) (A:List Ar) (vA v' vr':Value) (N':List NV) (D':List Nd) (S':List SV) (R':List Rst),s8=.int .i64 ((33+j:Nat):Int)∧j≤94∧armsC (refV m) r (List.range' (33+j) (94 - j)) A R' D'=FA ∧
      RL wW w B gB gn (Value.slice na N.length nc).ownBlock N fb vA A v' vr' N' D' S' R' wr∧D.length<D'.length∧R'.length=D'.length∧A.length≤j) (fun s8 _=>127 - (intOf s8).toNat)
     case atStart=>exact ⟨0,[],.slice none 0 0,_,_,_,_,_,_,rfl,by omega,HFA.out,HRLZ.out,by simp,HRD'.out,Nat.le_refl _⟩
     case round =>
      obtain ⟨j,A,vA,v',vr',N',D',S',R',rfl,hj,harm,hRLw,hDlt,hRD2,hAl⟩:=hrel
      have HARM:=Lib.hid harm;have HRLW:=Lib.hid hRLw;have HRD2:=Lib.hid hRD2
      clear harm hRLw hRD2
      by_cases hjl:j<94
      ·
       have hcI:((33+j:Nat):Int)<127:=by omega
       obtain ⟨cc,hcc⟩:∃ cc,33+j=cc:=⟨_,rfl⟩
       rw [hcc] at hcI ⊢
       have hcc1:33≤cc:=by omega
       have HCC:=Lib.hid hcc
       clear hcc
       go_upto_region 13 with fail
       have hst:=(HRI.out.fr HB.out HRLW.out.fr).strs HRLW.out.bl hWB
       have hcall:=after_any (rowsB r) r.length a c (cc:Int) wr hst (by rw [HRB.out]) (by omega)
       rw [afterF_rows] at hcall
       have HC:=Lib.hid hcall
       have hm256:(cc:Int) % 256=cc:=by omega
       have hgl:(afterL r cc).length≤1000:=Nat.le_trans (afterL_len r cc) hrl
       have hrg:List.range' cc (94 - j)=cc :: List.range' (cc+1) (94 - (j+1)):=by
        rw [show 94 - j=(94 - (j+1))+1 by omega,List.range'_succ]
       have harm:=HARM.out
       rw [HCC.out,hrg,armsC] at harm
       have HG1:Hid (∀ s∈afterL r cc,s.length<m):=fun s hs=>by
        obtain ⟨b,_,hb⟩:=afterL_mem.1 hs
        have:=HLT.out _ hb
        simp at this;omega
       obtain ⟨g,hg⟩:∃ g,afterL r cc=g:=⟨_,rfl⟩
       rw [hg] at HC hgl harm HG1
       have HGL:=Lib.hid (rowsB_len g)
       clear hst hcall hrg hg HARM
       by_cases hge:g=[]
       ·
        rw [if_pos hge] at harm
        have HARM:=Lib.hid harm
        have hg0:(rowsB g).length=0:=by rw [HGL.out,hge];rfl
        have HG0:=Lib.hid hg0
        clear harm hge hg0
        go_upto_region 14 with (first
         | (go_at_call 112;refine HC.out.mono ?_;rintro e w1 ⟨v9,rfl,ho9,hb9⟩;obtain ⟨a9,c9,h9, -, -⟩:=ho9.form;rw [HG0.out] at h9;subst h9;have HR1:=Lib.hid (HRLW.out.ext hb9);clear ho9 hb9))
        clear hm256
        go_wp2_with fail
        go_roundw
        case rel=>exact ⟨j+1,A,vA,v',vr',N',D',S',R',by rw [← HCC.out];go_num,by omega,by rw [show 33+(j+1)=cc+1 by have:=HCC.out;omega];exact HARM.out,HR1.out,hDlt,HRD2.out,by omega⟩
        case measure=>simp [intOf];omega
       ·
        rw [if_neg hge] at harm
        have HGE:Hid (g≠[]):=hge
        have hglI:(0:Int)<(g.length:Int):=by
         have:0<g.length:=List.length_pos_iff.2 hge
         omega
        obtain ⟨qi,qM,qE,hq⟩:∃ qi qM qE,refV m g R' D'=(qi,qM,qE):=⟨_,_,_,rfl⟩
        rw [hq] at harm
        simp only at harm
        have HQ:=Lib.hid hq
        have HARM:=Lib.hid harm
        have hqE:D'.length≤qE.length:=by
         have:=refV_ge m g R' D'
         rw [hq] at this;exact this
        have hqF:qE.length≤500000:=by
         have:=armsC_ge (refV_ge m) r (List.range' (cc+1) (94 - (j+1))) (A ++ [⟨(cc:Int),(qi:Int)⟩]) qM qE
         rw [harm] at this;omega
        have hqM:qM.length=qE.length:=by
         have:=refV_len m g R' D' HRD2.out
         rw [hq] at this;exact this
        have HQM:=Lib.hid hqM
        clear harm hge hq hqM
        go_upto_region 14 with (first
         | (go_at_call 112;refine HC.out.mono ?_;rintro e w1 ⟨v9,rfl,ho9,hb9⟩;obtain ⟨a9,c9,h9, -, -⟩:=ho9.form;rw [HGL.out] at h9;subst h9;have HR1:=Lib.hid (HRLW.out.ext hb9);have HO9:=Lib.hid ho9;clear ho9 hb9))
        have HRG:Hid (RestIn wW B w1 ⟨a9,g.length,c9⟩ g):=RestIn.of_own (HO9.out.mono HRLW.out.bst.size) hgl
        clear HO9 HC
        have hw8:IntKind.u8.wrap (cc:Int)=cc:=IntWalk.u8_in _ (by omega)
        go_upto_region 15 with fail
        refine wp_region_st (by kernel_rfl) (Vs [fun v _=>v=.pointer (some ⟨gn,1,none⟩),fun v _=>v=vA,fun v _=>v=.int .i64 (cc:Int),fun v _=>v=.int .u8 (cc:Int),fun v _=>v=.pointer (some ⟨gB,0,none⟩),fun v _=>v=.slice a9 g.length c9,fun v _=>v=.int .i64 (qi:Int),fun v _=>v=.agg #[.int .u8 (cc:Int),.int .i64 (qi:Int)],RowArc1 vA (⟨(cc:Int),(qi:Int)⟩:Ar),NVR wW w B gB gn (Value.slice na N.length nc).ownBlock N fb vA (A ++ [(⟨(cc:Int),(qi:Int)⟩:Ar)]) qE qM,fun v _=>v=.pointer (some ⟨gn,1,none⟩)]) (Xs [Ext,Ext,Ext,Ext,Ext,Ext,(fun _ _=>True),Ext,Ext,(fun w w'=>w.grownBy w' vA.ownBlock),Ext]) (fun fL=>(fun b1 b2 W=>NTR wW w B gB gn (Value.slice na N.length nc).ownBlock N fb vA A v' vr' N' D' S' R' qE qM ⟨a9,g.length,c9⟩ g b1 b2 W) (fL 6) (fL 9)) [0,1,0,4,0,0,48,124,252,511,0] 89 11 (by kernel_rfl) rfl ?hV ?hS ?hop ?hfin ?hlast
        case hV =>
         refine xs_stays (vs_stays (by simp only [List.mem_cons,List.not_mem_nil,or_false,forall_eq_or_imp,forall_eq];exact ⟨stays_const _,stays_const _,stays_const _,stays_const _,stays_const _,stays_const _,stays_const _,stays_const _,rowArc1_stays _ _,nvr_stays,stays_const _⟩)) ?_
         exact ⟨.inl rfl,.inl rfl,.inl rfl,.inl rfl,.inl rfl,.inl rfl,.inr (staysM_all ⟨fun _ _=>fun _ _ _ h _=>h,fun _ _=>fun _ _ _ h _=>h,fun _ _=>fun _ _ _ h _=>h,fun _ _=>fun _ _ _ h _=>h,fun _ _=>fun _ _ _ h _=>h,fun _ _=>fun _ _ _ h _=>h,fun h=>absurd rfl h,fun _ h=>absurd h (by decide),fun _ h=>absurd h (by decide),fun _ h=>absurd h (by decide),fun _ _=>fun _ _ _ h _=>h,trivial⟩),.inl rfl,.inl rfl,.inr (staysM_all ⟨fun _ _=>fun _ _ _ h _=>h,fun _ _=>fun _ _ _ h _=>h,fun _ _=>fun _ _ _ h _=>h,fun _ _=>fun _ _ _ h _=>h,fun _ _=>fun _ _ _ h _=>h,fun _ _=>fun _ _ _ h _=>h,fun _ _=>fun _ _ _ h _=>h,fun _ _=>fun _ _ _ h _=>h,fun _ _=>rowArc1_grown _ _,fun h=>absurd rfl h,fun _ _=>fun _ _ _ h _=>h,trivial⟩),.inl rfl,trivial⟩
        case hS =>
         intro fL hf
         show (fun b1 b2 W=>NTR wW w B gB gn (Value.slice na N.length nc).ownBlock N fb vA A v' vr' N' D' S' R' qE qM ⟨a9,g.length,c9⟩ g b1 b2 W) (fL 6) (fL 9) _
         rw [hf 6 (by decide),hf 9 (by decide)]
         exact NTR.ext false false _ _ ⟨HR1.out,HRG.out⟩ ⟨rfl,rfl,rfl,Nat.le_refl _,fun _ _=>rfl⟩
        case hop =>
         refine ⟨?_,?c1,?_,?_,?_,?_,?c6,?_,?c8,?c9,?_,?_,trivial⟩
         all_goals first | rw [if_neg (by decide)] | rw [if_pos (by decide)]
         all_goals try exact True.intro
         all_goals try intro ac W fL hsz hfi hms hdn hS0 hdep hbase hund
         all_goals try have hS:(fun b1 b2 W=>NTR wW w B gB gn (Value.slice na N.length nc).ownBlock N fb vA A v' vr' N' D' S' R' qE qM ⟨a9,g.length,c9⟩ g b1 b2 W) (fL 6) (fL 9) W:=hS0
         all_goals try (have hfl6:fL 6=true:=hms 6 (by decide);rw [hfl6] at hS)
         all_goals try (have hfl6:fL 6=false:=(by first | exact hfi | exact hdn 6 (by decide) (by decide));rw [hfl6] at hS)
         all_goals try (have hfl9:fL 9=true:=hms 9 (by decide);rw [hfl9] at hS)
         all_goals try (have hfl9:fL 9=false:=(by first | exact hfi | exact hdn 9 (by decide) (by decide));rw [hfl9] at hS)
         all_goals try (have h7:ac.tmps.getD 7 undef=.pointer (some ⟨gn,0,none⟩):=hbase 7 (by kernel_rfl);have hh7:=h7;rw [Array.getD_eq_getD_getElem?] at hh7)
         all_goals try (have h8:ac.tmps.getD 8 undef=.int .i64 (cc:Int):=hbase 8 (by kernel_rfl);have hh8:=h8;rw [Array.getD_eq_getD_getElem?] at hh8)
         all_goals try (have h0:ac.tmps.getD 0 undef=.pointer (some ⟨gB,0,none⟩):=hbase 0 (by kernel_rfl);have hh0:=h0;rw [Array.getD_eq_getD_getElem?] at hh0)
         all_goals try (have h9:ac.tmps.getD 9 undef=.slice a9 g.length c9:=hbase 9 (by kernel_rfl);have hh9:=h9;rw [Array.getD_eq_getD_getElem?] at hh9)
         all_goals try (have d70:ac.tmps.getD 70 undef=.pointer (some ⟨gn,1,none⟩):=hdep 0 (by decide);have dd70:=d70;rw [Array.getD_eq_getD_getElem?] at dd70)
         all_goals try (have d71:ac.tmps.getD 71 undef=vA:=hdep 1 (by decide);have dd71:=d71;rw [Array.getD_eq_getD_getElem?] at dd71)
         all_goals try (have d72:ac.tmps.getD 72 undef=.int .i64 (cc:Int):=hdep 2 (by decide);have dd72:=d72;rw [Array.getD_eq_getD_getElem?] at dd72)
         all_goals try (have d73:ac.tmps.getD 73 undef=.int .u8 (cc:Int):=hdep 3 (by decide);have dd73:=d73;rw [Array.getD_eq_getD_getElem?] at dd73)
         all_goals try (have d74:ac.tmps.getD 74 undef=.pointer (some ⟨gB,0,none⟩):=hdep 4 (by decide);have dd74:=d74;rw [Array.getD_eq_getD_getElem?] at dd74)
         all_goals try (have d75:ac.tmps.getD 75 undef=.slice a9 g.length c9:=hdep 5 (by decide);have dd75:=d75;rw [Array.getD_eq_getD_getElem?] at dd75)
         all_goals try (have d76:ac.tmps.getD 76 undef=.int .i64 (qi:Int):=hdep 6 (by decide);have dd76:=d76;rw [Array.getD_eq_getD_getElem?] at dd76)
         all_goals try (have d77:ac.tmps.getD 77 undef=.agg #[.int .u8 (cc:Int),.int .i64 (qi:Int)]:=hdep 7 (by decide);have dd77:=d77;rw [Array.getD_eq_getD_getElem?] at dd77)
         all_goals try have d78:(RowArc1 vA (⟨(cc:Int),(qi:Int)⟩:Ar)) (ac.tmps.getD 78 undef) W:=hdep 8 (by decide)
         all_goals try clear hbase hdep hms hdn hund
         case c1 =>
          have hS1:(fun b1 b2 W=>NTR wW w B gB gn (Value.slice na N.length nc).ownBlock N fb vA A v' vr' N' D' S' R' qE qM ⟨a9,g.length,c9⟩ g b1 b2 W) ((upd fL 1) 6) ((upd fL 1) 9) W:=hS0
          obtain ⟨bx0,bx1⟩:=cells2 (NTR.boxed hS).1
          refine opOk_run rfl (.inl ⟨_,W,?_,rfl,Ext.refl _,hS1⟩)
          clear hsz hS hS0 hS1 hfi;simp [go_sem,Act.eval, *]
         case c6 =>
          have hc60:=IH.out g a9 c9 v' vr' N' D' S' R' W hS.2 HGE.out HG1.out (by rw [HQ.out];exact hqF) HRD2.out hS.1.bst hS.1.bl
          rw [HQ.out] at hc60
          refine opOk_run rfl (.inr ⟨90,#[.pointer (some ⟨gB,0,none⟩),.slice a9 g.length c9],W,by (clear hsz hS hS0 hfi hc60;simp [go_sem,Act.eval, *]),?_⟩)
          refine hc60.mono ?_
          clear hc60
          rintro e w' hp
          obtain ⟨he,v2,vr2,N2,S2,hl2⟩:=RL.called hS.1 hp
          refine ⟨_,he,rfl,trivial,?_⟩
          show NTR wW w B gB gn (Value.slice na N.length nc).ownBlock N fb vA A v' vr' N' D' S' R' qE qM ⟨a9,g.length,c9⟩ g (upd fL 6 6) (upd fL 6 9) w'
          rw [show upd fL 6 6=true from if_pos rfl,show upd fL 6 9=fL 9 from if_neg (by decide),show fL 9=false from hfl9]
          exact ⟨v2,vr2,N2,S2,hl2⟩
         case c8 =>
          have hS1:(fun b1 b2 W=>NTR wW w B gB gn (Value.slice na N.length nc).ownBlock N fb vA A v' vr' N' D' S' R' qE qM ⟨a9,g.length,c9⟩ g b1 b2 W) ((upd fL 8) 6) ((upd fL 8) 9) W:=hS0
          have hlt62:vA.ownBlock≠some W.heap.size:=fun e=>by
           obtain ⟨v2,vr2,N2,S2,hl2⟩:=hS
           have:=hl2.own.lt _ e;omega
          refine opOk_run rfl (.inl ⟨.slice (some ⟨W.heap.size,0,none⟩) 1 1,W.alloc (.cells #[.int .u8 (cc:Int),.int .i64 (qi:Int)] 155),?_,⟨_,rfl,heap_alloc_new _ _,hlt62⟩,(Below.refl _ _).alloc (Nat.le_refl _) _,(show (fun b1 b2 W=>NTR wW w B gB gn (Value.slice na N.length nc).ownBlock N fb vA A v' vr' N' D' S' R' qE qM ⟨a9,g.length,c9⟩ g b1 b2 W) ((upd fL 8) 6) ((upd fL 8) 9) _ by
           rw [show upd fL 8 6=fL 6 from if_neg (by decide),show upd fL 8 9=fL 9 from if_neg (by decide)]
           exact NTR.ext _ _ _ _ hS0 ((Below.refl _ _).alloc (Nat.le_refl _) _))⟩)
          clear hsz hS hS0 hS1 hfi;simp [go_sem,Act.eval, *]
         case c9 =>
          obtain ⟨g62,e62,hg62,hn62⟩:=d78
          obtain ⟨v2,vr2,N2,S2,hl2⟩:=hS
          refine opOk_run rfl ((opres_append_g rowArc_ok (.tmp 71) (.tmp 78) rfl (eval_tmp d71) hl2.own ⟨g62,0,none⟩ 1 [(⟨(cc:Int),(qi:Int)⟩:Ar)] (eval_tmp e62) (cells_built hg62) (by simp only [List.length_singleton];omega) hl2.fr.size).mono ?_)
          rintro va w' ⟨ho,hgr,hat⟩
          refine ⟨⟨v2,vr2,N2,S2,hl2.app hBs hgr,ho,fun y hy g hg e=>?_⟩,hgr,?_⟩
          ·
           rcases hat with h1 | h1
           · rw [h1] at e;exact hl2.apart y hy g hg e
           ·
            rw [h1] at e
            injection e with e
            have:=hl2.toRL0.rows_lt y hy g hg;omega
          ·
           show NTR wW w B gB gn (Value.slice na N.length nc).ownBlock N fb vA A v' vr' N' D' S' R' qE qM ⟨a9,g.length,c9⟩ g (upd fL 9 6) (upd fL 9 9) w'
           rw [show upd fL 9 6=fL 6 from if_neg (by decide),show upd fL 9 9=true from if_pos rfl,show fL 6=true from hfl6]
           trivial
         all_goals (refine opOk_run rfl (.inl ⟨_,W,?_,rfl,Ext.refl _,hS0⟩);clear hsz hS hS0 hfi;simp [go_sem,Act.eval, *];done)
        case hfin =>
         intro h;exact absurd h (by decide)
        case hlast =>
         intro _ ac W hsz hdf fL hf hS0 hv hbase
         have hS:(fun b1 b2 W=>NTR wW w B gB gn (Value.slice na N.length nc).ownBlock N fb vA A v' vr' N' D' S' R' qE qM ⟨a9,g.length,c9⟩ g b1 b2 W) (fL 6) (fL 9) W:=hS0
         clear hS0
         rw [hf 6 (by decide),hf 9 (by decide)] at hS
         have hst:ac.tmps.getD 80 undef=.pointer (some ⟨gn,1,none⟩):=hv 10 (by decide)
         have hnv:NVR wW w B gB gn (Value.slice na N.length nc).ownBlock N fb vA (A ++ [(⟨(cc:Int),(qi:Int)⟩:Ar)]) qE qM (ac.tmps.getD 79 undef) W:=hv 9 (by decide)
         obtain ⟨v2,vr2,N2,S2,hl2,ho2,hap2⟩:=hnv
         obtain ⟨xb,xc2,hxa, -, -⟩:=ho2.form
         rw [hxa] at ho2 hap2
         obtain ⟨bx0,bx1⟩:=cells2 hl2.box
         refine wpOp_store rfl rfl rfl rfl (eval_tmp hst) (eval_tmp hxa) (by simp [World.frozen?,hl2.box]) bx1 (by kernel_rfl) ?_
         have hl3:=hl2.setBox (i:=1) (fin':=fb) (y:=.slice xb (A ++ [(⟨(cc:Int),(qi:Int)⟩:Ar)]).length xc2) hBs rfl ho2 hap2
         obtain ⟨wz2,hwz2⟩:∃ wz2,W.setCell ⟨gn,1,none⟩ (.slice xb (A ++ [(⟨(cc:Int),(qi:Int)⟩:Ar)]).length xc2)=wz2:=⟨_,rfl⟩
         rw [hwz2] at hl3 ⊢
         have HL3:=Lib.hid hl3
         clear hS hl2 ho2 hap2 bx0 bx1 hl3 hwz2 hst
         obtain ⟨sx,hsx,hsA⟩:=act_puts [70,71,72,73,74,75,76,77,78,79,80] (by kernel_rfl) hsz hdf hbase
         rw [hsA]
         simp only [List.foldl]
         simp only [Act.put,List.setIfInBounds_toArray,List.set_cons_succ,List.set_cons_zero]
         clear hsA hsx hv hbase hsz hdf hf
         clear hxa hm256 hw8
         go_wp2_with fail
         go_roundw
         case rel=>exact ⟨j+1,_,_,v2,vr2,N2,qE,S2,qM,by rw [← HCC.out];go_num,by omega,by rw [show 33+(j+1)=cc+1 by have:=HCC.out;omega];exact HARM.out,HL3.out,by omega,HQM.out,by rw [List.length_append];simp;omega⟩
         case measure=>simp [intOf];omega
      ·
       obtain rfl:j=94:=by omega
       have harm:=HARM.out
       rw [show 94 - 94=0 from rfl,List.range'_zero,armsC] at harm
       have hcI:¬ ((33+94:Nat):Int)<127:=by decide
       obtain ⟨xb,xc2,rfl, -, -⟩:=HRLW.out.own.form
       have hNl':=HRLW.out.bst.len
       obtain ⟨gr,cr,hvr'⟩:∃ gr cr,v'=.slice (some ⟨gr,0,none⟩) N'.length cr:=by
        rcases HRLW.out.bst.own.blk with ⟨_,h0⟩ | ⟨g4,c5,h0, -, -, -⟩
        · rw [h0] at hNl';simp at hNl';omega
        · exact ⟨g4,c5,h0⟩
       subst hvr'
       have hlt5:N.length<N'.length:=by have:=HNL.out;omega
       have hidx5:=idx_nodes (some ⟨gr,0,none⟩) gr 0 N'.length cr N.length rfl hlt5
       simp only [Nat.zero_add] at hidx5
       have HHM:=Lib.hid harm
       have HN':=Lib.hid hNl'
       clear harm hNl' HARM
       go_upto_region 16 with fail
       refine wp_region_st (by kernel_rfl) (Vs [fun v _=>v=.pointer (some ⟨gB,0,none⟩),fun v _=>v=.pointer (some ⟨gB,0,none⟩),fun v _=>v=.pointer (some ⟨gB,0,none⟩),fun v _=>v=.slice (some ⟨gr,0,none⟩) N'.length cr,fun v _=>v=.int .i64 (N.length:Int),fun v _=>v=.agg #[.bool fb,.slice xb A.length xc2],fun v _=>v=.pointer (some ⟨gr,N.length*2,none⟩)]) (Xs [Ext,Ext,Ext,Ext,Ext,Ext,Ext]) (fun fL=>(fun W=>RL wW w B gB gn (Value.slice na N.length nc).ownBlock N fb (.slice xb A.length xc2) A (.slice (some ⟨gr,0,none⟩) N'.length cr) vr' N' D' S' R' W) ) [0,1,3,7,0,0,31] 89 7 (by kernel_rfl) rfl ?hV ?hS ?hop ?hfin ?hlast
       case hV =>
        refine xs_stays (vs_stays (by simp only [List.mem_cons,List.not_mem_nil,or_false,forall_eq_or_imp,forall_eq];exact ⟨stays_const _,stays_const _,stays_const _,stays_const _,stays_const _,stays_const _,stays_const _⟩)) ?_
        exact ⟨.inl rfl,.inl rfl,.inl rfl,.inl rfl,.inl rfl,.inl rfl,.inl rfl,trivial⟩
       case hS =>
        intro fL hf
        show (fun W=>RL wW w B gB gn (Value.slice na N.length nc).ownBlock N fb (.slice xb A.length xc2) A (.slice (some ⟨gr,0,none⟩) N'.length cr) vr' N' D' S' R' W)  _
        exact HRLW.out.ext ⟨rfl,rfl,rfl,Nat.le_refl _,fun _ _=>rfl⟩
       case hop =>
        refine ⟨?_,?_,?_,?_,?_,?_,?_,?_,trivial⟩
        all_goals first | rw [if_neg (by decide)] | rw [if_pos (by decide)]
        all_goals try exact True.intro
        all_goals try intro ac W fL hsz hfi hms hdn hS0 hdep hbase hund
        all_goals try have hS:(fun W=>RL wW w B gB gn (Value.slice na N.length nc).ownBlock N fb (.slice xb A.length xc2) A (.slice (some ⟨gr,0,none⟩) N'.length cr) vr' N' D' S' R' W)  W:=hS0
        all_goals try (
         obtain ⟨rp0,rp1⟩:=cells2 hS.bst.rep
         obtain ⟨bx0,bx1⟩:=cells2 hS.box)
        all_goals try (have h7:ac.tmps.getD 7 undef=.pointer (some ⟨gn,0,none⟩):=hbase 7 (by kernel_rfl);have hh7:=h7;rw [Array.getD_eq_getD_getElem?] at hh7)
        all_goals try (have h0:ac.tmps.getD 0 undef=.pointer (some ⟨gB,0,none⟩):=hbase 0 (by kernel_rfl);have hh0:=h0;rw [Array.getD_eq_getD_getElem?] at hh0)
        all_goals try (have h6:ac.tmps.getD 6 undef=.int .i64 (N.length:Int):=hbase 6 (by kernel_rfl);have hh6:=h6;rw [Array.getD_eq_getD_getElem?] at hh6)
        all_goals try (have d81:ac.tmps.getD 81 undef=.pointer (some ⟨gB,0,none⟩):=hdep 0 (by decide);have dd81:=d81;rw [Array.getD_eq_getD_getElem?] at dd81)
        all_goals try (have d82:ac.tmps.getD 82 undef=.pointer (some ⟨gB,0,none⟩):=hdep 1 (by decide);have dd82:=d82;rw [Array.getD_eq_getD_getElem?] at dd82)
        all_goals try (have d83:ac.tmps.getD 83 undef=.pointer (some ⟨gB,0,none⟩):=hdep 2 (by decide);have dd83:=d83;rw [Array.getD_eq_getD_getElem?] at dd83)
        all_goals try (have d84:ac.tmps.getD 84 undef=.slice (some ⟨gr,0,none⟩) N'.length cr:=hdep 3 (by decide);have dd84:=d84;rw [Array.getD_eq_getD_getElem?] at dd84)
        all_goals try (have d85:ac.tmps.getD 85 undef=.int .i64 (N.length:Int):=hdep 4 (by decide);have dd85:=d85;rw [Array.getD_eq_getD_getElem?] at dd85)
        all_goals try clear hbase hdep hms hdn hund
        all_goals (refine opOk_run rfl (.inl ⟨_,W,?_,rfl,Ext.refl _,hS0⟩);clear hsz hS hS0 hfi;simp [go_sem,Act.eval, *];done)
       case hfin =>
        intro h;exact absurd h (by decide)
       case hlast =>
        intro _ ac W hsz hdf fL hf hS0 hv hbase
        have hS:(fun W=>RL wW w B gB gn (Value.slice na N.length nc).ownBlock N fb (.slice xb A.length xc2) A (.slice (some ⟨gr,0,none⟩) N'.length cr) vr' N' D' S' R' W)  W:=hS0
        clear hS0
        have hst:ac.tmps.getD 87 undef=.pointer (some ⟨gr,N.length*2,none⟩):=hv 6 (by decide)
        have hnv:ac.tmps.getD 86 undef=.agg #[.bool fb,.slice xb A.length xc2]:=hv 5 (by decide)
        have q0:=hS.bst.own.cell rowNode_ok (i:=N.length) (j:=0) hlt5 (by decide)
        have q1:=hS.bst.own.cell rowNode_ok (i:=N.length) (j:=1) hlt5 (by decide)
        obtain ⟨cs,hcs⟩:=hS.bst.own.obj (g:=gr) rfl
        refine wpOp_store_nd rfl rfl rfl rfl (eval_tmp hst) (eval_tmp hnv) (by simp [World.frozen?,hcs]) (by simp [World.frozen?,hcs]) q0 q1 (by kernel_rfl) ?_
        have hl5:=hS.done hBs rfl hlt5
        have HL5:=Lib.hid hl5
        obtain ⟨wz2,hwz2⟩:∃ wz2,(W.setCell ⟨gr,N.length*2,none⟩ (.bool fb)).setCell ⟨gr,N.length*2+1,none⟩ (.slice xb A.length xc2)=wz2:=⟨_,rfl⟩
        rw [hwz2] at HL5 ⊢
        clear hS q0 q1 hcs hl5 hwz2 hst hnv
        obtain ⟨sx,hsx,hsA⟩:=act_puts [81,82,83,84,85,86,87] (by kernel_rfl) hsz hdf hbase
        rw [hsA]
        simp only [List.foldl]
        simp only [Act.put,List.setIfInBounds_toArray,List.set_cons_succ,List.set_cons_zero]
        clear hsA hsx hv hbase hsz hdf hf
        go_wp2_with fail
        go_ret
        rw [HREF2.out,← HHM.out,HFB.out,← HNL.out]
        obtain ⟨N5,hl5⟩:=HL5.out
        exact RL0.post (q:=(N.length,R',D'.set N.length ⟨fb,A⟩)) hl5
end Go.Proofs.YthjmdgejnakcmaaGreatDoor
namespace Go.Proofs.YthjmdgejnakcmaaGreatDoor
open Go.RowKit Go.WideShapes
set_option linter.unusedVariables false
set_option linter.unusedSimpArgs false
theorem ofF_arcs {L:List ByteArray} (hd:Dict L):∀ i (hi:i<(ofF (restAt 0 L)).length),(ofF (restAt 0 L))[i].arcs.length≤1000:=fun i hi=>by
 obtain ⟨Mt,hgt, -⟩:=of_tab hd.okR.1 hd.okR.2
 obtain ⟨r,_,_,h3⟩:=hgt.nd i hi
 rw [h3.len];have:=grp_len r;omega
theorem ofF_len {L:List ByteArray} (hd:Dict L):(ofF (restAt 0 L)).length≤4200:=by
 have hle:=ofF_le hd.okR.1
 have hln:(restAt 0 L).length=L.length:=by simp [restAt]
 have:=hd.2.1
 omega
set_option maxHeartbeats 800000 in
theorem of_any (L:List ByteArray) (n:Nat) (a:Option Addr) (cap:Nat) (w:World) (hR:StrS w a L) (hL:n=L.length) (hc:n≤cap) (hd:Dict L) :
  Calls Tryz.prog 59 #[.slice a n cap] w fun e w'=>∃ a1 c1,e=.returned (.slice a1 (ofF (restAt 0 L)).length c1)∧(ofF (restAt 0 L)).length≤c1∧DawgS w' a1 (ofF (restAt 0 L))∧Below w.heap.size w w':=by
 subst hL
 have HR:=Lib.hid hR;have HD:=Lib.hid hd
 have hln:(restAt 0 L).length=L.length:=by simp [restAt]
 have HLN:=Lib.hid hln
 have h200:=hd.2.1
 clear hR hd hln
 obtain ⟨w2,hw2⟩:∃ w2,w2=w.alloc (Obj.cells #[Value.slice none 0 0,Value.slice none 0 0] 167):=⟨_,rfl⟩
 have HB2:Hid (Below w.heap.size w w2):=by
  show Below _ _ _
  rw [hw2]
  exact (Below.refl _ _).alloc (Nat.le_refl _) _
 have HST:Hid (RSt w w2 w.heap.size w.heap.size (.slice none 0 0) (.slice none 0 0) [] [] [] []):=by
  show RSt _ _ _ _ _ _ _ _ _ _
  rw [hw2]
  exact ⟨heap_alloc_new _ _,OwnG.nil _ _ _,rfl,fun k h=>by simp at h,OwnG.nil _ _ _,rfl,fun k h=>by simp at h,Nat.le_refl _⟩
 have HRI:Hid (RestIn w w.heap.size w2 ⟨a,(restAt 0 L).length,cap⟩ (restAt 0 L)):=by
  refine ⟨rfl,by show (restAt 0 L).length≤cap;rw [HLN.out];exact hc,by rw [HLN.out];omega,.inl ?_⟩
  rw [rowsB_rest];exact HR.out
 have hcall:=rnode_any w w.heap.size w.heap.size (Nat.le_refl _) 21 (restAt 0 L) a cap (.slice none 0 0) (.slice none 0 0) [] [] [] [] w2 HRI.out HD.out.okR.1.2.2 HD.out.okR.2 (by
  have:=ofF_len HD.out
  exact Nat.le_trans this (by omega)) rfl HST.out HB2.out
 rw [HLN.out] at hcall
 have HC:=Lib.hid hcall
 rw [hw2] at HC
 clear hcall
 go_enter Tryz.func59,Tryz.ntmps59
 go_upto_region 3 with (first
  | (go_at_call 90;refine HC.out.mono ?_;rintro e w3 ⟨v3,vr3,N3,S3,E3,rfl,hb3, -, -,hB3, -, -⟩;have HB3:=Lib.hid hb3;have HW3:=Lib.hid hB3;clear hb3 hB3))
 have hrep:=HB3.out.rep
 obtain ⟨a3,c3,hv3,hc3,hdw⟩:=OwnD.dawg (w:=w3) (B:=w.heap.size) (v:=v3) (D:=ofF (restAt 0 L)) ⟨N3,HB3.out.own,HB3.out.len,HB3.out.arcs⟩ (ofF_arcs HD.out)
 subst hv3
 have HDW:=Lib.hid hdw
 obtain ⟨r0,r1⟩:=cells2 hrep
 clear hrep hdw
 go_wp2
 go_ret
 exact ⟨_,_,rfl,hc3,HDW.out,HW3.out⟩
end Go.Proofs.YthjmdgejnakcmaaGreatDoor
namespace Go.Proofs.YthjmdgejnakcmaaGreatDoor
open Go.RowKit Go.WideShapes
set_option linter.unusedVariables false
set_option linter.unusedSimpArgs false
def tagW (ws:Wd) (l:Wd):ByteArray × Bool:=(toB (ws ++ l),true)
theorem catG_cons (c:Nat) (g:Rst) (G:List (Nat × Rst)):catG ((c,g) :: G)=g.map (UInt8.ofNat c :: ·) ++ catG G:=rfl
theorem armsL_cat {Mt:List Rst} {n:Nat} {rec:Int→List UInt8→List (ByteArray × Bool) × Bool} {ws:Wd}:∀ {G:List (Nat × Rst)} {X:List Ar},Arcs Mt n G X →
  (∀ (c t:Nat) (g:Rst),(c,g)∈G→t<n→Mt[t]? = some g→rec (t:Int) (ws ++ [UInt8.ofNat c])=(g.map (tagW (ws ++ [UInt8.ofNat c])),true))→armsL rec ws X=((catG G).map (tagW ws),true):=by
 intro G X hA
 induction hA with
 | nil=>intro _;rfl
 | @cons c t g G X h1 h2 h3 _ ih =>
  intro hr
  have h:=hr c t g (by simp) h2 h3
  have ih2:=ih fun c t g hg=>hr c t g (List.mem_cons_of_mem _ hg)
  have e:UInt8.ofNat (c:Int).toNat=UInt8.ofNat c:=by rw [Int.toNat_natCast]
  rw [armsL]
  simp only [e,h,if_pos,ih2]
  rw [catG_cons,List.map_append,List.map_map]
  have:(tagW ws ∘ fun x=>UInt8.ofNat c :: x)=tagW (ws ++ [UInt8.ofNat c]):=by
   funext l
   simp [tagW]
  rw [this]
theorem grp_ne {r:Rst} (h:OkR r) (hf:finR r=false):grp r≠[]:=by
 intro e
 have:=recon h.1 h.2.1
 rw [hf,e] at this
 simp [catG] at this
 exact h.2.2 this
theorem OkR.fst {r:Rst} (h:OkR r):∃ s,s∈r:=List.exists_mem_of_ne_nil _ h.2.2
theorem
    visit_tab {Mt:List Rst} {E:List Nd} (hT:GTab Mt E):∀ (m k:Nat) (r:Rst) (ws:Wd),Mt[k]? = some r→(∀ s∈r,s.length<m)→(∀ s∈r,ws.length+s.length≤20)→visitL E m (k:Int) ws=(r.map (tagW ws),true)
 | 0,k,r,ws,hk,hm,_=>by
  exfalso
  have hok:=hT.ok r (List.mem_of_getElem? hk)
  obtain ⟨s,hs⟩:=hok.fst
  have:=hm s hs;omega
 | m
   +
    1,k,r,ws,hk,hm,hw=>by
  have hok:=hT.ok r (List.mem_of_getElem? hk)
  have hkE:k<E.length:=by rw [← hT.len];exact (List.getElem?_eq_some_iff.1 hk).1
  obtain ⟨r',h1,h2,h3⟩:=hT.nd k hkE
  obtain rfl:r=r':=by rw [hk] at h1;injection h1
  have hgd:E.getD (k:Int).toNat default=E[k]:=by rw [Int.toNat_natCast,List.getD_eq_getElem?_getD,List.getElem?_eq_getElem hkE];rfl
  have hne:¬ ((E[k].fin=false)∧E[k].arcs=[]):=by
   rintro ⟨a,b⟩
   rw [h2] at a
   have:=h3.len
   rw [b] at this
   exact grp_ne hok a (List.eq_nil_of_length_eq_zero this.symm)
  obtain ⟨s0,hs0⟩:=hok.fst
  have hfail:failV E (k:Int) ws=false:=by
   unfold failV
   rw [hgd]
   have:=hw s0 hs0
   have e1:¬ (k:Int)<0:=by omega
   have e2:¬ (E.length:Int)≤k:=by omega
   have e3:¬ 20<ws.length:=by omega
   simp only [e1,e2,e3,decide_false,Bool.or_false,Bool.false_or,Bool.and_eq_false_iff,Bool.not_eq_false']
   by_cases hf:E[k].fin=true
   · exact .inl hf
   · exact .inr (decide_eq_false fun h=>hne ⟨by simpa using hf,h⟩)
  rw [visitL,if_neg (by rw [hfail];simp),hgd]
  have hA:=armsL_cat (rec:=visitL E m) (ws:=ws) h3 fun c t g hg ht hM=>by
   obtain ⟨g1,g2,g3,g4⟩:=grp_mem hg
   simp only at g3
   refine visit_tab hT m t g _ hM (fun s hs=>?_) (fun s hs=>?_)
   ·
    rw [g3] at hs
    obtain ⟨b,_,h5⟩:=afterL_mem.1 hs
    have:=hm _ h5
    simp at this;omega
   ·
    rw [g3] at hs
    obtain ⟨b,_,h5⟩:=afterL_mem.1 hs
    have:=hw _ h5
    simp at this ⊢;omega
  rw [hA,h2]
  have hre:r.map (tagW ws)=(if finR r=true then [((⟨ws.toArray⟩:ByteArray),true)] else []) ++ (catG (grp r)).map (tagW ws):=by
   have hrc:=recon hok.1 hok.2.1
   refine (congrArg (List.map (tagW ws)) hrc).trans ?_
   rw [List.map_append]
   congr 1
   split
   · simp [tagW,toB]
   · rfl
  rw [hre]
theorem visit_of {L:List ByteArray} (hd:Dict L):(visitL (ofF (restAt 0 L)) 22 0 []).1=L.map fun s=>(s,true):=by
 obtain ⟨Mt,hgt,h0⟩:=of_tab hd.okR.1 hd.okR.2
 have h:=visit_tab hgt 22 0 (restAt 0 L) [] h0 (fun s hs=>by have:=hd.okR.2 s hs;omega) (fun s hs=>by have:=hd.okR.2 s hs;simp;omega)
 have e:((0:Nat):Int)=0:=rfl
 rw [e] at h
 rw [h]
 show (restAt 0 L).map (tagW [])=_
 unfold restAt
 rw [List.map_map]
 congr 1
theorem col_of {L:List ByteArray} (hd:Dict L):colOk (visitL (ofF (restAt 0 L)) 22 0 []).1:=by
 rw [visit_of hd]
 refine ⟨fun x hx=>?_,by rw [List.length_map];exact hd.2.1⟩
 obtain ⟨s,_,rfl⟩:=List.mem_map.1 hx
 rfl
theorem fst_of {L:List ByteArray} (hd:Dict L):fstS (visitL (ofF (restAt 0 L)) 22 0 []).1=L:=by
 rw [visit_of hd]
 unfold fstS
 rw [List.map_map]
 exact List.map_id'' (fun _=>rfl) _
theorem words_of {L:List ByteArray} (hd:Dict L):wordsF (ofF (restAt 0 L))=L:=by rw [wordsF_yes (col_of hd),fst_of hd]
theorem idxF_mem {L:List ByteArray} {s:ByteArray}:0≤idxF L s↔s∈L:=by
 unfold idxF
 constructor
 ·
  intro h
  split at h
  ·
   rename_i h2
   have:=List.findIdx_getElem (w:=h2)
   simp only [decide_eq_true_eq] at this
   rw [← this];exact List.getElem_mem h2
  · omega
 ·
  intro h
  rw [if_pos (List.findIdx_lt_length_of_exists ⟨s,h,by simp⟩)]
  omega
end Go.Proofs.YthjmdgejnakcmaaGreatDoor
namespace Go.Proofs.YthjmdgejnakcmaaGreatDoor
open Go.RowKit Go.WideShapes
set_option linter.unusedVariables false
set_option linter.unusedSimpArgs false
structure BR where
 a:Option Addr
 n:Nat
 c:Nat
 Z:Nat→Int
instance:Inhabited BR:=⟨⟨none,0,0,fun _=>0⟩⟩
def ByteRows (w:World) (a:Option Addr) (len:Nat) (Q:Nat→BR):Prop :=
 ∀ i,i<len→∃ b o,a=some ⟨b,o,none⟩∧b<w.heap.size∧w.cell? ⟨b,o+i,none⟩=some (.slice (Q i).a (Q i).n (Q i).c)∧IsBytes w (Q i).a (Q i).n (Q i).Z∧(Q i).n≤9223372036854775807
theorem ByteRows.later {w w1:World} {a:Option Addr} {len:Nat} {Q:Nat→BR} {B:Nat} (h:ByteRows w a len Q) (hb:Below B w w1) (hB:w.heap.size≤B):ByteRows w1 a len Q:=fun i hi=>by
 obtain ⟨b,o,ha,h1,h2,h3,h4⟩:=h i hi
 exact ⟨b,o,ha,by have:=hb.size;omega,(hb.cell (p:=⟨b,o+i,none⟩) (by show b<B;omega)).trans h2,h3.later hb hB,h4⟩
theorem idx_byterows (a:Option Addr) (b o len cap k:Nat) (ha:a=some ⟨b,o,none⟩) (hk:k<len) (w:World) :
  (Instr.indexAt 25 (.slice a len cap) (.int .i64 (k:Int))).run Tryz.prog w=.ok (.pointer (some ⟨b,o+k,none⟩)) w:=by
 subst ha
 have h0:(0:Int)≤(k:Int):=by omega
 have h1:(k:Int)<(len:Int):=by omega
 simp [go_sem,h0,h1]
end Go.Proofs.YthjmdgejnakcmaaGreatDoor
namespace Go.Proofs.YthjmdgejnakcmaaGreatDoor
set_option linter.unusedVariables false
set_option linter.unusedSimpArgs false
theorem csOk_of {L:List ByteArray} (hd:Dict L):CsOk (ofF (restAt 0 L)):=fun i hi x hx=>by
 obtain ⟨Mt,hgt, -⟩:=of_tab hd.okR.1 hd.okR.2
 obtain ⟨r,_,_,h3⟩:=hgt.nd i hi
 obtain ⟨⟨p1,p2,p3⟩,p4⟩:=h3.mem x hx
 have:=ofF_len hd
 exact ⟨p1,by omega,by omega,by omega⟩
theorem ofF_pos {L:List ByteArray} (hd:Dict L):0<(ofF (restAt 0 L)).length:=by
 obtain ⟨Mt,hgt,h0⟩:=of_tab hd.okR.1 hd.okR.2
 rw [← hgt.len];exact (List.getElem?_eq_some_iff.1 h0).1
theorem dict_mk2 {L:List ByteArray} (h1:1≤L.length) (h2:L.length≤200) (hw:∀ x∈L,wordB x=true) (hs:L.Pairwise fun x y=>ltS x y=true):Dict L :=
 ⟨h1,h2,fun i hi _=>⟨hw _ (List.getElem_mem hi),fun h0=>List.pairwise_iff_getElem.1 hs (i - 1) i (by omega) hi (by omega)⟩⟩
theorem ltS_tot {a b:ByteArray} (h:ltS a b=false) (hne:a≠b):ltS b a=true:=by
 have:=less_total a.toList b.toList
 unfold ltS at h ⊢
 have hab:(a.toList == b.toList)=false:=by
  cases e:(a.toList == b.toList)
  · rfl
  · exact absurd (by rw [beq_str] at e;exact of_decide_eq_true e) hne
 rw [h,hab] at this
 simpa using this.symm
theorem mem_tw {α:Type} {p:α→Bool} {x:α}:∀ {L:List α},x∈L.takeWhile p→p x=true
 | y
   :: r,h=>by
  rw [List.takeWhile_cons] at h
  split at h
  ·
   rename_i hy
   rcases List.mem_cons.1 h with rfl | h
   · exact hy
   · exact mem_tw h
  · cases h
theorem dw_head {α:Type} {p:α→Bool}:∀ {L:List α},L.dropWhile p=[]∨∃ y r,L.dropWhile p=y :: r∧p y=false
 | []=>.inl rfl
 | y :: r=>by
  rw [List.dropWhile_cons]
  split
  · exact dw_head
  · rename_i h;exact .inr ⟨y,r,rfl,by simpa using h⟩
theorem
    ins_sorted {L:List ByteArray} {s:ByteArray} (h:L.Pairwise fun x y=>ltS x y=true):(insF L s).Pairwise fun x y=>ltS x y=true:=by
 unfold insF
 split
 · exact h
 ·
  rename_i hn
  have hns:s ∉ L:=fun hm=>hn (idxF_mem.2 hm)
  have e:=List.takeWhile_append_dropWhile (p:=fun x=>ltS x s) (l:=L)
  rw [← e,List.pairwise_append] at h
  obtain ⟨h1,h2,h3⟩:=h
  have hd:∀ y∈L.dropWhile (fun x=>ltS x s),ltS s y=true:=by
   rcases dw_head (p:=fun x=>ltS x s) (L:=L) with e0 | ⟨z,r,e0,hz⟩
   · rw [e0];intro y hy;cases hy
   ·
    have hzm:z∈L:=by rw [← e,e0];simp
    have hsz:=ltS_tot hz (fun e=>hns (e ▸ hzm))
    rw [e0] at h2
    intro y hy
    rw [e0] at hy
    rcases List.mem_cons.1 hy with rfl | hy
    · exact hsz
    · exact ltS_trans hsz ((List.pairwise_cons.1 h2).1 y hy)
  refine List.pairwise_append.2 ⟨h1,List.pairwise_cons.2 ⟨hd,h2⟩,fun x hx y hy=>?_⟩
  have hxs:ltS x s=true:=mem_tw (p:=fun x=>ltS x s) hx
  rcases List.mem_cons.1 hy with rfl | hy
  · exact hxs
  · exact ltS_trans hxs (hd y hy)
theorem
    ins_mem {L:List ByteArray} {s x:ByteArray}:x∈insF L s↔x=s∨x∈L:=by
 unfold insF
 split
 ·
  rename_i h
  have:=idxF_mem.1 h
  exact ⟨.inr,fun h=>h.elim (fun e=>e ▸ this) id⟩
 ·
  have e:=List.takeWhile_append_dropWhile (p:=fun x=>ltS x s) (l:=L)
  constructor
  ·
   intro h
   rcases List.mem_append.1 h with h | h
   · exact .inr (by rw [← e];exact List.mem_append_left _ h)
   ·
    rcases List.mem_cons.1 h with h | h
    · exact .inl h
    · exact .inr (by rw [← e];exact List.mem_append_right _ h)
  ·
   rintro (rfl | h)
   · simp
   ·
    rw [← e] at h
    rcases List.mem_append.1 h with h | h
    · exact List.mem_append_left _ h
    · exact List.mem_append_right _ (List.mem_cons_of_mem _ h)
end Go.Proofs.YthjmdgejnakcmaaGreatDoor
namespace Go.Proofs.YthjmdgejnakcmaaGreatDoor
open Go.RowKit Go.WideShapes
set_option linter.unusedVariables false
set_option linter.unusedSimpArgs false
theorem dict_mk {L:List ByteArray} (h1:1≤L.length) (h2:L.length≤200) (h3:(List.range L.length).all (fun i=>wordB (L.getD i ⟨#[]⟩) && (i == 0 || Op.bytesLess (L.getD (i - 1) ⟨#[]⟩).data.toList (L.getD i ⟨#[]⟩).data.toList))=true):Dict L:=by
 refine ⟨h1,h2,fun i hi _=>?_⟩
 have h:=List.all_eq_true.1 h3 i (List.mem_range.2 hi)
 rw [List.getD_eq_getElem?_getD,List.getElem?_eq_getElem hi] at h
 simp only [Option.getD_some,Bool.and_eq_true,Bool.or_eq_true,beq_iff_eq] at h
 refine ⟨h.1,fun h0=>?_⟩
 rcases h.2 with h' | h'
 · omega
 ·
  rw [List.getD_eq_getElem?_getD,List.getElem?_eq_getElem (by omega)] at h'
  rw [ltS,ByteArray.toList_eq,ByteArray.toList_eq]
  exact h'
theorem strS_row {w:World} {g:Nat} {cs:Array Value} {t:TypeId} {fz:Nat × Nat} {L:List ByteArray} (h:w.heap[g]? = some (.cells cs t fz)) (hcs:cs.toList=L.map Value.string):StrS w (some ⟨g,0,none⟩) L:=fun k hk=>by
 refine ⟨g,0,rfl,(Array.getElem?_eq_some_iff.1 h).1,?_⟩
 rw [cell_of_row _ _ _ _ _ _ h,← Array.getElem?_toList,hcs]
 simp [hk]
end Go.Proofs.YthjmdgejnakcmaaGreatDoor
namespace Go.Proofs.YthjmdgejnakcmaaGreatDoor
open Go.RowKit Go.WideShapes
set_option linter.unusedVariables false
set_option linter.unusedSimpArgs false
structure AutS (w:World) (a:Option Addr) (n c:Nat) (L:List ByteArray):Prop where
 dict:Dict L
 len:n=(ofF (restAt 0 L)).length
 cap:n≤c
 rows:DawgS w a (ofF (restAt 0 L))
theorem AutS.later {w w1:World} {a:Option Addr} {n c:Nat} {L:List ByteArray} (h:AutS w a n c L) (hb:Below w.heap.size w w1):AutS w1 a n c L:=⟨h.dict,h.len,h.cap,h.rows.later hb (Nat.le_refl _)⟩
theorem AutS.go {w w1:World} {a:Option Addr} {n c:Nat} {L:List ByteArray} (h:AutS w a n c L) (hb:Below w.heap.size w w1):AutS w1 a n c L:=h.later hb
theorem AutS.small {w:World} {a:Option Addr} {n c:Nat} {L:List ByteArray} (h:AutS w a n c L):n≤4200∧1≤n:=by
 have h1:=ofF_len h.dict;have h2:=ofF_pos h.dict;have h3:=h.len;omega
theorem AutS.big {w:World} {a:Option Addr} {n c:Nat} {L:List ByteArray} (h:AutS w a n c L):(ofF (restAt 0 L)).length≤9223372036854775807:=by
 have h1:=ofF_len h.dict;omega
theorem build_d {L:List ByteArray} {n:Nat} {a:Option Addr} {cap:Nat} {w:World} (hd:Dict L) (hR:StrS w a L) (hL:n=L.length) (hc:n≤cap) (hT:Tab w) :
  Calls Tryz.prog 25 #[.slice a n cap] w fun e w'=>∃ a n c,e=.returned (.tuple #[.slice a n c,.int .i64 0])∧AutS w' a n c L∧Below w.heap.size w w':=by
 refine (build_yes L n a cap w hR hL (by have:=hd.2.1;omega) hc hT hd).mono ?_
 rintro e w1 ⟨a1,c1,rfl,hc1,h2,h3,hb⟩
 exact ⟨a1,_,c1,rfl,⟨hd,rfl,hc1,h3⟩,hb⟩
end Go.Proofs.YthjmdgejnakcmaaGreatDoor
namespace Go.Proofs.YthjmdgejnakcmaaGreatDoor
set_option linter.unusedVariables false
set_option linter.unusedSimpArgs false
open Go.ChangeShapes Go.WideShapes Go.ChangeAt Go.RowKit
structure BytA where
 a:Option Addr
 len:Nat
 cap:Nat
 Z:Nat→Int
def BytA.val (x:BytA):Value:=.slice x.a x.len x.cap
structure BytOk (w:World) (x:BytA):Prop where
 by':IsBytes w x.a x.len x.Z
 le:x.len≤9223372036854775807
structure BytsA where
 a:Option Addr
 len:Nat
 cap:Nat
 Q:Nat→BR
structure BytsOk (w:World) (x:BytsA):Prop where
 rows:ByteRows w x.a x.len x.Q
 le:x.len≤9223372036854775807
section
variable {H:Type} {enc:TypeId × Value→H} {w:World} {base:Nat} {spare:Nat→Bool} {held:Bool} {d:DataW H} {p:List MemPlace} {r:Reach} {b0:Nat} {v:Value}
end
end Go.Proofs.YthjmdgejnakcmaaGreatDoor
