/- Texts that the claims share: DNum, DRefP, DBuildF. -/
import Derived.Test.YtpljngaejaehcaaGreatDoorMD2
import Derived.Test.YtpljngaejaehcaaGreatDoorMD1
set_option maxHeartbeats 1600000
set_option maxRecDepth 100000
set_option linter.unusedVariables false
set_option linter.unusedSimpArgs false
namespace Go.Proofs.YtpljngaejaehcaaGreatDoor
open Go.RowKit Go.WideShapes
def VT2 (wW w0:World) (B gMet gm gD gN gV:Nat) (aN:Option Addr) (nN cN:Nat) (vb0:Option Nat) (N0:List NV) (v:Value) (N:List NV) (E:List Nd) (Mt:List Nat) (b1:Bool) (w:World):Prop :=
 match b1 with
 | false=>LV0 wW w0 B gMet gm gD gN gV aN nN cN vb0 N0 v N E Mt w
 | true=>True
theorem VT2.ext {wW w0:World} {B gMet gm gD gN gV:Nat} {aN:Option Addr} {nN cN:Nat} {vb0:Option Nat} {N0:List NV} {v:Value} {N:List NV} {E:List Nd} {Mt:List Nat}:∀ (b1:Bool) (w w':World),VT2 wW w0 B gMet gm gD gN gV aN nN cN vb0 N0 v N E Mt b1 w→Ext w w'→VT2 wW w0 B gMet gm gD gN gV aN nN cN vb0 N0 v N E Mt b1 w':=by
 intro b1 w w' h hx;cases b1 with
 | false=>exact LV0.ext h hx
 | true=>trivial
theorem Cu {w:World} {g:Nat} {a:Value} {t:TypeId} {f:Nat × Nat} (h:w.heap[g]? = some (.cells #[a] t f)):w.cell? ⟨g,0,none⟩=some a:=by
 rw [cell_of_row w g 0 _ _ f h];rfl
structure PVt (wW w0:World) (B gMet gm gD gN gV:Nat) (aN:Option Addr) (nN cN:Nat) (vb0:Option Nat) (N0:List NV) (v0:Value) (N:List NV) (E:List Nd) (Mt:List Nat) (nv:NV) (va:Value) (w:World):Prop where
 bst:VS0 w B gMet gm gD gN gV aN nN cN v0 N E Mt
 own:AZ Bk w B va (N ++ [nv])
 bl:Below B wW w
 fr:Fr gD gm vb0 w0 w
 nr:Cp vb0 va.ownBlock w0.heap.size
 ex:∃ X,N=N0 ++ X∧∀ x∈X,∀ g,nvB x=some g→w0.heap.size≤g
section
variable {wW w0 w w':World} {B gMet gm gD gN gV:Nat} {aN:Option Addr} {nN cN:Nat} {vb0:Option Nat} {N0:List NV} {v va:Value} {N:List NV} {E:List Nd} {Mt:List Nat} {nv:NV}
theorem O9:Bb (fun va w=>PVt wW w0 B gMet gm gD gN gV aN nN cN vb0 N0 v N E Mt nv va w):=fun va w w' h hx =>
 ⟨h.bst.ext hx,h.own.later hx (A3 _),h.bl.trans (Below.mono hx h.bst.size),h.fr.trans (Fr.of_below hx) h.nr,h.nr,h.ex⟩
theorem LV0.appN (h:LV0 wW w0 B gMet gm gD gN gV aN nN cN vb0 N0 v N E Mt w) (ho:AZ Bk w' B va (N ++ [nv])) (hg:w.grownBy w' v.ownBlock) (jc:va.ownBlock=v.ownBlock∨va.ownBlock=some w.heap.size):PVt wW w0 B gMet gm gD gN gV aN nN cN vb0 N0 v N E Mt nv va w':=by
 have hk:∀ q,q<w.heap.size→v.ownBlock≠some q→w'.heap[q]? = w.heap[q]?:=fun q hq jd=>hg.block q hq (fun e=>jd e.symm);refine ⟨h.bst.toVS0.keep fun q hq hh=>hk q hq fun e=>?_,ho,h.bl.grown hg h.bst.size fun q hq=>h.bst.own.ge q hq,⟨hg.os.trans h.fr.os,hg.tape.trans h.fr.tape,hg.output.trans h.fr.output,A8 h.fr.size hg.size,fun q hq h3 h4 h5=>?_⟩,?_,h.ex⟩
 ·obtain ⟨cs,jb⟩:=h.bst.own.obj e;obtain ⟨h1,h2,h3,h4,h5⟩:=h.bst.apartT jb (by decide);rcases hh with (rfl | rfl | rfl) | rfl | rfl | ⟨x,hx,je⟩
  · exact h1 rfl
  · exact h2 rfl
  · exact h3 rfl
  · exact h4 rfl
  · exact h5 rfl
  ·obtain ⟨_,cs2,ja⟩:=h.bst.rows_lt x hx q je;rw [jb] at ja;injection ja with ja;injection ja with _ h6;cases h6
 ·have h6:=h.fr.size;refine (hk q (by omega) fun e=>?_).trans (h.fr.block q hq h3 h4 h5);rcases h.nr with h7 | h7
  · exact h5 (by rw [← h7];exact e)
  · have:=h7 q e;omega
 ·rcases jc with h1 | h1
  · rw [h1];exact h.nr
  · rw [h1];exact .inr fun q hq=>by injection hq with hq;have:=h.fr.size;omega
theorem PVt.store (h:PVt wW w0 B gMet gm gD gN gV aN nN cN vb0 N0 v N E Mt nv va w) (hB:B≤w0.heap.size) {nd:Nd} (hf:nv.fin=nd.fin) (ha:nd.arcs=[]) (hv:(Value.slice nv.a nv.n nv.c)=.slice none 0 0) (hgD:gD<w0.heap.size) :
  LV0 wW w0 B gMet gm gD gN gV aN nN cN vb0 N0 va (N ++ [nv]) (E ++ [nd]) Mt (w.setCell ⟨gD,0,none⟩ va):=by
 have ja:∀ q,q≠gD→(w.setCell ⟨gD,0,none⟩ va).heap[q]? = w.heap[q]?:=fun q hq=>Below.heap_setCell _ _ _ _ hq;have jb:∀ {q:Nat} {cs:Array Value} {t:TypeId} {fz:Nat × Nat},w.heap[q]? = some (.cells cs t fz)→t≠69→q≠gD:=fun {q cs t fz} hq ht e=>by
  have h1:=h.bst.dd;rw [← e,hq] at h1;injection h1 with h1;injection h1 with _ h2;exact ht h2
 obtain ⟨es,c,jg⟩:=h.bst.map.obj;refine ⟨⟨⟨h.bst.bx.keep fun q hq hh=>ja q ?_,Ao h.bst.dd rfl,by simp [h.bst.len],fun k h1 h2=>?_,h.bst.map.kept (ja gm fun e=>?_),h.bst.hD,h.bst.hm,h.bst.dn⟩,h.own.keep fun g hg=>ja g ?_⟩,h.bl.setCell h.bst.hD _,⟨h.fr.os,h.fr.tape,h.fr.output,by rw [World.size_setCell];exact h.fr.size,fun q hq h3 h4 h5=>(ja q h3).trans (h.fr.block q hq h3 h4 h5)⟩,h.nr,?_⟩
 ·rcases hh with rfl | rfl | rfl
  · exact jb h.bst.bx.met (by decide)
  · exact h.bst.dn
  · exact jb h.bst.bx.vv (by decide)
 ·by_cases jd:k<N.length
  ·have je:k<E.length:=by rw [← h.bst.len];exact jd
   obtain ⟨h3,h4⟩:=h.bst.arcs k jd je;simp only [List.getElem_append_left jd,List.getElem_append_left je];exact ⟨h3,h4.keep fun g hg=>by
    obtain ⟨cs,jc⟩:=h4.obj hg;exact ja g (jb jc (by decide))⟩
  ·obtain rfl:k=N.length:=by rw [AB] at h1;simp at h1;omega
   have e1:(N ++ [nv])[N.length]=nv:=by simp
   have e2:(E ++ [nd])[N.length]=nd:=by simp [h.bst.len]
   rw [e1,e2,ha,hv];exact ⟨hf,AZ.nil _ _ _⟩
 ·have h1:=h.bst.dd;rw [← e,jg] at h1;cases h1
 ·obtain ⟨cs,jc⟩:=h.own.obj hg;exact jb jc (by decide)
 ·obtain ⟨X,hX,jf⟩:=h.ex;refine ⟨X ++ [nv],by rw [hX,List.append_assoc],fun x hx g hg=>?_⟩;rcases AT.1 hx with hx | hx
  · exact jf x hx g hg
  ·obtain rfl:=AD.1 hx;unfold nvB at hg;rw [hv] at hg;cases hg
theorem LVt.done {A:List Ar} {a:Option Addr} {c n:Nat} {gr cr:Nat} (h:LVt wW w0 B gMet gm gD gN gV aN nN cN vb0 N0 (.slice a A.length c) A (.slice (some ⟨gr,0,none⟩) N.length cr) N E Mt w) (hB:B≤w0.heap.size) (hn:N0.length=n) (je:n<N.length) {f:Bool} (hE:E[n]? = some ⟨f,[]⟩) :
  ∃ N',LV0 wW w0 B gMet gm gD gN gV aN nN cN vb0 N0 (.slice (some ⟨gr,0,none⟩) N.length cr) N' (E.set n ⟨f,A⟩) Mt (w.setCell ⟨gr,n*2+1,none⟩ (.slice a A.length c)):=by
 have jh:n<E.length:=by rw [← h.bst.len];exact je
 have ji:E[n]=⟨f,[]⟩:=by rw [AA jh] at hE;injection hE
 obtain ⟨cs0,jf⟩:=h.bst.own.obj (g:=gr) rfl;have jb:∀ q,q≠gr→(w.setCell ⟨gr,n*2+1,none⟩ (.slice a A.length c)).heap[q]? = w.heap[q]?:=fun q hq=>Below.heap_setCell _ _ _ _ hq;have ja:∀ {q:Nat} {cs:Array Value} {t:TypeId} {fz:Nat × Nat},w.heap[q]? = some (.cells cs t fz)→t≠168→q≠gr:=fun {q cs t fz} hq ht e=>by
  rw [e,jf] at hq;injection hq with hq;injection hq with _ h2;exact ht h2.symm
 obtain ⟨es,cm,jg⟩:=h.bst.map.obj;have jd:N[n].fin=f:=by have:=(h.bst.arcs n je jh).1;rw [this,ji]
 refine ⟨N.set n ⟨N[n].fin,a,A.length,c⟩,⟨⟨h.bst.bx.keep fun q hq hh=>jb q ?_,(jb gD (ja h.bst.dd (by decide))).trans h.bst.dd,by simp [h.bst.len],fun k h1 h2=>?_,h.bst.map.kept (jb gm fun e=>?_),h.bst.hD,h.bst.hm,h.bst.dn⟩,h.bst.own.setArcs je a A.length c⟩,h.bl.setCell (h.bst.own.ge gr rfl) _,⟨h.fr.os,h.fr.tape,h.fr.output,by rw [World.size_setCell];exact h.fr.size,fun q hq h3 h4 h5=>(jb q fun e=>?_).trans (h.fr.block q hq h3 h4 h5)⟩,h.nr,?_⟩
 ·rcases hh with rfl | rfl | rfl
  · exact ja h.bst.bx.met (by decide)
  · exact ja h.bst.bx.nn (by decide)
  · exact ja h.bst.bx.vv (by decide)
 ·have jl:k<N.length:=by simpa using h1
  have jk:k<E.length:=by simpa using h2
  obtain ⟨h3,h4⟩:=h.bst.arcs k jl jk;by_cases e:n=k
  ·subst e;simp only [List.getElem_set_self];exact ⟨jd,(h.own.mono hB).keep fun g hg=>by
    obtain ⟨cs,jc⟩:=h.own.obj hg;exact jb g (ja jc (by decide))⟩
  ·simp only [List.getElem_set_ne e];exact ⟨h3,h4.keep fun g hg=>by
    obtain ⟨cs,jc⟩:=h4.obj hg;exact jb g (ja jc (by decide))⟩
 · rw [e,jf] at jg;cases jg
 ·rcases h.nr with h7 | h7
  · exact h5 (by rw [← h7,e];rfl)
  · have:=h7 gr rfl;omega
 ·obtain ⟨X,hX,jj⟩:=h.ex;refine ⟨X.set 0 ⟨N[n].fin,a,A.length,c⟩,?_,fun x hx g hg=>?_⟩
  ·generalize (⟨N[n].fin,a,A.length,c⟩:NV)=nv9;rw [hX,List.set_append_right _ _ (by omega),hn,Nat.sub_self]
  ·rcases List.mem_or_eq_of_mem_set hx with hx | rfl
   · exact jj x hx g hg
   · exact h.own.ge g hg
end
theorem VSt.mapped {wW w w1:World} {B gMet gm gD gN gV:Nat} {aN:Option Addr} {nN cN:Nat} {v:Value} {N:List NV} {E:List Nd} {Mt Mt2:List Nat} (h:VSt w B gMet gm gD gN gV aN nN cN v N E Mt) (hb:Below B wW w) (hm:GI w1 gm Mt2) (hg:w.grownBy w1 (some gm)) :
  LV0 wW w B gMet gm gD gN gV aN nN cN v.ownBlock N v N E Mt2 w1:=by
 obtain ⟨es,c,jd⟩:=h.map.obj;have hk:∀ q,q<w.heap.size→q≠gm→w1.heap[q]? = w.heap[q]?:=fun q hq je=>hg.block q hq (fun e=>je (by injection e));have ja:∀ {q:Nat} {cs:Array Value} {t:TypeId} {fz:Nat × Nat},w.heap[q]? = some (.cells cs t fz)→q≠gm:=fun {q cs t fz} hq e=>by
  rw [e,jd] at hq;cases hq
 refine ⟨⟨⟨h.bx.keep fun q hq hh=>hk q hq ?_,(hk gD (A5.1 h.dd).1 (ja h.dd)).trans h.dd,h.len,fun k h1 h2=>⟨(h.arcs k h1 h2).1,(h.arcs k h1 h2).2.keep fun g jb=>?_⟩,hm,h.hD,h.hm,h.dn⟩,h.own.keep fun g jb=>?_⟩,hb.grown hg h.size (fun q hq=>by injection hq with hq;rw [← hq];exact h.hm),⟨hg.os,hg.tape,hg.output,hg.size,fun q hq _ h4 _=>hk q hq h4⟩,.inl rfl,[],by simp,fun x hx=>by cases hx⟩
 ·rcases hh with rfl | rfl | rfl
  · exact ja h.bx.met
  · exact ja h.bx.nn
  · exact ja h.bx.vv
 ·obtain ⟨cs,jc⟩:=(h.arcs k h1 h2).2.obj jb;exact hk g ((h.arcs k h1 h2).2.lt g jb) (ja jc)
 ·obtain ⟨cs,jc⟩:=h.own.obj jb;exact hk g (h.own.lt g jb) (ja jc)
def VT3 (wW w0:World) (B gMet gm gD gN gV:Nat) (aN:Option Addr) (nN cN:Nat) (vb0:Option Nat) (N0:List NV) (vA:Value) (A:List Ar) (v:Value) (N:List NV) (E E2:List Nd) (Mt Mt2:List Nat) (b1 b2:Bool) (w:World):Prop :=
 match b1,b2 with
 | false,_=>LVt wW w0 B gMet gm gD gN gV aN nN cN vb0 N0 vA A v N E Mt w
 | true,false=>∃ v2 N2,LVt wW w0 B gMet gm gD gN gV aN nN cN vb0 N0 vA A v2 N2 E2 Mt2 w
 | true,true=>True
def OA (wW w0:World) (B gMet gm gD gN gV:Nat) (aN:Option Addr) (nN cN:Nat) (vb0:Option Nat) (N0:List NV) (A2:List Ar) (E2:List Nd) (Mt2:List Nat) (va:Value) (w:World):Prop :=
 ∃ v2 N2,LVt wW w0 B gMet gm gD gN gV aN nN cN vb0 N0 va A2 v2 N2 E2 Mt2 w
section
variable {wW w0:World} {B gMet gm gD gN gV:Nat} {aN:Option Addr} {nN cN:Nat} {vb0:Option Nat} {N0:List NV} {vA:Value} {A A2:List Ar} {v:Value} {N:List NV} {E E2:List Nd} {Mt Mt2:List Nat}
theorem VT3.ext:∀ (b1 b2:Bool) (w w':World),VT3 wW w0 B gMet gm gD gN gV aN nN cN vb0 N0 vA A v N E E2 Mt Mt2 b1 b2 w→Ext w w'→VT3 wW w0 B gMet gm gD gN gV aN nN cN vb0 N0 vA A v N E E2 Mt Mt2 b1 b2 w':=by
 intro b1 b2 w w' h hx;cases b1 with
 | false=>exact LVt.ext h hx
 | true =>
  cases b2 with
  | false =>
   obtain ⟨v2,N2,h2⟩:=h;exact ⟨v2,N2,h2.ext hx⟩
  | true=>trivial
theorem VT3.some {b1:Bool} {w:World} (h:VT3 wW w0 B gMet gm gD gN gV aN nN cN vb0 N0 vA A v N E E2 Mt Mt2 b1 false w):VBx w gMet gm gD gN gV aN nN cN∧w0.heap.size≤w.heap.size∧AZ Bo w w0.heap.size vA A:=by
 cases b1 with
 | false=>exact ⟨(LVt.bst h).bx,(LVt.fr h).size,LVt.own h⟩
 | true =>
  obtain ⟨v2,N2,h2⟩:=h;exact ⟨h2.bst.bx,h2.fr.size,h2.own⟩
theorem II:Bb (OA wW w0 B gMet gm gD gN gV aN nN cN vb0 N0 A2 E2 Mt2):=by
 rintro va w w' ⟨v2,N2,h⟩ hx;exact ⟨v2,N2,h.ext hx⟩
end
theorem visit_any
         (wW:World) (B gMet gm gD gN gV:Nat) (aN:Option Addr) (cN:Nat) (Dn:List Nd) (hWB:wW.heap.size≤B) (km:C7 wW aN Dn) (hDl:Dn.length≤500000) (jx:Qp Dn) (kl:∀ i (h:i<Dn.length),Dn[i].arcs.length≤1000) :
  ∀ (m i:Nat) (Mt:List Nat) (E:List Nd) (v:Value) (N:List NV) (w:World),i<Dn.length→i<m→VOk Dn Mt E→VSt w B gMet gm gD gN gV aN Dn.length cN v N E Mt→Below B wW w →
  Calls Tryz.prog 102 #[.int .i64 (i:Int),.pointer (some ⟨gMet,0,none⟩),.pointer (some ⟨gD,0,none⟩),.pointer (some ⟨gN,0,none⟩),.pointer (some ⟨gV,0,none⟩)] w (Rd wW B gMet gm gD gN gV aN Dn.length cN (numV Dn m i Mt E) v N w):=by
 intro m
 induction m with
 | zero=>intro i _ _ _ _ _ _ h;omega
 | succ m ih
       =>
  intro i Mt E v N w hi him ky jH hW;have kF:=A0 km;have jw:=A0 jx;have jX:=A0 ky;have jq:=A0 jH;have HW:=A0 hW;have IH:=A0 ih;have kD:=A0 kl;have j8:=jH.size;have kE:=A0 j8;clear km jx ky jH hW ih kl;have jn:=jq.out.map.look i (by omega);have kb:=Cu jq.out.bx.met;by_cases hp:DF Mt i<Mt.length
  ·rw [if_pos hp,decide_eq_true hp] at jn;have jT:numV Dn (m+1) i Mt E=(DF Mt i,Mt,E):=by rw [numV,if_pos hp]
   have j7:=A0 jT;clear hp jT
   go_enter Tryz.func102,Tryz.ntmps102
   go_wp2;go_ret;rw [j7.out];exact ⟨rfl,v,N,jq.out,HW.out,Fr.refl _ _ _ _,.inl rfl,[],by simp,fun x hx=>by cases hx⟩
  ·rw [if_neg hp,decide_eq_false hp] at jn;obtain ⟨na,nc,kx, -, -⟩:=jq.out.own.form;rw [jq.out.len] at kx;subst kx;have kW:=Cu jq.out.dd;have jz:(E.length:Int)=(Mt.length:Int):=by rw [jX.out.len]
   have kL:=A0 jz;have hEl:E.length≤500000:=by have:=jX.out.le;omega
   have kT:Mt.length<1000000:=by have:=jX.out.len;omega
   have HP:=A0 hp;clear hp jz
   go_enter Tryz.func102,Tryz.ntmps102
   go_upto_region 6 with (first
    | (at_mapUpdate;go_loud (refine Fs jq.out.map i (by omega) HP.out kT rfl _ _ _ rfl rfl rfl (by show Value.int .i64 (E.length:Int)=_;rw [kL.out]) ?_;intro w1 kw ks)))
   have kJ:=A0 (VSt.mapped jq.out HW.out kw ks);obtain ⟨bN,oN,kr,hbN,f0,aa,cc,f1,kq,jY⟩:=kF.out.at hi;have hidxN:=Gc aN bN oN Dn.length cN i kr hi;have kt:Dn.getD i default=Dn[i]:=by rw [AO,AA hi];rfl
   have ki:=A0 kt;have je:=jw.out i hi;have jy:=kD.out i hi;obtain ⟨nd0,jS⟩:∃ nd0,Dn[i]=nd0:=⟨_,rfl⟩
   rw [jS] at f0 f1 kq jY je jy ki;obtain ⟨f,X⟩:=nd0;simp only at f0 f1 kq jY je jy;have kG:=A0 f0;have kH:=A0 f1;have kS:=A0 jY;have kQ:=A0 je;obtain ⟨FA,ko⟩:∃ FA,CY (numV Dn m) X [] (Mt ++ [i]) (E ++ [⟨f,[]⟩])=FA:=⟨_,rfl⟩
   have kh:=A0 ko;have Jx:gD<w.heap.size:=(A5.1 jq.out.dd).1;simp only [Act.put];clear kw ks f0 f1 jY je kt jS kr ko jn kb kW;refine An (by kernel_rfl) (Vs [vq (.slice na E.length nc),vq (.slice aN Dn.length cN),vq (.int .i64 (i:Int)),vq (.pointer (some ⟨bN,oN+i*2,none⟩)),vq (.pointer (some ⟨bN,oN+i*2,none⟩)),vq (.bool f),vq (.agg #[.bool f,.slice none 0 0]),Fq (.slice na E.length nc) (⟨f,none,0,0⟩:NV),fun va w9=>PVt wW w B gMet gm gD gN gV aN Dn.length cN (Value.slice na E.length nc).ownBlock N (.slice na E.length nc) N E (Mt ++ [i]) (⟨f,none,0,0⟩:NV) va w9]) (Xs [Ext,Ext,Ext,Ext,Ext,Ext,Ext,Ext,(fun w w'=>w.grownBy w' (Value.slice na E.length nc).ownBlock)]) (fun fL=>(fun b1 W=>VT2 wW w B gMet gm gD gN gV aN Dn.length cN (Value.slice na E.length nc).ownBlock N (.slice na E.length nc) N E (Mt ++ [i]) b1 W) (fL 8)) [0,0,0,6,14,30,62,126,255] 62 9 (by kernel_rfl) rfl ?hV ?hS ?hop ?hfin ?hlast
   case hV =>
    refine Az (Af (by simp only [AS,List.not_mem_nil,or_false,forall_eq_or_imp,forall_eq];exact ⟨AW _,AW _,AW _,AW _,AW _,AW _,AW _,GG _ _,O9⟩)) ?_;exact ⟨.inl rfl,.inl rfl,.inl rfl,.inl rfl,.inl rfl,.inl rfl,.inl rfl,.inl rfl,.inr (Aw ⟨fun _ _=>fun _ _ _ h _=>h,fun _ _=>fun _ _ _ h _=>h,fun _ _=>fun _ _ _ h _=>h,fun _ _=>fun _ _ _ h _=>h,fun _ _=>fun _ _ _ h _=>h,fun _ _=>fun _ _ _ h _=>h,fun _ _=>fun _ _ _ h _=>h,fun _ _=>GH _ _,fun h=>absurd rfl h,trivial⟩),trivial⟩
   case hS =>
    intro fL hf;show (fun b1 W=>VT2 wW w B gMet gm gD gN gV aN Dn.length cN (Value.slice na E.length nc).ownBlock N (.slice na E.length nc) N E (Mt ++ [i]) b1 W) (fL 8) _;rw [hf 8 (by decide)];exact VT2.ext false _ _ kJ.out ⟨rfl,rfl,rfl,A3 _,fun _ _=>rfl⟩
   case hop =>
    refine ⟨?_,?_,?_,?_,?_,?_,?_,?c7,?c8,?_,trivial⟩
    all_goals first | rw [if_neg (by decide)] | rw [if_pos (by decide)]
    all_goals try exact True.intro
    all_goals try intro ac W fL jj jl jF jB jb jc ja jv
    all_goals try have hS:(fun b1 W=>VT2 wW w B gMet gm gD gN gV aN Dn.length cN (Value.slice na E.length nc).ownBlock N (.slice na E.length nc) N E (Mt ++ [i]) b1 W) (fL 8) W:=jb
    all_goals try (have jC:fL 8=true:=jF 8 (by decide);rw [jC] at hS)
    all_goals try (have jC:fL 8=false:=(by first | exact jl | exact jB 8 (by decide) (by decide));rw [jC] at hS)
    all_goals try (
     have jf:LV0 wW w B gMet gm gD gN gV aN Dn.length cN (Value.slice na E.length nc).ownBlock N (.slice na E.length nc) N E (Mt ++ [i]) W:=hS;have hcD:=Cu jf.bst.dd;have hcN:=Cu jf.bst.bx.nn;have hcF:=(jf.bl.cell (p:=⟨bN,oN+i*2,none⟩) (by show bN<B;omega)).trans kG.out)
    all_goals try have hh2:=gdA ac 2 (.pointer (some ⟨gD,0,none⟩)) (ja 2 (by kernel_rfl))
    all_goals try have hh3:=gdA ac 3 (.pointer (some ⟨gN,0,none⟩)) (ja 3 (by kernel_rfl))
    all_goals try have hh0:=gdA ac 0 (.int .i64 (i:Int)) (ja 0 (by kernel_rfl))
    all_goals try (have d26:ac.tmps.getD 26 undef=.slice na E.length nc:=jc 0 (by decide);have dd26:=d26;rw [A4] at dd26)
    all_goals try have d33:(Fq (.slice na E.length nc) (⟨f,none,0,0⟩:NV)) (ac.tmps.getD 33 undef) W:=jc 7 (by decide)
    all_goals try (have jc:=DJ jc;simp [Cg,AY,vq] at jc)
    all_goals try clear ja jF jB jv
    case c7 =>
     have jr:(fun b1 W=>VT2 wW w B gMet gm gD gN gV aN Dn.length cN (Value.slice na E.length nc).ownBlock N (.slice na E.length nc) N E (Mt ++ [i]) b1 W) ((upd fL 7) 8) W:=jb;have jo:(Value.slice na E.length nc).ownBlock≠some W.heap.size:=fun e=>by
      have:=jf.bst.own.lt _ e;omega
     refine AX rfl (.inl ⟨.slice (some ⟨W.heap.size,0,none⟩) 1 1,W.alloc (.cells #[.bool f,.slice none 0 0] 168),?_,⟨_,rfl,heap_alloc_new _ _,jo⟩,(Below.refl _ _).alloc (A3 _) _,(show (fun b1 W=>VT2 wW w B gMet gm gD gN gV aN Dn.length cN (Value.slice na E.length nc).ownBlock N (.slice na E.length nc) N E (Mt ++ [i]) b1 W) ((upd fL 7) 8) _ by
      rw [show upd fL 7 8=fL 8 from if_neg (by decide)];exact VT2.ext _ _ _ jb ((Below.refl _ _).alloc (A3 _) _))⟩)
     clear jj hS jb jr jl jf;simp [go_sem,Act.eval, *]
    case c8 =>
     obtain ⟨g62,e62,jD,kc⟩:=d33;refine AX rfl ((B6 Cn (.tmp 26) (.tmp 33) rfl (Ad d26) jf.bst.own ⟨g62,0,none⟩ 1 [(⟨f,none,0,0⟩:NV)] (Ad e62) (Ae jD) (by rw [jf.bst.len];simp only [AC];omega) jf.bst.size).mono ?_);rintro va w' ⟨ho,jE,j9⟩;refine ⟨jf.appN ho jE j9,jE,?_⟩;show VT2 wW w B gMet gm gD gN gV aN Dn.length cN (Value.slice na E.length nc).ownBlock N (.slice na E.length nc) N E (Mt ++ [i]) (upd fL 8 8) w';rw [show upd fL 8 8=true from if_pos rfl];trivial
    all_goals (refine AX rfl (.inl ⟨_,W,?_,rfl,Ext.refl _,jb⟩);clear jj hS jb jl;simp [go_sem,Act.eval, *];done)
   case hfin =>
    intro h;exact absurd h (by decide)
   case hlast =>
    intro _ ac W jj jO fL hf jb hv ja;have hS:(fun b1 W=>VT2 wW w B gMet gm gD gN gV aN Dn.length cN (Value.slice na E.length nc).ownBlock N (.slice na E.length nc) N E (Mt ++ [i]) b1 W) (fL 8) W:=jb;clear jb;rw [hf 8 (by decide)] at hS;have jH:ac.tmps.getD 2 undef=.pointer (some ⟨gD,0,none⟩):=ja 2 (by kernel_rfl);have jG:PVt wW w B gMet gm gD gN gV aN Dn.length cN (Value.slice na E.length nc).ownBlock N (.slice na E.length nc) N E (Mt ++ [i]) (⟨f,none,0,0⟩:NV) (ac.tmps.getD 34 undef) W:=hv 8 (by decide);obtain ⟨ya,yc,ke, -, -⟩:=jG.own.form;rw [ke] at jG;refine BK rfl rfl rfl rfl (Ad jH) (Ad ke) (by simp [World.frozen?,jG.bst.dd]) (Cu jG.bst.dd) (by kernel_rfl) ?_;have ji:=jG.store j8 (nd:=⟨f,[]⟩) rfl rfl rfl Jx;obtain ⟨wz2,jW⟩:∃ wz2,W.setCell ⟨gD,0,none⟩ (.slice ya (N ++ [(⟨f,none,0,0⟩:NV)]).length yc)=wz2:=⟨_,rfl⟩
    rw [jW] at ji ⊢;have jA:=A0 ji;clear hS jG jW jH ji;obtain ⟨sx,j3,jU⟩:=Ag [26,27,28,29,30,31,32,33,34] (by kernel_rfl) jj jO ja;clear ke;rw [jU];simp only [List.foldl];simp only [Act.put,List.setIfInBounds_toArray,List.set_cons_succ,List.set_cons_zero];clear jU j3 hv ja jj jO hf;have kM:Hid (LVt wW w B gMet gm gD gN gV aN Dn.length cN (Value.slice na E.length nc).ownBlock N (.slice none 0 0) [] (.slice ya (N ++ [(⟨f,none,0,0⟩:NV)]).length yc) (N ++ [(⟨f,none,0,0⟩:NV)]) (E ++ [⟨f,[]⟩]) (Mt ++ [i]) wz2):=⟨jA.out.bst,jA.out.bl,jA.out.fr,jA.out.nr,jA.out.ex,AZ.nil _ _ _,fun x _ g _ e=>by cases e⟩
    have hcN2:=Cu jA.out.bst.bx.nn;have hcA2:=(jA.out.bl.cell (p:=⟨bN,oN+i*2+1,none⟩) (by show bN<B;omega)).trans kH.out;have j6:=A0 (jX.out.snoc hi HP.out (⟨f,[]⟩:Nd))
    go_wp2_with fail
    go_loopw [41,10] (fun s41 s10 wr=>∃ (k:Nat) (A:List Ar) (vA vE:Value) (N':List NV) (E':List Nd) (Mt':List Nat),s41=.int .i64 (k:Int)∧k≤X.length∧vA=s10∧LVt wW w B gMet gm gD gN gV aN Dn.length cN (Value.slice na E.length nc).ownBlock N vA A vE N' E' Mt' wr ∧
     CY (numV Dn m) (X.drop k) A Mt' E'=FA∧VOk Dn Mt' E'∧E.length<E'.length∧E'[E.length]? = some ⟨f,[]⟩∧A.length≤k) (fun s41 _ _=>X.length - (intOf s41).toNat)
    case atStart=>exact ⟨0,[],.slice none 0 0,_,_,_,_,rfl,Nat.zero_le _,rfl,kM.out,kh.out,j6.out,by simp,by simp,A3 _⟩
    case round =>
     obtain ⟨k,A,vA,vE,N',E',Mt',rfl,hk,rfl,kv,jk,jV,jm,kn,hAk⟩:=hrel;have jg:=A0 kv;have jI:=A0 jk;have jJ:=A0 jV;have kg:=A0 kn;clear kv jk jV kn;by_cases j2:k<X.length
     ·obtain ⟨
          b3,o3,ha3,hb3,q0,q1⟩:=kS.out.at j2
      have hidx3:=EI aa b3 o3 X.length cc k ha3 j2;have j5:=kQ.out X[k] (AG j2);obtain ⟨x,hx⟩:∃ x,X[k]=x:=⟨_,rfl⟩
      have jL:=A0 hx;rw [hx] at q0 q1 j5;obtain ⟨xc,xt⟩:=x;simp only at q0 q1 j5;obtain ⟨tn,rfl⟩:=Int.eq_ofNat_of_zero_le j5.1;have htn:tn<i:=by omega
      have kR:Hid (X[k]=⟨xc,(tn:Int)⟩):=jL.out;have c0:=(jg.out.bl.cell (p:=⟨b3,o3+k*2,none⟩) (by show b3<B;omega)).trans q0;have c1:=(jg.out.bl.cell (p:=⟨b3,o3+k*2+1,none⟩) (by show b3<B;omega)).trans q1;clear ha3 hx jL q0 q1 j5;obtain ⟨qi,qM,qE,hq⟩:∃ qi qM qE,numV Dn m tn Mt' E'=(qi,qM,qE):=⟨_,_,_,rfl⟩
      have HQ:=A0 hq;have jp:=ND jw.out m tn Mt' E' (by omega) (by omega) jJ.out;rw [hq] at jp;have jK:=A0 jp;have jZ:=Gz Dn m tn Mt' E';rw [hq] at jZ;have kf:Hid (E.length<qE.length∧qE[E.length]? = some ⟨f,[]⟩):=⟨A7 jm jZ.1,(jZ.2 _ jm).trans kg.out⟩
      clear hq jp jZ
      go_upto_region 11 with fail
      obtain ⟨wy,j4⟩:∃ wy,wy=wr.alloc (.cells #[.int .u8 xc,.int .i64 (tn:Int)] 170):=⟨_,rfl⟩
      have kB:Below wr.heap.size wr wy:=by rw [j4];exact (Below.refl _ _).alloc (A3 _) _
      have kP:Hid (wy.heap[wr.heap.size]? = some (.cells #[.int .u8 xc,.int .i64 (tn:Int)] 170 (0,0))):=by show _=_;rw [j4];exact heap_alloc_new _ _
      have kN:=A0 (jg.out.ext kB);have kO:Hid (vA.ownBlock≠some wr.heap.size):=fun e=>by have:=jg.out.own.lt _ e;omega
      rw [← j4];clear j4 kB;refine An (by kernel_rfl) (Vs [vq (vA),vq (.pointer (some ⟨wr.heap.size,0,none⟩)),vq (.int .u8 xc),vq (.func (.func 102) #[] #[.pointer (some ⟨gMet,0,none⟩),.pointer (some ⟨gD,0,none⟩),.pointer (some ⟨gN,0,none⟩),.pointer (some ⟨gV,0,none⟩)]),vq (.pointer (some ⟨wr.heap.size,1,none⟩)),vq (.int .i64 (tn:Int)),vq (.int .i64 (qi:Int)),vq (.agg #[.int .u8 xc,.int .i64 (qi:Int)]),EU vA (⟨xc,(qi:Int)⟩:Ar),OA wW w B gMet gm gD gN gV aN Dn.length cN (Value.slice na E.length nc).ownBlock N (A ++ [(⟨xc,(qi:Int)⟩:Ar)]) qE qM,OA wW w B gMet gm gD gN gV aN Dn.length cN (Value.slice na E.length nc).ownBlock N (A ++ [(⟨xc,(qi:Int)⟩:Ar)]) qE qM]) (Xs [Ext,Ext,Ext,Ext,Ext,Ext,(fun _ _=>True),Ext,Ext,(fun w w'=>w.grownBy w' vA.ownBlock),Ext]) (fun fL=>(fun b1 b2 W=>VT3 wW w B gMet gm gD gN gV aN Dn.length cN (Value.slice na E.length nc).ownBlock N vA A vE N' E' qE Mt' qM b1 b2 W∧W.heap[wr.heap.size]? = some (.cells #[.int .u8 xc,.int .i64 (tn:Int)] 170 (0,0))) (fL 6) (fL 9)) [0,0,2,0,0,16,56,126,254,511,1023] 62 11 (by kernel_rfl) rfl ?hV ?hS ?hop ?hfin ?hlast
      case hV =>
       refine Az (Af (by simp only [AS,List.not_mem_nil,or_false,forall_eq_or_imp,forall_eq];exact ⟨AW _,AW _,AW _,AW _,AW _,AW _,AW _,AW _,FU _ _,II,II⟩)) ?_;exact ⟨.inl rfl,.inl rfl,.inl rfl,.inl rfl,.inl rfl,.inl rfl,.inr (Aw ⟨fun _ _=>fun _ _ _ h _=>h,fun _ _=>fun _ _ _ h _=>h,fun _ _=>fun _ _ _ h _=>h,fun _ _=>fun _ _ _ h _=>h,fun _ _=>fun _ _ _ h _=>h,fun _ _=>fun _ _ _ h _=>h,fun h=>absurd rfl h,fun _ h=>absurd h (by decide),fun _ h=>absurd h (by decide),fun _ h=>absurd h (by decide),fun _ h=>absurd h (by decide),trivial⟩),.inl rfl,.inl rfl,.inr (Aw ⟨fun _ _=>fun _ _ _ h _=>h,fun _ _=>fun _ _ _ h _=>h,fun _ _=>fun _ _ _ h _=>h,fun _ _=>fun _ _ _ h _=>h,fun _ _=>fun _ _ _ h _=>h,fun _ _=>fun _ _ _ h _=>h,fun _ _=>fun _ _ _ h _=>h,fun _ _=>fun _ _ _ h _=>h,fun _ _=>FV _ _,fun h=>absurd rfl h,fun _ h=>absurd h (by decide),trivial⟩),.inl rfl,trivial⟩
      case hS =>
       intro fL hf;show (fun b1 b2 W=>VT3 wW w B gMet gm gD gN gV aN Dn.length cN (Value.slice na E.length nc).ownBlock N vA A vE N' E' qE Mt' qM b1 b2 W∧W.heap[wr.heap.size]? = some (.cells #[.int .u8 xc,.int .i64 (tn:Int)] 170 (0,0))) (fL 6) (fL 9) _;rw [hf 6 (by decide),hf 9 (by decide)];exact ⟨VT3.ext false false _ _ kN.out ⟨rfl,rfl,rfl,A3 _,fun _ _=>rfl⟩,kP.out⟩
      case hop =>
       refine ⟨?_,?_,?_,?c3,?_,?_,?c6,?_,?c8,?c9,?c10,trivial⟩
       all_goals first | rw [if_neg (by decide)] | rw [if_pos (by decide)]
       all_goals try intro ac W fL jj jl jF jB jb jc ja jv
       all_goals try have hS:(fun b1 b2 W=>VT3 wW w B gMet gm gD gN gV aN Dn.length cN (Value.slice na E.length nc).ownBlock N vA A vE N' E' qE Mt' qM b1 b2 W∧W.heap[wr.heap.size]? = some (.cells #[.int .u8 xc,.int .i64 (tn:Int)] 170 (0,0))) (fL 6) (fL 9) W:=jb
       all_goals try (have jt:fL 6=true:=jF 6 (by decide);rw [jt] at hS)
       all_goals try (have jt:fL 6=false:=(by first | exact jl | exact jB 6 (by decide) (by decide));rw [jt] at hS)
       all_goals try (have ju:fL 9=true:=jF 9 (by decide);rw [ju] at hS)
       all_goals try (have ju:fL 9=false:=(by first | exact jl | exact jB 9 (by decide) (by decide));rw [ju] at hS)
       all_goals try (
        have kA:=hS.2;obtain ⟨vb0',vb1'⟩:=Ah kA;clear kA)
       all_goals try (have jM:ac.tmps.getD 10 undef=vA:=jv 10 10 (by decide) (jB 10 (by decide) (by decide)) rfl;have ka:=jM;rw [A4] at ka)
       all_goals try have hh12:=gdA ac 12 (.pointer (some ⟨wr.heap.size,0,none⟩)) (ja 12 (by kernel_rfl))
       all_goals try (have h4:ac.tmps.getD 4 undef=.pointer (some ⟨gV,0,none⟩):=ja 4 (by kernel_rfl);have kX:=h4;rw [A4] at kX)
       all_goals try (have d45:ac.tmps.getD 45 undef=vA:=jc 0 (by decide);have dd45:=d45;rw [A4] at dd45)
       all_goals try have d53:(EU vA (⟨xc,(qi:Int)⟩:Ar)) (ac.tmps.getD 53 undef) W:=jc 8 (by decide)
       all_goals try have d54:(OA wW w B gMet gm gD gN gV aN Dn.length cN (Value.slice na E.length nc).ownBlock N (A ++ [(⟨xc,(qi:Int)⟩:Ar)]) qE qM) (ac.tmps.getD 54 undef) W:=jc 9 (by decide)
       all_goals try (have jc:=DJ jc;simp [Cg,AY,vq] at jc)
       all_goals try clear ja jF jB jv
       case c3 =>
        have jr:(fun b1 b2 W=>VT3 wW w B gMet gm gD gN gV aN Dn.length cN (Value.slice na E.length nc).ownBlock N vA A vE N' E' qE Mt' qM b1 b2 W∧W.heap[wr.heap.size]? = some (.cells #[.int .u8 xc,.int .i64 (tn:Int)] 170 (0,0))) ((upd fL 3) 6) ((upd fL 3) 9) W:=jb;have kZ:=Cu (VT3.some hS.1).1.vv;unfold VFn at kZ;refine AX rfl (.inl ⟨_,W,?_,rfl,Ext.refl _,jr⟩);clear jj hS jb jr jl;simp [go_sem,Act.eval, *]
       case c6 =>
        have jd:LVt wW w B gMet gm gD gN gV aN Dn.length cN (Value.slice na E.length nc).ownBlock N vA A vE N' E' Mt' W:=hS.1;have js:=IH.out tn Mt' E' vE N' W (by omega) (by omega) jJ.out jd.bst jd.bl;rw [HQ.out] at js;refine AX rfl (.inr ⟨102,#[.int .i64 (tn:Int),.pointer (some ⟨gMet,0,none⟩),.pointer (some ⟨gD,0,none⟩),.pointer (some ⟨gN,0,none⟩),.pointer (some ⟨gV,0,none⟩)],W,by (clear jj hS jb jl js jd;simp [go_sem,Act.eval, *]),?_⟩);refine js.mono ?_;clear js;rintro e w' hp;obtain ⟨he,v2,N2,ji⟩:=jd.called hp;refine ⟨_,he,rfl,trivial,?_⟩;have j0:w'.heap[wr.heap.size]? = W.heap[wr.heap.size]?:=by
         obtain ⟨_,_,_,h4,h5⟩:=jd.bst.apartT hS.2 (by decide);obtain ⟨_,v3,N3,kY⟩:=hp;exact kY.fr.block _ (A5.1 hS.2).1 h4 h5 (fun e=>by
          obtain ⟨cs2,kU⟩:=jd.bst.own.obj e;have j1:=hS.2;rw [kU] at j1;injection j1 with j1;injection j1 with _ h6;cases h6)
        refine ⟨?_,j0.trans hS.2⟩;show VT3 wW w B gMet gm gD gN gV aN Dn.length cN (Value.slice na E.length nc).ownBlock N vA A vE N' E' qE Mt' qM (upd fL 6 6) (upd fL 6 9) w';rw [show upd fL 6 6=true from if_pos rfl,show upd fL 6 9=fL 9 from if_neg (by decide),show fL 9=false from ju];exact ⟨v2,N2,ji⟩
       case c8 =>
        have jr:(fun b1 b2 W=>VT3 wW w B gMet gm gD gN gV aN Dn.length cN (Value.slice na E.length nc).ownBlock N vA A vE N' E' qE Mt' qM b1 b2 W∧W.heap[wr.heap.size]? = some (.cells #[.int .u8 xc,.int .i64 (tn:Int)] 170 (0,0))) ((upd fL 8) 6) ((upd fL 8) 9) W:=jb;have jo:vA.ownBlock≠some W.heap.size:=fun e=>by
         have:=(VT3.some hS.1).2.2.lt _ e;omega
        refine AX rfl (.inl ⟨.slice (some ⟨W.heap.size,0,none⟩) 1 1,W.alloc (.cells #[.int .u8 xc,.int .i64 (qi:Int)] 170),?_,⟨_,rfl,heap_alloc_new _ _,jo⟩,(Below.refl _ _).alloc (A3 _) _,(show (fun b1 b2 W=>VT3 wW w B gMet gm gD gN gV aN Dn.length cN (Value.slice na E.length nc).ownBlock N vA A vE N' E' qE Mt' qM b1 b2 W∧W.heap[wr.heap.size]? = some (.cells #[.int .u8 xc,.int .i64 (tn:Int)] 170 (0,0))) ((upd fL 8) 6) ((upd fL 8) 9) _ by
         rw [show upd fL 8 6=fL 6 from if_neg (by decide),show upd fL 8 9=fL 9 from if_neg (by decide)];exact ⟨VT3.ext _ _ _ _ jb.1 ((Below.refl _ _).alloc (A3 _) _),(Below.heap_alloc _ _ _ (A5.1 jb.2).1).trans jb.2⟩)⟩)
        clear jj hS jb jr jl;simp [go_sem,Act.eval, *]
       case c9 =>
        obtain ⟨g62,e62,jD,kc⟩:=d53;obtain ⟨⟨v2,N2,ji⟩,j0⟩:=hS;refine AX rfl ((B6 DO (.tmp 45) (.tmp 53) rfl (Ad d45) ji.own ⟨g62,0,none⟩ 1 [(⟨xc,(qi:Int)⟩:Ar)] (Ad e62) (Ae jD) (by simp only [AC];omega) ji.fr.size).mono ?_);rintro va w' ⟨ho,jE,j9⟩;have jQ:=ji.app kE.out jE;refine ⟨⟨v2,N2,jQ.bst,jQ.bl,jQ.fr,jQ.nr,jQ.ex,ho,fun y hy g hg e=>?_⟩,jE,?_⟩
        ·rcases j9 with h1 | h1
         · rw [h1] at e;exact ji.apart y hy g hg e
         ·rw [h1] at e;injection e with e;have:=(ji.bst.rows_lt y hy g hg).1;omega
        ·refine ⟨?_,(jE.block _ (A5.1 j0).1 (fun e=>kO.out e.symm)).trans j0⟩;show VT3 wW w B gMet gm gD gN gV aN Dn.length cN (Value.slice na E.length nc).ownBlock N vA A vE N' E' qE Mt' qM (upd fL 9 6) (upd fL 9 9) w';rw [show upd fL 9 9=true from if_pos rfl,show upd fL 9 6=fL 6 from if_neg (by decide),jt];trivial
       case c10 =>
        have jr:(fun b1 b2 W=>VT3 wW w B gMet gm gD gN gV aN Dn.length cN (Value.slice na E.length nc).ownBlock N vA A vE N' E' qE Mt' qM b1 b2 W∧W.heap[wr.heap.size]? = some (.cells #[.int .u8 xc,.int .i64 (tn:Int)] 170 (0,0))) ((upd fL 10) 6) ((upd fL 10) 9) W:=jb;have jM:OA wW w B gMet gm gD gN gV aN Dn.length cN (Value.slice na E.length nc).ownBlock N (A ++ [(⟨xc,(qi:Int)⟩:Ar)]) qE qM (ac.tmps.getD 54 undef) W:=d54;rw [A4] at jM;refine AX rfl (.inl ⟨_,W,?_,jM,Ext.refl _,jr⟩);clear jj hS jb jr jl jM;simp [go_sem,Act.eval, *]
       all_goals (refine AX rfl (.inl ⟨_,W,?_,rfl,Ext.refl _,jb⟩);clear jj hS jb jl;simp [go_sem,Act.eval, *];done)
      case hlast =>
       intro h;exact absurd rfl h
      case hfin =>
       intro _ ac W jj jO fL hf jb hv ja;have hS:(fun b1 b2 W=>VT3 wW w B gMet gm gD gN gV aN Dn.length cN (Value.slice na E.length nc).ownBlock N vA A vE N' E' qE Mt' qM b1 b2 W∧W.heap[wr.heap.size]? = some (.cells #[.int .u8 xc,.int .i64 (tn:Int)] 170 (0,0))) (fL 6) (fL 9) W:=jb;clear jb;rw [hf 6 (by decide),hf 9 (by decide)] at hS;obtain ⟨sx,j3,jU⟩:=Ag [45,46,47,48,49,50,51,52,53,54,10] (by kernel_rfl) jj jO ja;have kd:OA wW w B gMet gm gD gN gV aN Dn.length cN (Value.slice na E.length nc).ownBlock N (A ++ [(⟨xc,(qi:Int)⟩:Ar)]) qE qM (sx 10) W:=by rw [j3 10];exact hv 10 (by decide)
       obtain ⟨v2,N2,ji⟩:=kd;have kj:=A0 ji;clear ji hS;rw [jU];simp only [List.foldl];simp only [Act.put,List.setIfInBounds_toArray,List.set_cons_succ,List.set_cons_zero];clear jU j3 hv ja jj jO hf;obtain ⟨va,kz⟩:∃ va,sx 10=va:=⟨_,rfl⟩
       rw [kz] at kj ⊢;clear kz;have kk:CY (numV Dn m) (X.drop (k+1)) (A ++ [(⟨xc,(qi:Int)⟩:Ar)]) qM qE=FA:=by
        have h:=jI.out;rw [AE j2,kR.out,CY] at h;simp only [Int.toNat_natCast] at h;rw [HQ.out] at h;exact h
       have kC:=A0 kk;clear kk
       go_wp2_with fail
       go_roundw
       case rel=>exact ⟨k+1,_,va,v2,N2,qE,qM,by go_num,by omega,rfl,kj.out,kC.out,jK.out,kf.out.1,kf.out.2,by rw [AB];simp;omega⟩
       case measure=>simp [intOf];omega
     ·obtain rfl:k=X.length:=by omega
      have jk:=jI.out;rw [List.drop_length,CY] at jk;obtain ⟨a4,c4,rfl, -, -⟩:=jg.out.own.form;have jN:=jg.out.bst.len;have jh:=jg.out;rcases jh.bst.own.blk with ⟨_,h0⟩ | ⟨g4,c5,h0, -, -, -⟩
      · exfalso;rw [h0] at jN;simp at jN;omega
      rw [h0] at jh;have kp:=jq.out.len;obtain ⟨N5,ku⟩:=jh.done j8 kp (by omega) kg.out;have kK:=A0 ku;have hcd:=Cu jh.bst.dd;have jR:E.length<N'.length:=by rw [jN];exact jm
      have hcell:wr.cell? ⟨g4,E.length*2+1,none⟩=some (.slice N'[E.length].a N'[E.length].n N'[E.length].c):=jh.bst.own.cell Cn (i:=E.length) (j:=1) jR (by decide);have hfz5:wr.frozen? ⟨g4,E.length*2+1,none⟩=false:=by
       obtain ⟨cs,kV⟩:=jh.bst.own.obj (g:=g4) rfl;simp [World.frozen?,kV]
      have jP:=Gc _ g4 0 N'.length c5 E.length rfl jR;simp only [Nat.zero_add] at jP;have HHN:=A0 jN;have kI:=A0 jk;clear jk jN ku jh h0 kp
      go_wp2_with fail
      go_ret;rw [numV,if_neg HP.out,ki.out];simp only;rw [kh.out,← kI.out];exact ⟨rfl,_,_,kK.out⟩
def Qr (w:World) (B:Nat) (v:Value) (D:List Nd):Prop:=∃ N:List NV,AZ Bk w B v N∧N.length=D.length∧∀ k (h:k<N.length) (h2:k<D.length),N[k].fin=D[k].fin∧AZ Bo w B (.slice N[k].a N[k].n N[k].c) D[k].arcs
theorem Qr.dawg {w:World} {B:Nat} {v:Value} {D:List Nd} (h:Qr w B v D) (hl:∀ i (h:i<D.length),D[i].arcs.length≤1000):∃ a c,v=.slice a D.length c∧D.length≤c∧C7 w a D:=by
 obtain ⟨N,ho,hn,ha⟩:=h;rcases ho.blk with ⟨rfl,h0⟩ | ⟨g,c,rfl,h1,h2,h3⟩
 ·have:D=[]:=List.eq_nil_of_length_eq_zero (by rw [← hn,h0];rfl);subst this;exact ⟨none,0,rfl,A3 _,C7.nil _ _⟩
 ·refine ⟨some ⟨g,0,none⟩,c,by rw [hn],by omega,fun k hk=>?_⟩;have ja:k<N.length:=by omega
  obtain ⟨hf,hr⟩:=ha k ja hk;have c0:w.cell? ⟨g,k*2,none⟩=some (.bool N[k].fin):=ho.cell Cn (i:=k) (j:=0) ja (by decide);have c1:w.cell? ⟨g,k*2+1,none⟩=some (.slice N[k].a N[k].n N[k].c):=ho.cell Cn (i:=k) (j:=1) ja (by decide);obtain ⟨hA,jb,_⟩:=hr.arcs;have hk1:=hl k hk;refine ⟨g,0,rfl,h2,by rw [Nat.zero_add,c0,hf],N[k].a,N[k].c,by rw [Nat.zero_add,c1,jb],by omega,hA⟩
theorem VOk.nil (Dn:List Nd):VOk Dn [] []:=⟨rfl,List.nodup_nil,fun j hj=>by cases hj⟩
def w5 (w:World) (vN:Value):World:=((((w.alloc (Obj.cells #[vN] 69)).alloc (Obj.cells #[Value.slice none 0 0] 69)).alloc (Obj.map #[] 0)).alloc (Obj.cells #[Value.map (some (w.heap.size+1+1))] 173)).alloc
 (Obj.cells #[VFn (w.heap.size+1+1+1) (w.heap.size+1) w.heap.size (w.heap.size+1+1+1+1)] 174)
theorem PN (w:World) (vN:Value):Below w.heap.size w (w5 w vN):=by
 have e:∀ (wx:World) (o:Obj),w.heap.size≤wx.heap.size→Below w.heap.size w wx→Below w.heap.size w (wx.alloc o):=fun wx o h hb=>hb.alloc h _;unfold w5
 iterate 5 refine e _ _ (by first | omega | (simp only [A6];omega)) ?_
 exact Below.refl _ _
theorem skip {w:World} {o:Obj} {g:Nat} {x:Option Obj} (h:g<w.heap.size) (hx:w.heap[g]? = x):(w.alloc o).heap[g]? = x:=(Below.heap_alloc _ _ _ h).trans hx
theorem Re (w:World) (aN:Option Addr) (nN cN:Nat):VSt (w5 w (.slice aN nN cN)) w.heap.size (w.heap.size+1+1+1) (w.heap.size+1+1) (w.heap.size+1) w.heap.size (w.heap.size+1+1+1+1) aN nN cN (.slice none 0 0) [] [] []:=by
 refine ⟨⟨⟨?_,?_,?_⟩,?_,rfl,fun k h=>by simp at h,?_,by omega,by omega,by omega⟩,AZ.nil _ _ _⟩
 all_goals unfold w5
 ·refine skip (by simp only [A6];omega) ?_;have h:=heap_alloc_new (((w.alloc (Obj.cells #[.slice aN nN cN] 69)).alloc (Obj.cells #[Value.slice none 0 0] 69)).alloc (Obj.map #[] 0)) (Obj.cells #[Value.map (some (w.heap.size+1+1))] 173);simp only [A6] at h;exact h
 ·iterate 4 refine skip (by simp only [A6];omega) ?_
  exact heap_alloc_new _ _
 ·have h:=heap_alloc_new ((((w.alloc (Obj.cells #[.slice aN nN cN] 69)).alloc (Obj.cells #[Value.slice none 0 0] 69)).alloc (Obj.map #[] 0)).alloc (Obj.cells #[Value.map (some (w.heap.size+1+1))] 173)) (Obj.cells #[VFn (w.heap.size+1+1+1) (w.heap.size+1) w.heap.size (w.heap.size+1+1+1+1)] 174);simp only [A6] at h;exact h
 ·iterate 3 refine skip (by simp only [A6];omega) ?_
  have h:=heap_alloc_new (w.alloc (Obj.cells #[.slice aN nN cN] 69)) (Obj.cells #[Value.slice none 0 0] 69);simp only [A6] at h;exact h
 ·have h:=GI.new ((w.alloc (Obj.cells #[Value.slice aN nN cN] 69)).alloc (Obj.cells #[Value.slice none 0 0] 69));simp only [A6] at h;refine h.kept ?_
  iterate 2 refine skip (by simp only [A6];omega) ?_
  rfl
theorem KA (Dn:List Nd) (s:Nat) (aN:Option Addr) (cN:Nat) (w:World) (jc:C7 w aN Dn) (jf:Dn.length≤500000) (ja:Qp Dn) (jb:∀ i (h:i<Dn.length),Dn[i].arcs.length≤1000) (hs:s<Dn.length) :
  Calls Tryz.prog 76 #[.slice aN Dn.length cN,.int .i64 (s:Int)] w fun e w'=>∃ v,e=.returned v∧Qr w' w.heap.size v (numV Dn (s+1) s [] []).2.2∧Below w.heap.size w w':=by
 have HV:=A0 (visit_any w w.heap.size (w.heap.size+1+1+1) (w.heap.size+1+1) (w.heap.size+1) w.heap.size (w.heap.size+1+1+1+1) aN cN Dn (A3 _) jc jf ja jb (s+1) s [] [] (.slice none 0 0) [] (w5 w (.slice aN Dn.length cN)) hs (Nat.lt_succ_self _) (VOk.nil _) (Re _ _ _ _) (PN _ _));clear jc ja jb hs;have jg:=@run_makeMap Tryz.prog;have jh:∀ (fn:Fn) (x y:Array Value) (a:Addr) (m:Mode) (w:World),(store a (.func fn x y) m).run Tryz.prog w=stored Tryz.prog w a (.func fn x y) m:=fun fn x y a m w=>run_store Tryz.prog w a (.func fn x y) m rfl
 go_enter Tryz.func76,Tryz.ntmps76
 go_upto_region 5 with fail
 clear jg jh;change Code.wp _ _ _ _ (w5 w (.slice aN Dn.length cN));have jd:=Cu (Re w aN Dn.length cN).bx.vv;unfold VFn at jd;obtain ⟨wz,je⟩:∃ wz,w5 w (.slice aN Dn.length cN)=wz:=⟨_,rfl⟩
 rw [je] at HV jd ⊢;clear je
 go_wp2_with (first
  | (go_at_call 102;refine HV.out.mono ?_;rintro e w6 ⟨rfl,v,N,hl⟩;have hcd:=Cu hl.bst.dd;have HL:=A0 hl;clear hl))
 go_ret;refine ⟨v,rfl,⟨N,HL.out.bst.own,HL.out.bst.len,HL.out.bst.arcs⟩,HL.out.bl⟩
def KB (Mt:List Rst) (r:Rst):Nat:=Mt.findIdx fun q=>decide (q=r)
def IJ (rec:Rst→List Rst→List Nd→Nat × List Rst × List Nd) (r:Rst):List Nat→List Ar→List Rst→List Nd→List Ar × List Rst × List Nd
 | [],A,Mt,E=>(A,Mt,E)
 | c :: C,A,Mt,E=>if Aq r c=[] then IJ rec r C A Mt E else IJ rec r C (A ++ [⟨(c:Int),((rec (Aq r c) Mt E).1:Nat)⟩]) (rec (Aq r c) Mt E).2.1 (rec (Aq r c) Mt E).2.2
def D8 (rec:Rst→List Rst→List Nd→Nat × List Rst × List Nd):List (Nat × Rst)→List Ar→List Rst→List Nd→List Ar × List Rst × List Nd
 | [],A,Mt,E=>(A,Mt,E)
 | g :: G,A,Mt,E=>D8 rec G (A ++ [⟨(g.1:Int),((rec g.2 Mt E).1:Nat)⟩]) (rec g.2 Mt E).2.1 (rec g.2 Mt E).2.2
def
  refV:Nat→Rst→List Rst→List Nd→Nat × List Rst × List Nd
 | 0,_,Mt,E=>(0,Mt,E)
 | m+1,r,Mt,E=>if KB Mt r<Mt.length then (KB Mt r,Mt,E) else
  (E.length,(IJ (refV m) r (List.range' 33 94) [] (Mt ++ [r]) (E ++ [⟨false,[]⟩])).2.1,(IJ (refV m) r (List.range' 33 94) [] (Mt ++ [r]) (E ++ [⟨false,[]⟩])).2.2.set E.length ⟨Eo r,(IJ (refV m) r (List.range' 33 94) [] (Mt ++ [r]) (E ++ [⟨false,[]⟩])).1⟩)
theorem GK (rec:Rst→List Rst→List Nd→Nat × List Rst × List Nd) (r:Rst):∀ C A Mt E,IJ rec r C A Mt E=D8 rec (C.filterMap fun c=>if Aq r c=[] then none else some (c,Aq r c)) A Mt E
 | [],_,_,_=>rfl
 | c
   :: C,A,Mt,E=>by
  rw [IJ,List.filterMap_cons];by_cases h:Aq r c=[]
  · rw [if_pos h,if_pos h];exact GK rec r C _ _ _
  ·rw [if_neg h,if_neg h];simp only;rw [D8];exact GK rec r C _ _ _
def ofF (r:Rst):List Nd:=(refV 21 r [] []).2.2
def OB (P:List Nat) (E1 E2:List Nd):Prop:=E1.length=E2.length∧∀ k,k ∉ P→E1[k]? = E2[k]?
theorem FW {α:Type} {p q:α→Bool}:∀ {l:List α},(∀ x∈l,p x=q x)→l.findIdx p=l.findIdx q
 | [],_=>rfl
 | x :: r,h=>by rw [List.findIdx_cons,List.findIdx_cons,h x (by simp),FW fun y hy=>h y (List.mem_cons_of_mem _ hy)]
theorem GL {α β:Type} {f:α→β} {p:β→Bool}:∀ {l:List α},(l.map f).findIdx p=l.findIdx fun x=>p (f x)
 | []=>rfl
 | x :: r=>by rw [List.map_cons,List.findIdx_cons,List.findIdx_cons,GL]
def Rf (R:List Rst) (i:Nat):Rst:=R.getD i []
theorem JX {R:List Rst} {i:Nat} {g:Rst} (h:R[i]? = some g):Rf R i=g:=by rw [Rf,AO,h];rfl
theorem Qs {R:List Rst} (hR:R.Nodup) {Mt:List Nat} (hM:∀ j∈Mt,j<R.length) {i:Nat} (hi:i<R.length):KB (Mt.map (Rf R)) (Rf R i)=DF Mt i:=by
 unfold KB DF;rw [GL];refine FW fun j hj=>?_;have h1:R[j]? = some (Rf R j):=by rw [Rf,AO,AA (hM j hj)];rfl
 have h2:R[i]? = some (Rf R i):=by rw [Rf,AO,AA hi];rfl
 by_cases e:j=i
 · subst e;simp
 ·have:Rf R j≠Rf R i:=fun h=>e (JN hR h1 (by rw [h2,h]));simp [e,this]
def Sw (R:List Rst) (n:Nat) (P:List Nat) (q:Nat × List Nat × List Nd) (q2:Nat × List Rst × List Nd):Prop:=q.1=q2.1∧q.2.1.map (Rf R)=q2.2.1∧OB P q.2.2 q2.2.2∧∀ j∈q.2.1,j<n
theorem PO {R:List Rst} {n:Nat} {P:List Nat} {rec:Nat→List Nat→List Nd→Nat × List Nat × List Nd} {rec2:Rst→List Rst→List Nd→Nat × List Rst × List Nd} {b:Nat} {G:List (Nat × Rst)} {X:List Ar} (hA:CV R b G X)
  (hr:∀ t g Mt E1 E2,t<b→(∃ c,(c,g)∈G)→R[t]? = some g→(∀ j∈Mt,j<n)→OB P E1 E2→Sw R n P (rec t Mt E1) (rec2 g (Mt.map (Rf R)) E2)) :
  ∀ A Mt E1 E2,(∀ j∈Mt,j<n)→OB P E1 E2→(CY rec X A Mt E1).1=(D8 rec2 G A (Mt.map (Rf R)) E2).1∧(CY rec X A Mt E1).2.1.map (Rf R)=(D8 rec2 G A (Mt.map (Rf R)) E2).2.1∧OB P (CY rec X A Mt E1).2.2 (D8 rec2 G A (Mt.map (Rf R)) E2).2.2∧∀ j∈(CY rec X A Mt E1).2.1,j<n:=by
 induction hA with
 | nil=>intro A Mt E1 E2 hM hE;exact ⟨rfl,rfl,hE,hM⟩
 | @cons c t g G X h1 h2 h3 _ ih =>
  intro A Mt E1 E2 hM hE;rw [CY,D8];simp only [Int.toNat_natCast];obtain ⟨k1,k2,k3,k4⟩:=hr t g Mt E1 E2 h2 ⟨c,by simp⟩ h3 hM hE;have:=ih (fun t g Mt E1 E2 a b=>hr t g Mt E1 E2 a (by obtain ⟨c,b⟩:=b;exact ⟨c,List.mem_cons_of_mem _ b⟩)) (A ++ [⟨(c:Int),((rec t Mt E1).1:Nat)⟩]) _ _ _ k4 k3;rw [k2,k1] at this;rw [k1];exact this
theorem num_sim {D:List Nd} {R:List Rst} (hT:G8 D R):∀ m2 m i Mt E1 E2 P,i<D.length→i<m→(∀ s∈Rf R i,s.length<m2)→(∀ j∈Mt,j<D.length)→OB P E1 E2 →
  Sw R D.length P (numV D m i Mt E1) (refV m2 (Rf R i) (Mt.map (Rf R)) E2)
 | 0,m,i,Mt,E1,E2,P,hi,_,hs,_,_=>by
  exfalso;have ja:i<R.length:=by rw [hT.len];exact hi
  have h1:Rf R i=R[i]:=JX (AA ja);obtain ⟨x,hx⟩:=List.exists_mem_of_ne_nil _ (hT.ok _ (AG ja)).2.2;have:=hs x (by rw [h1];exact hx);omega
 | m2+1,0,i,_,_,_,_,_,h,_,_,_=>by omega
 | m2+1,m+1,i,Mt,E1,E2,P,hi,him,hs,hM,hE=>by
  have ja:i<R.length:=by rw [hT.len];exact hi
  have h1:Rf R i=R[i]:=JX (AA ja);rw [numV,refV,Qs hT.nodup (by rw [hT.len];exact hM) ja,AM];by_cases h:DF Mt i<Mt.length
  · rw [if_pos h,if_pos h];exact ⟨rfl,rfl,hE,hM⟩
  ·rw [if_neg h,if_neg h];obtain ⟨n1,n2⟩:=hT.nd i hi ja;have hg:D.getD i default=D[i]:=by rw [AO,AA hi];rfl
   rw [hg,GK];have je:∀ j∈Mt ++ [i],j<D.length:=fun j hj=>by
    rcases AT.1 hj with hj | hj
    · exact hM j hj
    · obtain rfl:=AD.1 hj;exact hi
   have jd:OB (E1.length :: P) (E1 ++ [⟨D[i].fin,[]⟩]) (E2 ++ [⟨false,[]⟩]):=by
    refine ⟨by simp [hE.1],fun k hk=>?_⟩;simp only [AS,not_or] at hk;by_cases h3:k<E1.length
    · rw [AI h3,AI (by rw [← hE.1];exact h3)];exact hE.2 k hk.2
    · rw [AP (by simp;omega),AP (by simp [← hE.1];omega)]
   obtain ⟨a1,a2,a3,a4⟩:=PO (n:=D.length) (P:=E1.length :: P) (rec:=numV D m) (rec2:=refV m2) n2 (fun t g Mt E1 E2 ht hg hR hM hE=>by
    have:=num_sim hT m2 m t Mt E1 E2 _ (by omega) (by omega) (by
     rw [JX hR];intro s jc;obtain ⟨c,hc⟩:=hg;have h4:=(Hk hc).2.2.1;simp only at h4;rw [h4] at jc;obtain ⟨b,_,h5⟩:=DX.1 jc;have:=hs (b :: s) (by rw [h1];exact h5);simp at this;omega) hM hE
    rwa [JX hR] at this) [] (Mt ++ [i]) (E1 ++ [⟨D[i].fin,[]⟩]) (E2 ++ [⟨false,[]⟩]) je jd
   have jb:(Mt ++ [i]).map (Rf R)=Mt.map (Rf R) ++ [R[i]]:=by rw [List.map_append,List.map_singleton,h1]
   rw [jb] at a1 a2 a3;rw [n1] at a1 a2 a3 a4;rw [h1];have jf:(List.range' 33 94).filterMap (fun c=>if Aq R[i] c=[] then none else some (c,Aq R[i] c))=grp R[i]:=rfl;rw [jf,n1];refine ⟨hE.1,a2,⟨by simp only [List.length_set];exact a3.1,fun k hk=>?_⟩,a4⟩;simp only;rw [a1,← hE.1];by_cases e:k=E1.length
   ·subst e;rw [List.getElem?_set,List.getElem?_set,if_pos rfl,if_pos rfl,a3.1]
   ·rw [List.getElem?_set_ne (Ne.symm e),List.getElem?_set_ne (Ne.symm e)];exact a3.2 k (by simp only [AS,not_or];exact ⟨e,hk⟩)
theorem PQ {L:List ByteArray} (hP:Pre 0 21 L) (hB:Dy L):(numV (nodeW 21 0 L []).2 ((nodeW 21 0 L []).1+1) (nodeW 21 0 L []).1 [] []).2.2=ofF (Aj 0 L)∧(nodeW 21 0 L []).1<(nodeW 21 0 L []).2.length∧Qp (nodeW 21 0 L []).2∧∀ i (h:i<(nodeW 21 0 L []).2.length),(nodeW 21 0 L []).2[i].arcs.length≤1000:=by
 obtain ⟨R,hT,_,hi⟩:=nodeW_tab 21 0 L [] [] hP hB G8.nil;have ja:(nodeW 21 0 L []).1<(nodeW 21 0 L []).2.length:=by rw [← hT.len];exact (List.getElem?_eq_some_iff.1 hi).1
 have h:=num_sim hT 21 ((nodeW 21 0 L []).1+1) (nodeW 21 0 L []).1 [] [] [] [] ja (Nat.lt_succ_self _) (by
  rw [JX hi];intro s hs;obtain ⟨x,hx,rfl⟩:=AH.1 hs;have:=hP.lt x hx;simpa using this) (fun j hj=>by cases hj) ⟨rfl,fun _ _=>rfl⟩
 refine ⟨?_,ja,fun i hi=>(hT.down i hi).1,fun i hi=>(hT.down i hi).2⟩;obtain ⟨_,_,h3,_⟩:=h;rw [JX hi] at h3;exact List.ext_getElem? fun k=>h3.2 k (by simp)
def OkR (r:Rst):Prop:=C8 r∧Dx r∧r≠[]
def KC (Mt:List Rst) (E:List Nd) (k:Nat):Prop:=∃ r X,Mt[k]? = some r∧E[k]? = some ⟨Eo r,X⟩∧CV Mt E.length (grp r) X
theorem KC.mono {Mt Mt':List Rst} {E E':List Nd} {k:Nat} (h:KC Mt E k) (hM:Mt <+: Mt') (hl:E.length≤E'.length) (hE:E'[k]? = E[k]?):KC Mt' E' k:=by
 obtain ⟨r,X,h1,h2,h3⟩:=h;refine ⟨r,X,?_,hE.trans h2,h3.mono hM hl⟩;obtain ⟨S,rfl⟩:=hM;rw [AI (List.getElem?_eq_some_iff.1 h1).1];exact h1
structure GM (Mt:List Rst) (E:List Nd) (Mt':List Rst) (E':List Nd):Prop where
 pre:Mt <+: Mt'
 len:Mt'.length=E'.length
 nodup:Mt'.Nodup
 ok:∀ r∈Mt',OkR r
 old:∀ k,k<E.length→E'[k]? = E[k]?
 new:∀ k,E.length≤k→k<E'.length→KC Mt' E' k
theorem GM.le {Mt Mt':List Rst} {E E':List Nd} (h:GM Mt E Mt' E') (hl:Mt.length=E.length):E.length≤E'.length:=by
 rw [← h.len,← hl];exact h.pre.length_le
theorem GM.trans {Mt Mt' Mt2:List Rst} {E E' E2:List Nd} (h:GM Mt E Mt' E') (hl:Mt.length=E.length) (h2:GM Mt' E' Mt2 E2):GM Mt E Mt2 E2:=by
 have h3:=h.le hl;have h4:=h2.le h.len;refine ⟨h.pre.trans h2.pre,h2.len,h2.nodup,h2.ok,fun k hk=>(h2.old k (by omega)).trans (h.old k hk),fun k hk ja=>?_⟩;by_cases h5:k<E'.length
 · exact (h.new k hk h5).mono h2.pre h4 (h2.old k h5)
 · exact h2.new k (by omega) ja
theorem OkR.after {r:Rst} (h:OkR r) {c:Nat} (hc:Aq r c≠[]):OkR (Aq r c):=⟨afterL_sort h.1,Jz h.2.1,hc⟩
theorem JY {rec:Rst→List Rst→List Nd→Nat × List Rst × List Nd} {m:Nat}
  (hr:∀ r Mt E,Mt.length=E.length→Mt.Nodup→(∀ x∈Mt,OkR x)→OkR r→(∀ s∈r,s.length<m)→GM Mt E (rec r Mt E).2.1 (rec r Mt E).2.2∧(rec r Mt E).2.1[(rec r Mt E).1]? = some r) :
  ∀
   G A Mt E,Mt.length=E.length→Mt.Nodup→(∀ x∈Mt,OkR x)→(∀ g∈G,OkR g.2∧g.1<256∧∀ s∈g.2,s.length<m) →
   GM Mt E (D8 rec G A Mt E).2.1 (D8 rec G A Mt E).2.2∧∃ X,(D8 rec G A Mt E).1=A ++ X∧CV (D8 rec G A Mt E).2.1 (D8 rec G A Mt E).2.2.length G X
 | [],A,Mt,E,hl,hn,ho,_=>by
  rw [D8];exact ⟨⟨List.prefix_refl _,hl,hn,ho,fun _ _=>rfl,fun k h1 h2=>by simp only at h2;omega⟩,[],by simp,.nil⟩
 | (c,g) :: G,A,Mt,E,hl,hn,ho,hG=>by
  rw [D8];obtain ⟨o1,o2,o3⟩:=hG (c,g) (by simp);simp only at o1 o2 o3 ⊢;obtain ⟨s1,s2⟩:=hr g Mt E hl hn ho o1 o3;obtain ⟨t1,X,t2,t3⟩:=JY hr G (A ++ [⟨(c:Int),((rec g Mt E).1:Nat)⟩]) _ _ s1.len s1.nodup s1.ok fun g hg=>hG g (List.mem_cons_of_mem _ hg);refine ⟨s1.trans hl t1,_ :: X,by rw [t2,List.append_assoc];rfl,.cons o2 ?_ ?_ t3⟩
  ·have:=(List.getElem?_eq_some_iff.1 s2).1;rw [s1.len] at this;have:=t1.le s1.len;omega
  ·obtain ⟨S,hS⟩:=t1.pre;rw [← hS,AI (List.getElem?_eq_some_iff.1 s2).1];exact s2
theorem Qt {Mt:List Rst} {r:Rst} (h:KB Mt r<Mt.length):Mt[KB Mt r]? = some r:=by
 rw [AA h];have:=List.findIdx_getElem (w:=h);exact congrArg some (of_decide_eq_true this)
theorem Qu {Mt:List Rst} {r:Rst} (h:¬ KB Mt r<Mt.length):r ∉ Mt:=fun hr=>h (List.findIdx_lt_length_of_exists ⟨r,hr,by simp⟩)
theorem refV_tab:∀ m r Mt E,Mt.length=E.length→Mt.Nodup→(∀ x∈Mt,OkR x)→OkR r→(∀ s∈r,s.length<m)→GM Mt E (refV m r Mt E).2.1 (refV m r Mt E).2.2∧(refV m r Mt E).2.1[(refV m r Mt E).1]? = some r
 | 0,r,Mt,E,hl,hn,ho,hr,hs=>by
  exfalso;obtain ⟨x,hx⟩:=List.exists_mem_of_ne_nil _ hr.2.2;have:=hs x hx;omega
 | m
   +
    1,r,Mt,E,hl,hn,ho,hr,hs=>by
  rw [refV,GK];by_cases h:KB Mt r<Mt.length
  ·rw [if_pos h];exact ⟨⟨List.prefix_refl _,hl,hn,ho,fun _ _=>rfl,fun k h1 h2=>by simp only at h2;omega⟩,Qt h⟩
  ·rw [if_neg h];have jg:=Qu h;have je:(List.range' 33 94).filterMap (fun c=>if Aq r c=[] then none else some (c,Aq r c))=grp r:=rfl;rw [je];obtain ⟨s1,X,s2,s3⟩:=JY (rec:=refV m) (m:=m) (refV_tab m) (grp r) [] (Mt ++ [r]) (E ++ [⟨false,[]⟩]) (by simp [hl]) (by
    rw [List.nodup_append];exact ⟨hn,by simp,fun a ha b hb e=>by
     obtain rfl:=AD.1 hb;subst e;exact jg ha⟩) (fun x hx=>by
    rcases AT.1 hx with hx | hx
    · exact ho x hx
    ·obtain rfl:=AD.1 hx;exact hr) fun g hg=>by
     obtain ⟨g1,g2,g3,g4⟩:=Hk hg;refine ⟨by rw [g3];exact hr.after (by rw [← g3];exact g4),by omega,fun s jc=>?_⟩;rw [g3] at jc;obtain ⟨b,_,h5⟩:=DX.1 jc;have:=hs _ h5;simp at this;omega
   simp only [List.nil_append] at s2;obtain ⟨q,hq⟩:∃ q,D8 (refV m) (grp r) [] (Mt ++ [r]) (E ++ [⟨false,[]⟩])=q:=⟨_,rfl⟩
   rw [hq] at s1 s2 s3 ⊢;have jf:=s1.le (by simp [hl]);simp at jf;have jd:E.length<q.2.2.length:=by omega
   have ja:q.2.1[E.length]? = some r:=by
    obtain ⟨S,hS⟩:=s1.pre;rw [← hS,AI (by simp [hl]),← hl];simp
   refine ⟨⟨(List.prefix_append _ _).trans s1.pre,by rw [List.length_set];exact s1.len,s1.nodup,s1.ok,fun k hk=>?_,fun k hk jb=>?_⟩,ja⟩
   · rw [List.getElem?_set_ne (by omega),s1.old k (by simp;omega),AI hk]
   ·by_cases e:k=E.length
    ·subst e;refine ⟨r,X,ja,?_,by rw [List.length_set];exact s3⟩;rw [List.getElem?_set_self jd,s2]
    ·rw [List.length_set] at jb;exact (s1.new k (by simp;omega) jb).mono (List.prefix_refl _) (by rw [List.length_set];exact A3 _) (by rw [List.getElem?_set_ne (Ne.symm e)])
structure Sx (Mt:List Rst) (E:List Nd):Prop where
 len:Mt.length=E.length
 nodup:Mt.Nodup
 ok:∀ r∈Mt,OkR r
 nd:∀ k (h:k<E.length),∃ r,Mt[k]? = some r∧E[k].fin=Eo r∧CV Mt E.length (grp r) E[k].arcs
theorem MG {r:Rst} (hr:OkR r) (hs:∀ s∈r,s.length<21):∃ Mt,Sx Mt (ofF r)∧Mt[0]? = some r:=by
 obtain ⟨h1,h2⟩:=refV_tab 21 r [] [] rfl List.nodup_nil (fun x hx=>by cases hx) hr hs;refine ⟨_,⟨h1.len,h1.nodup,h1.ok,fun k hk=>?_⟩,?_⟩
 ·obtain ⟨q,X,e1,e2,e3⟩:=h1.new k (Nat.zero_le _) hk;have:(ofF r)[k]=⟨Eo q,X⟩:=by
   have h3:=AA hk;rw [show (ofF r)[k]? = some ⟨Eo q,X⟩ from e2] at h3;injection h3 with h3;exact h3.symm
  rw [this];exact ⟨q,e1,rfl,e3⟩
 ·have h0:(refV 21 r [] []).1=0:=by rw [refV,if_neg (by simp [KB])];rfl
  rw [h0] at h2;exact h2
def MH (G:List (Nat × Rst)):Nat:=(G.map fun g=>g.2.length).sum
theorem LH:∀ G:List (Nat × Rst),(Iw G).length=MH G
 | []=>rfl
 | g :: G=>by
  have:=LH G;unfold Iw MH at this ⊢;rw [List.flatMap_cons,AB,this];simp
theorem Qv {r:Rst} (h:OkR r):MH (grp r)≤r.length:=by
 have:=congrArg List.length (recon h.1 h.2.1);rw [AB,LH] at this;omega
theorem LJ {rec:Rst→List Rst→List Nd→Nat × List Rst × List Nd} {k:Nat} (hr:∀ r Mt E,OkR r→(rec r Mt E).2.2.length≤E.length+r.length*k):∀ G A Mt E,(∀ g∈G,OkR g.2)→(D8 rec G A Mt E).2.2.length≤E.length+MH G*k
 | [],_,_,_,_=>Nat.le_add_right _ _
 | g :: G,A,Mt,E,h=>by
  rw [D8];have h1:=LJ hr G (A ++ [⟨(g.1:Int),((rec g.2 Mt E).1:Nat)⟩]) (rec g.2 Mt E).2.1 (rec g.2 Mt E).2.2 fun x hx=>h x (List.mem_cons_of_mem _ hx);have h2:=hr g.2 Mt E (h g (by simp));have h3:MH (g :: G)*k=g.2.length*k+MH G*k:=by rw [← Nat.add_mul];rfl
  omega
theorem refV_le:∀ m r Mt E,OkR r→(refV m r Mt E).2.2.length≤E.length+r.length*m
 | 0,_,_,_,_=>Nat.le_add_right _ _
 | m
   +
    1,r,Mt,E,hr=>by
  rw [refV,GK];have ja:(List.range' 33 94).filterMap (fun c=>if Aq r c=[] then none else some (c,Aq r c))=grp r:=rfl;rw [ja];split
  · exact Nat.le_add_right _ _
  ·have h1:=LJ (rec:=refV m) (k:=m) (refV_le m) (grp r) [] (Mt ++ [r]) (E ++ [⟨false,[]⟩]) fun g hg=>by
    obtain ⟨g1,g2,g3,g4⟩:=Hk hg;rw [g3];exact hr.after (by rw [← g3];exact g4)
   have h2:MH (grp r)*m≤r.length*m:=Nat.mul_le_mul_right _ (Qv hr);have h3:1≤r.length:=by
    cases r with
    | nil=>exact absurd rfl hr.2.2
    | cons=>simp
   have h4:r.length*(m+1)=r.length*m+r.length:=Nat.mul_succ _ _;simp only [List.length_set];simp at h1;omega
theorem PR {r:Rst} (hr:OkR r):(ofF r).length≤r.length*21:=by
 have:=refV_le 21 r [] [] hr;simpa [ofF] using this
theorem IK:∀ {a b c:List UInt8},Op.bytesLess a b=true→Op.bytesLess b c=true→Op.bytesLess a c=true
 | _,[],_,h,_=>by rw [Hz] at h;cases h
 | _,_ :: _,[],_,h=>by rw [Hz] at h;cases h
 | [],_ :: _,_ :: _,_,_=>rfl
 | x
   :: a,y :: b,z :: c,h1,h2=>by
  rw [DP] at *;rcases h1 with h1 | ⟨rfl,h1⟩
  ·rcases h2 with h2 | ⟨rfl,h2⟩
   · exact .inl (by omega)
   · exact .inl h1
  ·rcases h2 with h2 | ⟨rfl,h2⟩
   · exact .inl h2
   · exact .inr ⟨rfl,IK h1 h2⟩
theorem Gm {a b c:ByteArray} (h1:ltS a b=true) (h2:ltS b c=true):ltS a c=true:=IK h1 h2
theorem GN {α:Type} {p:α→α→Prop} (ht:∀ a b c,p a b→p b c→p a c):∀ {L:List α},(∀ i (h:i+1<L.length),p (L[i]'(by omega)) L[i+1])→L.Pairwise p
 | [],_=>.nil
 | [x],_=>by simp
 | x
   :: y :: r,h=>by
  have ih:=GN (p:=p) ht (L:=y :: r) (fun i hi=>by
   have h2:=h (i+1) (by simpa using hi);simpa using h2)
  have h0:p x y:=h 0 (by simp);refine AQ.2 ⟨fun z hz=>?_,ih⟩;rcases AS.1 hz with rfl | hz
  · exact h0
  · exact ht _ _ _ h0 ((AQ.1 ih).1 z hz)
theorem CJ.sorted {L:List ByteArray} (h:CJ L):L.Pairwise fun x y=>ltS x y=true :=
 GN (p:=fun x y=>ltS x y=true) (fun _ _ _ h1 h2=>Gm h1 h2) fun i hi=>(h.2.2 (i+1) hi hi).2 (by omega)
theorem CJ.word {L:List ByteArray} (h:CJ L):∀ x∈L,CO x=true:=fun x hx=>by
 obtain ⟨i,hi,rfl⟩:=List.getElem_of_mem hx;exact (h.2.2 i hi hi).1
theorem EV {x:ByteArray} (h:CO x=true):1≤x.size∧x.size≤20∧∀ b∈x.data.toList,33≤UInt8.toNat b∧UInt8.toNat b<127:=by
 unfold CO at h;simp only [Bool.and_eq_true,decide_eq_true_eq] at h;refine ⟨h.1,h.2.1,fun b hb=>?_⟩;have:=List.all_eq_true.1 h.2.2 b hb;unfold B1 at this;split at this
 · omega
 ·split at this
  · omega
  ·split at this
   · omega
   · simp at this
theorem CJ.pre {L:List ByteArray} (h:CJ L):Pre 0 21 L∧Dy L:=by
 refine ⟨⟨fun e=>by have:=h.1;rw [e] at this;simp at this,fun _ _=>Nat.zero_le _,fun x hx=>?_,fun x hx c hc=>?_,fun _ _ _ _=>by simp,h.sorted⟩,fun x hx=>(EV (h.word x hx)).2.2⟩
 · have:=(EV (h.word x hx)).2.1;omega
 · have:=(EV (h.word x hx)).2.2 c hc;omega
theorem CJ.okR {L:List ByteArray} (h:CJ L):OkR (Aj 0 L)∧∀ s∈Aj 0 L,s.length<21:=by
 obtain ⟨hP,hB⟩:=h.pre;refine ⟨⟨Ep hP.same hP.inc,ER hB,fun e=>hP.ne (List.map_eq_nil_iff.1 e)⟩,fun s hs=>?_⟩;obtain ⟨x,hx,rfl⟩:=AH.1 hs;have:=hP.lt x hx;simpa using this
def S4 (L:List ByteArray) (w:World) (e:Ending) (w':World):Prop :=
 (CJ L∧∃ a c,e=.returned (.tuple #[.slice a (ofF (Aj 0 L)).length c,.int .i64 0])∧(ofF (Aj 0 L)).length≤c∧(ofF (Aj 0 L)).length≤4200∧C7 w' a (ofF (Aj 0 L))∧Below w.heap.size w w') ∨
 (¬ CJ L∧e=.returned (.tuple #[.slice none 0 0,.int .i64 90])∧Below w.heap.size w w')
theorem build_any (L:List ByteArray) (n:Nat) (a:Option Addr) (cap:Nat) (w:World) (hR:BH w a L) (hL:n=L.length) (hn:n≤9223372036854775807) (hc:n≤cap) (hT:Tab w) :
  Calls Tryz.prog 42 #[.slice a n cap] w (S4 L w):=by
 subst hL;have HR:=A0 hR;have HT:=A0 hT;clear hR hT;by_cases hd:CJ L
 ·have HD:=A0 hd;have jj:=F8 hd;clear hd;have jC:=@run_makeMap Tryz.prog
  go_enter Tryz.func42,Tryz.ntmps42
  go_upto_region 4 with (first
   | (go_at_call 74;refine (dictionary_any L _ a cap _ HR.out rfl hn).mono ?_;rintro e w1 ⟨rfl,rfl⟩;rw [jj]))
  clear jC;obtain ⟨b,o,rfl, -, -⟩:=HR.out.at (k:=0) (by have:=HD.out.1;omega);obtain ⟨w2,jh⟩:∃ w2,w2=(w.alloc (Obj.map #[] 0)).alloc (Obj.cells #[Value.slice none 0 0,Value.map (some w.heap.size)] 133):=⟨_,rfl⟩
  have jt:Hid (Below w.heap.size w w2):=by
   show Below _ _ _;rw [jh];exact ((Below.refl _ _).alloc (A3 _) _).alloc (by simp only [A6];omega) _
  have jz:Hid (BSt w2 w.heap.size (w.heap.size+1) w.heap.size (.slice none 0 0) [] []):=by
   show BSt _ _ _ _ _ _ _;rw [jh];refine ⟨?_,AZ.nil _ _ _,rfl,fun k h=>by simp at h,?_,by omega,by omega⟩
   ·have h:=heap_alloc_new (w.alloc (Obj.map #[] 0)) (Obj.cells #[Value.slice none 0 0,Value.map (some w.heap.size)] 133);simp only [A6] at h;exact h
   · refine (En.new w).kept (skip (by simp only [A6];omega) rfl)
  rw [← jh];clear jh;obtain ⟨HP,jw⟩:Hid (Pre 0 21 L)∧Hid (Dy L):=HD.out.pre;obtain ⟨jf,ji,je,jb⟩:=PQ HP.out jw.out;have hl200:L.length≤200:=HD.out.2.1;have jg:=Hx 21 0 L [] HP.out.ne;have ja:=A0 HD.out.okR;obtain ⟨s0,D0,hq⟩:∃ s0 D0,nodeW 21 0 L []=(s0,D0):=⟨_,_,rfl⟩
  have jm:=A0 (node_any w w.heap.size (w.heap.size+1) w.heap.size (A3 _) HT.out 21 0 L b o cap (.slice none 0 0) [] [] w2 HR.out hc (by omega) HP.out (by omega) (by simp;omega) jz.out jt.out);rw [hq] at jf ji je jb jg jm;simp only at jf ji je jb jg;have jv:=A0 jf;have jx:=A0 je;have jl:=A0 jb;have hdl2:D0.length≤4200:=by simp at jg;omega
  clear jf je jb hq jg
  go_upto_region 5 with (first
   | (go_at_call 75;refine jm.out.mono ?_;rintro e w3 ⟨v3,N3,E3,rfl,jb, -, -,jp, -, -⟩;have jd:=A0 jb;have jo:=A0 jp;clear jb jp))
  have jc:=jd.out.rep;obtain ⟨a3,c3,jD,hc3,jr⟩:=Qr.dawg (w:=w3) (B:=w.heap.size) (v:=v3) (D:=D0) ⟨N3,jd.out.own,jd.out.len,jd.out.arcs⟩ jl.out;subst jD;have jy:=A0 jr;have hr0:w3.cell? ⟨w.heap.size+1,0,none⟩=some (.slice a3 D0.length c3):=by
   rw [cell_of_row _ _ _ _ _ _ jc];rfl
  clear jc jr
  go_wp2_with (first
   | (go_at_call 76;refine (KA D0 s0 a3 c3 w3 jy.out (by omega) jx.out jl.out ji).mono ?_;rintro e w4 ⟨v4,rfl,js,jq⟩;have jn:=A0 js;have ju:=A0 jq;clear js jq))
  rw [jv.out] at jn;obtain ⟨Mt,jB, -⟩:=MG ja.out.1 ja.out.2;obtain ⟨a4,c4,rfl,jA,jk⟩:=jn.out.dawg fun i hi=>by
   obtain ⟨r,_,_,h3⟩:=jB.nd i hi;rw [h3.len];have:=My r;omega
  have hle:=PR ja.out.1;have hln:(Aj 0 L).length=L.length:=by simp [Aj]
  go_ret2
  exact .inl ⟨HD.out,a4,c4,rfl,jA,by omega,jk,jo.out.trans (ju.out.mono jo.out.size)⟩
 ·have HD:=A0 hd;have jj:=CD hd;clear hd
  go_enter Tryz.func42,Tryz.ntmps42
  go_wp2_with (first
   | (go_at_call 74;refine (dictionary_any L _ a cap _ HR.out rfl hn).mono ?_;rintro e w1 ⟨rfl,rfl⟩;rw [jj]))
  go_ret2
  exact .inr ⟨HD.out,rfl,Below.refl _ _⟩
end Go.Proofs.YtpljngaejaehcaaGreatDoor
