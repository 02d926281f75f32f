/- Texts that the claims share: DNode, DNumP. -/
import Derived.Deep.CutBlock
import Derived.Test.YtpljngaejaehcaaGreatDoorMD1
set_option maxHeartbeats 1600000
set_option maxRecDepth 100000
set_option linter.unusedVariables false
set_option linter.unusedSimpArgs false
namespace Go.Proofs.YtpljngaejaehcaaGreatDoor
open Go.RowKit Go.WideShapes
def nvB (x:NV):Option Nat:=(Value.slice x.a x.n x.c).ownBlock
def IG (wW:World) (B gB gM:Nat) (q:Nat × List Nd) (v:Value) (N:List NV) (w:World) (e:Ending) (w':World):Prop :=
 ∃ v' N' E,e=.returned (.int .i64 (q.1:Int))∧BSt w' B gB gM v' N' q.2∧N'=N ++ E∧(∀ x∈E,∀ g,nvB x=some g→w.heap.size≤g)∧Below B wW w'∧Fr gB gM v.ownBlock w w'∧Cp v.ownBlock v'.ownBlock w.heap.size
structure LSt (wW w0:World) (B gB gM gn:Nat) (vb0:Option Nat) (N0:List NV) (fin:Bool) (vA:Value) (A:List Ar) (v:Value) (N:List NV) (D:List Nd) (w:World):Prop where
 bst:BSt w B gB gM v N D
 bl:Below B wW w
 fr:Fr gB gM vb0 w0 w
 nr:Cp vb0 v.ownBlock w0.heap.size
 ex:∃ E,N=N0 ++ E∧∀ x∈E,∀ g,nvB x=some g→w0.heap.size≤g
 box:w.heap[gn]? = some (.cells #[.bool fin,vA] 168 (0,0))
 gg:w0.heap.size≤gn
 vn:v.ownBlock≠some gn
 own:AZ Bo w w0.heap.size vA A
 apart:∀ x∈N,∀ g,nvB x=some g→vA.ownBlock≠some g
section
variable {wW w0 w w':World} {B gB gM gn:Nat} {vb0:Option Nat} {N0:List NV} {fin:Bool} {vA:Value} {A:List Ar} {v:Value} {N:List NV} {D:List Nd}
theorem LSt.ext (h:LSt wW w0 B gB gM gn vb0 N0 fin vA A v N D w) (hx:Ext w w') (hB:B≤w.heap.size):LSt wW w0 B gB gM gn vb0 N0 fin vA A v N D w' :=
 ⟨h.bst.ext hx,h.bl.trans (Below.mono hx hB),h.fr.trans (Fr.of_below hx) h.nr,h.nr,h.ex,(Below.block hx gn (A5.1 h.box).1).trans h.box,h.gg,h.vn,h.own.later hx (A3 _),h.apart⟩
theorem LSt.gs (h:LSt wW w0 B gB gM gn vb0 N0 fin vA A v N D w):gn<w.heap.size:=(A5.1 h.box).1
theorem BSt.size (h:BSt w B gB gM v N D):B≤w.heap.size:=A8 h.gB (Nat.le_of_lt (A5.1 h.rep).1)
theorem BSt.apart_arc (h:BSt w B gB gM v N D) {g:Nat} {cs:Array Value} {fz:Nat × Nat} (hg:w.heap[g]? = some (.cells cs 170 fz)):g≠gB∧g≠gM∧v.ownBlock≠some g:=by
 refine ⟨?_,?_,?_⟩
 ·rintro rfl;rw [h.rep] at hg;injection hg with hg;injection hg with _ h2;cases h2
 ·rintro rfl;obtain ⟨es,c,hm⟩:=h.map.obj;rw [hm] at hg;cases hg
 ·intro e;rcases h.own.2 with ⟨rfl,_⟩ | ⟨g',cap,cur,rfl,_,h2,_⟩
  · cases e
  ·cases e;rw [h2] at hg;injection hg with hg;injection hg with _ h3;cases h3
theorem AZ.obj {α:Type} {T:BQ α} {L:List α} (h:AZ T w B v L) {g:Nat} (hg:v.ownBlock=some g):∃ cs,w.heap[g]? = some (.cells cs T.e (0,0)):=by
 rcases h.2 with ⟨rfl,_⟩ | ⟨g',cap,cur,rfl,_,h2,_⟩
 · cases hg
 · cases hg;exact ⟨_,h2⟩
end
def Rc:Value→Nat
 | .slice _ n _=>n
 | _=>0
theorem Ao {w:World} {g i:Nat} {y:Value} {cs cs':Array Value} {t:TypeId} {f:Nat × Nat} (h:w.heap[g]? = some (.cells cs t f)) (hc:cs.setIfInBounds i y=cs'):(w.setCell ⟨g,i,none⟩ y).heap[g]? = some (.cells cs' t f):=by
 simp only [World.setCell];rw [Array.getElem?_modify,if_pos rfl,h,← hc];rfl
structure Hf (wW w0:World) (B gB gM gn:Nat) (vb0:Option Nat) (N0:List NV) (fin:Bool) (vA:Value) (v:Value) (N:List NV) (D:List Nd) (w:World):Prop where
 bst:BSt w B gB gM v N D
 bl:Below B wW w
 fr:Fr gB gM vb0 w0 w
 nr:Cp vb0 v.ownBlock w0.heap.size
 ex:∃ E,N=N0 ++ E∧∀ x∈E,∀ g,nvB x=some g→w0.heap.size≤g
 box:w.heap[gn]? = some (.cells #[.bool fin,vA] 168 (0,0))
 gg:w0.heap.size≤gn
 vn:v.ownBlock≠some gn
theorem Hf.gn_ne {wW w0 w:World} {B gB gM gn:Nat} {vb0:Option Nat} {N0:List NV} {fin:Bool} {vA:Value} {v:Value} {N:List NV} {D:List Nd} (h:Hf wW w0 B gB gM gn vb0 N0 fin vA v N D w) :
  ∀ q,(q=gB∨q=gM∨v.ownBlock=some q∨∃ x∈N,(Value.slice x.a x.n x.c).ownBlock=some q)→q≠gn:=by
 rintro q (rfl | rfl | hq | ⟨x,hx,hq⟩) e
 ·subst e;have:=h.bst.rep;rw [h.box] at this;injection this with this;injection this with _ h2;cases h2
 ·subst e;obtain ⟨es,c,hm⟩:=h.bst.map.obj;rw [h.box] at hm;cases hm
 · subst e;exact h.vn hq
 ·subst e;obtain ⟨k,hk,rfl⟩:=List.getElem_of_mem hx;obtain ⟨cs,ja⟩:=(h.bst.arcs k hk (by rw [← h.bst.len];exact hk)).2.obj hq;rw [h.box] at ja;injection ja with ja;injection ja with _ h2;cases h2
theorem LSt.gn_ne {wW w0 w:World} {B gB gM gn:Nat} {vb0:Option Nat} {N0:List NV} {fin:Bool} {vA:Value} {A:List Ar} {v:Value} {N:List NV} {D:List Nd} (h:LSt wW w0 B gB gM gn vb0 N0 fin vA A v N D w) :
  ∀ q,(q=gB∨q=gM∨v.ownBlock=some q∨∃ x∈N,(Value.slice x.a x.n x.c).ownBlock=some q)→q≠gn:=by
 rintro q (rfl | rfl | hq | ⟨x,hx,hq⟩) e
 ·subst e;have:=h.bst.rep;rw [h.box] at this;injection this with this;injection this with _ h2;cases h2
 ·subst e;obtain ⟨es,c,hm⟩:=h.bst.map.obj;rw [h.box] at hm;cases hm
 · subst e;exact h.vn hq
 ·subst e;obtain ⟨k,hk,rfl⟩:=List.getElem_of_mem hx;obtain ⟨cs,ja⟩:=(h.bst.arcs k hk (by rw [← h.bst.len];exact hk)).2.obj hq;rw [h.box] at ja;injection ja with ja;injection ja with _ h2;cases h2
theorem Hf.setBox {wW w0 w:World} {B gB gM gn:Nat} {vb0:Option Nat} {N0:List NV} {fin fin':Bool} {vA vA':Value} {A':List Ar} {v:Value} {N:List NV} {D:List Nd} {i:Nat} {y:Value} (h:Hf wW w0 B gB gM gn vb0 N0 fin vA v N D w) (hB:B≤w0.heap.size)
  (hc:(#[.bool fin,vA]:Array Value).setIfInBounds i y=#[.bool fin',vA']) (ho:AZ Bo w w0.heap.size vA' A') (jc:∀ x∈N,∀ g,nvB x=some g→vA'.ownBlock≠some g):LSt wW w0 B gB gM gn vb0 N0 fin' vA' A' v N D (w.setCell ⟨gn,i,none⟩ y):=by
 have jb:∀ q,q≠gn→(w.setCell ⟨gn,i,none⟩ y).heap[q]? = w.heap[q]?:=fun q hq=>Below.heap_setCell _ _ _ _ hq;refine ⟨h.bst.keep fun q hq hh=>jb q (h.gn_ne q hh),h.bl.setCell (A8 hB h.gg) _,⟨h.fr.os,h.fr.tape,h.fr.output,by rw [World.size_setCell];exact h.fr.size,fun q hq h3 h4 h5=>(jb q (by have:=h.gg;omega)).trans (h.fr.block q hq h3 h4 h5)⟩,h.nr,h.ex,Ao h.box hc,h.gg,h.vn,ho.keep fun g hg=>jb g fun e=>?_,jc⟩
 ·subst e;obtain ⟨cs,ja⟩:=ho.obj hg;rw [h.box] at ja;injection ja with ja;injection ja with _ h2;cases h2
section
variable {wW w0 w w':World} {B gB gM gn:Nat} {vb0:Option Nat} {N0:List NV} {fin:Bool} {vA:Value} {A:List Ar} {v:Value} {N:List NV} {D:List Nd}
theorem Hf.ext (h:Hf wW w0 B gB gM gn vb0 N0 fin vA v N D w) (hx:Ext w w'):Hf wW w0 B gB gM gn vb0 N0 fin vA v N D w' :=
 ⟨h.bst.ext hx,h.bl.trans (Below.mono hx h.bst.size),h.fr.trans (Fr.of_below hx) h.nr,h.nr,h.ex,(Below.block hx gn (A5.1 h.box).1).trans h.box,h.gg,h.vn⟩
theorem LSt.called (h:LSt wW w0 B gB gM gn vb0 N0 fin vA A v N D w) {q:Nat × List Nd} {e:Ending} (hp:IG wW B gB gM q v N w e w'):e=.returned (.int .i64 (q.1:Int))∧∃ v' N',LSt wW w0 B gB gM gn vb0 N0 fin vA A v' N' q.2 w':=by
 obtain ⟨v',N',E,rfl,hb,rfl,hE,jf,ja,jc⟩:=hp;have ji:=h.gs;have jb:=h.gn_ne;have jh:w'.heap[gn]? = w.heap[gn]?:=ja.block gn ji (fun e=>jb gB (.inl rfl) e.symm) (fun e=>jb gM (.inr (.inl rfl)) e.symm) h.vn;have jd:=h.fr.size;refine ⟨rfl,v',_,hb,jf,h.fr.trans ja h.nr,h.nr.trans jc jd,?_,jh.trans h.box,h.gg,?_,h.own.keep fun g hg=>?_,fun x hx g hg=>?_⟩
 ·obtain ⟨E0,rfl,je⟩:=h.ex;refine ⟨E0 ++ E,by rw [List.append_assoc],fun x hx g hg=>?_⟩;rcases AT.1 hx with hx | hx
  · exact je x hx g hg
  · exact A8 jd (hE x hx g hg)
 ·intro e;rcases jc with h1 | h1
  · exact h.vn (by rw [← h1];exact e)
  · have:=h1 gn e;omega
 ·obtain ⟨cs,jg⟩:=h.own.obj hg;obtain ⟨h1,h2,h3⟩:=h.bst.apart_arc jg;exact ja.block g (h.own.lt g hg) h1 h2 h3
 ·intro e;rcases AT.1 hx with hx | hx
  · exact h.apart x hx g hg e
  · have:=hE x hx g hg;have:=h.own.lt g e;omega
theorem LSt.app (h:LSt wW w0 B gB gM gn vb0 N0 fin vA A v N D w) (hB:B≤w0.heap.size) (hg:w.grownBy w' vA.ownBlock):Hf wW w0 B gB gM gn vb0 N0 fin vA v N D w':=by
 have jc:∀ q,vA.ownBlock=some q→q≠gB∧q≠gM∧v.ownBlock≠some q:=fun q hq=>by
  obtain ⟨cs,ja⟩:=h.own.obj hq;exact h.bst.apart_arc ja
 have hk:∀ q,q<w.heap.size→vA.ownBlock≠some q→w'.heap[q]? = w.heap[q]?:=fun q hq je=>hg.block q hq (fun e=>je e.symm);have jd:vA.ownBlock≠some gn:=fun e=>by
  obtain ⟨cs,ja⟩:=h.own.obj e;rw [h.box] at ja;injection ja with ja;injection ja with _ h2;cases h2
 refine ⟨h.bst.keep fun q hq hh=>hk q hq fun e=>?_,h.bl.grown hg h.bst.size fun q hq=>A8 hB (h.own.ge q hq),⟨hg.os.trans h.fr.os,hg.tape.trans h.fr.tape,hg.output.trans h.fr.output,A8 h.fr.size hg.size,fun q hq h3 h4 h5=>?_⟩,h.nr,h.ex,(hk gn h.gs jd).trans h.box,h.gg,h.vn⟩
 ·rcases hh with rfl | rfl | jb | ⟨x,hx,jb⟩
  · exact (jc _ e).1 rfl
  · exact (jc _ e).2.1 rfl
  · exact (jc _ e).2.2 jb
  · exact h.apart x hx q jb e
 ·have h6:=h.fr.size;exact (hk q (by omega) (fun e=>by have:=h.own.ge q e;omega)).trans (h.fr.block q hq h3 h4 h5)
theorem LSt.to0 (h:LSt wW w0 B gB gM gn vb0 N0 fin vA A v N D w):Hf wW w0 B gB gM gn vb0 N0 fin vA v N D w:=⟨h.bst,h.bl,h.fr,h.nr,h.ex,h.box,h.gg,h.vn⟩
theorem Hf.rows_lt (h:Hf wW w0 B gB gM gn vb0 N0 fin vA v N D w):∀ x∈N,∀ g,nvB x=some g→g<w.heap.size:=by
 intro x hx g hg;obtain ⟨k,hk,rfl⟩:=List.getElem_of_mem hx;exact (h.bst.arcs k hk (by rw [← h.bst.len];exact hk)).2.lt g hg
end
def NT (wW w0:World) (B gB gM gn:Nat) (vb0:Option Nat) (N0:List NV) (fin:Bool) (vA:Value) (A:List Ar) (v:Value) (N:List NV) (D D2:List Nd) (b1 b2:Bool) (w:World):Prop :=
 match b1,b2 with
 | false,_=>LSt wW w0 B gB gM gn vb0 N0 fin vA A v N D w
 | true,false=>∃ v2 N2,LSt wW w0 B gB gM gn vb0 N0 fin vA A v2 N2 D2 w
 | true,true=>True
def S3 (wW w0:World) (B gB gM gn:Nat) (vb0:Option Nat) (N0:List NV) (fin:Bool) (vA:Value) (A2:List Ar) (D2:List Nd) (va:Value) (w:World):Prop :=
 ∃ v2 N2,Hf wW w0 B gB gM gn vb0 N0 fin vA v2 N2 D2 w∧AZ Bo w w0.heap.size va A2∧∀ x∈N2,∀ g,nvB x=some g→va.ownBlock≠some g
section
variable {wW w0:World} {B gB gM gn:Nat} {vb0:Option Nat} {N0:List NV} {fin:Bool} {vA:Value} {A:List Ar} {v:Value} {N:List NV} {D D2:List Nd}
theorem NT.ext:∀ (b1 b2:Bool) (w w':World),NT wW w0 B gB gM gn vb0 N0 fin vA A v N D D2 b1 b2 w→Ext w w'→NT wW w0 B gB gM gn vb0 N0 fin vA A v N D D2 b1 b2 w':=by
 intro b1 b2 w w' h hx;cases b1 with
 | false=>exact LSt.ext h hx (LSt.to0 h).bst.size
 | true =>
  cases b2 with
  | false =>
   obtain ⟨v2,N2,h2⟩:=h;exact ⟨v2,N2,h2.ext hx h2.bst.size⟩
  | true=>trivial
theorem NT.boxed {b1:Bool} {w:World} (h:NT wW w0 B gB gM gn vb0 N0 fin vA A v N D D2 b1 false w):w.heap[gn]? = some (.cells #[.bool fin,vA] 168 (0,0))∧w0.heap.size≤w.heap.size:=by
 cases b1 with
 | false=>exact ⟨LSt.box h,(LSt.fr h).size⟩
 | true =>
  obtain ⟨v2,N2,h2⟩:=h;exact ⟨h2.box,h2.fr.size⟩
theorem MF {A2:List Ar}:Bb (S3 wW w0 B gB gM gn vb0 N0 fin vA A2 D2):=by
 rintro va w w' ⟨v2,N2,h1,h2,h3⟩ hx;exact ⟨v2,N2,h1.ext hx,h2.later hx (A3 _),h3⟩
end
def EU (vA:Value) (x:Ar) (v:Value) (w:World):Prop:=∃ g,v=.slice (some ⟨g,0,none⟩) 1 1∧w.heap[g]? = some (.cells #[.int .u8 x.c,.int .i64 x.t] 170 (0,0))∧vA.ownBlock≠some g
theorem FU (vA:Value) (x:Ar):Bb (EU vA x):=by
 rintro v w w' ⟨g,rfl,h,hn⟩ hx;exact ⟨g,rfl,(Below.block hx g (A5.1 h).1).trans h,hn⟩
theorem FV (vA:Value) (x:Ar):∀ v w w',EU vA x v w→w.grownBy w' vA.ownBlock→EU vA x v w':=by
 rintro v w w' ⟨g,rfl,h,hn⟩ hx;exact ⟨g,rfl,(hx.block g (A5.1 h).1 (fun e=>hn e.symm)).trans h,hn⟩
structure PSt (wW w0:World) (B gB gM:Nat) (vb0:Option Nat) (N0:List NV) (vA:Value) (A:List Ar) (v0:Value) (N:List NV) (D:List Nd) (va:Value) (nv:NV) (w:World):Prop where
 rep:w.heap[gB]? = some (.cells #[v0,.map (some gM)] 133 (0,0))
 own:AZ Bk w B va (N ++ [nv])
 len:N.length=D.length
 arcs:∀ k (h:k<N.length) (h2:k<D.length),N[k].fin=D[k].fin∧AZ Bo w B (.slice N[k].a N[k].n N[k].c) D[k].arcs
 map:En w gM D
 hB:B≤gB
 hM:B≤gM
 oA:AZ Bo w w0.heap.size vA A
 bl:Below B wW w
 fr:Fr gB gM vb0 w0 w
 nr:Cp vb0 va.ownBlock w0.heap.size
 ex:∃ E,N=N0 ++ E∧∀ x∈E,∀ g,nvB x=some g→w0.heap.size≤g
 bs:B≤w.heap.size
section
variable {wW w0 w w':World} {B gB gM gn:Nat} {vb0:Option Nat} {N0:List NV} {fin:Bool} {vA:Value} {A:List Ar} {v va:Value} {N:List NV} {D:List Nd} {nv:NV}
theorem PSt.ext (h:PSt wW w0 B gB gM vb0 N0 vA A v N D va nv w) (hx:Ext w w') (hn:Cp vb0 va.ownBlock w0.heap.size):PSt wW w0 B gB gM vb0 N0 vA A v N D va nv w':=by
 obtain ⟨es,c,hm⟩:=h.map.obj;exact ⟨(Below.block hx gB (A5.1 h.rep).1).trans h.rep,h.own.later hx (A3 _),h.len,fun k h1 h2=>⟨(h.arcs k h1 h2).1,(h.arcs k h1 h2).2.later hx (A3 _)⟩,h.map.kept (Below.block hx gM (A5.1 hm).1),h.hB,h.hM,h.oA.later hx (A3 _),h.bl.trans (Below.mono hx h.bs),h.fr.trans (Fr.of_below hx) hn,h.nr,h.ex,A8 h.bs hx.size⟩
theorem LSt.appN (h:LSt wW w0 B gB gM gn vb0 N0 fin vA A v N D w) (hb0:∀ q,vb0=some q→B≤q) (ho:AZ Bk w' B va (N ++ [nv])) (hg:w.grownBy w' v.ownBlock) (jc:va.ownBlock=v.ownBlock∨va.ownBlock=some w.heap.size):PSt wW w0 B gB gM vb0 N0 vA A v N D va nv w':=by
 have hv:∀ q cs t fz,w.heap[q]? = some (.cells cs t fz)→t≠168→v.ownBlock≠some q:=fun q cs t fz hq ht e=>by
  obtain ⟨cs2,ja⟩:=h.bst.own.obj e;rw [hq] at ja;injection ja with ja;injection ja with _ h2;exact ht h2
 have hk:∀ q,q<w.heap.size→v.ownBlock≠some q→w'.heap[q]? = w.heap[q]?:=fun q hq je=>hg.block q hq (fun e=>je e.symm);obtain ⟨es,c,hm⟩:=h.bst.map.obj;have jd:v.ownBlock≠some gM:=fun e=>by
  obtain ⟨cs2,ja⟩:=h.bst.own.obj e;rw [hm] at ja;cases ja
 refine ⟨(hk gB (A5.1 h.bst.rep).1 (hv _ _ _ _ h.bst.rep (by decide))).trans h.bst.rep,ho,h.bst.len,fun k h1 h2=>⟨(h.bst.arcs k h1 h2).1,(h.bst.arcs k h1 h2).2.keep fun g jb=>?_⟩,h.bst.map.kept (hk gM (A5.1 hm).1 jd),h.bst.gB,h.bst.gM,h.own.keep fun g jb=>?_,h.bl.grown hg h.bst.size fun q hq=>h.bst.own.ge q hq,⟨hg.os.trans h.fr.os,hg.tape.trans h.fr.tape,hg.output.trans h.fr.output,A8 h.fr.size hg.size,fun q hq h3 h4 h5=>?_⟩,?_,h.ex,A8 h.bst.size hg.size⟩
 ·obtain ⟨cs,ja⟩:=(h.bst.arcs k h1 h2).2.obj jb;exact hk g ((h.bst.arcs k h1 h2).2.lt g jb) (hv _ _ _ _ ja (by decide))
 ·obtain ⟨cs,ja⟩:=h.own.obj jb;exact hk g (h.own.lt g jb) (hv _ _ _ _ ja (by decide))
 ·have h6:=h.fr.size;refine (hk q (by omega) fun e=>?_).trans (h.fr.block q hq h3 h4 h5);rcases h.nr with h7 | h7
  · exact h5 (by rw [← h7];exact e)
  · have:=h7 q e;omega
 ·rcases jc with h1 | h1
  · rw [h1];exact h.nr
  · rw [h1];exact .inr fun q hq=>by injection hq with hq;have:=h.fr.size;omega
theorem PSt.done {w2:World} {fb:Bool} {a:Option Addr} {c:Nat} {v0 vc:Value} (h:PSt wW w0 B gB gM v.ownBlock N0 (.slice a A.length c) A v0 N D vc ⟨fb,a,A.length,c⟩ w) (hB:B≤w0.heap.size) (hm:En w2 gM (D ++ [⟨fb,A⟩])) (hg:(w.setCell ⟨gB,0,none⟩ vc).grownBy w2 (some gM)) :
  IG wW B gB gM (D.length,D ++ [⟨fb,A⟩]) v N0 w0 (.returned (.int .i64 (D.length:Int))) w2:=by
 obtain ⟨es,cm,ji⟩:=h.map.obj;have jd:=(A5.1 h.rep).1;have jm:gB≠gM:=by
  intro e;have h1:=h.rep;rw [e,ji] at h1;cases h1
 have hk:∀ q,q<w.heap.size→q≠gB→q≠gM→w2.heap[q]? = w.heap[q]?:=fun q hq h1 h2=>(hg.block q (by rw [World.size_setCell];exact hq) (fun e=>by injection e with e;exact h2 e)).trans (Below.heap_setCell _ _ _ _ h1);have ja:∀ (q:Nat) (cs:Array Value) (t:TypeId) (fz:Nat × Nat),w.heap[q]? = some (Obj.cells cs t fz)→t≠133→w2.heap[q]? = w.heap[q]?:=fun q cs t fz hq ht=>hk q (A5.1 hq).1 (fun e=>by
  have h1:=h.rep;rw [← e,hq] at h1;injection h1 with h1;injection h1 with _ h2;exact ht h2) (fun e=>by rw [e,ji] at hq;cases hq)
 have jf:AZ Bk w2 B vc (N ++ [⟨fb,a,A.length,c⟩]):=h.own.keep fun g jc=>by
  obtain ⟨cs,jb⟩:=h.own.obj jc;exact ja g _ _ _ jb (by decide)
 have jj:AZ Bo w2 w0.heap.size (.slice a A.length c) A:=h.oA.keep fun g jc=>by
  obtain ⟨cs,jb⟩:=h.oA.obj jc;exact ja g _ _ _ jb (by decide)
 have jn:=h.fr.size;obtain ⟨E0,jk,jl⟩:=h.ex;refine ⟨vc,N ++ [⟨fb,a,A.length,c⟩],E0 ++ [⟨fb,a,A.length,c⟩],rfl,⟨?_,jf,by simp [h.len],fun k h1 h2=>?_,hm,h.hB,h.hM⟩,by rw [jk,List.append_assoc],fun x hx g jg=>?_,(h.bl.setCell h.hB _).grown hg (by rw [World.size_setCell];exact h.bs) (fun q hq=>by injection hq with hq;rw [← hq];exact h.hM),⟨hg.os.trans h.fr.os,hg.tape.trans h.fr.tape,hg.output.trans h.fr.output,A8 jn (by have:=hg.size;rw [World.size_setCell] at this;exact this),fun q hq h3 h4 h5=>(hk q (by omega) h3 h4).trans (h.fr.block q hq h3 h4 h5)⟩,h.nr⟩
 · exact (hg.block gB (by rw [World.size_setCell];exact jd) (fun e=>by injection e with e;exact jm e)).trans (Ao h.rep rfl)
 ·by_cases je:k<N.length
  ·have jh:k<D.length:=by rw [← h.len];exact je
   obtain ⟨h3,h4⟩:=h.arcs k je jh;simp only [List.getElem_append_left je,List.getElem_append_left jh];exact ⟨h3,h4.keep fun g jc=>by
    obtain ⟨cs,jb⟩:=h4.obj jc;exact ja g _ _ _ jb (by decide)⟩
  ·obtain rfl:k=N.length:=by rw [AB] at h1;simp at h1;omega
   have e1:(N ++ [(⟨fb,a,A.length,c⟩:NV)])[N.length]=⟨fb,a,A.length,c⟩:=by simp
   have e2:(D ++ [(⟨fb,A⟩:Nd)])[N.length]=⟨fb,A⟩:=by simp [h.len]
   rw [e1,e2];exact ⟨rfl,jj.mono hB⟩
 ·rcases AT.1 hx with hx | hx
  · exact jl x hx g jg
  ·obtain rfl:=AD.1 hx;exact jj.ge g jg
end
def NT2 (wW w0:World) (B gB gM gn:Nat) (vb0:Option Nat) (N0:List NV) (fin:Bool) (vA:Value) (A:List Ar) (v:Value) (N:List NV) (D:List Nd) (b1:Bool) (w:World):Prop :=
 match b1 with
 | false=>LSt wW w0 B gB gM gn vb0 N0 fin vA A v N D w
 | true=>True
theorem NT2.ext {wW w0:World} {B gB gM gn:Nat} {vb0:Option Nat} {N0:List NV} {fin:Bool} {vA:Value} {A:List Ar} {v:Value} {N:List NV} {D:List Nd}:∀ (b1:Bool) (w w':World),NT2 wW w0 B gB gM gn vb0 N0 fin vA A v N D b1 w→Ext w w'→NT2 wW w0 B gB gM gn vb0 N0 fin vA A v N D b1 w':=by
 intro b1 w w' h hx;cases b1 with
 | false=>exact LSt.ext h hx (LSt.to0 h).bst.size
 | true=>trivial
def Fq (v0:Value) (x:NV) (v:Value) (w:World):Prop:=∃ g,v=.slice (some ⟨g,0,none⟩) 1 1∧w.heap[g]? = some (.cells #[.bool x.fin,.slice x.a x.n x.c] 168 (0,0))∧v0.ownBlock≠some g
theorem GG (v0:Value) (x:NV):Bb (Fq v0 x):=by
 rintro v w w' ⟨g,rfl,h,hn⟩ hx;exact ⟨g,rfl,(Below.block hx g (A5.1 h).1).trans h,hn⟩
theorem GH (v0:Value) (x:NV):∀ v w w',Fq v0 x v w→w.grownBy w' v0.ownBlock→Fq v0 x v w':=by
 rintro v w w' ⟨g,rfl,h,hn⟩ hx;exact ⟨g,rfl,(hx.block g (A5.1 h).1 (fun e=>hn e.symm)).trans h,hn⟩
theorem O6 {wW w0:World} {B gB gM:Nat} {vb0:Option Nat} {N0:List NV} {vA:Value} {A:List Ar} {v:Value} {N:List NV} {D:List Nd} {nv:NV}:Bb (fun va w=>PSt wW w0 B gB gM vb0 N0 vA A v N D va nv w):=fun va w w' h hx=>h.ext hx h.nr
theorem O7 {rec:List ByteArray→List Nd→Nat × List Nd} {d n:Nat} {A:List Ar} {D:List Nd}:Cb rec d n [] A D=(A,D):=by cases n <;> rfl
theorem JW (b o len cap:Nat) (hk:0<len) (w:World) :
  (Instr.indexAt 35 (.slice (some ⟨b,o,none⟩) len cap) (.int .i64 0)).run Tryz.prog w=.ok (.pointer (some ⟨b,o,none⟩)) w:=by
 have:=DT (some ⟨b,o,none⟩) b o len cap 0 rfl hk w;simpa using this
theorem BH.drop1 {w:World} {b o o' k:Nat} {L:List ByteArray} (h:BH w (some ⟨b,o,none⟩) L) (ho:k<L.length→o'=o+k):BH w (some ⟨b,o',none⟩) (L.drop k):=by
 intro j hj;rw [List.length_drop] at hj;obtain ⟨b1,o1,he,h1,h2⟩:=h (k+j) (by omega);injection he with he;injection he with e1 e2;subst e1 e2;refine ⟨b,o',rfl,h1,?_⟩;rw [ho (by omega),List.getElem_drop,Nat.add_assoc];exact h2
theorem BH.take1 {w:World} {a:Option Addr} {L:List ByteArray} (h:BH w a L) (k:Nat):BH w a (L.take k):=by
 intro j hj;obtain ⟨b1,o1,he,h1,h2⟩:=h j (by rw [AK] at hj;omega);exact ⟨b1,o1,he,h1,by rw [List.getElem_take];exact h2⟩
theorem node_any (
         wW:World) (B gB gM:Nat) (yH:wW.heap.size≤B) (j2:Tab wW):∀ (m d:Nat) (L:List ByteArray) (b o cap:Nat) (v:Value) (N:List NV) (D:List Nd) (w:World),BH wW (some ⟨b,o,none⟩) L→L.length≤cap→L.length≤1000→Pre d m L→d+m≤100→D.length+L.length*m≤500000 →
  BSt w B gB gM v N D→Below B wW w→Calls Tryz.prog 75 #[.pointer (some ⟨gB,0,none⟩),.slice (some ⟨b,o,none⟩) L.length cap,.int .i64 (d:Int)] w (IG wW B gB gM (nodeW m d L D) v N w):=by
 intro m
 induction m with
 | zero =>
  intro d L b o cap v N D w hS hc hn hP;exfalso;obtain ⟨x,hx⟩:=List.exists_mem_of_ne_nil _ hP.ne;have:=hP.ge x hx;have:=hP.lt x hx;omega
 | succ m ih
       =>
  intro d L b o cap v N D w hS hc hn hP hd kY hB hW;have HS:=A0 hS;have HP:=A0 hP;have HB:=A0 hB;have HW:=A0 hW;have kv:=A0 j2;have IH:=A0 ih;have kl:=hB.size;have kP:=A0 kl;obtain ⟨x0,r0,jG⟩:∃ x0 r0,L=x0 :: r0:=by
   cases L with
   | nil=>exact absurd rfl hP.ne
   | cons x r=>exact ⟨x,r,rfl⟩
  have k1:0<L.length:=by rw [jG];simp
  clear hS hP hB hW ih j2;obtain ⟨kV,hbW⟩:wW.cell? ⟨b,o,none⟩=some (.string x0)∧b<wW.heap.size:=by
   obtain ⟨b1,o1,ha,k8,h0⟩:=HS.out.at k1;have kM:L[0]=x0:=by simp only [jG,List.getElem_cons_zero]
   injection ha with ha;injection ha with e1 e2;subst e1 e2;rw [kM,Nat.add_zero] at h0;exact ⟨h0,k8⟩
  have yu:=A0 kV;have kE:=JW b o L.length cap k1;clear kV
  go_enter Tryz.func75,Tryz.ntmps75
  obtain ⟨wa,kg⟩:∃ wa,wa=w.alloc (.cells #[.bool false,.slice none 0 0] 168):=⟨_,rfl⟩
  have j3:Below w.heap.size w wa:=by rw [kg];exact (Below.refl _ _).alloc (A3 _) _
  have jM:Hid (LSt wW w B gB gM w.heap.size v.ownBlock N false (.slice none 0 0) [] v N D wa) :=
   ⟨HB.out.ext j3,HW.out.trans (j3.mono kl),Fr.of_below j3,.inl rfl,⟨[],by simp,fun x hx=>by cases hx⟩,by rw [kg];exact heap_alloc_new _ _,A3 _,fun e=>by
    have:=HB.out.own.lt _ e;omega,AZ.nil _ _ _,fun x _ g _ e=>by cases e⟩
  have kO:wa.heap.size=w.heap.size+1:=by rw [kg];simp
  obtain ⟨gn,kC⟩:∃ gn,gn=w.heap.size:=⟨_,rfl⟩
  go_upto_region 2 with fail
  rw [← kg];rw [← kC] at jM kO ⊢;have HGN:=A0 kC;have HZA:=A0 kO;have HAB:=A0 j3;clear kg j3 kC kO;have h0a:=(jM.out.bl.cell (p:=⟨b,o,none⟩) (by show b<B;omega)).trans yu.out;obtain ⟨fb,kA⟩:∃ fb,Kw d L=fb:=⟨_,rfl⟩
  have hLI:(0:Int)<(L.length:Int):=by omega
  have km:((x0.size:Int) == (d:Int))=fb:=by rw [← kA,jG];simp only [Kw];rw [Bool.eq_iff_iff];simp;omega
  have kS:=A0 kA;clear kA
  go_cut [1,23] (fun s1 s23 wx=>∃ wz,wz=wx∧wz=wa∧s1=.slice (some ⟨b,o,none⟩) L.length cap∧s23=.bool fb)
  case first =>
   go_wp2
   go_meet
   exact ⟨_,rfl,rfl,rfl,by first | rw [km] | (simp only [km]) | (rw [← km];simp)⟩
  case rest
       =>
   obtain ⟨wz,rfl,rfl,rfl,rfl⟩:=hcut;have k3:BT d L=if fb=true then r0 else L:=by rw [BT,kS.out,jG];simp
   have kU:=A0 k3;have yB:Hid (r0=L.drop 1):=by show _=_;rw [jG];rfl
   have HLE:=A0 jG;clear jG k3 km
   apply_assumption
   go_cut [1] (fun s1 wx=>∃ wz,wz=wx∧∃ (o' c' n':Nat),s1=.slice (some ⟨b,o',none⟩) n' c'∧n'=(BT d L).length∧(BT d L).length≤c'∧BH wW (some ⟨b,o',none⟩) (BT d L)∧LSt wW w B gB gM gn v.ownBlock N fb (.slice none 0 0) [] v N D wz)
   case first =>
    cases fb with
    | true =>
     obtain ⟨bx0,bx1⟩:=Ah jM.out.box;have bfz:wz.frozen? ⟨gn,0,none⟩=false:=by simp [World.frozen?,jM.out.box]
     obtain ⟨o',yl,js⟩:=Eg b o L.length cap 1 (by omega) hc;have ku:Hid (BT d L=L.drop 1):=by show _=_;rw [kU.out,if_pos rfl,yB.out]
     have yy:=A0 yl;have hhigh1:∀ w:World,(Instr.slice 35 (.slice (some ⟨b,o,none⟩) L.length cap) (some (.int .i64 1)) none none).run Tryz.prog w=.ok (.slice (some ⟨b,o',none⟩) (L.length - 1) (cap - 1)) w:=js;clear yl js;go_wp2
     go_meet
     rw [ku.out];refine ⟨_,rfl,o',cap - 1,L.length - 1,rfl,by rw [List.length_drop],by rw [List.length_drop];omega,HS.out.drop1 yy.out,?_⟩;exact jM.out.to0.setBox kl rfl (AZ.nil _ _ _) (fun x _ g _ e=>by cases e)
    | false =>
     have ku:Hid (BT d L=L):=by show _=_;rw [kU.out,if_neg (by simp)]
     go_wp2
     go_meet
     rw [ku.out];exact ⟨_,rfl,o,cap,L.length,rfl,rfl,hc,HS.out,jM.out⟩
   case rest
        =>
    obtain ⟨wc,rfl,o2,c2,n2,rfl,yj,yg,kx,k2⟩:=hcut;obtain ⟨R,hR⟩:∃ R,BT d L=R:=⟨_,rfl⟩
    have jo:=HP.out.rest;have kw:=JJ d L;rw [hR] at yj yg kx jo kw;obtain ⟨FA,k0⟩:∃ FA,Cb (nodeW m (d+1)) d R.length R [] D=FA:=⟨_,rfl⟩
    have HR:=A0 hR;have kR:=A0 k0;have yC:=A0 kx;have jZ:=A0 jo;have yx:=A0 k2;have kZ:D.length+R.length*m≤500000:=by
     have h1:R.length*m≤L.length*m:=Nat.mul_le_mul_right _ kw;have h2:L.length*(m+1)=L.length*m+L.length:=Nat.mul_succ _ _;omega
    subst yj;clear hR k0 kx jo k2 kE;have ys:=A0 kZ;have HDL:=A0 kY;clear kZ kY
    go_wp2_with fail
    go_loopw [1] (fun s1 wr=>∃ (R':List ByteArray) (o' c' nn:Nat) (A:List Ar) (v' vA:Value) (N':List NV) (D':List Nd),s1=.slice (some ⟨b,o',none⟩) R'.length c'∧R'.length≤c'∧BH wW (some ⟨b,o',none⟩) R'∧Rest d (m+1) R'∧R'.length≤nn∧Cb (nodeW m (d+1)) d nn R' A D'=FA ∧
     LSt wW w B gB gM gn v.ownBlock N fb vA A v' N' D' wr∧(∀ x∈A,Nm x)∧D'.length+R'.length*m≤500000∧A.length+R'.length≤L.length) (fun s1 _=>Rc s1)
    case atStart=>exact ⟨R,o2,c2,R.length,[],v,.slice none 0 0,N,D,rfl,yg,yC.out,jZ.out,A3 _,kR.out,yx.out,fun x hx=>(by cases hx),ys.out,by simpa using kw⟩
    case round =>
     obtain ⟨R',o',c',nn,A,v',vA,N',D',rfl,yf,k5,jp,hnn,j5,yh,j0,j1,hAl⟩:=hrel;have kj:=A0 k5;have je:=A0 jp;have jU:=A0 j5;have jd:=A0 yh;have jC:=A0 j0;have jD:=A0 j1;clear k5 jp j5 yh j0 j1;by_cases jx:0<R'.length
     ·have Jx:(0:Int)<(R'.length:Int):=by omega
      obtain ⟨x,r,kp⟩:∃ x r,R'=x :: r:=by
       cases R' with
       | nil=>simp at jx
       | cons x r=>exact ⟨x,r,rfl⟩
      obtain ⟨q0,yn⟩:wW.cell? ⟨b,o',none⟩=some (.string x)∧d<x.size:=by
       obtain ⟨b1,o1,ha,k8,h0⟩:=kj.out.at jx;have kM:R'[0]=x:=by simp only [kp,List.getElem_cons_zero]
       injection ha with ha;injection ha with e1 e2;subst e1 e2;rw [kM,Nat.add_zero] at h0;exact ⟨h0,je.out.gt x (by rw [kp];simp)⟩
      have c0:=(jd.out.bl.cell (p:=⟨b,o',none⟩) (by show b<B;omega)).trans q0;have hidx0:=JW b o' R'.length c' jx;have jN:=A0 kp;have HQ0:=A0 q0;obtain ⟨cb,j6⟩:∃ cb,x[d]'yn=cb:=⟨_,rfl⟩
      have kz:=A0 j6;have yd:Ap x d=(cb.toNat:Int):=by rw [Hw yn,j6]
      have kq:=A0 yd;clear kp q0 yd
      go_upto_block 2 with fail
      go_cut [9] (fun s9 wx=>∃ wz,wz=wx∧wz=wr∧s9=.int .i64 (DW d R' (Ap x d):Int))
      case first =>
       go_wp2_with fail
       go_loop [9] (fun s9=>∃ j:Nat,1≤j∧j≤R'.length∧s9=.int .i64 (j:Int)∧∀ i (hi:i<R'.length),i<j→Ap R'[i] d=Ap x d) (fun s9=>R'.length - (intOf s9).toNat)
       case atStart=>exact ⟨1,A3 _,jx,rfl,fun i hi h=>by
        obtain rfl:i=0:=by omega
        simp only [jN.out,List.getElem_cons_zero]⟩
       case round =>
        obtain ⟨j,hj1,hj,rfl,j4⟩:=hrel;have jT:=A0 j4;clear j4;have jA:(∀ h:j<R'.length,Ap R'[j] d≠Ap x d)→Hid (DW d R' (Ap x d)=j):=fun h=>by
         have h2:=(Mv (p:=fun s=>decide (Ap s d=Ap x d)) hj (fun i hi yM=>by simpa using jT.out i hi yM) (fun h3=>by simpa using h h3)).1;show _=_;unfold DW;rw [h2,AK];omega
        have kT:=A0 jA;clear jA;by_cases kn:j<R'.length
        ·obtain ⟨b2,o2',k7,hb2,q2⟩:=kj.out.at kn;have hidx2:=DT (some ⟨b,o',none⟩) b2 o2' R'.length c' j k7 kn;have kD:=je.out.gt R'[j] (AG kn);obtain ⟨y,hy⟩:∃ y,R'[j]=y:=⟨_,rfl⟩
         have HY:=A0 hy;rw [hy] at q2 kD;have c2':=(jd.out.bl.cell (p:=⟨b2,o2'+j,none⟩) (by show b2<B;omega)).trans q2;obtain ⟨cy,yI⟩:∃ cy,y[d]'kD=cy:=⟨_,rfl⟩
         have ye:Ap y d=(cy.toNat:Int):=by rw [Hw kD,yI]
         have kQ:=A0 ye;clear hy k7 q2 ye;by_cases jP:(cy.toNat:Int)=(cb.toNat:Int)
         ·have yN:((cy.toNat:Int) == (cb.toNat:Int))=true:=by simp [jP]
          have HN:Hid (∀ i (hi:i<R'.length),i<j+1→Ap R'[i] d=Ap x d):=fun i hi h=>by
           by_cases e:i=j
           · subst e;rw [HY.out,kQ.out,kq.out,jP]
           · exact jT.out i hi (by omega)
          clear jP;go_wp2
          go_round
          case rel=>exact ⟨j+1,by omega,by omega,by go_num,HN.out⟩
          case measure=>simp [intOf];omega
         ·have yN:((cy.toNat:Int) == (cb.toNat:Int))=false:=by rw [beq_eq_false_iff_ne];exact jP
          have HN:=kT.out (fun _=>by rw [HY.out,kQ.out,kq.out];exact jP);clear jP;go_wp2
          go_meet
          exact ⟨_,rfl,rfl,by rw [HN.out]⟩
        ·have HN:=kT.out (fun h=>absurd h kn);go_wp2
         go_meet
         exact ⟨_,rfl,rfl,by rw [HN.out]⟩
      case rest
           =>
       obtain ⟨wz,rfl,rfl,rfl⟩:=hcut;obtain ⟨kk,jQ⟩:∃ kk,DW d R' (Ap x d)=kk:=⟨_,rfl⟩
       have hk1:1≤kk:=by rw [← jQ,jN.out];exact G6
       have kF:kk≤R'.length:=by rw [← jQ];exact Mx
       obtain ⟨qi,qD,hq⟩:∃ qi qD,nodeW m (d+1) (R'.take kk) D'=(qi,qD):=⟨_,_,rfl⟩
       rw [jQ];have yv:=A0 jQ;have HQ:=A0 hq;have hlow:=Hv ⟨b,o',none⟩ R'.length c' kk kF yf;have ka:Pre (d+1) m (R'.take kk):=by rw [← jQ];have h:=je.out;rw [jN.out] at h ⊢;exact h.group
       have jW:=A0 ka;have jR:(R'.take kk).length=kk:=by rw [AK];omega
       have ki:=A0 jR;have yb:D'.length+(R'.take kk).length*m≤500000:=by
        rw [jR];have:=jD.out;have h1:kk*m≤R'.length*m:=Nat.mul_le_mul_right _ kF;omega
       have yr:=A0 yb;have hw64:IntKind.i64.wrap ((d:Int)+1)=(d:Int)+1:=IntWalk.i64_in _ (by omega);have jF:A.length≤1000:=by omega
       clear jQ hq ka jR yb c0
       go_upto_region 10 with fail
       refine An (by kernel_rfl) (Vs [vq (.pointer (some ⟨gn,1,none⟩)),vq (vA),vq (.int .u8 (cb.toNat:Int)),vq (.pointer (some ⟨gB,0,none⟩)),vq (.slice (some ⟨b,o',none⟩) R'.length c'),vq (.int .i64 (kk:Int)),vq (.slice (some ⟨b,o',none⟩) kk c'),vq (.int .i64 (d:Int)),vq (.int .i64 ((d:Int)+1)),vq (.int .i64 (qi:Int)),vq (.agg #[.int .u8 (cb.toNat:Int),.int .i64 (qi:Int)]),EU vA (⟨(cb.toNat:Int),(qi:Int)⟩:Ar),S3 wW w B gB gM gn v.ownBlock N fb vA (A ++ [(⟨(cb.toNat:Int),(qi:Int)⟩:Ar)]) qD,vq (.pointer (some ⟨gn,1,none⟩))]) (Xs [Ext,Ext,Ext,Ext,Ext,Ext,Ext,Ext,Ext,(fun _ _=>True),Ext,Ext,(fun w w'=>w.grownBy w' vA.ownBlock),Ext]) (fun fL=>(fun b1 b2 W=>NT wW w B gB gM gn v.ownBlock N fb vA A v' N' D' qD b1 b2 W) (fL 9) (fL 12)) [0,1,0,0,0,0,48,0,128,504,1020,2044,4095,0] 103 14 (by kernel_rfl) rfl ?hV ?hS ?hop ?hfin ?hlast
       case hV =>
        refine Az (Af (by simp only [AS,List.not_mem_nil,or_false,forall_eq_or_imp,forall_eq];exact ⟨AW _,AW _,AW _,AW _,AW _,AW _,AW _,AW _,AW _,AW _,AW _,FU _ _,MF,AW _⟩)) ?_;exact ⟨.inl rfl,.inl rfl,.inl rfl,.inl rfl,.inl rfl,.inl rfl,.inl rfl,.inl rfl,.inl rfl,.inr (Aw ⟨fun _ _=>fun _ _ _ h _=>h,fun _ _=>fun _ _ _ h _=>h,fun _ _=>fun _ _ _ h _=>h,fun _ _=>fun _ _ _ h _=>h,fun _ _=>fun _ _ _ h _=>h,fun _ _=>fun _ _ _ h _=>h,fun _ _=>fun _ _ _ h _=>h,fun _ _=>fun _ _ _ h _=>h,fun _ _=>fun _ _ _ h _=>h,fun h=>absurd rfl h,fun _ h=>absurd h (by decide),fun _ h=>absurd h (by decide),fun _ h=>absurd h (by decide),fun _ _=>fun _ _ _ h _=>h,trivial⟩),.inl rfl,.inl rfl,.inr (Aw ⟨fun _ _=>fun _ _ _ h _=>h,fun _ _=>fun _ _ _ h _=>h,fun _ _=>fun _ _ _ h _=>h,fun _ _=>fun _ _ _ h _=>h,fun _ _=>fun _ _ _ h _=>h,fun _ _=>fun _ _ _ h _=>h,fun _ _=>fun _ _ _ h _=>h,fun _ _=>fun _ _ _ h _=>h,fun _ _=>fun _ _ _ h _=>h,fun _ _=>fun _ _ _ h _=>h,fun _ _=>fun _ _ _ h _=>h,fun _ _=>FV _ _,fun h=>absurd rfl h,fun _ _=>fun _ _ _ h _=>h,trivial⟩),.inl rfl,trivial⟩
       case hS =>
        intro fL hf;show (fun b1 b2 W=>NT wW w B gB gM gn v.ownBlock N fb vA A v' N' D' qD b1 b2 W) (fL 9) (fL 12) _;rw [hf 9 (by decide),hf 12 (by decide)];exact NT.ext false false _ _ jd.out ⟨rfl,rfl,rfl,A3 _,fun _ _=>rfl⟩
       case hop =>
        refine ⟨?_,?c1,?_,?_,?_,?_,?_,?_,?_,?c9,?_,?c11,?c12,?_,?_,trivial⟩
        all_goals first | rw [if_neg (by decide)] | rw [if_pos (by decide)]
        all_goals try exact True.intro
        all_goals try intro ac W fL jh jm jS jO jc jf ja jL
        all_goals try have hS:(fun b1 b2 W=>NT wW w B gB gM gn v.ownBlock N fb vA A v' N' D' qD b1 b2 W) (fL 9) (fL 12) W:=jc
        all_goals try (have jw:fL 9=true:=jS 9 (by decide);rw [jw] at hS)
        all_goals try (have jw:fL 9=false:=(by first | exact jm | exact jO 9 (by decide) (by decide));rw [jw] at hS)
        all_goals try (have ji:fL 12=true:=jS 12 (by decide);rw [ji] at hS)
        all_goals try (have ji:fL 12=false:=(by first | exact jm | exact jO 12 (by decide) (by decide));rw [ji] at hS)
        all_goals try have yL:=gdA ac 7 (.pointer (some ⟨gn,0,none⟩)) (ja 7 (by kernel_rfl))
        all_goals try have hh8:=gdA ac 8 (.int .u8 (cb.toNat:Int)) (ja 8 (by kernel_rfl))
        all_goals try have yJ:=gdA ac 0 (.pointer (some ⟨gB,0,none⟩)) (ja 0 (by kernel_rfl))
        all_goals try (have h1:ac.tmps.getD 1 undef=.slice (some ⟨b,o',none⟩) R'.length c':=ja 1 (by kernel_rfl);have yK:=h1;rw [A4] at yK)
        all_goals try have hh9:=gdA ac 9 (.int .i64 (kk:Int)) (ja 9 (by kernel_rfl))
        all_goals try have hh2:=gdA ac 2 (.int .i64 (d:Int)) (ja 2 (by kernel_rfl))
        all_goals try (have d52:ac.tmps.getD 52 undef=vA:=jf 1 (by decide);have dd52:=d52;rw [A4] at dd52)
        all_goals try have d62:(EU vA (⟨(cb.toNat:Int),(qi:Int)⟩:Ar)) (ac.tmps.getD 62 undef) W:=jf 11 (by decide)
        all_goals try (have jf:=DJ jf;simp [Cg,AY,vq] at jf)
        all_goals try clear ja jS jO jL
        case c1 =>
         have jl:(fun b1 b2 W=>NT wW w B gB gM gn v.ownBlock N fb vA A v' N' D' qD b1 b2 W) ((upd fL 1) 9) ((upd fL 1) 12) W:=jc;obtain ⟨bx0,bx1⟩:=Ah (NT.boxed hS).1;refine AX rfl (.inl ⟨_,W,?_,rfl,Ext.refl _,jl⟩);clear jh hS jc jl jm;simp [go_sem,Act.eval, *]
        case c9 =>
         have jv:=IH.out (d+1) (R'.take kk) b o' c' v' N' D' W (kj.out.take1 kk) (by rw [ki.out];omega) (by rw [ki.out];omega) jW.out (by omega) yr.out (LSt.bst hS) (LSt.bl hS);rw [HQ.out,ki.out,show ((d+1:Nat):Int)=(d:Int)+1 by omega] at jv;refine AX rfl (.inr ⟨75,#[.pointer (some ⟨gB,0,none⟩),.slice (some ⟨b,o',none⟩) kk c',.int .i64 ((d:Int)+1)],W,by (clear jh hS jc jm jv;simp [go_sem,Act.eval, *]),?_⟩);refine jv.mono ?_;clear jv;rintro e w' hp;obtain ⟨he,v2,N2,jj⟩:=LSt.called hS hp;refine ⟨_,he,rfl,trivial,?_⟩;show NT wW w B gB gM gn v.ownBlock N fb vA A v' N' D' qD (upd fL 9 9) (upd fL 9 12) w';rw [show upd fL 9 9=true from if_pos rfl,show upd fL 9 12=fL 12 from if_neg (by decide),show fL 12=false from ji];exact ⟨v2,N2,jj⟩
        case c11 =>
         have jl:(fun b1 b2 W=>NT wW w B gB gM gn v.ownBlock N fb vA A v' N' D' qD b1 b2 W) ((upd fL 11) 9) ((upd fL 11) 12) W:=jc;have ju:vA.ownBlock≠some W.heap.size:=fun e=>by
          obtain ⟨v2,N2,jj⟩:=hS;have:=jj.own.lt _ e;omega
         refine AX rfl (.inl ⟨.slice (some ⟨W.heap.size,0,none⟩) 1 1,W.alloc (.cells #[.int .u8 (cb.toNat:Int),.int .i64 (qi:Int)] 170),?_,⟨_,rfl,heap_alloc_new _ _,ju⟩,(Below.refl _ _).alloc (A3 _) _,(show (fun b1 b2 W=>NT wW w B gB gM gn v.ownBlock N fb vA A v' N' D' qD b1 b2 W) ((upd fL 11) 9) ((upd fL 11) 12) _ by
          rw [show upd fL 11 9=fL 9 from if_neg (by decide),show upd fL 11 12=fL 12 from if_neg (by decide)];exact NT.ext _ _ _ _ jc ((Below.refl _ _).alloc (A3 _) _))⟩)
         clear jh hS jc jl jm;simp [go_sem,Act.eval, *]
        case c12 =>
         obtain ⟨g62,e62,jJ,kI⟩:=d62;obtain ⟨v2,N2,jj⟩:=hS;refine AX rfl ((B6 DO (.tmp 52) (.tmp 62) rfl (Ad d52) jj.own ⟨g62,0,none⟩ 1 [(⟨(cb.toNat:Int),(qi:Int)⟩:Ar)] (Ad e62) (Ae jJ) (by simp only [AC];omega) jj.fr.size).mono ?_);rintro va w' ⟨ho,jA,ky⟩;refine ⟨⟨v2,N2,jj.app kP.out jA,ho,fun y hy g hg e=>?_⟩,jA,?_⟩
         ·rcases ky with h1 | h1
          · rw [h1] at e;exact jj.apart y hy g hg e
          ·rw [h1] at e;injection e with e;have:=jj.to0.rows_lt y hy g hg;omega
         ·show NT wW w B gB gM gn v.ownBlock N fb vA A v' N' D' qD (upd fL 12 9) (upd fL 12 12) w';rw [show upd fL 12 9=fL 9 from if_neg (by decide),show upd fL 12 12=true from if_pos rfl,show fL 9=true from jw];trivial
        all_goals (refine AX rfl (.inl ⟨_,W,?_,rfl,Ext.refl _,jc⟩);clear jh hS jc jm;simp [go_sem,Act.eval, *];done)
       case hfin =>
        intro h;exact absurd h (by decide)
       case hlast =>
        intro _ ac W jh j7 fL hf jc hv ja;have hS:(fun b1 b2 W=>NT wW w B gB gM gn v.ownBlock N fb vA A v' N' D' qD b1 b2 W) (fL 9) (fL 12) W:=jc;clear jc;rw [hf 9 (by decide),hf 12 (by decide)] at hS;have kf:ac.tmps.getD 64 undef=.pointer (some ⟨gn,1,none⟩):=hv 13 (by decide);have jn:S3 wW w B gB gM gn v.ownBlock N fb vA (A ++ [(⟨(cb.toNat:Int),(qi:Int)⟩:Ar)]) qD (ac.tmps.getD 63 undef) W:=hv 12 (by decide);obtain ⟨v2,N2,jj,ko,jH⟩:=jn;obtain ⟨xa,xc,kh, -, -⟩:=ko.form;rw [kh] at ko jH;obtain ⟨bx0,bx1⟩:=Ah jj.box;refine BK rfl rfl rfl rfl (Ad kf) (Ad kh) (by simp [World.frozen?,jj.box]) bx1 (by kernel_rfl) ?_;have kG:=jj.setBox (i:=1) (fin':=fb) (y:=.slice xa (A ++ [(⟨(cb.toNat:Int),(qi:Int)⟩:Ar)]).length xc) kP.out rfl ko jH;obtain ⟨wz2,jg⟩:∃ wz2,W.setCell ⟨gn,1,none⟩ (.slice xa (A ++ [(⟨(cb.toNat:Int),(qi:Int)⟩:Ar)]).length xc)=wz2:=⟨_,rfl⟩
        rw [jg] at kG ⊢;have yw:=A0 kG;clear hS jj ko jH bx0 bx1 kG jg kf;obtain ⟨sx,kL,kd⟩:=Ag [51,52,53,54,55,56,57,58,59,60,61,62,63,64] (by kernel_rfl) jh j7 ja;rw [kd];simp only [List.foldl];simp only [Act.put,List.setIfInBounds_toArray,List.set_cons_succ,List.set_cons_zero];clear kd kL hv ja jh j7 hf;obtain ⟨o3,ym,js⟩:=Eg b o' R'.length c' kk kF yf;have yz:=A0 ym;clear ym kh;obtain ⟨nn',kJ⟩:∃ nn',nn=nn'+1:=⟨nn - 1,by omega⟩
        have kW:Cb (nodeW m (d+1)) d nn' (R'.drop kk) (A ++ [(⟨(cb.toNat:Int),(qi:Int)⟩:Ar)]) qD=FA:=by
         have h:=jU.out;rw [kJ,jN.out,Cb,← jN.out,yv.out,HQ.out,kq.out] at h;exact h
        have yo:qD.length+(R'.drop kk).length*m≤500000:=by
         have h1:=Hx m (d+1) (R'.take kk) D' jW.out.ne;rw [HQ.out,ki.out] at h1;have h2:=jD.out;have h3:(R'.length - kk)*m+kk*m=R'.length*m:=by rw [← Nat.add_mul];congr 1;omega
         rw [List.length_drop];simp only at h1;omega
        have yO:qi≤qD.length:=by
         have:=No m (d+1) (R'.take kk) D';rw [HQ.out] at this;exact this
        have j6:(cb.toNat:Int)≤127:=by
         have hx:x∈R':=by rw [jN.out];simp
         have:=je.out.asc x hx cb (by rw [← kz.out];show x.data[d]∈x.data.toList;simp);omega
        have j9:∀ y∈A ++ [(⟨(cb.toNat:Int),(qi:Int)⟩:Ar)],Nm y:=fun y hy=>by
         rcases AT.1 hy with hy | hy
         · exact jC.out y hy
         ·obtain rfl:=AD.1 hy;refine ⟨?_,j6,?_,?_⟩
          · show (0:Int)≤(cb.toNat:Int);omega
          · show (0:Int)≤(qi:Int);omega
          · show (qi:Int)≤1000000;omega
        have yp:=A0 kW;have yA:=A0 yo;have ks:=A0 j9;clear kW yo j9 j6 yO
        go_wp2_with fail
        go_roundw
        case rel=>exact ⟨R'.drop kk,o3,c' - kk,nn',_,v2,_,N2,qD,by rw [List.length_drop],by rw [List.length_drop];omega,kj.out.drop1 yz.out,je.out.drop kk,by rw [List.length_drop];omega,yp.out,yw.out,ks.out,yA.out,by rw [AB,List.length_drop];simp;omega⟩
        case measure=>simp [Rc];omega
     ·have Jx:¬ (0:Int)<(R'.length:Int):=by omega
      have k4:R'=[]:=List.eq_nil_of_length_eq_zero (by omega);have kc:nodeW (m+1) d L D=addN fb A D':=by
       have h:=jU.out;rw [k4,O7] at h;rw [nodeW,HR.out,kR.out,kS.out,← h]
      have jY:=A0 kc;obtain ⟨xa,xc,kh, -, -⟩:=jd.out.own.form;subst kh;obtain ⟨na,nc,yk, -, -⟩:=jd.out.bst.own.form;rw [jd.out.bst.len] at yk;subst yk;have jF:A.length≤1000:=by omega
      have yF:D'.length<1000000:=by have:=jD.out;omega
      have kX:=jd.out.own.arcs.1;have yq:=A0 kX;have k6:Tab wr:=kv.out.later (jd.out.bl.mono yH);have yD:=A0 k6;obtain ⟨bx0,bx1⟩:=Ah jd.out.box;obtain ⟨sk,kK⟩:∃ sk:ByteArray,sk=⟨(BJ fb A).toArray⟩:=⟨_,rfl⟩
      have jR:(BJ fb A).length≤maxLen:=by have:=Kv (f:=fb) jC.out;unfold maxLen;omega
      have jK:sk.data.toList=BJ fb A:=by rw [kK]
      have ke:sk.size≤maxLen:=by rw [FB,jK];exact jR
      have jE:=A0 jK;have jr:=contents_any fb A xa A.length xc wr yq.out rfl jC.out (by omega) yD.out;rw [← kK] at jr;have jV:=A0 jr;clear k4 kc kX k6 kK jR jK jr
      go_wp2_with fail
      refine jV.out.mono ?_;rintro e w5 ⟨rfl,k9⟩;have jy:=A0 (jd.out.ext k9 jd.out.bst.size);clear k9 bx0 bx1;obtain ⟨rp0,rp1⟩:=Ah jy.out.bst.rep;have jt:=jy.out.bst.map.look sk ke;by_cases jk:CP D' sk.data.toList<D'.length
      ·rw [if_pos jk,decide_eq_true jk] at jt;have jq:addN fb A D'=(CP D' sk.data.toList,D'):=by
        rw [jE.out] at jk ⊢;unfold addN;unfold CP at jk ⊢;rw [if_pos jk]
       have jB:=A0 jq;clear jk jq;go_wp2;go_ret;rw [jY.out,jB.out];obtain ⟨E,hE,yG⟩:=jy.out.ex;exact ⟨_,N',E,rfl,jy.out.bst,hE,yG,jy.out.bl,jy.out.fr,jy.out.nr⟩
      ·rw [if_neg jk,decide_eq_false jk] at jt;have jq:addN fb A D'=(D'.length,D' ++ [⟨fb,A⟩]):=by
        rw [jE.out] at jk;unfold addN;unfold CP at jk;rw [if_neg jk]
       have jB:=A0 jq;have yt:=A0 jk;clear jk jq
       go_upto_region 16 with fail
       clear jt rp0 rp1;refine An (by kernel_rfl) (Vs [vq (.pointer (some ⟨gB,0,none⟩)),vq (.pointer (some ⟨gB,0,none⟩)),vq (.pointer (some ⟨gB,0,none⟩)),vq (.pointer (some ⟨gB,0,none⟩)),vq (.slice na D'.length nc),vq (.agg #[.bool fb,.slice xa A.length xc]),Fq (.slice na D'.length nc) (⟨fb,xa,A.length,xc⟩:NV),fun va w9=>PSt wW w B gB gM v.ownBlock N (.slice xa A.length xc) A (.slice na D'.length nc) N' D' va (⟨fb,xa,A.length,xc⟩:NV) w9,vq (.pointer (some ⟨gB,0,none⟩)),vq (.pointer (some ⟨gB,0,none⟩))]) (Xs [Ext,Ext,Ext,Ext,Ext,Ext,Ext,(fun w w'=>w.grownBy w' (Value.slice na D'.length nc).ownBlock),Ext,Ext]) (fun fL=>(fun b1 W=>NT2 wW w B gB gM gn v.ownBlock N fb (.slice xa A.length xc) A (.slice na D'.length nc) N' D' b1 W) (fL 7)) [0,0,2,6,14,0,32,126,1,257] 103 10 (by kernel_rfl) rfl ?hV ?hS ?hop ?hfin ?hlast
       case hV =>
        refine Az (Af (by simp only [AS,List.not_mem_nil,or_false,forall_eq_or_imp,forall_eq];exact ⟨AW _,AW _,AW _,AW _,AW _,AW _,GG _ _,O6,AW _,AW _⟩)) ?_;exact ⟨.inl rfl,.inl rfl,.inl rfl,.inl rfl,.inl rfl,.inl rfl,.inl rfl,.inr (Aw ⟨fun _ _=>fun _ _ _ h _=>h,fun _ _=>fun _ _ _ h _=>h,fun _ _=>fun _ _ _ h _=>h,fun _ _=>fun _ _ _ h _=>h,fun _ _=>fun _ _ _ h _=>h,fun _ _=>fun _ _ _ h _=>h,fun _ _=>GH _ _,fun h=>absurd rfl h,fun _ _=>fun _ _ _ h _=>h,fun _ _=>fun _ _ _ h _=>h,trivial⟩),.inl rfl,.inl rfl,trivial⟩
       case hS =>
        intro fL hf;show (fun b1 W=>NT2 wW w B gB gM gn v.ownBlock N fb (.slice xa A.length xc) A (.slice na D'.length nc) N' D' b1 W) (fL 7) _;rw [hf 7 (by decide)];exact NT2.ext false _ _ jy.out ⟨rfl,rfl,rfl,A3 _,fun _ _=>rfl⟩
       case hop =>
        refine ⟨?_,?_,?_,?_,?c4,?c5,?c6,?c7,?_,?_,?_,trivial⟩
        all_goals first | rw [if_neg (by decide)] | rw [if_pos (by decide)]
        all_goals try exact True.intro
        all_goals try intro ac W fL jh jm jS jO jc jf ja jL
        all_goals try have hS:(fun b1 W=>NT2 wW w B gB gM gn v.ownBlock N fb (.slice xa A.length xc) A (.slice na D'.length nc) N' D' b1 W) (fL 7) W:=jc
        all_goals try (have jI:fL 7=true:=jS 7 (by decide);rw [jI] at hS)
        all_goals try (have jI:fL 7=false:=(by first | exact jm | exact jO 7 (by decide) (by decide));rw [jI] at hS)
        all_goals try have yJ:=gdA ac 0 (.pointer (some ⟨gB,0,none⟩)) (ja 0 (by kernel_rfl))
        all_goals try have yL:=gdA ac 7 (.pointer (some ⟨gn,0,none⟩)) (ja 7 (by kernel_rfl))
        all_goals try (have d90:ac.tmps.getD 90 undef=.slice na D'.length nc:=jf 4 (by decide);have dd90:=d90;rw [A4] at dd90)
        all_goals try have d92:(Fq (.slice na D'.length nc) (⟨fb,xa,A.length,xc⟩:NV)) (ac.tmps.getD 92 undef) W:=jf 6 (by decide)
        all_goals try (have jf:=DJ jf;simp [Cg,AY,vq] at jf)
        all_goals try clear ja jS jO jL
        case c4 =>
         have jl:(fun b1 W=>NT2 wW w B gB gM gn v.ownBlock N fb (.slice xa A.length xc) A (.slice na D'.length nc) N' D' b1 W) ((upd fL 4) 7) W:=jc;have jb:LSt wW w B gB gM gn v.ownBlock N fb (.slice xa A.length xc) A (.slice na D'.length nc) N' D' W:=hS;obtain ⟨rp0,rp1⟩:=Ah jb.bst.rep;refine AX rfl (.inl ⟨_,W,?_,rfl,Ext.refl _,jl⟩);clear jh hS jc jl jm jb;simp [go_sem,Act.eval, *]
        case c5 =>
         have jl:(fun b1 W=>NT2 wW w B gB gM gn v.ownBlock N fb (.slice xa A.length xc) A (.slice na D'.length nc) N' D' b1 W) ((upd fL 5) 7) W:=jc;have jb:LSt wW w B gB gM gn v.ownBlock N fb (.slice xa A.length xc) A (.slice na D'.length nc) N' D' W:=hS;obtain ⟨bx0,bx1⟩:=Ah jb.box;refine AX rfl (.inl ⟨_,W,?_,rfl,Ext.refl _,jl⟩);clear jh hS jc jl jm jb;simp [go_sem,Act.eval, *]
        case c6 =>
         have jl:(fun b1 W=>NT2 wW w B gB gM gn v.ownBlock N fb (.slice xa A.length xc) A (.slice na D'.length nc) N' D' b1 W) ((upd fL 6) 7) W:=jc;have jb:LSt wW w B gB gM gn v.ownBlock N fb (.slice xa A.length xc) A (.slice na D'.length nc) N' D' W:=hS;have ju:(Value.slice na D'.length nc).ownBlock≠some W.heap.size:=fun e=>by
          have:=jb.bst.own.lt _ e;omega
         refine AX rfl (.inl ⟨.slice (some ⟨W.heap.size,0,none⟩) 1 1,W.alloc (.cells #[.bool fb,.slice xa A.length xc] 168),?_,⟨_,rfl,heap_alloc_new _ _,ju⟩,(Below.refl _ _).alloc (A3 _) _,(show (fun b1 W=>NT2 wW w B gB gM gn v.ownBlock N fb (.slice xa A.length xc) A (.slice na D'.length nc) N' D' b1 W) ((upd fL 6) 7) _ by
          rw [show upd fL 6 7=fL 7 from if_neg (by decide)];exact NT2.ext _ _ _ jc ((Below.refl _ _).alloc (A3 _) _))⟩)
         clear jh hS jc jl jm jb;simp [go_sem,Act.eval, *]
        case c7 =>
         have jb:LSt wW w B gB gM gn v.ownBlock N fb (.slice xa A.length xc) A (.slice na D'.length nc) N' D' W:=hS;obtain ⟨g62,e62,jJ,kI⟩:=d92;refine AX rfl ((B6 Cn (.tmp 90) (.tmp 92) rfl (Ad d90) jb.bst.own ⟨g62,0,none⟩ 1 [(⟨fb,xa,A.length,xc⟩:NV)] (Ad e62) (Ae jJ) (by rw [jb.bst.len];simp only [AC];omega) jb.bst.size).mono ?_);rintro va w' ⟨ho,jA,ky⟩;refine ⟨jb.appN (fun q hq=>HB.out.own.ge q hq) ho jA ky,jA,?_⟩;show NT2 wW w B gB gM gn v.ownBlock N fb (.slice xa A.length xc) A (.slice na D'.length nc) N' D' (upd fL 7 7) w';rw [show upd fL 7 7=true from if_pos rfl];trivial
        all_goals (refine AX rfl (.inl ⟨_,W,?_,rfl,Ext.refl _,jc⟩);clear jh hS jc jm;simp [go_sem,Act.eval, *];done)
       case hfin =>
        intro h;exact absurd h (by decide)
       case hlast =>
        intro _ ac W jh j7 fL hf jc hv ja;have hS:(fun b1 W=>NT2 wW w B gB gM gn v.ownBlock N fb (.slice xa A.length xc) A (.slice na D'.length nc) N' D' b1 W) (fL 7) W:=jc;clear jc;rw [hf 7 (by decide)] at hS;have kf:ac.tmps.getD 95 undef=.pointer (some ⟨gB,0,none⟩):=hv 9 (by decide);have jn:PSt wW w B gB gM v.ownBlock N (.slice xa A.length xc) A (.slice na D'.length nc) N' D' (ac.tmps.getD 93 undef) (⟨fb,xa,A.length,xc⟩:NV) W:=hv 7 (by decide);obtain ⟨ya,yc,kN, -, -⟩:=jn.own.form;rw [kN] at jn;obtain ⟨rp0,rp1⟩:=Ah jn.rep;refine BK rfl rfl rfl rfl (Ad kf) (Ad kN) (by simp [World.frozen?,jn.rep]) rp0 (by kernel_rfl) ?_;have kb:=jn;obtain ⟨es9,c9,yi⟩:=jn.map.obj;have j8:gM≠gB:=fun e=>by
         have h1:=jn.rep;rw [← e,yi] at h1;cases h1
        obtain ⟨wz2,jg⟩:∃ wz2,W.setCell ⟨gB,0,none⟩ (.slice ya (N' ++ [(⟨fb,xa,A.length,xc⟩:NV)]).length yc)=wz2:=⟨_,rfl⟩
        have jz:Hid (En wz2 gM D'):=by rw [← jg];exact jn.map.kept (Below.heap_setCell _ _ _ _ j8)
        have jX:Hid (wz2.heap[gB]? = some (.cells #[.slice ya (N' ++ [(⟨fb,xa,A.length,xc⟩:NV)]).length yc,.map (some gM)] 133 (0,0))):=by show _=_;rw [← jg];exact Ao jn.rep rfl
        rw [jg];have yE:=A0 jg;clear hS jn rp0 rp1 jg kf es9 c9 yi j8;obtain ⟨sx,kL,kd⟩:=Ag [86,87,88,89,90,91,92,93,94,95] (by kernel_rfl) jh j7 ja;clear kN;rw [kd];simp only [List.foldl];simp only [Act.put,List.setIfInBounds_toArray,List.set_cons_succ,List.set_cons_zero];clear kd kL hv ja jh j7 hf;have kt:=A0 kb;clear kb;have hmap9:En wz2 gM D':=jz.out;obtain ⟨rp0,rp1⟩:=Ah jX.out;have kr:Hid (BJ (⟨fb,A⟩:Nd).fin (⟨fb,A⟩:Nd).arcs=sk.data.toList):=jE.out.symm
        go_wp2_with (first
         | (at_mapUpdate;go_loud (refine Fi jz.out ⟨fb,A⟩ sk kr.out ke yt.out yF rfl _ _ _ rfl rfl rfl rfl ?_;intro w10 kH kB)))
        go_ret;rw [jY.out,jB.out];exact kt.out.done kl kH (by rw [yE.out];exact kB)
open Go.RowKit Go.WideShapes Go.Maps Go.WideMaps
def DF (Mt:List Nat) (i:Nat):Nat:=Mt.findIdx fun j=>decide (j=i)
def CY (rec:Nat→List Nat→List Nd→Nat × List Nat × List Nd):List Ar→List Ar→List Nat→List Nd→List Ar × List Nat × List Nd
 | [],A,Mt,E=>(A,Mt,E)
 | x :: r,A,Mt,E=>CY rec r (A ++ [⟨x.c,((rec x.t.toNat Mt E).1:Nat)⟩]) (rec x.t.toNat Mt E).2.1 (rec x.t.toNat Mt E).2.2
def
  numV (Dn:List Nd):Nat→Nat→List Nat→List Nd→Nat × List Nat × List Nd
 | 0,_,Mt,E=>(0,Mt,E)
 | m
   +
    1,i,Mt,E =>
  if DF Mt i<Mt.length then (DF Mt i,Mt,E)
  else
   (E.length,(CY (numV Dn m) (Dn.getD i default).arcs [] (Mt ++ [i]) (E ++ [⟨(Dn.getD i default).fin,[]⟩])).2.1,
    (CY (numV Dn m) (Dn.getD i default).arcs [] (Mt ++ [i]) (E ++ [⟨(Dn.getD i default).fin,[]⟩])).2.2.set E.length ⟨(Dn.getD i default).fin,(CY (numV Dn m) (Dn.getD i default).arcs [] (Mt ++ [i]) (E ++ [⟨(Dn.getD i default).fin,[]⟩])).1⟩)
def Qp (Dn:List Nd):Prop:=∀ i (h:i<Dn.length),∀ x∈Dn[i].arcs,0≤x.t∧x.t<(i:Int)
theorem O8 {Mt:List Nat} {i j:Nat}:DF (Mt ++ [j]) i=if DF Mt i<Mt.length then DF Mt i else if j=i then Mt.length else Mt.length+1:=by
 unfold DF;rw [List.findIdx_append];split
 · rfl
 ·rw [List.findIdx_cons];by_cases h:j=i
  · simp [h]
  · simp [h];omega
theorem Qq {Mt:List Nat} {i:Nat} (h:i∈Mt):DF Mt i<Mt.length:=List.findIdx_lt_length_of_exists ⟨i,h,by simp⟩
structure VOk (Dn:List Nd) (Mt:List Nat) (E:List Nd):Prop where
 len:Mt.length=E.length
 nd:Mt.Nodup
 lt:∀ j∈Mt,j<Dn.length
theorem nodup_le:∀ (n:Nat) (l:List Nat),l.Nodup→(∀ j∈l,j<n)→l.length≤n
 | 0,l,_,h=>by
  cases l with
  | nil=>simp
  | cons x r=>have:=h x (by simp);omega
 | n
   +
    1,l,hn,h=>by
  by_cases hm:n∈l
  ·have h1:=nodup_le n (l.erase n) (hn.erase n) (fun j hj=>by
    have h2:=h j (List.mem_of_mem_erase hj);have h3:j≠n:=fun e=>by subst e;exact hn.not_mem_erase hj
    omega)
   rw [List.length_erase_of_mem hm] at h1;omega
  ·have h1:=nodup_le n l hn (fun j hj=>by
    have h2:=h j hj;have h3:j≠n:=fun e=>by subst e;exact hm hj
    omega)
   omega
theorem VOk.le {Dn:List Nd} {Mt:List Nat} {E:List Nd} (h:VOk Dn Mt E):E.length≤Dn.length:=by
 rw [← h.len];exact nodup_le _ _ h.nd h.lt
def GI (w:World) (g:Nat) (Mt:List Nat):Prop:=∃ (n:Nat) (M:DataW Unit),w.ownsMap Tryz.prog 3 (plainElem Tryz.prog 3) g n M∧n≤Mt.length ∧
 ∀ i:Nat,i<1000000→Maps.has M (.int .i64 (i:Int))=decide (DF Mt i<Mt.length)∧M.atKey (.int .i64 (i:Int)) (.lit (.int .i64 0))=.lit (.int .i64 (if DF Mt i<Mt.length then (DF Mt i:Int) else 0))
theorem PM:Keyed Tryz.prog 3:=int_keyed Tryz.underlying3
theorem wfN {n:Nat} (h:n<1000001):(Lit.int .i64 (n:Int)).wf=true:=by simp [Lit.wf,IntKind.min,IntKind.max,IntKind.bits,IntKind.signed];omega
theorem GI.new (w:World):GI (w.alloc (.map #[] 0)) w.heap.size [] :=
 ⟨0,.map [],World.ownsMap_made _ _ _ _,A3 _,fun s _=>⟨by simp [DF,Maps.has],by simp [DF,DataW.atKey]⟩⟩
theorem GI.kept {w w1:World} {g:Nat} {Mt:List Nat} (h:GI w g Mt) (hk:w1.heap[g]? = w.heap[g]?):GI w1 g Mt:=by
 obtain ⟨n,M,⟨es,clock,hb,h1,h2,h3⟩,h4⟩:=h;exact ⟨n,M,⟨es,clock,hk.trans hb,h1,h2,h3⟩,h4⟩
theorem GI.obj {w:World} {g:Nat} {Mt:List Nat} (h:GI w g Mt):∃ es c,w.heap[g]? = some (.map es c):=by
 obtain ⟨n,M,⟨es,clock,hb,_⟩,_⟩:=h;exact ⟨es,clock,hb⟩
theorem GI.look {w:World} {g:Nat} {Mt:List Nat} (h:GI w g Mt) (i:Nat) (hi:i<1000000) :
  (Instr.lookup 173 (.map (some g)) (.int .i64 (i:Int)) true).run Tryz.prog w=.ok (.tuple #[.int .i64 (if DF Mt i<Mt.length then (DF Mt i:Int) else 0),.bool (decide (DF Mt i<Mt.length))]) w:=by
 obtain ⟨n,M,h1,_,h3⟩:=h;obtain ⟨v,ps,ja,hv⟩:=h1.look_ok PM Tryz.underlying173 (Tryz.zeroValue3 w) (plainElem_int (H:=Unit) Tryz.underlying3 (a:=0) (by decide)) (keyOf_int_mk Tryz.underlying3 (wfN (n:=i) (by omega)));obtain ⟨e1,e2⟩:=h3 i hi;rw [e2] at hv;obtain ⟨a,rfl,hz,_⟩:=plainElem_int_inv Tryz.underlying3 hv;rw [e1] at ja;have:a=if DF Mt i<Mt.length then (DF Mt i:Int) else 0:=by
  have:=congrArg Prod.fst hz;simp only [DataW.lit.injEq,Lit.int.injEq,true_and] at this;exact this.symm
 rw [← this];exact ja
theorem Fs {w:World} {g:Nat} {Mt:List Nat} {ops:Array Oper} {rest:List Oper} {o:Oper} {a:Act} {Q:Exit→Act→World→Prop} (h:GI w g Mt) (i:Nat) (hi:i<1000000) (jf:¬ DF Mt i<Mt.length) (hD:Mt.length<1000000)
  (jd:o.guard=none) (m x v:Operand) (jg:o.op=Op.mapUpdate 173 m x v) (hm:a.eval m=.map (some g)) (hx:a.eval x=.int .i64 (i:Int)) (hv:a.eval v=.int .i64 (Mt.length:Int))
  (hK:∀ w',GI w' g (Mt ++ [i])→w.grownBy w' (some g)→wpList Tryz.prog ops Q rest (a.put o.dst undef) w'):wpList Tryz.prog ops Q (o :: rest) a w:=by
 obtain ⟨n,M,h1,h2,h3⟩:=h;refine wpList_mapUpdate_own w jd m x v _ jg _ _ PM Tryz.underlying173 _ g n M hm h1 (by unfold maxLen;omega) _ _ _ hx hv (keyOf_int_mk Tryz.underlying3 (wfN (n:=i) (by omega))) _ _ (plainElem_int (H:=Unit) Tryz.underlying3 (wfN (n:=Mt.length) (by omega))) ?_;intro w' ja je;refine hK w' ⟨n+1,_,ja,by rw [AB];simp;omega,fun j hj=>?_⟩ je;have hM:IsMap M:=h1.isMap;rw [O8];by_cases e:j=i
 ·subst e;have jb:WideAt.IsKeyLit (.int .i64 (j:Int)):=trivial;rw [Maps.has_put_same hM jb,Maps.atKey_put_same hM jb,if_neg jf,if_pos rfl];simp
 ·have jc:Lit.int .i64 (j:Int)≠Lit.int .i64 (i:Int):=fun h=>e (by injection h with _ h;omega);rw [Maps.has_put_other jc,Maps.atKey_put_other jc];obtain ⟨e1,e2⟩:=h3 j hj;rw [e1,e2];rw [if_neg (show ¬ i=j from fun h=>e h.symm)];by_cases hf:DF Mt j<Mt.length
  · simp [hf];omega
  · simp [hf]
theorem LF:∀ {N:List NV} {k:Nat} (hk:k<N.length) (a:Option Addr) (m c:Nat),(N.set k ⟨N[k].fin,a,m,c⟩).flatMap Bk.enc=(N.flatMap Bk.enc).set (k*2+1) (.slice a m c)
 | x :: r,0,_,a,m,c=>by simp [Bk]
 | x :: r,k+1,hk,a,m,c=>by
  have ih:=LF (N:=r) (k:=k) (by simpa using hk) a m c;have e:(k+1)*2+1=(k*2+1)+1+1:=by omega
  simp only [List.set_cons_succ,List.getElem_cons_succ,List.flatMap_cons,e];rw [ih];simp [Bk]
theorem AZ.setArcs {w:World} {B g n c0:Nat} {N:List NV} {k:Nat} (h:AZ Bk w B (.slice (some ⟨g,0,none⟩) n c0) N) (hk:k<N.length) (a:Option Addr) (m c:Nat) :
  AZ Bk (w.setCell ⟨g,k*2+1,none⟩ (.slice a m c)) B (.slice (some ⟨g,0,none⟩) n c0) (N.set k ⟨N[k].fin,a,m,c⟩):=by
 have hf:=LF hk a m c;have ja:=DV Cn N;rcases id h.2 with ⟨he,_⟩ | ⟨g',cap,cur,he,h1,h2,h3,h4,h5,h6⟩
 · cases he
 ·injection he with e1 e2 e3;injection e1 with e1;injection e1 with e1;subst e1 e3;refine ⟨by rw [hf,List.length_set,ja,List.length_set],.inr ⟨g,c0,cur.setIfInBounds (k*2+1) (.slice a m c),by rw [List.length_set,e2],h1,Ao h2 rfl,by rw [List.length_set];exact h3,h4,by simp [h5],?_⟩⟩;rw [hf,← h6,List.length_set];simp only [Array.toList_setIfInBounds];rw [List.take_set]
def VFn (gMet gD gN gV:Nat):Value:=.func (.func 102) #[] #[.pointer (some ⟨gMet,0,none⟩),.pointer (some ⟨gD,0,none⟩),.pointer (some ⟨gN,0,none⟩),.pointer (some ⟨gV,0,none⟩)]
structure VBx (w:World) (gMet gm gD gN gV:Nat) (aN:Option Addr) (nN cN:Nat):Prop where
 met:w.heap[gMet]? = some (.cells #[.map (some gm)] 173 (0,0))
 nn:w.heap[gN]? = some (.cells #[.slice aN nN cN] 69 (0,0))
 vv:w.heap[gV]? = some (.cells #[VFn gMet gD gN gV] 174 (0,0))
structure VS0 (w:World) (B gMet gm gD gN gV:Nat) (aN:Option Addr) (nN cN:Nat) (v0:Value) (N:List NV) (E:List Nd) (Mt:List Nat):Prop where
 bx:VBx w gMet gm gD gN gV aN nN cN
 dd:w.heap[gD]? = some (.cells #[v0] 69 (0,0))
 len:N.length=E.length
 arcs:∀ k (h:k<N.length) (h2:k<E.length),N[k].fin=E[k].fin∧AZ Bo w B (.slice N[k].a N[k].n N[k].c) E[k].arcs
 map:GI w gm Mt
 hD:B≤gD
 hm:B≤gm
 dn:gN≠gD
structure VSt (w:World) (B gMet gm gD gN gV:Nat) (aN:Option Addr) (nN cN:Nat) (v:Value) (N:List NV) (E:List Nd) (Mt:List Nat):Prop extends VS0 w B gMet gm gD gN gV aN nN cN v N E Mt where
 own:AZ Bk w B v N
section
variable {w w':World} {B gMet gm gD gN gV:Nat} {aN:Option Addr} {nN cN:Nat} {v v0:Value} {N:List NV} {E:List Nd} {Mt:List Nat}
theorem VBx.keep (h:VBx w gMet gm gD gN gV aN nN cN) (hk:∀ q,q<w.heap.size→q=gMet∨q=gN∨q=gV→w'.heap[q]? = w.heap[q]?):VBx w' gMet gm gD gN gV aN nN cN :=
 ⟨(hk gMet (A5.1 h.met).1 (.inl rfl)).trans h.met,(hk gN (A5.1 h.nn).1 (.inr (.inl rfl))).trans h.nn,(hk gV (A5.1 h.vv).1 (.inr (.inr rfl))).trans h.vv⟩
theorem VS0.keep (h:VS0 w B gMet gm gD gN gV aN nN cN v0 N E Mt) (hk:∀ q,q<w.heap.size→(q=gMet∨q=gN∨q=gV)∨q=gD∨q=gm∨(∃ x∈N,nvB x=some q)→w'.heap[q]? = w.heap[q]?):VS0 w' B gMet gm gD gN gV aN nN cN v0 N E Mt:=by
 obtain ⟨es,c,ja⟩:=h.map.obj;exact ⟨h.bx.keep fun q hq hh=>hk q hq (.inl hh),(hk gD (A5.1 h.dd).1 (.inr (.inl rfl))).trans h.dd,h.len,fun k h1 h2=>⟨(h.arcs k h1 h2).1,(h.arcs k h1 h2).2.keep fun g hg=>hk g ((h.arcs k h1 h2).2.lt g hg) (.inr (.inr (.inr ⟨N[k],AG h1,hg⟩)))⟩,h.map.kept (hk gm (A5.1 ja).1 (.inr (.inr (.inl rfl)))),h.hD,h.hm,h.dn⟩
theorem VS0.ext (h:VS0 w B gMet gm gD gN gV aN nN cN v0 N E Mt) (hx:Ext w w'):VS0 w' B gMet gm gD gN gV aN nN cN v0 N E Mt:=h.keep fun q hq _=>Below.block hx q hq
theorem VSt.ext (h:VSt w B gMet gm gD gN gV aN nN cN v N E Mt) (hx:Ext w w'):VSt w' B gMet gm gD gN gV aN nN cN v N E Mt:=⟨h.toVS0.ext hx,h.own.later hx (A3 _)⟩
theorem VS0.size (h:VS0 w B gMet gm gD gN gV aN nN cN v0 N E Mt):B≤w.heap.size:=A8 h.hD (Nat.le_of_lt (A5.1 h.dd).1)
theorem VS0.apartT (h:VS0 w B gMet gm gD gN gV aN nN cN v0 N E Mt) {g:Nat} {cs:Array Value} {t:TypeId} {fz:Nat × Nat} (hg:w.heap[g]? = some (.cells cs t fz)) (ht:t≠173∧t≠69∧t≠174):g≠gMet∧g≠gN∧g≠gV∧g≠gD∧g≠gm:=by
 have key:∀ {q:Nat} {cs2:Array Value} {t2:TypeId},w.heap[q]? = some (.cells cs2 t2 (0,0))→t≠t2→g≠q:=fun h1 h2 e=>by
  rw [e,h1] at hg;injection hg with hg;injection hg with _ h3;exact h2 h3.symm
 refine ⟨key h.bx.met ht.1,key h.bx.nn ht.2.1,key h.bx.vv ht.2.2,key h.dd ht.2.1,fun e=>?_⟩;obtain ⟨es,c,hm⟩:=h.map.obj;rw [e,hm] at hg;cases hg
theorem VS0.rows_lt (h:VS0 w B gMet gm gD gN gV aN nN cN v0 N E Mt):∀ x∈N,∀ g,nvB x=some g→g<w.heap.size∧∃ cs,w.heap[g]? = some (.cells cs 170 (0,0)):=by
 intro x hx g hg;obtain ⟨k,hk,rfl⟩:=List.getElem_of_mem hx;have h2:=(h.arcs k hk (by rw [← h.len];exact hk)).2;exact ⟨h2.lt g hg,h2.obj hg⟩
end
structure LVt (wW w0:World) (B gMet gm gD gN gV:Nat) (aN:Option Addr) (nN cN:Nat) (vb0:Option Nat) (N0:List NV) (vA:Value) (A:List Ar) (v:Value) (N:List NV) (E:List Nd) (Mt:List Nat) (w:World):Prop where
 bst:VSt w B gMet gm gD gN gV aN nN cN v N E Mt
 bl:Below B wW w
 fr:Fr gD gm vb0 w0 w
 nr:Cp vb0 v.ownBlock w0.heap.size
 ex:∃ X,N=N0 ++ X∧∀ x∈X,∀ g,nvB x=some g→w0.heap.size≤g
 own:AZ Bo w w0.heap.size vA A
 apart:∀ x∈N,∀ g,nvB x=some g→vA.ownBlock≠some g
structure LV0 (wW w0:World) (B gMet gm gD gN gV:Nat) (aN:Option Addr) (nN cN:Nat) (vb0:Option Nat) (N0:List NV) (v:Value) (N:List NV) (E:List Nd) (Mt:List Nat) (w:World):Prop where
 bst:VSt w B gMet gm gD gN gV aN nN cN v N E Mt
 bl:Below B wW w
 fr:Fr gD gm vb0 w0 w
 nr:Cp vb0 v.ownBlock w0.heap.size
 ex:∃ X,N=N0 ++ X∧∀ x∈X,∀ g,nvB x=some g→w0.heap.size≤g
def Rd (wW:World) (B gMet gm gD gN gV:Nat) (aN:Option Addr) (nN cN:Nat) (q:Nat × List Nat × List Nd) (v:Value) (N:List NV) (w:World) (e:Ending) (w':World):Prop :=
 e=.returned (.int .i64 (q.1:Int))∧∃ v' N',LV0 wW w B gMet gm gD gN gV aN nN cN v.ownBlock N v' N' q.2.2 q.2.1 w'
section
variable {wW w0 w w':World} {B gMet gm gD gN gV:Nat} {aN:Option Addr} {nN cN:Nat} {vb0:Option Nat} {N0:List NV} {vA va v:Value} {A A2:List Ar} {N:List NV} {E:List Nd} {Mt:List Nat}
theorem LV0.ext (h:LV0 wW w0 B gMet gm gD gN gV aN nN cN vb0 N0 v N E Mt w) (hx:Ext w w'):LV0 wW w0 B gMet gm gD gN gV aN nN cN vb0 N0 v N E Mt w' :=
 ⟨h.bst.ext hx,h.bl.trans (Below.mono hx h.bst.size),h.fr.trans (Fr.of_below hx) h.nr,h.nr,h.ex⟩
theorem LVt.ext (h:LVt wW w0 B gMet gm gD gN gV aN nN cN vb0 N0 vA A v N E Mt w) (hx:Ext w w'):LVt wW w0 B gMet gm gD gN gV aN nN cN vb0 N0 vA A v N E Mt w' :=
 ⟨h.bst.ext hx,h.bl.trans (Below.mono hx h.bst.size),h.fr.trans (Fr.of_below hx) h.nr,h.nr,h.ex,h.own.later hx (A3 _),h.apart⟩
theorem LVt.called (h:LVt wW w0 B gMet gm gD gN gV aN nN cN vb0 N0 vA A v N E Mt w) {q:Nat × List Nat × List Nd} {e:Ending} (hp:Rd wW B gMet gm gD gN gV aN nN cN q v N w e w') :
  e=.returned (.int .i64 (q.1:Int))∧∃ v' N',LVt wW w0 B gMet gm gD gN gV aN nN cN vb0 N0 vA A v' N' q.2.2 q.2.1 w':=by
 obtain ⟨he,v',N',hp⟩:=hp;have jd:=h.fr.size;obtain ⟨X,hX,jb⟩:=hp.ex;refine ⟨he,v',N',hp.bst,hp.bl,h.fr.trans hp.fr h.nr,h.nr.trans hp.nr jd,?_,h.own.keep fun g hg=>?_,fun x hx g hg=>?_⟩
 ·obtain ⟨E0,rfl,je⟩:=h.ex;refine ⟨E0 ++ X,by rw [hX,List.append_assoc],fun x hx g hg=>?_⟩;rcases AT.1 hx with hx | hx
  · exact je x hx g hg
  · exact A8 jd (jb x hx g hg)
 ·obtain ⟨cs,jc⟩:=h.own.obj hg;obtain ⟨_,_,_,h4,h5⟩:=h.bst.apartT jc (by decide);refine hp.fr.block g (h.own.lt g hg) h4 h5 fun e=>?_;obtain ⟨cs2,ja⟩:=h.bst.own.obj e;rw [jc] at ja;injection ja with ja;injection ja with _ h6;cases h6
 ·intro e;rw [hX] at hx;rcases AT.1 hx with hx | hx
  · exact h.apart x hx g hg e
  · have:=jb x hx g hg;have:=h.own.lt g e;omega
theorem LVt.app (h:LVt wW w0 B gMet gm gD gN gV aN nN cN vb0 N0 vA A v N E Mt w) (hB:B≤w0.heap.size) (hg:w.grownBy w' vA.ownBlock):LV0 wW w0 B gMet gm gD gN gV aN nN cN vb0 N0 v N E Mt w':=by
 have hk:∀ q,q<w.heap.size→vA.ownBlock≠some q→w'.heap[q]? = w.heap[q]?:=fun q hq jd=>hg.block q hq (fun e=>jd e.symm);have jf:∀ q,vA.ownBlock=some q→q≠gMet∧q≠gN∧q≠gV∧q≠gD∧q≠gm:=fun q hq=>by
  obtain ⟨cs,jb⟩:=h.own.obj hq;exact h.bst.apartT jb (by decide)
 refine ⟨⟨h.bst.toVS0.keep fun q hq hh=>hk q hq fun e=>?_,h.bst.own.keep fun g jc=>hk g (h.bst.own.lt g jc) fun e=>?_⟩,h.bl.grown hg h.bst.size fun q hq=>A8 hB (h.own.ge q hq),⟨hg.os.trans h.fr.os,hg.tape.trans h.fr.tape,hg.output.trans h.fr.output,A8 h.fr.size hg.size,fun q hq h3 h4 h5=>?_⟩,h.nr,h.ex⟩
 ·obtain ⟨h1,h2,h3,h4,h5⟩:=jf q e;rcases hh with (rfl | rfl | rfl) | rfl | rfl | ⟨x,hx,je⟩
  · exact h1 rfl
  · exact h2 rfl
  · exact h3 rfl
  · exact h4 rfl
  · exact h5 rfl
  · exact h.apart x hx q je e
 ·obtain ⟨cs,jb⟩:=h.own.obj e;obtain ⟨cs2,ja⟩:=h.bst.own.obj jc;rw [jb] at ja;injection ja with ja;injection ja with _ h6;cases h6
 ·have h6:=h.fr.size;exact (hk q (by omega) (fun e=>by have:=h.own.ge q e;omega)).trans (h.fr.block q hq h3 h4 h5)
end
def CL (R E:List Nd):Prop:=E.length≤R.length∧∀ k,k<E.length→R[k]? = E[k]?
theorem CL.refl (E:List Nd):CL E E:=⟨A3 _,fun _ _=>rfl⟩
theorem CL.trans {A B C:List Nd} (h:CL A B) (h2:CL B C):CL A C:=⟨A8 h2.1 h.1,fun k hk=>(h.2 k (A7 hk h2.1)).trans (h2.2 k hk)⟩
theorem CL.snoc (E:List Nd) (x:Nd):CL (E ++ [x]) E:=⟨by simp,fun k hk=>by rw [AI hk]⟩
theorem GJ {rec:Nat→List Nat→List Nd→Nat × List Nat × List Nd} (hr:∀ i Mt E,CL (rec i Mt E).2.2 E):∀ X A Mt E,CL (CY rec X A Mt E).2.2 E
 | [],_,_,_=>CL.refl _
 | x :: r,A,Mt,E=>by rw [CY];exact (GJ hr r _ _ _).trans (hr _ _ _)
theorem Gz (Dn:List Nd):∀ m i Mt E,CL (numV Dn m i Mt E).2.2 E
 | 0,_,_,_=>CL.refl _
 | m
   + 1,i,Mt,E=>by
  rw [numV];split
  · exact CL.refl _
  ·have h:=(GJ (Gz Dn m) (Dn.getD i default).arcs [] (Mt ++ [i]) (E ++ [⟨(Dn.getD i default).fin,[]⟩])).trans (CL.snoc E _);refine ⟨by rw [List.length_set];exact h.1,fun k hk=>?_⟩;rw [List.getElem?_set_ne (by omega)];exact h.2 k hk
theorem VOk.snoc {Dn:List Nd} {Mt:List Nat} {E:List Nd} {i:Nat} (h:VOk Dn Mt E) (hi:i<Dn.length) (ja:¬ DF Mt i<Mt.length) (x:Nd):VOk Dn (Mt ++ [i]) (E ++ [x]):=by
 refine ⟨by simp [h.len],?_,fun j hj=>?_⟩
 ·rw [List.nodup_append];exact ⟨h.nd,by simp,fun a ha b hb=>by
   obtain rfl:=AD.1 hb;intro e;subst e;exact ja (Qq ha)⟩
 ·rcases AT.1 hj with hj | hj
  · exact h.lt j hj
  · obtain rfl:=AD.1 hj;exact hi
theorem LG {Dn:List Nd} {rec:Nat→List Nat→List Nd→Nat × List Nat × List Nd} {i:Nat} (hi:i≤Dn.length) (hr:∀ j Mt E,j<i→VOk Dn Mt E→VOk Dn (rec j Mt E).2.1 (rec j Mt E).2.2):∀ X A Mt E,(∀ x∈X,0≤x.t∧x.t<(i:Int))→VOk Dn Mt E→VOk Dn (CY rec X A Mt E).2.1 (CY rec X A Mt E).2.2
 | [],_,_,_,_,h=>h
 | x :: r,A,Mt,E,hX,h=>by
  rw [CY];have hx:=hX x (by simp);exact LG hi hr r _ _ _ (fun y hy=>hX y (by simp [hy])) (hr _ _ _ (by omega) h)
theorem ND {Dn:List Nd} (hD:Qp Dn):∀ m i Mt E,i<Dn.length→i<m→VOk Dn Mt E→VOk Dn (numV Dn m i Mt E).2.1 (numV Dn m i Mt E).2.2
 | 0,_,_,_,_,h,_=>by omega
 | m
   + 1,i,Mt,E,hi,hm,h=>by
  rw [numV];split
  · exact h
  ·rename_i ja;have hg:Dn.getD i default=Dn[i]:=by rw [AO,AA hi];rfl
   have h2:=LG (Dn:=Dn) (rec:=numV Dn m) (i:=i) (by omega) (fun j Mt E hj h=>ND hD m j Mt E (by omega) (by omega) h) (Dn.getD i default).arcs [] (Mt ++ [i]) (E ++ [⟨(Dn.getD i default).fin,[]⟩]) (by rw [hg];exact hD i hi) (h.snoc hi ja _);exact ⟨by rw [List.length_set];exact h2.len,h2.nd,h2.lt⟩
end Go.Proofs.YtpljngaejaehcaaGreatDoor
