/- Texts that the claims share: DNode, DNumP. -/
import Derived.Deep.CutBlock
import Derived.Test.YthjmdgejnakcmaaDoorMD1
namespace Go.Proofs.YthjmdgejnakcmaaDoor
open Go.RowKit Go.WideShapes
set_option linter.unusedVariables false
set_option linter.unusedSimpArgs false
def nvB (x:NV):Option Nat:=(Value.slice x.a x.n x.c).ownBlock
def NodePost (wW:World) (B gB gM:Nat) (q:Nat × List Nd) (v:Value) (N:List NV) (w:World) (e:Ending) (w':World):Prop :=
 ∃ v' N' E,e=.returned (.int .i64 (q.1:Int))∧BSt w' B gB gM v' N' q.2∧N'=N ++ E∧(∀ x∈E,∀ g,nvB x=some g→w.heap.size≤g)∧Below B wW w'∧Fr gB gM v.ownBlock w w'∧NewRow v.ownBlock v'.ownBlock w.heap.size
structure LSt (wW w0:World) (B gB gM gn:Nat) (vb0:Option Nat) (N0:List NV) (fin:Bool) (vA:Value) (A:List Ar) (v:Value) (N:List NV) (D:List Nd) (w:World):Prop where
 bst:BSt w B gB gM v N D
 bl:Below B wW w
 fr:Fr gB gM vb0 w0 w
 nr:NewRow vb0 v.ownBlock w0.heap.size
 ex:∃ E,N=N0 ++ E∧∀ x∈E,∀ g,nvB x=some g→w0.heap.size≤g
 box:w.heap[gn]? = some (.cells #[.bool fin,vA] 70 (0,0))
 gg:w0.heap.size≤gn
 vn:v.ownBlock≠some gn
 own:OwnG rowArc w w0.heap.size vA A
 apart:∀ x∈N,∀ g,nvB x=some g→vA.ownBlock≠some g
section
variable {wW w0 w w':World} {B gB gM gn:Nat} {vb0:Option Nat} {N0:List NV} {fin:Bool} {vA:Value} {A:List Ar} {v:Value} {N:List NV} {D:List Nd}
theorem LSt.ext (h:LSt wW w0 B gB gM gn vb0 N0 fin vA A v N D w) (hx:Ext w w') (hB:B≤w.heap.size):LSt wW w0 B gB gM gn vb0 N0 fin vA A v N D w' :=
 ⟨h.bst.ext hx,h.bl.trans (Below.mono hx hB),h.fr.trans (Fr.of_below hx) h.nr,h.nr,h.ex,(Below.block hx gn (Array.getElem?_eq_some_iff.1 h.box).1).trans h.box,h.gg,h.vn,h.own.later hx (Nat.le_refl _),h.apart⟩
theorem LSt.gs (h:LSt wW w0 B gB gM gn vb0 N0 fin vA A v N D w):gn<w.heap.size:=(Array.getElem?_eq_some_iff.1 h.box).1
theorem BSt.size (h:BSt w B gB gM v N D):B≤w.heap.size:=Nat.le_trans h.gB (Nat.le_of_lt (Array.getElem?_eq_some_iff.1 h.rep).1)
theorem BSt.apart_arc (h:BSt w B gB gM v N D) {g:Nat} {cs:Array Value} {fz:Nat × Nat} (hg:w.heap[g]? = some (.cells cs 72 fz)):g≠gB∧g≠gM∧v.ownBlock≠some g:=by
 refine ⟨?_,?_,?_⟩
 ·
  rintro rfl
  rw [h.rep] at hg
  injection hg with hg;injection hg with _ h2;cases h2
 ·
  rintro rfl
  obtain ⟨es,c,hm⟩:=h.map.obj
  rw [hm] at hg;cases hg
 ·
  intro e
  rcases h.own.2 with ⟨rfl,_⟩ | ⟨g',cap,cur,rfl,_,h2,_⟩
  · cases e
  ·
   cases e
   rw [h2] at hg
   injection hg with hg;injection hg with _ h3;cases h3
theorem OwnG.obj {α:Type} {T:RowT α} {L:List α} (h:OwnG T w B v L) {g:Nat} (hg:v.ownBlock=some g):∃ cs,w.heap[g]? = some (.cells cs T.e (0,0)):=by
 rcases h.2 with ⟨rfl,_⟩ | ⟨g',cap,cur,rfl,_,h2,_⟩
 · cases hg
 · cases hg;exact ⟨_,h2⟩
end
def slLen:Value→Nat
 | .slice _ n _=>n
 | _=>0
theorem set_one {w:World} {g i:Nat} {y:Value} {cs cs':Array Value} {t:TypeId} {f:Nat × Nat} (h:w.heap[g]? = some (.cells cs t f)) (hc:cs.setIfInBounds i y=cs'):(w.setCell ⟨g,i,none⟩ y).heap[g]? = some (.cells cs' t f):=by
 simp only [World.setCell]
 rw [Array.getElem?_modify,if_pos rfl,h,← hc];rfl
structure LSt0 (wW w0:World) (B gB gM gn:Nat) (vb0:Option Nat) (N0:List NV) (fin:Bool) (vA:Value) (v:Value) (N:List NV) (D:List Nd) (w:World):Prop where
 bst:BSt w B gB gM v N D
 bl:Below B wW w
 fr:Fr gB gM vb0 w0 w
 nr:NewRow vb0 v.ownBlock w0.heap.size
 ex:∃ E,N=N0 ++ E∧∀ x∈E,∀ g,nvB x=some g→w0.heap.size≤g
 box:w.heap[gn]? = some (.cells #[.bool fin,vA] 70 (0,0))
 gg:w0.heap.size≤gn
 vn:v.ownBlock≠some gn
theorem LSt0.gn_ne {wW w0 w:World} {B gB gM gn:Nat} {vb0:Option Nat} {N0:List NV} {fin:Bool} {vA:Value} {v:Value} {N:List NV} {D:List Nd} (h:LSt0 wW w0 B gB gM gn vb0 N0 fin vA v N D w) :
  ∀ q,(q=gB∨q=gM∨v.ownBlock=some q∨∃ x∈N,(Value.slice x.a x.n x.c).ownBlock=some q)→q≠gn:=by
 rintro q (rfl | rfl | hq | ⟨x,hx,hq⟩) e
 ·
  subst e
  have:=h.bst.rep
  rw [h.box] at this
  injection this with this;injection this with _ h2;cases h2
 ·
  subst e
  obtain ⟨es,c,hm⟩:=h.bst.map.obj
  rw [h.box] at hm;cases hm
 · subst e;exact h.vn hq
 ·
  subst e
  obtain ⟨k,hk,rfl⟩:=List.getElem_of_mem hx
  obtain ⟨cs,hcs⟩:=(h.bst.arcs k hk (by rw [← h.bst.len];exact hk)).2.obj hq
  rw [h.box] at hcs
  injection hcs with hcs;injection hcs with _ h2;cases h2
theorem LSt.gn_ne {wW w0 w:World} {B gB gM gn:Nat} {vb0:Option Nat} {N0:List NV} {fin:Bool} {vA:Value} {A:List Ar} {v:Value} {N:List NV} {D:List Nd} (h:LSt wW w0 B gB gM gn vb0 N0 fin vA A v N D w) :
  ∀ q,(q=gB∨q=gM∨v.ownBlock=some q∨∃ x∈N,(Value.slice x.a x.n x.c).ownBlock=some q)→q≠gn:=by
 rintro q (rfl | rfl | hq | ⟨x,hx,hq⟩) e
 ·
  subst e
  have:=h.bst.rep
  rw [h.box] at this
  injection this with this;injection this with _ h2;cases h2
 ·
  subst e
  obtain ⟨es,c,hm⟩:=h.bst.map.obj
  rw [h.box] at hm;cases hm
 · subst e;exact h.vn hq
 ·
  subst e
  obtain ⟨k,hk,rfl⟩:=List.getElem_of_mem hx
  obtain ⟨cs,hcs⟩:=(h.bst.arcs k hk (by rw [← h.bst.len];exact hk)).2.obj hq
  rw [h.box] at hcs
  injection hcs with hcs;injection hcs with _ h2;cases h2
theorem LSt0.setBox {wW w0 w:World} {B gB gM gn:Nat} {vb0:Option Nat} {N0:List NV} {fin fin':Bool} {vA vA':Value} {A':List Ar} {v:Value} {N:List NV} {D:List Nd} {i:Nat} {y:Value} (h:LSt0 wW w0 B gB gM gn vb0 N0 fin vA v N D w) (hB:B≤w0.heap.size)
  (hc:(#[.bool fin,vA]:Array Value).setIfInBounds i y=#[.bool fin',vA']) (ho:OwnG rowArc w w0.heap.size vA' A') (hap:∀ x∈N,∀ g,nvB x=some g→vA'.ownBlock≠some g):LSt wW w0 B gB gM gn vb0 N0 fin' vA' A' v N D (w.setCell ⟨gn,i,none⟩ y):=by
 have hne:∀ q,q≠gn→(w.setCell ⟨gn,i,none⟩ y).heap[q]? = w.heap[q]?:=fun q hq=>Below.heap_setCell _ _ _ _ hq
 refine ⟨h.bst.keep fun q hq hh=>hne q (h.gn_ne q hh),h.bl.setCell (Nat.le_trans hB h.gg) _,⟨h.fr.os,h.fr.tape,h.fr.output,by rw [World.size_setCell];exact h.fr.size,fun q hq h3 h4 h5=>(hne q (by have:=h.gg;omega)).trans (h.fr.block q hq h3 h4 h5)⟩,h.nr,h.ex,set_one h.box hc,h.gg,h.vn,ho.keep fun g hg=>hne g fun e=>?_,hap⟩
 ·
  subst e
  obtain ⟨cs,hcs⟩:=ho.obj hg
  rw [h.box] at hcs
  injection hcs with hcs;injection hcs with _ h2;cases h2
section
variable {wW w0 w w':World} {B gB gM gn:Nat} {vb0:Option Nat} {N0:List NV} {fin:Bool} {vA:Value} {A:List Ar} {v:Value} {N:List NV} {D:List Nd}
theorem LSt0.ext (h:LSt0 wW w0 B gB gM gn vb0 N0 fin vA v N D w) (hx:Ext w w'):LSt0 wW w0 B gB gM gn vb0 N0 fin vA v N D w' :=
 ⟨h.bst.ext hx,h.bl.trans (Below.mono hx h.bst.size),h.fr.trans (Fr.of_below hx) h.nr,h.nr,h.ex,(Below.block hx gn (Array.getElem?_eq_some_iff.1 h.box).1).trans h.box,h.gg,h.vn⟩
theorem LSt.called (h:LSt wW w0 B gB gM gn vb0 N0 fin vA A v N D w) {q:Nat × List Nd} {e:Ending} (hp:NodePost wW B gB gM q v N w e w'):e=.returned (.int .i64 (q.1:Int))∧∃ v' N',LSt wW w0 B gB gM gn vb0 N0 fin vA A v' N' q.2 w':=by
 obtain ⟨v',N',E,rfl,hb,rfl,hE,hbl,hfr,hnr⟩:=hp
 have hgs:=h.gs
 have hne:=h.gn_ne
 have hgn:w'.heap[gn]? = w.heap[gn]?:=hfr.block gn hgs (fun e=>hne gB (.inl rfl) e.symm) (fun e=>hne gM (.inr (.inl rfl)) e.symm) h.vn
 have hw0:=h.fr.size
 refine ⟨rfl,v',_,hb,hbl,h.fr.trans hfr h.nr,h.nr.trans hnr hw0,?_,hgn.trans h.box,h.gg,?_,h.own.keep fun g hg=>?_,fun x hx g hg=>?_⟩
 ·
  obtain ⟨E0,rfl,hE0⟩:=h.ex
  refine ⟨E0 ++ E,by rw [List.append_assoc],fun x hx g hg=>?_⟩
  rcases List.mem_append.1 hx with hx | hx
  · exact hE0 x hx g hg
  · exact Nat.le_trans hw0 (hE x hx g hg)
 ·
  intro e
  rcases hnr with h1 | h1
  · exact h.vn (by rw [← h1];exact e)
  · have:=h1 gn e;omega
 ·
  obtain ⟨cs,hcs⟩:=h.own.obj hg
  obtain ⟨h1,h2,h3⟩:=h.bst.apart_arc hcs
  exact hfr.block g (h.own.lt g hg) h1 h2 h3
 ·
  intro e
  rcases List.mem_append.1 hx with hx | hx
  · exact h.apart x hx g hg e
  · have:=hE x hx g hg;have:=h.own.lt g e;omega
theorem LSt.app (h:LSt wW w0 B gB gM gn vb0 N0 fin vA A v N D w) (hB:B≤w0.heap.size) (hg:w.grownBy w' vA.ownBlock):LSt0 wW w0 B gB gM gn vb0 N0 fin vA v N D w':=by
 have hva:∀ q,vA.ownBlock=some q→q≠gB∧q≠gM∧v.ownBlock≠some q:=fun q hq=>by
  obtain ⟨cs,hcs⟩:=h.own.obj hq
  exact h.bst.apart_arc hcs
 have hk:∀ q,q<w.heap.size→vA.ownBlock≠some q→w'.heap[q]? = w.heap[q]?:=fun q hq hne=>hg.block q hq (fun e=>hne e.symm)
 have hgn:vA.ownBlock≠some gn:=fun e=>by
  obtain ⟨cs,hcs⟩:=h.own.obj e
  rw [h.box] at hcs
  injection hcs with hcs;injection hcs with _ h2;cases h2
 refine ⟨h.bst.keep fun q hq hh=>hk q hq fun e=>?_,h.bl.grown hg h.bst.size fun q hq=>Nat.le_trans hB (h.own.ge q hq),⟨hg.os.trans h.fr.os,hg.tape.trans h.fr.tape,hg.output.trans h.fr.output,Nat.le_trans h.fr.size hg.size,fun q hq h3 h4 h5=>?_⟩,h.nr,h.ex,(hk gn h.gs hgn).trans h.box,h.gg,h.vn⟩
 ·
  rcases hh with rfl | rfl | hq2 | ⟨x,hx,hq2⟩
  · exact (hva _ e).1 rfl
  · exact (hva _ e).2.1 rfl
  · exact (hva _ e).2.2 hq2
  · exact h.apart x hx q hq2 e
 ·
  have h6:=h.fr.size
  exact (hk q (by omega) (fun e=>by have:=h.own.ge q e;omega)).trans (h.fr.block q hq h3 h4 h5)
theorem LSt.to0 (h:LSt wW w0 B gB gM gn vb0 N0 fin vA A v N D w):LSt0 wW w0 B gB gM gn vb0 N0 fin vA v N D w:=⟨h.bst,h.bl,h.fr,h.nr,h.ex,h.box,h.gg,h.vn⟩
theorem LSt0.rows_lt (h:LSt0 wW w0 B gB gM gn vb0 N0 fin vA v N D w):∀ x∈N,∀ g,nvB x=some g→g<w.heap.size:=by
 intro x hx g hg
 obtain ⟨k,hk,rfl⟩:=List.getElem_of_mem hx
 exact (h.bst.arcs k hk (by rw [← h.bst.len];exact hk)).2.lt g hg
end
def NT (wW w0:World) (B gB gM gn:Nat) (vb0:Option Nat) (N0:List NV) (fin:Bool) (vA:Value) (A:List Ar) (v:Value) (N:List NV) (D D2:List Nd) (b1 b2:Bool) (w:World):Prop :=
 match b1,b2 with
 | false,_=>LSt wW w0 B gB gM gn vb0 N0 fin vA A v N D w
 | true,false=>∃ v2 N2,LSt wW w0 B gB gM gn vb0 N0 fin vA A v2 N2 D2 w
 | true,true=>True
def NV63 (wW w0:World) (B gB gM gn:Nat) (vb0:Option Nat) (N0:List NV) (fin:Bool) (vA:Value) (A2:List Ar) (D2:List Nd) (va:Value) (w:World):Prop :=
 ∃ v2 N2,LSt0 wW w0 B gB gM gn vb0 N0 fin vA v2 N2 D2 w∧OwnG rowArc w w0.heap.size va A2∧∀ x∈N2,∀ g,nvB x=some g→va.ownBlock≠some g
section
variable {wW w0:World} {B gB gM gn:Nat} {vb0:Option Nat} {N0:List NV} {fin:Bool} {vA:Value} {A:List Ar} {v:Value} {N:List NV} {D D2:List Nd}
theorem NT.ext:∀ (b1 b2:Bool) (w w':World),NT wW w0 B gB gM gn vb0 N0 fin vA A v N D D2 b1 b2 w→Ext w w'→NT wW w0 B gB gM gn vb0 N0 fin vA A v N D D2 b1 b2 w':=by
 intro b1 b2 w w' h hx
 cases b1 with
 | false=>exact LSt.ext h hx (LSt.to0 h).bst.size
 | true =>
  cases b2 with
  | false =>
   obtain ⟨v2,N2,h2⟩:=h
   exact ⟨v2,N2,h2.ext hx h2.bst.size⟩
  | true=>trivial
theorem NT.boxed {b1:Bool} {w:World} (h:NT wW w0 B gB gM gn vb0 N0 fin vA A v N D D2 b1 false w):w.heap[gn]? = some (.cells #[.bool fin,vA] 70 (0,0))∧w0.heap.size≤w.heap.size:=by
 cases b1 with
 | false=>exact ⟨LSt.box h,(LSt.fr h).size⟩
 | true =>
  obtain ⟨v2,N2,h2⟩:=h
  exact ⟨h2.box,h2.fr.size⟩
theorem nv63_stays {A2:List Ar}:Stays (NV63 wW w0 B gB gM gn vb0 N0 fin vA A2 D2):=by
 rintro va w w' ⟨v2,N2,h1,h2,h3⟩ hx
 exact ⟨v2,N2,h1.ext hx,h2.later hx (Nat.le_refl _),h3⟩
end
def RowArc1 (vA:Value) (x:Ar) (v:Value) (w:World):Prop:=∃ g,v=.slice (some ⟨g,0,none⟩) 1 1∧w.heap[g]? = some (.cells #[.int .u8 x.c,.int .i64 x.t] 72 (0,0))∧vA.ownBlock≠some g
theorem rowArc1_stays (vA:Value) (x:Ar):Stays (RowArc1 vA x):=by
 rintro v w w' ⟨g,rfl,h,hn⟩ hx
 exact ⟨g,rfl,(Below.block hx g (Array.getElem?_eq_some_iff.1 h).1).trans h,hn⟩
theorem rowArc1_grown (vA:Value) (x:Ar):∀ v w w',RowArc1 vA x v w→w.grownBy w' vA.ownBlock→RowArc1 vA x v w':=by
 rintro v w w' ⟨g,rfl,h,hn⟩ hx
 exact ⟨g,rfl,(hx.block g (Array.getElem?_eq_some_iff.1 h).1 (fun e=>hn e.symm)).trans h,hn⟩
structure PSt (wW w0:World) (B gB gM:Nat) (vb0:Option Nat) (N0:List NV) (vA:Value) (A:List Ar) (v0:Value) (N:List NV) (D:List Nd) (va:Value) (nv:NV) (w:World):Prop where
 rep:w.heap[gB]? = some (.cells #[v0,.map (some gM)] 57 (0,0))
 own:OwnG rowNode w B va (N ++ [nv])
 len:N.length=D.length
 arcs:∀ k (h:k<N.length) (h2:k<D.length),N[k].fin=D[k].fin∧OwnG rowArc w B (.slice N[k].a N[k].n N[k].c) D[k].arcs
 map:MapS w gM D
 hB:B≤gB
 hM:B≤gM
 oA:OwnG rowArc w w0.heap.size vA A
 bl:Below B wW w
 fr:Fr gB gM vb0 w0 w
 nr:NewRow vb0 va.ownBlock w0.heap.size
 ex:∃ E,N=N0 ++ E∧∀ x∈E,∀ g,nvB x=some g→w0.heap.size≤g
 bs:B≤w.heap.size
section
variable {wW w0 w w':World} {B gB gM gn:Nat} {vb0:Option Nat} {N0:List NV} {fin:Bool} {vA:Value} {A:List Ar} {v va:Value} {N:List NV} {D:List Nd} {nv:NV}
theorem PSt.ext (h:PSt wW w0 B gB gM vb0 N0 vA A v N D va nv w) (hx:Ext w w') (hn:NewRow vb0 va.ownBlock w0.heap.size):PSt wW w0 B gB gM vb0 N0 vA A v N D va nv w':=by
 obtain ⟨es,c,hm⟩:=h.map.obj
 exact ⟨(Below.block hx gB (Array.getElem?_eq_some_iff.1 h.rep).1).trans h.rep,h.own.later hx (Nat.le_refl _),h.len,fun k h1 h2=>⟨(h.arcs k h1 h2).1,(h.arcs k h1 h2).2.later hx (Nat.le_refl _)⟩,h.map.kept (Below.block hx gM (Array.getElem?_eq_some_iff.1 hm).1),h.hB,h.hM,h.oA.later hx (Nat.le_refl _),h.bl.trans (Below.mono hx h.bs),h.fr.trans (Fr.of_below hx) hn,h.nr,h.ex,Nat.le_trans h.bs hx.size⟩
theorem LSt.appN (h:LSt wW w0 B gB gM gn vb0 N0 fin vA A v N D w) (hb0:∀ q,vb0=some q→B≤q) (ho:OwnG rowNode w' B va (N ++ [nv])) (hg:w.grownBy w' v.ownBlock) (hat:va.ownBlock=v.ownBlock∨va.ownBlock=some w.heap.size):PSt wW w0 B gB gM vb0 N0 vA A v N D va nv w':=by
 have hv:∀ q cs t fz,w.heap[q]? = some (.cells cs t fz)→t≠70→v.ownBlock≠some q:=fun q cs t fz hq ht e=>by
  obtain ⟨cs2,hcs⟩:=h.bst.own.obj e
  rw [hq] at hcs
  injection hcs with hcs;injection hcs with _ h2;exact ht h2
 have hk:∀ q,q<w.heap.size→v.ownBlock≠some q→w'.heap[q]? = w.heap[q]?:=fun q hq hne=>hg.block q hq (fun e=>hne e.symm)
 obtain ⟨es,c,hm⟩:=h.bst.map.obj
 have hgM:v.ownBlock≠some gM:=fun e=>by
  obtain ⟨cs2,hcs⟩:=h.bst.own.obj e
  rw [hm] at hcs;cases hcs
 refine ⟨(hk gB (Array.getElem?_eq_some_iff.1 h.bst.rep).1 (hv _ _ _ _ h.bst.rep (by decide))).trans h.bst.rep,ho,h.bst.len,fun k h1 h2=>⟨(h.bst.arcs k h1 h2).1,(h.bst.arcs k h1 h2).2.keep fun g hgk=>?_⟩,h.bst.map.kept (hk gM (Array.getElem?_eq_some_iff.1 hm).1 hgM),h.bst.gB,h.bst.gM,h.own.keep fun g hgk=>?_,h.bl.grown hg h.bst.size fun q hq=>h.bst.own.ge q hq,⟨hg.os.trans h.fr.os,hg.tape.trans h.fr.tape,hg.output.trans h.fr.output,Nat.le_trans h.fr.size hg.size,fun q hq h3 h4 h5=>?_⟩,?_,h.ex,Nat.le_trans h.bst.size hg.size⟩
 ·
  obtain ⟨cs,hcs⟩:=(h.bst.arcs k h1 h2).2.obj hgk
  exact hk g ((h.bst.arcs k h1 h2).2.lt g hgk) (hv _ _ _ _ hcs (by decide))
 ·
  obtain ⟨cs,hcs⟩:=h.own.obj hgk
  exact hk g (h.own.lt g hgk) (hv _ _ _ _ hcs (by decide))
 ·
  have h6:=h.fr.size
  refine (hk q (by omega) fun e=>?_).trans (h.fr.block q hq h3 h4 h5)
  rcases h.nr with h7 | h7
  · exact h5 (by rw [← h7];exact e)
  · have:=h7 q e;omega
 ·
  rcases hat with h1 | h1
  · rw [h1];exact h.nr
  · rw [h1];exact .inr fun q hq=>by injection hq with hq;have:=h.fr.size;omega
theorem
    PSt.done {w2:World} {fb:Bool} {a:Option Addr} {c:Nat} {v0 vc:Value} (h:PSt wW w0 B gB gM v.ownBlock N0 (.slice a A.length c) A v0 N D vc ⟨fb,a,A.length,c⟩ w) (hB:B≤w0.heap.size) (hm:MapS w2 gM (D ++ [⟨fb,A⟩])) (hg:(w.setCell ⟨gB,0,none⟩ vc).grownBy w2 (some gM)) :
  NodePost wW B gB gM (D.length,D ++ [⟨fb,A⟩]) v N0 w0 (.returned (.int .i64 (D.length:Int))) w2:=by
 obtain ⟨es,cm,hmo⟩:=h.map.obj
 have hgBl:=(Array.getElem?_eq_some_iff.1 h.rep).1
 have hne:gB≠gM:=by
  intro e
  have h1:=h.rep
  rw [e,hmo] at h1;cases h1
 have hk:∀ q,q<w.heap.size→q≠gB→q≠gM→w2.heap[q]? = w.heap[q]?:=fun q hq h1 h2=>(hg.block q (by rw [World.size_setCell];exact hq) (fun e=>by injection e with e;exact h2 e)).trans (Below.heap_setCell _ _ _ _ h1)
 have hcell:∀ (q:Nat) (cs:Array Value) (t:TypeId) (fz:Nat × Nat),w.heap[q]? = some (Obj.cells cs t fz)→t≠57→w2.heap[q]? = w.heap[q]?:=fun q cs t fz hq ht=>hk q (Array.getElem?_eq_some_iff.1 hq).1 (fun e=>by
  have h1:=h.rep
  rw [← e,hq] at h1;injection h1 with h1;injection h1 with _ h2;exact ht h2) (fun e=>by rw [e,hmo] at hq;cases hq)
 have hown:OwnG rowNode w2 B vc (N ++ [⟨fb,a,A.length,c⟩]):=h.own.keep fun g hgk=>by
  obtain ⟨cs,hcs⟩:=h.own.obj hgk
  exact hcell g _ _ _ hcs (by decide)
 have hoA:OwnG rowArc w2 w0.heap.size (.slice a A.length c) A:=h.oA.keep fun g hgk=>by
  obtain ⟨cs,hcs⟩:=h.oA.obj hgk
  exact hcell g _ _ _ hcs (by decide)
 have hsz:=h.fr.size
 obtain ⟨E0,hE0,hE1⟩:=h.ex
 refine ⟨vc,N ++ [⟨fb,a,A.length,c⟩],E0 ++ [⟨fb,a,A.length,c⟩],rfl,⟨?_,hown,by simp [h.len],fun k h1 h2=>?_,hm,h.hB,h.hM⟩,by rw [hE0,List.append_assoc],fun x hx g hgx=>?_,(h.bl.setCell h.hB _).grown hg (by rw [World.size_setCell];exact h.bs) (fun q hq=>by injection hq with hq;rw [← hq];exact h.hM),⟨hg.os.trans h.fr.os,hg.tape.trans h.fr.tape,hg.output.trans h.fr.output,Nat.le_trans hsz (by have:=hg.size;rw [World.size_setCell] at this;exact this),fun q hq h3 h4 h5=>(hk q (by omega) h3 h4).trans (h.fr.block q hq h3 h4 h5)⟩,h.nr⟩
 · exact (hg.block gB (by rw [World.size_setCell];exact hgBl) (fun e=>by injection e with e;exact hne e)).trans (set_one h.rep rfl)
 ·
  by_cases hkN:k<N.length
  ·
   have hkD:k<D.length:=by rw [← h.len];exact hkN
   obtain ⟨h3,h4⟩:=h.arcs k hkN hkD
   simp only [List.getElem_append_left hkN,List.getElem_append_left hkD]
   exact ⟨h3,h4.keep fun g hgk=>by
    obtain ⟨cs,hcs⟩:=h4.obj hgk
    exact hcell g _ _ _ hcs (by decide)⟩
  ·
   obtain rfl:k=N.length:=by rw [List.length_append] at h1;simp at h1;omega
   have e1:(N ++ [(⟨fb,a,A.length,c⟩:NV)])[N.length]=⟨fb,a,A.length,c⟩:=by simp
   have e2:(D ++ [(⟨fb,A⟩:Nd)])[N.length]=⟨fb,A⟩:=by simp [h.len]
   rw [e1,e2]
   exact ⟨rfl,hoA.mono hB⟩
 ·
  rcases List.mem_append.1 hx with hx | hx
  · exact hE1 x hx g hgx
  ·
   obtain rfl:=List.mem_singleton.1 hx
   exact hoA.ge g hgx
end
def NT2 (wW w0:World) (B gB gM gn:Nat) (vb0:Option Nat) (N0:List NV) (fin:Bool) (vA:Value) (A:List Ar) (v:Value) (N:List NV) (D:List Nd) (b1:Bool) (w:World):Prop :=
 match b1 with
 | false=>LSt wW w0 B gB gM gn vb0 N0 fin vA A v N D w
 | true=>True
theorem NT2.ext {wW w0:World} {B gB gM gn:Nat} {vb0:Option Nat} {N0:List NV} {fin:Bool} {vA:Value} {A:List Ar} {v:Value} {N:List NV} {D:List Nd}:∀ (b1:Bool) (w w':World),NT2 wW w0 B gB gM gn vb0 N0 fin vA A v N D b1 w→Ext w w'→NT2 wW w0 B gB gM gn vb0 N0 fin vA A v N D b1 w':=by
 intro b1 w w' h hx
 cases b1 with
 | false=>exact LSt.ext h hx (LSt.to0 h).bst.size
 | true=>trivial
def RowNd1 (v0:Value) (x:NV) (v:Value) (w:World):Prop:=∃ g,v=.slice (some ⟨g,0,none⟩) 1 1∧w.heap[g]? = some (.cells #[.bool x.fin,.slice x.a x.n x.c] 70 (0,0))∧v0.ownBlock≠some g
theorem rowNd1_stays (v0:Value) (x:NV):Stays (RowNd1 v0 x):=by
 rintro v w w' ⟨g,rfl,h,hn⟩ hx
 exact ⟨g,rfl,(Below.block hx g (Array.getElem?_eq_some_iff.1 h).1).trans h,hn⟩
theorem rowNd1_grown (v0:Value) (x:NV):∀ v w w',RowNd1 v0 x v w→w.grownBy w' v0.ownBlock→RowNd1 v0 x v w':=by
 rintro v w w' ⟨g,rfl,h,hn⟩ hx
 exact ⟨g,rfl,(hx.block g (Array.getElem?_eq_some_iff.1 h).1 (fun e=>hn e.symm)).trans h,hn⟩
theorem pst_stays {wW w0:World} {B gB gM:Nat} {vb0:Option Nat} {N0:List NV} {vA:Value} {A:List Ar} {v:Value} {N:List NV} {D:List Nd} {nv:NV}:Stays (fun va w=>PSt wW w0 B gB gM vb0 N0 vA A v N D va nv w):=fun va w w' h hx=>h.ext hx h.nr
theorem armsW_nil {rec:List ByteArray→List Nd→Nat × List Nd} {d n:Nat} {A:List Ar} {D:List Nd}:armsW rec d n [] A D=(A,D):=by cases n <;> rfl
theorem idx_strs0 (b o len cap:Nat) (hk:0<len) (w:World) :
  (Instr.indexAt 42 (.slice (some ⟨b,o,none⟩) len cap) (.int .i64 0)).run Tryd.prog w=.ok (.pointer (some ⟨b,o,none⟩)) w:=by
 have:=idx_strs (some ⟨b,o,none⟩) b o len cap 0 rfl hk w
 simpa using this
theorem StrS.drop1 {w:World} {b o o' k:Nat} {L:List ByteArray} (h:StrS w (some ⟨b,o,none⟩) L) (ho:k<L.length→o'=o+k):StrS w (some ⟨b,o',none⟩) (L.drop k):=by
 intro j hj
 rw [List.length_drop] at hj
 obtain ⟨b1,o1,he,h1,h2⟩:=h (k+j) (by omega)
 injection he with he;injection he with e1 e2
 subst e1 e2
 refine ⟨b,o',rfl,h1,?_⟩
 rw [ho (by omega),List.getElem_drop,Nat.add_assoc];exact h2
theorem StrS.take1 {w:World} {a:Option Addr} {L:List ByteArray} (h:StrS w a L) (k:Nat):StrS w a (L.take k):=by
 intro j hj
 obtain ⟨b1,o1,he,h1,h2⟩:=h j (by rw [List.length_take] at hj;omega)
 exact ⟨b1,o1,he,h1,by rw [List.getElem_take];exact h2⟩
set_option maxHeartbeats 1600000 in
set_option maxRecDepth 100000 in
theorem
    node_any (
         wW:World) (B gB gM:Nat) (hWB:wW.heap.size≤B) (hTab:Tab wW):∀ (m d:Nat) (L:List ByteArray) (b o cap:Nat) (v:Value) (N:List NV) (D:List Nd) (w:World),StrS wW (some ⟨b,o,none⟩) L→L.length≤cap→L.length≤1000→Pre d m L→d+m≤100→D.length+L.length*m≤500000 →
  BSt w B gB gM v N D→Below B wW w→Calls Tryd.prog 17 #[.pointer (some ⟨gB,0,none⟩),.slice (some ⟨b,o,none⟩) L.length cap,.int .i64 (d:Int)] w (NodePost wW B gB gM (nodeW m d L D) v N w):=by
 intro m
 induction m with
 | zero =>
  intro d L b o cap v N D w hS hc hn hP
  exfalso
  obtain ⟨x,hx⟩:=List.exists_mem_of_ne_nil _ hP.ne
  have:=hP.ge x hx;have:=hP.lt x hx;omega
 | succ m ih
       =>
  intro d L b o cap v N D w hS hc hn hP hd hDl hB hW
  have HS:=Lib.hid hS;have HP:=Lib.hid hP;have HB:=Lib.hid hB;have HW:=Lib.hid hW;have HTAB:=Lib.hid hTab;have IH:=Lib.hid ih
  have hBs:=hB.size
  have HBS:=Lib.hid hBs
  obtain ⟨x0,r0,hLe⟩:∃ x0 r0,L=x0 :: r0:=by
   cases L with
   | nil=>exact absurd rfl hP.ne
   | cons x r=>exact ⟨x,r,rfl⟩
  have hL0:0<L.length:=by rw [hLe];simp
  clear hS hP hB hW ih hTab
  obtain ⟨h0w,hbW⟩:wW.cell? ⟨b,o,none⟩=some (.string x0)∧b<wW.heap.size:=by
   obtain ⟨b1,o1,ha,hb1,h0⟩:=HS.out.at hL0
   have hx0:L[0]=x0:=by simp only [hLe,List.getElem_cons_zero]
   injection ha with ha;injection ha with e1 e2
   subst e1 e2
   rw [hx0,Nat.add_zero] at h0
   exact ⟨h0,hb1⟩
  have HH0:=Lib.hid h0w
  have hidx:=idx_strs0 b o L.length cap hL0
  clear h0w
  go_enter Tryd.func17,Tryd.ntmps17
  obtain ⟨wa,hwa⟩:∃ wa,wa=w.alloc (.cells #[.bool false,.slice none 0 0] 70):=⟨_,rfl⟩
  have hab:Below w.heap.size w wa:=by rw [hwa];exact (Below.refl _ _).alloc (Nat.le_refl _) _
  have HLA:Hid (LSt wW w B gB gM w.heap.size v.ownBlock N false (.slice none 0 0) [] v N D wa) :=
   ⟨HB.out.ext hab,HW.out.trans (hab.mono hBs),Fr.of_below hab,.inl rfl,⟨[],by simp,fun x hx=>by cases hx⟩,by rw [hwa];exact heap_alloc_new _ _,Nat.le_refl _,fun e=>by
    have:=HB.out.own.lt _ e;omega,OwnG.nil _ _ _,fun x _ g _ e=>by cases e⟩
  have hza:wa.heap.size=w.heap.size+1:=by rw [hwa];simp
  obtain ⟨gn,hgn⟩:∃ gn,gn=w.heap.size:=⟨_,rfl⟩
  go_upto_region 2 with fail
  rw [← hwa]
  rw [← hgn] at HLA hza ⊢
  have HGN:=Lib.hid hgn;have HZA:=Lib.hid hza
  have HAB:=Lib.hid hab
  clear hwa hab hgn hza
  have h0a:=(HLA.out.bl.cell (p:=⟨b,o,none⟩) (by show b<B;omega)).trans HH0.out
  obtain ⟨fb,hfb⟩:∃ fb,finB d L=fb:=⟨_,rfl⟩
  have hLI:(0:Int)<(L.length:Int):=by omega
  have hfe:((x0.size:Int) == (d:Int))=fb:=by rw [← hfb,hLe];simp only [finB];rw [Bool.eq_iff_iff];simp;omega
  have HFB:=Lib.hid hfb
  clear hfb
  go_cut [1,23] (fun s1 s23 wx=>∃ wz,wz=wx∧wz=wa∧s1=.slice (some ⟨b,o,none⟩) L.length cap∧s23=.bool fb)
  case first =>
   go_wp2
   go_meet
   exact ⟨_,rfl,rfl,rfl,by first | rw [hfe] | (simp only [hfe]) | (rw [← hfe];simp)⟩
  case rest
       =>
   obtain ⟨wz,rfl,rfl,rfl,rfl⟩:=hcut
   have hRL:restL d L=if fb=true then r0 else L:=by rw [restL,HFB.out,hLe];simp
   have HRL:=Lib.hid hRL
   have HR0:Hid (r0=L.drop 1):=by show _=_;rw [hLe];rfl
   have HLE:=Lib.hid hLe
   clear hLe hRL hfe
   apply_assumption
   go_cut [1] (fun s1 wx=>∃ wz,wz=wx∧∃ (o' c' n':Nat),s1=.slice (some ⟨b,o',none⟩) n' c'∧n'=(restL d L).length∧(restL d L).length≤c'∧StrS wW (some ⟨b,o',none⟩) (restL d L)∧LSt wW w B gB gM gn v.ownBlock N fb (.slice none 0 0) [] v N D wz)
   case first =>
    cases fb with
    | true =>
     obtain ⟨bx0,bx1⟩:=cells2 HLA.out.box
     have bfz:wz.frozen? ⟨gn,0,none⟩=false:=by simp [World.frozen?,HLA.out.box]
     obtain ⟨o',ho',hhigh⟩:=slice_strs_high b o L.length cap 1 (by omega) hc
     have HR1:Hid (restL d L=L.drop 1):=by show _=_;rw [HRL.out,if_pos rfl,HR0.out]
     have HO':=Lib.hid ho'
     have hhigh1:∀ w:World,(Instr.slice 42 (.slice (some ⟨b,o,none⟩) L.length cap) (some (.int .i64 1)) none none).run Tryd.prog w=.ok (.slice (some ⟨b,o',none⟩) (L.length - 1) (cap - 1)) w:=hhigh
     clear ho' hhigh
     go_wp2
     go_meet
     rw [HR1.out]
     refine ⟨_,rfl,o',cap - 1,L.length - 1,rfl,by rw [List.length_drop],by rw [List.length_drop];omega,HS.out.drop1 HO'.out,?_⟩
     exact HLA.out.to0.setBox hBs rfl (OwnG.nil _ _ _) (fun x _ g _ e=>by cases e)
    | false =>
     have HR1:Hid (restL d L=L):=by show _=_;rw [HRL.out,if_neg (by simp)]
     go_wp2
     go_meet
     rw [HR1.out]
     exact ⟨_,rfl,o,cap,L.length,rfl,rfl,hc,HS.out,HLA.out⟩
   case rest
        =>
    obtain ⟨wc,rfl,o2,c2,n2,rfl,hn2,hc2,hS2,hLS⟩:=hcut
    obtain ⟨R,hR⟩:∃ R,restL d L=R:=⟨_,rfl⟩
    have hRest:=HP.out.rest
    have hRl:=restL_len d L
    rw [hR] at hn2 hc2 hS2 hRest hRl
    obtain ⟨FA,hFA⟩:∃ FA,armsW (nodeW m (d+1)) d R.length R [] D=FA:=⟨_,rfl⟩
    have HR:=Lib.hid hR;have HFA:=Lib.hid hFA;have HS2:=Lib.hid hS2;have HREST:=Lib.hid hRest;have HLS:=Lib.hid hLS
    have hDm:D.length+R.length*m≤500000:=by
     have h1:R.length*m≤L.length*m:=Nat.mul_le_mul_right _ hRl
     have h2:L.length*(m+1)=L.length*m+L.length:=Nat.mul_succ _ _
     omega
    subst hn2
    clear hR hFA hS2 hRest hLS hidx
    have HDM:=Lib.hid hDm
    have HDL:=Lib.hid hDl
    clear hDm hDl
    go_wp2_with fail
    go_loopw [1] (fun s1 wr=>∃ (R':List ByteArray) (o' c' nn:Nat) (A:List Ar) (v' vA:Value) (N':List NV) (D':List Nd),s1=.slice (some ⟨b,o',none⟩) R'.length c'∧R'.length≤c'∧StrS wW (some ⟨b,o',none⟩) R'∧Rest d (m+1) R'∧R'.length≤nn∧armsW (nodeW m (d+1)) d nn R' A D'=FA ∧
     LSt wW w B gB gM gn v.ownBlock N fb vA A v' N' D' wr∧(∀ x∈A,ArOk x)∧D'.length+R'.length*m≤500000∧A.length+R'.length≤L.length) (fun s1 _=>slLen s1)
    case atStart=>exact ⟨R,o2,c2,R.length,[],v,.slice none 0 0,N,D,rfl,hc2,HS2.out,HREST.out,Nat.le_refl _,HFA.out,HLS.out,fun x hx=>(by cases hx),HDM.out,by simpa using hRl⟩
    case round =>
     obtain ⟨R',o',c',nn,A,v',vA,N',D',rfl,hc',hS',hRest',hnn,harm,hls,hAok,hDm',hAl⟩:=hrel
     have HS':=Lib.hid hS';have HREST':=Lib.hid hRest';have HARM:=Lib.hid harm;have HLS':=Lib.hid hls;have HAOK:=Lib.hid hAok;have HDM':=Lib.hid hDm'
     clear hS' hRest' harm hls hAok hDm'
     by_cases hpos:0<R'.length
     ·
      have hposI:(0:Int)<(R'.length:Int):=by omega
      obtain ⟨x,r,hxr⟩:∃ x r,R'=x :: r:=by
       cases R' with
       | nil=>simp at hpos
       | cons x r=>exact ⟨x,r,rfl⟩
      obtain ⟨q0,hq0⟩:wW.cell? ⟨b,o',none⟩=some (.string x)∧d<x.size:=by
       obtain ⟨b1,o1,ha,hb1,h0⟩:=HS'.out.at hpos
       have hx0:R'[0]=x:=by simp only [hxr,List.getElem_cons_zero]
       injection ha with ha;injection ha with e1 e2
       subst e1 e2
       rw [hx0,Nat.add_zero] at h0
       exact ⟨h0,HREST'.out.gt x (by rw [hxr];simp)⟩
      have c0:=(HLS'.out.bl.cell (p:=⟨b,o',none⟩) (by show b<B;omega)).trans q0
      have hidx0:=idx_strs0 b o' R'.length c' hpos
      have HXR:=Lib.hid hxr
      have HQ0:=Lib.hid q0
      obtain ⟨cb,hcb⟩:∃ cb,x[d]'hq0=cb:=⟨_,rfl⟩
      have hcbE:=Lib.hid hcb
      have hbx:byteAt x d=(cb.toNat:Int):=by rw [byteAt_get hq0,hcb]
      have HBX:=Lib.hid hbx
      clear hxr q0 hbx
      go_upto_block 2 with fail
      go_cut [9] (fun s9 wx=>∃ wz,wz=wx∧wz=wr∧s9=.int .i64 (grpN d R' (byteAt x d):Int))
      case first =>
       go_wp2_with fail
       go_loop [9] (fun s9=>∃ j:Nat,1≤j∧j≤R'.length∧s9=.int .i64 (j:Int)∧∀ i (hi:i<R'.length),i<j→byteAt R'[i] d=byteAt x d) (fun s9=>R'.length - (intOf s9).toNat)
       case atStart=>exact ⟨1,Nat.le_refl _,hpos,rfl,fun i hi h=>by
        obtain rfl:i=0:=by omega
        simp only [HXR.out,List.getElem_cons_zero]⟩
       case round =>
        obtain ⟨j,hj1,hj,rfl,hall⟩:=hrel
        have HALL:=Lib.hid hall
        clear hall
        have hgr:(∀ h:j<R'.length,byteAt R'[j] d≠byteAt x d)→Hid (grpN d R' (byteAt x d)=j):=fun h=>by
         have h2:=(tw_take (p:=fun s=>decide (byteAt s d=byteAt x d)) hj (fun i hi hij=>by simpa using HALL.out i hi hij) (fun h3=>by simpa using h h3)).1
         show _=_
         unfold grpN
         rw [h2,List.length_take];omega
        have HGR:=Lib.hid hgr
        clear hgr
        by_cases hjl:j<R'.length
        ·
         obtain ⟨b2,o2',ha2,hb2,q2⟩:=HS'.out.at hjl
         have hidx2:=idx_strs (some ⟨b,o',none⟩) b2 o2' R'.length c' j ha2 hjl
         have hgt:=HREST'.out.gt R'[j] (List.getElem_mem hjl)
         obtain ⟨y,hy⟩:∃ y,R'[j]=y:=⟨_,rfl⟩
         have HY:=Lib.hid hy
         rw [hy] at q2 hgt
         have c2':=(HLS'.out.bl.cell (p:=⟨b2,o2'+j,none⟩) (by show b2<B;omega)).trans q2
         obtain ⟨cy,hcy⟩:∃ cy,y[d]'hgt=cy:=⟨_,rfl⟩
         have hby:byteAt y d=(cy.toNat:Int):=by rw [byteAt_get hgt,hcy]
         have HBY:=Lib.hid hby
         clear hy ha2 q2 hby
         by_cases heq:(cy.toNat:Int)=(cb.toNat:Int)
         ·
          have hqb:((cy.toNat:Int) == (cb.toNat:Int))=true:=by simp [heq]
          have HN:Hid (∀ i (hi:i<R'.length),i<j+1→byteAt R'[i] d=byteAt x d):=fun i hi h=>by
           by_cases e:i=j
           · subst e;rw [HY.out,HBY.out,HBX.out,heq]
           · exact HALL.out i hi (by omega)
          clear heq
          go_wp2
          go_round
          case rel=>exact ⟨j+1,by omega,by omega,by go_num,HN.out⟩
          case measure=>simp [intOf];omega
         ·
          have hqb:((cy.toNat:Int) == (cb.toNat:Int))=false:=by rw [beq_eq_false_iff_ne];exact heq
          have HN:=HGR.out (fun _=>by rw [HY.out,HBY.out,HBX.out];exact heq)
          clear heq
          go_wp2
          go_meet
          exact ⟨_,rfl,rfl,by rw [HN.out]⟩
        ·
         have HN:=HGR.out (fun h=>absurd h hjl)
         go_wp2
         go_meet
         exact ⟨_,rfl,rfl,by rw [HN.out]⟩
      case rest
           =>
       obtain ⟨wz,rfl,rfl,rfl⟩:=hcut
       obtain ⟨kk,hkk⟩:∃ kk,grpN d R' (byteAt x d)=kk:=⟨_,rfl⟩
       have hk1:1≤kk:=by rw [← hkk,HXR.out];exact grpN_pos
       have hk2:kk≤R'.length:=by rw [← hkk];exact grpN_le
       obtain ⟨qi,qD,hq⟩:∃ qi qD,nodeW m (d+1) (R'.take kk) D'=(qi,qD):=⟨_,_,rfl⟩
       rw [hkk]
       have HKK:=Lib.hid hkk;have HQ:=Lib.hid hq
       have hlow:=slice_strs_low ⟨b,o',none⟩ R'.length c' kk hk2 hc'
       have hpre:Pre (d+1) m (R'.take kk):=by rw [← hkk];have h:=HREST'.out;rw [HXR.out] at h ⊢;exact h.group
       have HPRE:=Lib.hid hpre
       have hkl:(R'.take kk).length=kk:=by rw [List.length_take];omega
       have HKL:=Lib.hid hkl
       have hbd:D'.length+(R'.take kk).length*m≤500000:=by
        rw [hkl]
        have:=HDM'.out
        have h1:kk*m≤R'.length*m:=Nat.mul_le_mul_right _ hk2
        omega
       have HBD:=Lib.hid hbd
       have hw64:IntKind.i64.wrap ((d:Int)+1)=(d:Int)+1:=IntWalk.i64_in _ (by omega)
       have hA1000:A.length≤1000:=by omega
       clear hkk hq hpre hkl hbd c0
       go_upto_region 10 with fail
       refine wp_region_st (by kernel_rfl) (Vs [vq (.pointer (some ⟨gn,1,none⟩)),vq (vA),vq (.int .u8 (cb.toNat:Int)),vq (.pointer (some ⟨gB,0,none⟩)),vq (.slice (some ⟨b,o',none⟩) R'.length c'),vq (.int .i64 (kk:Int)),vq (.slice (some ⟨b,o',none⟩) kk c'),vq (.int .i64 (d:Int)),vq (.int .i64 ((d:Int)+1)),vq (.int .i64 (qi:Int)),vq (.agg #[.int .u8 (cb.toNat:Int),.int .i64 (qi:Int)]),RowArc1 vA (⟨(cb.toNat:Int),(qi:Int)⟩:Ar),NV63 wW w B gB gM gn v.ownBlock N fb vA (A ++ [(⟨(cb.toNat:Int),(qi:Int)⟩:Ar)]) qD,vq (.pointer (some ⟨gn,1,none⟩))]) (Xs [Ext,Ext,Ext,Ext,Ext,Ext,Ext,Ext,Ext,(fun _ _=>True),Ext,Ext,(fun w w'=>w.grownBy w' vA.ownBlock),Ext]) (fun fL=>(fun b1 b2 W=>NT wW w B gB gM gn v.ownBlock N fb vA A v' N' D' qD b1 b2 W) (fL 9) (fL 12)) [0,1,0,0,0,0,48,0,128,504,1020,2044,4095,0] 103 14 (by kernel_rfl) rfl ?hV ?hS ?hop ?hfin ?hlast
       case hV =>
        refine xs_stays (vs_stays (by simp only [List.mem_cons,List.not_mem_nil,or_false,forall_eq_or_imp,forall_eq];exact ⟨stays_const _,stays_const _,stays_const _,stays_const _,stays_const _,stays_const _,stays_const _,stays_const _,stays_const _,stays_const _,stays_const _,rowArc1_stays _ _,nv63_stays,stays_const _⟩)) ?_
        exact ⟨.inl rfl,.inl rfl,.inl rfl,.inl rfl,.inl rfl,.inl rfl,.inl rfl,.inl rfl,.inl rfl,.inr (staysM_all ⟨fun _ _=>fun _ _ _ h _=>h,fun _ _=>fun _ _ _ h _=>h,fun _ _=>fun _ _ _ h _=>h,fun _ _=>fun _ _ _ h _=>h,fun _ _=>fun _ _ _ h _=>h,fun _ _=>fun _ _ _ h _=>h,fun _ _=>fun _ _ _ h _=>h,fun _ _=>fun _ _ _ h _=>h,fun _ _=>fun _ _ _ h _=>h,fun h=>absurd rfl h,fun _ h=>absurd h (by decide),fun _ h=>absurd h (by decide),fun _ h=>absurd h (by decide),fun _ _=>fun _ _ _ h _=>h,trivial⟩),.inl rfl,.inl rfl,.inr (staysM_all ⟨fun _ _=>fun _ _ _ h _=>h,fun _ _=>fun _ _ _ h _=>h,fun _ _=>fun _ _ _ h _=>h,fun _ _=>fun _ _ _ h _=>h,fun _ _=>fun _ _ _ h _=>h,fun _ _=>fun _ _ _ h _=>h,fun _ _=>fun _ _ _ h _=>h,fun _ _=>fun _ _ _ h _=>h,fun _ _=>fun _ _ _ h _=>h,fun _ _=>fun _ _ _ h _=>h,fun _ _=>fun _ _ _ h _=>h,fun _ _=>rowArc1_grown _ _,fun h=>absurd rfl h,fun _ _=>fun _ _ _ h _=>h,trivial⟩),.inl rfl,trivial⟩
       case hS =>
        intro fL hf
        show (fun b1 b2 W=>NT wW w B gB gM gn v.ownBlock N fb vA A v' N' D' qD b1 b2 W) (fL 9) (fL 12) _
        rw [hf 9 (by decide),hf 12 (by decide)]
        exact NT.ext false false _ _ HLS'.out ⟨rfl,rfl,rfl,Nat.le_refl _,fun _ _=>rfl⟩
       case hop =>
        refine ⟨?_,?c1,?_,?_,?_,?_,?_,?_,?_,?c9,?_,?c11,?c12,?_,?_,trivial⟩
        all_goals first | rw [if_neg (by decide)] | rw [if_pos (by decide)]
        all_goals try exact True.intro
        all_goals try intro ac W fL hsz hfi hms hdn hS0 hdep hbase hund
        all_goals try have hS:(fun b1 b2 W=>NT wW w B gB gM gn v.ownBlock N fb vA A v' N' D' qD b1 b2 W) (fL 9) (fL 12) W:=hS0
        all_goals try (have hfl9:fL 9=true:=hms 9 (by decide);rw [hfl9] at hS)
        all_goals try (have hfl9:fL 9=false:=(by first | exact hfi | exact hdn 9 (by decide) (by decide));rw [hfl9] at hS)
        all_goals try (have hfl12:fL 12=true:=hms 12 (by decide);rw [hfl12] at hS)
        all_goals try (have hfl12:fL 12=false:=(by first | exact hfi | exact hdn 12 (by decide) (by decide));rw [hfl12] at hS)
        all_goals try have hh7:=gdA ac 7 (.pointer (some ⟨gn,0,none⟩)) (hbase 7 (by kernel_rfl))
        all_goals try have hh8:=gdA ac 8 (.int .u8 (cb.toNat:Int)) (hbase 8 (by kernel_rfl))
        all_goals try have hh0:=gdA ac 0 (.pointer (some ⟨gB,0,none⟩)) (hbase 0 (by kernel_rfl))
        all_goals try (have h1:ac.tmps.getD 1 undef=.slice (some ⟨b,o',none⟩) R'.length c':=hbase 1 (by kernel_rfl);have hh1:=h1;rw [Array.getD_eq_getD_getElem?] at hh1)
        all_goals try have hh9:=gdA ac 9 (.int .i64 (kk:Int)) (hbase 9 (by kernel_rfl))
        all_goals try have hh2:=gdA ac 2 (.int .i64 (d:Int)) (hbase 2 (by kernel_rfl))
        all_goals try (have d52:ac.tmps.getD 52 undef=vA:=hdep 1 (by decide);have dd52:=d52;rw [Array.getD_eq_getD_getElem?] at dd52)
        all_goals try have d62:(RowArc1 vA (⟨(cb.toNat:Int),(qi:Int)⟩:Ar)) (ac.tmps.getD 62 undef) W:=hdep 11 (by decide)
        all_goals try (have hdep:=depL hdep;simp [DepL,slotOf,vq] at hdep)
        all_goals try clear hbase hms hdn hund
        case c1 =>
         have hS1:(fun b1 b2 W=>NT wW w B gB gM gn v.ownBlock N fb vA A v' N' D' qD b1 b2 W) ((upd fL 1) 9) ((upd fL 1) 12) W:=hS0
         obtain ⟨bx0,bx1⟩:=cells2 (NT.boxed hS).1
         refine opOk_run rfl (.inl ⟨_,W,?_,rfl,Ext.refl _,hS1⟩)
         clear hsz hS hS0 hS1 hfi;simp [go_sem,Act.eval, *]
        case c9 =>
         have hc60:=IH.out (d+1) (R'.take kk) b o' c' v' N' D' W (HS'.out.take1 kk) (by rw [HKL.out];omega) (by rw [HKL.out];omega) HPRE.out (by omega) HBD.out (LSt.bst hS) (LSt.bl hS)
         rw [HQ.out,HKL.out,show ((d+1:Nat):Int)=(d:Int)+1 by omega] at hc60
         refine opOk_run rfl (.inr ⟨17,#[.pointer (some ⟨gB,0,none⟩),.slice (some ⟨b,o',none⟩) kk c',.int .i64 ((d:Int)+1)],W,by (clear hsz hS hS0 hfi hc60;simp [go_sem,Act.eval, *]),?_⟩)
         refine hc60.mono ?_
         clear hc60
         rintro e w' hp
         obtain ⟨he,v2,N2,hl2⟩:=LSt.called hS hp
         refine ⟨_,he,rfl,trivial,?_⟩
         show NT wW w B gB gM gn v.ownBlock N fb vA A v' N' D' qD (upd fL 9 9) (upd fL 9 12) w'
         rw [show upd fL 9 9=true from if_pos rfl,show upd fL 9 12=fL 12 from if_neg (by decide),show fL 12=false from hfl12]
         exact ⟨v2,N2,hl2⟩
        case c11 =>
         have hS1:(fun b1 b2 W=>NT wW w B gB gM gn v.ownBlock N fb vA A v' N' D' qD b1 b2 W) ((upd fL 11) 9) ((upd fL 11) 12) W:=hS0
         have hlt62:vA.ownBlock≠some W.heap.size:=fun e=>by
          obtain ⟨v2,N2,hl2⟩:=hS
          have:=hl2.own.lt _ e;omega
         refine opOk_run rfl (.inl ⟨.slice (some ⟨W.heap.size,0,none⟩) 1 1,W.alloc (.cells #[.int .u8 (cb.toNat:Int),.int .i64 (qi:Int)] 72),?_,⟨_,rfl,heap_alloc_new _ _,hlt62⟩,(Below.refl _ _).alloc (Nat.le_refl _) _,(show (fun b1 b2 W=>NT wW w B gB gM gn v.ownBlock N fb vA A v' N' D' qD b1 b2 W) ((upd fL 11) 9) ((upd fL 11) 12) _ by
          rw [show upd fL 11 9=fL 9 from if_neg (by decide),show upd fL 11 12=fL 12 from if_neg (by decide)]
          exact NT.ext _ _ _ _ hS0 ((Below.refl _ _).alloc (Nat.le_refl _) _))⟩)
         clear hsz hS hS0 hS1 hfi;simp [go_sem,Act.eval, *]
        case c12 =>
         obtain ⟨g62,e62,hg62,hn62⟩:=d62
         obtain ⟨v2,N2,hl2⟩:=hS
         refine opOk_run rfl ((opres_append_g rowArc_ok (.tmp 52) (.tmp 62) rfl (eval_tmp d52) hl2.own ⟨g62,0,none⟩ 1 [(⟨(cb.toNat:Int),(qi:Int)⟩:Ar)] (eval_tmp e62) (cells_built hg62) (by simp only [List.length_singleton];omega) hl2.fr.size).mono ?_)
         rintro va w' ⟨ho,hgr,hat⟩
         refine ⟨⟨v2,N2,hl2.app HBS.out hgr,ho,fun y hy g hg e=>?_⟩,hgr,?_⟩
         ·
          rcases hat with h1 | h1
          · rw [h1] at e;exact hl2.apart y hy g hg e
          ·
           rw [h1] at e
           injection e with e
           have:=hl2.to0.rows_lt y hy g hg;omega
         ·
          show NT wW w B gB gM gn v.ownBlock N fb vA A v' N' D' qD (upd fL 12 9) (upd fL 12 12) w'
          rw [show upd fL 12 9=fL 9 from if_neg (by decide),show upd fL 12 12=true from if_pos rfl,show fL 9=true from hfl9]
          trivial
        all_goals (refine opOk_run rfl (.inl ⟨_,W,?_,rfl,Ext.refl _,hS0⟩);clear hsz hS hS0 hfi;simp [go_sem,Act.eval, *];done)
       case hfin =>
        intro h;exact absurd h (by decide)
       case hlast =>
        intro _ ac W hsz hdf fL hf hS0 hv hbase
        have hS:(fun b1 b2 W=>NT wW w B gB gM gn v.ownBlock N fb vA A v' N' D' qD b1 b2 W) (fL 9) (fL 12) W:=hS0
        clear hS0
        rw [hf 9 (by decide),hf 12 (by decide)] at hS
        have hst:ac.tmps.getD 64 undef=.pointer (some ⟨gn,1,none⟩):=hv 13 (by decide)
        have hnv:NV63 wW w B gB gM gn v.ownBlock N fb vA (A ++ [(⟨(cb.toNat:Int),(qi:Int)⟩:Ar)]) qD (ac.tmps.getD 63 undef) W:=hv 12 (by decide)
        obtain ⟨v2,N2,hl2,ho2,hap2⟩:=hnv
        obtain ⟨xa,xc,hxa, -, -⟩:=ho2.form
        rw [hxa] at ho2 hap2
        obtain ⟨bx0,bx1⟩:=cells2 hl2.box
        refine wpOp_store rfl rfl rfl rfl (eval_tmp hst) (eval_tmp hxa) (by simp [World.frozen?,hl2.box]) bx1 (by kernel_rfl) ?_
        have hl3:=hl2.setBox (i:=1) (fin':=fb) (y:=.slice xa (A ++ [(⟨(cb.toNat:Int),(qi:Int)⟩:Ar)]).length xc) HBS.out rfl ho2 hap2
        obtain ⟨wz2,hwz2⟩:∃ wz2,W.setCell ⟨gn,1,none⟩ (.slice xa (A ++ [(⟨(cb.toNat:Int),(qi:Int)⟩:Ar)]).length xc)=wz2:=⟨_,rfl⟩
        rw [hwz2] at hl3 ⊢
        have HL3:=Lib.hid hl3
        clear hS hl2 ho2 hap2 bx0 bx1 hl3 hwz2 hst
        obtain ⟨sx,hsx,hsA⟩:=act_puts [51,52,53,54,55,56,57,58,59,60,61,62,63,64] (by kernel_rfl) hsz hdf hbase
        rw [hsA]
        simp only [List.foldl]
        simp only [Act.put,List.setIfInBounds_toArray,List.set_cons_succ,List.set_cons_zero]
        clear hsA hsx hv hbase hsz hdf hf
        obtain ⟨o3,ho3,hhigh⟩:=slice_strs_high b o' R'.length c' kk hk2 hc'
        have HO3:=Lib.hid ho3
        clear ho3 hxa
        obtain ⟨nn',hnn'⟩:∃ nn',nn=nn'+1:=⟨nn - 1,by omega⟩
        have hA2:armsW (nodeW m (d+1)) d nn' (R'.drop kk) (A ++ [(⟨(cb.toNat:Int),(qi:Int)⟩:Ar)]) qD=FA:=by
         have h:=HARM.out
         rw [hnn',HXR.out,armsW,← HXR.out,HKK.out,HQ.out,HBX.out] at h
         exact h
        have hqD:qD.length+(R'.drop kk).length*m≤500000:=by
         have h1:=nodeW_le m (d+1) (R'.take kk) D' HPRE.out.ne
         rw [HQ.out,HKL.out] at h1
         have h2:=HDM'.out
         have h3:(R'.length - kk)*m+kk*m=R'.length*m:=by rw [← Nat.add_mul];congr 1;omega
         rw [List.length_drop];simp only at h1;omega
        have hqi:qi≤qD.length:=by
         have:=nodeW_idx m (d+1) (R'.take kk) D'
         rw [HQ.out] at this;exact this
        have hcb:(cb.toNat:Int)≤127:=by
         have hx:x∈R':=by rw [HXR.out];simp
         have:=HREST'.out.asc x hx cb (by rw [← hcbE.out];show x.data[d]∈x.data.toList;simp)
         omega
        have hok2:∀ y∈A ++ [(⟨(cb.toNat:Int),(qi:Int)⟩:Ar)],ArOk y:=fun y hy=>by
         rcases List.mem_append.1 hy with hy | hy
         · exact HAOK.out y hy
         ·
          obtain rfl:=List.mem_singleton.1 hy
          refine ⟨?_,hcb,?_,?_⟩
          · show (0:Int)≤(cb.toNat:Int);omega
          · show (0:Int)≤(qi:Int);omega
          · show (qi:Int)≤1000000;omega
        have HA2:=Lib.hid hA2;have HQD:=Lib.hid hqD;have HOK2:=Lib.hid hok2
        clear hA2 hqD hok2 hcb hqi
        go_wp2_with fail
        go_roundw
        case rel=>exact ⟨R'.drop kk,o3,c' - kk,nn',_,v2,_,N2,qD,by rw [List.length_drop],by rw [List.length_drop];omega,HS'.out.drop1 HO3.out,HREST'.out.drop kk,by rw [List.length_drop];omega,HA2.out,HL3.out,HOK2.out,HQD.out,by rw [List.length_append,List.length_drop];simp;omega⟩
        case measure=>simp [slLen];omega
     ·
      have hposI:¬ (0:Int)<(R'.length:Int):=by omega
      have hRn:R'=[]:=List.eq_nil_of_length_eq_zero (by omega)
      have hres:nodeW (m+1) d L D=addN fb A D':=by
       have h:=HARM.out
       rw [hRn,armsW_nil] at h
       rw [nodeW,HR.out,HFA.out,HFB.out,← h]
      have HRES:=Lib.hid hres
      obtain ⟨xa,xc,hxa, -, -⟩:=HLS'.out.own.form
      subst hxa
      obtain ⟨na,nc,hna, -, -⟩:=HLS'.out.bst.own.form
      rw [HLS'.out.bst.len] at hna
      subst hna
      have hA1000:A.length≤1000:=by omega
      have hD5:D'.length<1000000:=by have:=HDM'.out;omega
      have hAr:=HLS'.out.own.arcs.1
      have HAR:=Lib.hid hAr
      have hTW:Tab wr:=HTAB.out.later (HLS'.out.bl.mono hWB)
      have HTW:=Lib.hid hTW
      obtain ⟨bx0,bx1⟩:=cells2 HLS'.out.box
      obtain ⟨sk,hsk⟩:∃ sk:ByteArray,sk=⟨(keyL fb A).toArray⟩:=⟨_,rfl⟩
      have hkl:(keyL fb A).length≤maxLen:=by have:=keyL_len (f:=fb) HAOK.out;unfold maxLen;omega
      have hskl:sk.data.toList=keyL fb A:=by rw [hsk]
      have hsks:sk.size≤maxLen:=by rw [size_list,hskl];exact hkl
      have HSKL:=Lib.hid hskl
      have hcont:=contents_any fb A xa A.length xc wr HAR.out rfl HAOK.out (by omega) HTW.out
      rw [← hsk] at hcont
      have HCONT:=Lib.hid hcont
      clear hRn hres hAr hTW hsk hkl hskl hcont
      go_wp2_with fail
      refine HCONT.out.mono ?_
      rintro e w5 ⟨rfl,hb5⟩
      have HL5:=Lib.hid (HLS'.out.ext hb5 HLS'.out.bst.size)
      clear hb5 bx0 bx1
      obtain ⟨rp0,rp1⟩:=cells2 HL5.out.bst.rep
      have hlook:=HL5.out.bst.map.look sk hsks
      by_cases hfd:ndKey D' sk.data.toList<D'.length
      ·
       rw [if_pos hfd,decide_eq_true hfd] at hlook
       have hadd:addN fb A D'=(ndKey D' sk.data.toList,D'):=by
        rw [HSKL.out] at hfd ⊢
        unfold addN
        unfold ndKey at hfd ⊢
        rw [if_pos hfd]
       have HADD:=Lib.hid hadd
       clear hfd hadd
       go_wp2
       go_ret
       rw [HRES.out,HADD.out]
       obtain ⟨E,hE,hE2⟩:=HL5.out.ex
       exact ⟨_,N',E,rfl,HL5.out.bst,hE,hE2,HL5.out.bl,HL5.out.fr,HL5.out.nr⟩
      ·
       rw [if_neg hfd,decide_eq_false hfd] at hlook
       have hadd:addN fb A D'=(D'.length,D' ++ [⟨fb,A⟩]):=by
        rw [HSKL.out] at hfd
        unfold addN
        unfold ndKey at hfd
        rw [if_neg hfd]
       have HADD:=Lib.hid hadd
       have HFD:=Lib.hid hfd
       clear hfd hadd
       go_upto_region 16 with fail
       clear hlook rp0 rp1
       refine wp_region_st (by kernel_rfl) (Vs [vq (.pointer (some ⟨gB,0,none⟩)),vq (.pointer (some ⟨gB,0,none⟩)),vq (.pointer (some ⟨gB,0,none⟩)),vq (.pointer (some ⟨gB,0,none⟩)),vq (.slice na D'.length nc),vq (.agg #[.bool fb,.slice xa A.length xc]),RowNd1 (.slice na D'.length nc) (⟨fb,xa,A.length,xc⟩:NV),fun va w9=>PSt wW w B gB gM v.ownBlock N (.slice xa A.length xc) A (.slice na D'.length nc) N' D' va (⟨fb,xa,A.length,xc⟩:NV) w9,vq (.pointer (some ⟨gB,0,none⟩)),vq (.pointer (some ⟨gB,0,none⟩))]) (Xs [Ext,Ext,Ext,Ext,Ext,Ext,Ext,(fun w w'=>w.grownBy w' (Value.slice na D'.length nc).ownBlock),Ext,Ext]) (fun fL=>(fun b1 W=>NT2 wW w B gB gM gn v.ownBlock N fb (.slice xa A.length xc) A (.slice na D'.length nc) N' D' b1 W) (fL 7)) [0,0,2,6,14,0,32,126,1,257] 103 10 (by kernel_rfl) rfl ?hV ?hS ?hop ?hfin ?hlast
       case hV =>
        refine xs_stays (vs_stays (by simp only [List.mem_cons,List.not_mem_nil,or_false,forall_eq_or_imp,forall_eq];exact ⟨stays_const _,stays_const _,stays_const _,stays_const _,stays_const _,stays_const _,rowNd1_stays _ _,pst_stays,stays_const _,stays_const _⟩)) ?_
        exact ⟨.inl rfl,.inl rfl,.inl rfl,.inl rfl,.inl rfl,.inl rfl,.inl rfl,.inr (staysM_all ⟨fun _ _=>fun _ _ _ h _=>h,fun _ _=>fun _ _ _ h _=>h,fun _ _=>fun _ _ _ h _=>h,fun _ _=>fun _ _ _ h _=>h,fun _ _=>fun _ _ _ h _=>h,fun _ _=>fun _ _ _ h _=>h,fun _ _=>rowNd1_grown _ _,fun h=>absurd rfl h,fun _ _=>fun _ _ _ h _=>h,fun _ _=>fun _ _ _ h _=>h,trivial⟩),.inl rfl,.inl rfl,trivial⟩
       case hS =>
        intro fL hf
        show (fun b1 W=>NT2 wW w B gB gM gn v.ownBlock N fb (.slice xa A.length xc) A (.slice na D'.length nc) N' D' b1 W) (fL 7) _
        rw [hf 7 (by decide)]
        exact NT2.ext false _ _ HL5.out ⟨rfl,rfl,rfl,Nat.le_refl _,fun _ _=>rfl⟩
       case hop =>
        refine ⟨?_,?_,?_,?_,?c4,?c5,?c6,?c7,?_,?_,?_,trivial⟩
        all_goals first | rw [if_neg (by decide)] | rw [if_pos (by decide)]
        all_goals try exact True.intro
        all_goals try intro ac W fL hsz hfi hms hdn hS0 hdep hbase hund
        all_goals try have hS:(fun b1 W=>NT2 wW w B gB gM gn v.ownBlock N fb (.slice xa A.length xc) A (.slice na D'.length nc) N' D' b1 W) (fL 7) W:=hS0
        all_goals try (have hfl7:fL 7=true:=hms 7 (by decide);rw [hfl7] at hS)
        all_goals try (have hfl7:fL 7=false:=(by first | exact hfi | exact hdn 7 (by decide) (by decide));rw [hfl7] at hS)
        all_goals try have hh0:=gdA ac 0 (.pointer (some ⟨gB,0,none⟩)) (hbase 0 (by kernel_rfl))
        all_goals try have hh7:=gdA ac 7 (.pointer (some ⟨gn,0,none⟩)) (hbase 7 (by kernel_rfl))
        all_goals try (have d90:ac.tmps.getD 90 undef=.slice na D'.length nc:=hdep 4 (by decide);have dd90:=d90;rw [Array.getD_eq_getD_getElem?] at dd90)
        all_goals try have d92:(RowNd1 (.slice na D'.length nc) (⟨fb,xa,A.length,xc⟩:NV)) (ac.tmps.getD 92 undef) W:=hdep 6 (by decide)
        all_goals try (have hdep:=depL hdep;simp [DepL,slotOf,vq] at hdep)
        all_goals try clear hbase hms hdn hund
        case c4 =>
         have hS1:(fun b1 W=>NT2 wW w B gB gM gn v.ownBlock N fb (.slice xa A.length xc) A (.slice na D'.length nc) N' D' b1 W) ((upd fL 4) 7) W:=hS0
         have hlst:LSt wW w B gB gM gn v.ownBlock N fb (.slice xa A.length xc) A (.slice na D'.length nc) N' D' W:=hS
         obtain ⟨rp0,rp1⟩:=cells2 hlst.bst.rep
         refine opOk_run rfl (.inl ⟨_,W,?_,rfl,Ext.refl _,hS1⟩)
         clear hsz hS hS0 hS1 hfi hlst;simp [go_sem,Act.eval, *]
        case c5 =>
         have hS1:(fun b1 W=>NT2 wW w B gB gM gn v.ownBlock N fb (.slice xa A.length xc) A (.slice na D'.length nc) N' D' b1 W) ((upd fL 5) 7) W:=hS0
         have hlst:LSt wW w B gB gM gn v.ownBlock N fb (.slice xa A.length xc) A (.slice na D'.length nc) N' D' W:=hS
         obtain ⟨bx0,bx1⟩:=cells2 hlst.box
         refine opOk_run rfl (.inl ⟨_,W,?_,rfl,Ext.refl _,hS1⟩)
         clear hsz hS hS0 hS1 hfi hlst;simp [go_sem,Act.eval, *]
        case c6 =>
         have hS1:(fun b1 W=>NT2 wW w B gB gM gn v.ownBlock N fb (.slice xa A.length xc) A (.slice na D'.length nc) N' D' b1 W) ((upd fL 6) 7) W:=hS0
         have hlst:LSt wW w B gB gM gn v.ownBlock N fb (.slice xa A.length xc) A (.slice na D'.length nc) N' D' W:=hS
         have hlt62:(Value.slice na D'.length nc).ownBlock≠some W.heap.size:=fun e=>by
          have:=hlst.bst.own.lt _ e;omega
         refine opOk_run rfl (.inl ⟨.slice (some ⟨W.heap.size,0,none⟩) 1 1,W.alloc (.cells #[.bool fb,.slice xa A.length xc] 70),?_,⟨_,rfl,heap_alloc_new _ _,hlt62⟩,(Below.refl _ _).alloc (Nat.le_refl _) _,(show (fun b1 W=>NT2 wW w B gB gM gn v.ownBlock N fb (.slice xa A.length xc) A (.slice na D'.length nc) N' D' b1 W) ((upd fL 6) 7) _ by
          rw [show upd fL 6 7=fL 7 from if_neg (by decide)]
          exact NT2.ext _ _ _ hS0 ((Below.refl _ _).alloc (Nat.le_refl _) _))⟩)
         clear hsz hS hS0 hS1 hfi hlst;simp [go_sem,Act.eval, *]
        case c7 =>
         have hlst:LSt wW w B gB gM gn v.ownBlock N fb (.slice xa A.length xc) A (.slice na D'.length nc) N' D' W:=hS
         obtain ⟨g62,e62,hg62,hn62⟩:=d92
         refine opOk_run rfl ((opres_append_g rowNode_ok (.tmp 90) (.tmp 92) rfl (eval_tmp d90) hlst.bst.own ⟨g62,0,none⟩ 1 [(⟨fb,xa,A.length,xc⟩:NV)] (eval_tmp e62) (cells_built hg62) (by rw [hlst.bst.len];simp only [List.length_singleton];omega) hlst.bst.size).mono ?_)
         rintro va w' ⟨ho,hgr,hat⟩
         refine ⟨hlst.appN (fun q hq=>HB.out.own.ge q hq) ho hgr hat,hgr,?_⟩
         show NT2 wW w B gB gM gn v.ownBlock N fb (.slice xa A.length xc) A (.slice na D'.length nc) N' D' (upd fL 7 7) w'
         rw [show upd fL 7 7=true from if_pos rfl]
         trivial
        all_goals (refine opOk_run rfl (.inl ⟨_,W,?_,rfl,Ext.refl _,hS0⟩);clear hsz hS hS0 hfi;simp [go_sem,Act.eval, *];done)
       case hfin =>
        intro h;exact absurd h (by decide)
       case hlast =>
        intro _ ac W hsz hdf fL hf hS0 hv hbase
        have hS:(fun b1 W=>NT2 wW w B gB gM gn v.ownBlock N fb (.slice xa A.length xc) A (.slice na D'.length nc) N' D' b1 W) (fL 7) W:=hS0
        clear hS0
        rw [hf 7 (by decide)] at hS
        have hst:ac.tmps.getD 95 undef=.pointer (some ⟨gB,0,none⟩):=hv 9 (by decide)
        have hnv:PSt wW w B gB gM v.ownBlock N (.slice xa A.length xc) A (.slice na D'.length nc) N' D' (ac.tmps.getD 93 undef) (⟨fb,xa,A.length,xc⟩:NV) W:=hv 7 (by decide)
        obtain ⟨ya,yc,hya, -, -⟩:=hnv.own.form
        rw [hya] at hnv
        obtain ⟨rp0,rp1⟩:=cells2 hnv.rep
        refine wpOp_store rfl rfl rfl rfl (eval_tmp hst) (eval_tmp hya) (by simp [World.frozen?,hnv.rep]) rp0 (by kernel_rfl) ?_
        have hps9:=hnv
        obtain ⟨es9,c9,hm9⟩:=hnv.map.obj
        have hneq:gM≠gB:=fun e=>by
         have h1:=hnv.rep
         rw [← e,hm9] at h1;cases h1
        obtain ⟨wz2,hwz2⟩:∃ wz2,W.setCell ⟨gB,0,none⟩ (.slice ya (N' ++ [(⟨fb,xa,A.length,xc⟩:NV)]).length yc)=wz2:=⟨_,rfl⟩
        have HMAP9:Hid (MapS wz2 gM D'):=by rw [← hwz2];exact hnv.map.kept (Below.heap_setCell _ _ _ _ hneq)
        have HREP9:Hid (wz2.heap[gB]? = some (.cells #[.slice ya (N' ++ [(⟨fb,xa,A.length,xc⟩:NV)]).length yc,.map (some gM)] 57 (0,0))):=by show _=_;rw [← hwz2];exact set_one hnv.rep rfl
        rw [hwz2]
        have HWZ:=Lib.hid hwz2
        clear hS hnv rp0 rp1 hwz2 hst es9 c9 hm9 hneq
        obtain ⟨sx,hsx,hsA⟩:=act_puts [86,87,88,89,90,91,92,93,94,95] (by kernel_rfl) hsz hdf hbase
        clear hya
        rw [hsA]
        simp only [List.foldl]
        simp only [Act.put,List.setIfInBounds_toArray,List.set_cons_succ,List.set_cons_zero]
        clear hsA hsx hv hbase hsz hdf hf
        have HPS9:=Lib.hid hps9
        clear hps9
        have hmap9:MapS wz2 gM D':=HMAP9.out
        obtain ⟨rp0,rp1⟩:=cells2 HREP9.out
        have HKL9:Hid (keyL (⟨fb,A⟩:Nd).fin (⟨fb,A⟩:Nd).arcs=sk.data.toList):=HSKL.out.symm
        go_wp2_with (first
         | (at_mapUpdate;go_loud (refine wpList_mapUpdate_s HMAP9.out ⟨fb,A⟩ sk HKL9.out hsks HFD.out hD5 rfl _ _ _ rfl rfl rfl rfl ?_;intro w10 hm10 hg10)))
        go_ret
        rw [HRES.out,HADD.out]
        exact HPS9.out.done hBs hm10 (by rw [HWZ.out];exact hg10)
end Go.Proofs.YthjmdgejnakcmaaDoor
namespace Go.Proofs.YthjmdgejnakcmaaDoor
open Go.RowKit Go.WideShapes Go.Maps Go.WideMaps
set_option linter.unusedVariables false
set_option linter.unusedSimpArgs false
def posI (Mt:List Nat) (i:Nat):Nat:=Mt.findIdx fun j=>decide (j=i)
def armsV (rec:Nat→List Nat→List Nd→Nat × List Nat × List Nd):List Ar→List Ar→List Nat→List Nd→List Ar × List Nat × List Nd
 | [],A,Mt,E=>(A,Mt,E)
 | x :: r,A,Mt,E=>armsV rec r (A ++ [⟨x.c,((rec x.t.toNat Mt E).1:Nat)⟩]) (rec x.t.toNat Mt E).2.1 (rec x.t.toNat Mt E).2.2
def
  numV (Dn:List Nd):Nat→Nat→List Nat→List Nd→Nat × List Nat × List Nd
 | 0,_,Mt,E=>(0,Mt,E)
 | m
   +
    1,i,Mt,E =>
  if posI Mt i<Mt.length then (posI Mt i,Mt,E)
  else
   (E.length,(armsV (numV Dn m) (Dn.getD i default).arcs [] (Mt ++ [i]) (E ++ [⟨(Dn.getD i default).fin,[]⟩])).2.1,
    (armsV (numV Dn m) (Dn.getD i default).arcs [] (Mt ++ [i]) (E ++ [⟨(Dn.getD i default).fin,[]⟩])).2.2.set E.length ⟨(Dn.getD i default).fin,(armsV (numV Dn m) (Dn.getD i default).arcs [] (Mt ++ [i]) (E ++ [⟨(Dn.getD i default).fin,[]⟩])).1⟩)
def Down (Dn:List Nd):Prop:=∀ i (h:i<Dn.length),∀ x∈Dn[i].arcs,0≤x.t∧x.t<(i:Int)
theorem posI_snoc {Mt:List Nat} {i j:Nat}:posI (Mt ++ [j]) i=if posI Mt i<Mt.length then posI Mt i else if j=i then Mt.length else Mt.length+1:=by
 unfold posI
 rw [List.findIdx_append]
 split
 · rfl
 ·
  rw [List.findIdx_cons]
  by_cases h:j=i
  · simp [h]
  · simp [h];omega
theorem posI_lt {Mt:List Nat} {i:Nat} (h:i∈Mt):posI Mt i<Mt.length:=List.findIdx_lt_length_of_exists ⟨i,h,by simp⟩
structure VOk (Dn:List Nd) (Mt:List Nat) (E:List Nd):Prop where
 len:Mt.length=E.length
 nd:Mt.Nodup
 lt:∀ j∈Mt,j<Dn.length
theorem
    nodup_le:∀ (n:Nat) (l:List Nat),l.Nodup→(∀ j∈l,j<n)→l.length≤n
 | 0,l,_,h=>by
  cases l with
  | nil=>simp
  | cons x r=>have:=h x (by simp);omega
 | n
   +
    1,l,hn,h=>by
  by_cases hm:n∈l
  ·
   have h1:=nodup_le n (l.erase n) (hn.erase n) (fun j hj=>by
    have h2:=h j (List.mem_of_mem_erase hj)
    have h3:j≠n:=fun e=>by subst e;exact hn.not_mem_erase hj
    omega)
   rw [List.length_erase_of_mem hm] at h1
   omega
  ·
   have h1:=nodup_le n l hn (fun j hj=>by
    have h2:=h j hj
    have h3:j≠n:=fun e=>by subst e;exact hm hj
    omega)
   omega
theorem VOk.le {Dn:List Nd} {Mt:List Nat} {E:List Nd} (h:VOk Dn Mt E):E.length≤Dn.length:=by
 rw [← h.len];exact nodup_le _ _ h.nd h.lt
def MapI (w:World) (g:Nat) (Mt:List Nat):Prop:=∃ (n:Nat) (M:DataW Unit),w.ownsMap Tryd.prog 3 (plainElem Tryd.prog 3) g n M∧n≤Mt.length ∧
 ∀ i:Nat,i<1000000→Maps.has M (.int .i64 (i:Int))=decide (posI Mt i<Mt.length)∧M.atKey (.int .i64 (i:Int)) (.lit (.int .i64 0))=.lit (.int .i64 (if posI Mt i<Mt.length then (posI Mt i:Int) else 0))
theorem keyedI:Keyed Tryd.prog 3:=int_keyed Tryd.underlying3
theorem wfN {n:Nat} (h:n<1000001):(Lit.int .i64 (n:Int)).wf=true:=by simp [Lit.wf,IntKind.min,IntKind.max,IntKind.bits,IntKind.signed];omega
theorem MapI.new (w:World):MapI (w.alloc (.map #[] 0)) w.heap.size [] :=
 ⟨0,.map [],World.ownsMap_made _ _ _ _,Nat.le_refl _,fun s _=>⟨by simp [posI,Maps.has],by simp [posI,DataW.atKey]⟩⟩
theorem MapI.kept {w w1:World} {g:Nat} {Mt:List Nat} (h:MapI w g Mt) (hk:w1.heap[g]? = w.heap[g]?):MapI w1 g Mt:=by
 obtain ⟨n,M,⟨es,clock,hb,h1,h2,h3⟩,h4⟩:=h
 exact ⟨n,M,⟨es,clock,hk.trans hb,h1,h2,h3⟩,h4⟩
theorem MapI.obj {w:World} {g:Nat} {Mt:List Nat} (h:MapI w g Mt):∃ es c,w.heap[g]? = some (.map es c):=by
 obtain ⟨n,M,⟨es,clock,hb,_⟩,_⟩:=h
 exact ⟨es,clock,hb⟩
theorem MapI.look {w:World} {g:Nat} {Mt:List Nat} (h:MapI w g Mt) (i:Nat) (hi:i<1000000) :
  (Instr.lookup 75 (.map (some g)) (.int .i64 (i:Int)) true).run Tryd.prog w=.ok (.tuple #[.int .i64 (if posI Mt i<Mt.length then (posI Mt i:Int) else 0),.bool (decide (posI Mt i<Mt.length))]) w:=by
 obtain ⟨n,M,h1,_,h3⟩:=h
 obtain ⟨v,ps,hrun,hv⟩:=h1.look_ok keyedI Tryd.underlying75 (Tryd.zeroValue3 w) (plainElem_int (H:=Unit) Tryd.underlying3 (a:=0) (by decide)) (keyOf_int_mk Tryd.underlying3 (wfN (n:=i) (by omega)))
 obtain ⟨e1,e2⟩:=h3 i hi
 rw [e2] at hv
 obtain ⟨a,rfl,hz,_⟩:=plainElem_int_inv Tryd.underlying3 hv
 rw [e1] at hrun
 have:a=if posI Mt i<Mt.length then (posI Mt i:Int) else 0:=by
  have:=congrArg Prod.fst hz
  simp only [DataW.lit.injEq,Lit.int.injEq,true_and] at this
  exact this.symm
 rw [← this]
 exact hrun
theorem wpList_mapUpdate_i {w:World} {g:Nat} {Mt:List Nat} {ops:Array Oper} {rest:List Oper} {o:Oper} {a:Act} {Q:Exit→Act→World→Prop} (h:MapI w g Mt) (i:Nat) (hi:i<1000000) (hno:¬ posI Mt i<Mt.length) (hD:Mt.length<1000000)
  (hgd:o.guard=none) (m x v:Operand) (hop:o.op=Op.mapUpdate 75 m x v) (hm:a.eval m=.map (some g)) (hx:a.eval x=.int .i64 (i:Int)) (hv:a.eval v=.int .i64 (Mt.length:Int))
  (hK:∀ w',MapI w' g (Mt ++ [i])→w.grownBy w' (some g)→wpList Tryd.prog ops Q rest (a.put o.dst undef) w'):wpList Tryd.prog ops Q (o :: rest) a w:=by
 obtain ⟨n,M,h1,h2,h3⟩:=h
 refine wpList_mapUpdate_own w hgd m x v _ hop _ _ keyedI Tryd.underlying75 _ g n M hm h1 (by unfold maxLen;omega) _ _ _ hx hv (keyOf_int_mk Tryd.underlying3 (wfN (n:=i) (by omega))) _ _ (plainElem_int (H:=Unit) Tryd.underlying3 (wfN (n:=Mt.length) (by omega))) ?_
 intro w' hown hgr
 refine hK w' ⟨n+1,_,hown,by rw [List.length_append];simp;omega,fun j hj=>?_⟩ hgr
 have hM:IsMap M:=h1.isMap
 rw [posI_snoc]
 by_cases e:j=i
 ·
  subst e
  have hkl:WideAt.IsKeyLit (.int .i64 (j:Int)):=trivial
  rw [Maps.has_put_same hM hkl,Maps.atKey_put_same hM hkl,if_neg hno,if_pos rfl]
  simp
 ·
  have hne:Lit.int .i64 (j:Int)≠Lit.int .i64 (i:Int):=fun h=>e (by injection h with _ h;omega)
  rw [Maps.has_put_other hne,Maps.atKey_put_other hne]
  obtain ⟨e1,e2⟩:=h3 j hj
  rw [e1,e2]
  rw [if_neg (show ¬ i=j from fun h=>e h.symm)]
  by_cases hf:posI Mt j<Mt.length
  · simp [hf];omega
  · simp [hf]
end Go.Proofs.YthjmdgejnakcmaaDoor
namespace Go.Proofs.YthjmdgejnakcmaaDoor
open Go.RowKit Go.WideShapes
set_option linter.unusedVariables false
set_option linter.unusedSimpArgs false
theorem flat_set:∀ {N:List NV} {k:Nat} (hk:k<N.length) (a:Option Addr) (m c:Nat),(N.set k ⟨N[k].fin,a,m,c⟩).flatMap rowNode.enc=(N.flatMap rowNode.enc).set (k*2+1) (.slice a m c)
 | x :: r,0,_,a,m,c=>by simp [rowNode]
 | x :: r,k+1,hk,a,m,c=>by
  have ih:=flat_set (N:=r) (k:=k) (by simpa using hk) a m c
  have e:(k+1)*2+1=(k*2+1)+1+1:=by omega
  simp only [List.set_cons_succ,List.getElem_cons_succ,List.flatMap_cons,e]
  rw [ih]
  simp [rowNode]
theorem OwnG.setArcs {w:World} {B g n c0:Nat} {N:List NV} {k:Nat} (h:OwnG rowNode w B (.slice (some ⟨g,0,none⟩) n c0) N) (hk:k<N.length) (a:Option Addr) (m c:Nat) :
  OwnG rowNode (w.setCell ⟨g,k*2+1,none⟩ (.slice a m c)) B (.slice (some ⟨g,0,none⟩) n c0) (N.set k ⟨N[k].fin,a,m,c⟩):=by
 have hf:=flat_set hk a m c
 have hlen:=flat_len rowNode_ok N
 rcases id h.2 with ⟨he,_⟩ | ⟨g',cap,cur,he,h1,h2,h3,h4,h5,h6⟩
 · cases he
 ·
  injection he with e1 e2 e3
  injection e1 with e1
  injection e1 with e1
  subst e1 e3
  refine ⟨by rw [hf,List.length_set,hlen,List.length_set],.inr ⟨g,c0,cur.setIfInBounds (k*2+1) (.slice a m c),by rw [List.length_set,e2],h1,set_one h2 rfl,by rw [List.length_set];exact h3,h4,by simp [h5],?_⟩⟩
  rw [hf,← h6,List.length_set]
  simp only [Array.toList_setIfInBounds]
  rw [List.take_set]
def VFn (gMet gD gN gV:Nat):Value:=.func (.func 26) #[] #[.pointer (some ⟨gMet,0,none⟩),.pointer (some ⟨gD,0,none⟩),.pointer (some ⟨gN,0,none⟩),.pointer (some ⟨gV,0,none⟩)]
structure VBx (w:World) (gMet gm gD gN gV:Nat) (aN:Option Addr) (nN cN:Nat):Prop where
 met:w.heap[gMet]? = some (.cells #[.map (some gm)] 75 (0,0))
 nn:w.heap[gN]? = some (.cells #[.slice aN nN cN] 38 (0,0))
 vv:w.heap[gV]? = some (.cells #[VFn gMet gD gN gV] 76 (0,0))
structure VS0 (w:World) (B gMet gm gD gN gV:Nat) (aN:Option Addr) (nN cN:Nat) (v0:Value) (N:List NV) (E:List Nd) (Mt:List Nat):Prop where
 bx:VBx w gMet gm gD gN gV aN nN cN
 dd:w.heap[gD]? = some (.cells #[v0] 38 (0,0))
 len:N.length=E.length
 arcs:∀ k (h:k<N.length) (h2:k<E.length),N[k].fin=E[k].fin∧OwnG rowArc w B (.slice N[k].a N[k].n N[k].c) E[k].arcs
 map:MapI w gm Mt
 hD:B≤gD
 hm:B≤gm
 dn:gN≠gD
structure VSt (w:World) (B gMet gm gD gN gV:Nat) (aN:Option Addr) (nN cN:Nat) (v:Value) (N:List NV) (E:List Nd) (Mt:List Nat):Prop extends VS0 w B gMet gm gD gN gV aN nN cN v N E Mt where
 own:OwnG rowNode w B v N
section
variable {w w':World} {B gMet gm gD gN gV:Nat} {aN:Option Addr} {nN cN:Nat} {v v0:Value} {N:List NV} {E:List Nd} {Mt:List Nat}
theorem VBx.keep (h:VBx w gMet gm gD gN gV aN nN cN) (hk:∀ q,q<w.heap.size→q=gMet∨q=gN∨q=gV→w'.heap[q]? = w.heap[q]?):VBx w' gMet gm gD gN gV aN nN cN :=
 ⟨(hk gMet (Array.getElem?_eq_some_iff.1 h.met).1 (.inl rfl)).trans h.met,(hk gN (Array.getElem?_eq_some_iff.1 h.nn).1 (.inr (.inl rfl))).trans h.nn,(hk gV (Array.getElem?_eq_some_iff.1 h.vv).1 (.inr (.inr rfl))).trans h.vv⟩
theorem VS0.keep (h:VS0 w B gMet gm gD gN gV aN nN cN v0 N E Mt) (hk:∀ q,q<w.heap.size→(q=gMet∨q=gN∨q=gV)∨q=gD∨q=gm∨(∃ x∈N,nvB x=some q)→w'.heap[q]? = w.heap[q]?):VS0 w' B gMet gm gD gN gV aN nN cN v0 N E Mt:=by
 obtain ⟨es,c,hmo⟩:=h.map.obj
 exact ⟨h.bx.keep fun q hq hh=>hk q hq (.inl hh),(hk gD (Array.getElem?_eq_some_iff.1 h.dd).1 (.inr (.inl rfl))).trans h.dd,h.len,fun k h1 h2=>⟨(h.arcs k h1 h2).1,(h.arcs k h1 h2).2.keep fun g hg=>hk g ((h.arcs k h1 h2).2.lt g hg) (.inr (.inr (.inr ⟨N[k],List.getElem_mem h1,hg⟩)))⟩,h.map.kept (hk gm (Array.getElem?_eq_some_iff.1 hmo).1 (.inr (.inr (.inl rfl)))),h.hD,h.hm,h.dn⟩
theorem VS0.ext (h:VS0 w B gMet gm gD gN gV aN nN cN v0 N E Mt) (hx:Ext w w'):VS0 w' B gMet gm gD gN gV aN nN cN v0 N E Mt:=h.keep fun q hq _=>Below.block hx q hq
theorem VSt.ext (h:VSt w B gMet gm gD gN gV aN nN cN v N E Mt) (hx:Ext w w'):VSt w' B gMet gm gD gN gV aN nN cN v N E Mt:=⟨h.toVS0.ext hx,h.own.later hx (Nat.le_refl _)⟩
theorem VS0.size (h:VS0 w B gMet gm gD gN gV aN nN cN v0 N E Mt):B≤w.heap.size:=Nat.le_trans h.hD (Nat.le_of_lt (Array.getElem?_eq_some_iff.1 h.dd).1)
theorem VS0.apartT (h:VS0 w B gMet gm gD gN gV aN nN cN v0 N E Mt) {g:Nat} {cs:Array Value} {t:TypeId} {fz:Nat × Nat} (hg:w.heap[g]? = some (.cells cs t fz)) (ht:t≠75∧t≠38∧t≠76):g≠gMet∧g≠gN∧g≠gV∧g≠gD∧g≠gm:=by
 have key:∀ {q:Nat} {cs2:Array Value} {t2:TypeId},w.heap[q]? = some (.cells cs2 t2 (0,0))→t≠t2→g≠q:=fun h1 h2 e=>by
  rw [e,h1] at hg;injection hg with hg;injection hg with _ h3;exact h2 h3.symm
 refine ⟨key h.bx.met ht.1,key h.bx.nn ht.2.1,key h.bx.vv ht.2.2,key h.dd ht.2.1,fun e=>?_⟩
 obtain ⟨es,c,hm⟩:=h.map.obj
 rw [e,hm] at hg;cases hg
theorem VS0.rows_lt (h:VS0 w B gMet gm gD gN gV aN nN cN v0 N E Mt):∀ x∈N,∀ g,nvB x=some g→g<w.heap.size∧∃ cs,w.heap[g]? = some (.cells cs 72 (0,0)):=by
 intro x hx g hg
 obtain ⟨k,hk,rfl⟩:=List.getElem_of_mem hx
 have h2:=(h.arcs k hk (by rw [← h.len];exact hk)).2
 exact ⟨h2.lt g hg,h2.obj hg⟩
end
structure LVt (wW w0:World) (B gMet gm gD gN gV:Nat) (aN:Option Addr) (nN cN:Nat) (vb0:Option Nat) (N0:List NV) (vA:Value) (A:List Ar) (v:Value) (N:List NV) (E:List Nd) (Mt:List Nat) (w:World):Prop where
 bst:VSt w B gMet gm gD gN gV aN nN cN v N E Mt
 bl:Below B wW w
 fr:Fr gD gm vb0 w0 w
 nr:NewRow vb0 v.ownBlock w0.heap.size
 ex:∃ X,N=N0 ++ X∧∀ x∈X,∀ g,nvB x=some g→w0.heap.size≤g
 own:OwnG rowArc w w0.heap.size vA A
 apart:∀ x∈N,∀ g,nvB x=some g→vA.ownBlock≠some g
structure LV0 (wW w0:World) (B gMet gm gD gN gV:Nat) (aN:Option Addr) (nN cN:Nat) (vb0:Option Nat) (N0:List NV) (v:Value) (N:List NV) (E:List Nd) (Mt:List Nat) (w:World):Prop where
 bst:VSt w B gMet gm gD gN gV aN nN cN v N E Mt
 bl:Below B wW w
 fr:Fr gD gm vb0 w0 w
 nr:NewRow vb0 v.ownBlock w0.heap.size
 ex:∃ X,N=N0 ++ X∧∀ x∈X,∀ g,nvB x=some g→w0.heap.size≤g
def VPost (wW:World) (B gMet gm gD gN gV:Nat) (aN:Option Addr) (nN cN:Nat) (q:Nat × List Nat × List Nd) (v:Value) (N:List NV) (w:World) (e:Ending) (w':World):Prop :=
 e=.returned (.int .i64 (q.1:Int))∧∃ v' N',LV0 wW w B gMet gm gD gN gV aN nN cN v.ownBlock N v' N' q.2.2 q.2.1 w'
section
variable {wW w0 w w':World} {B gMet gm gD gN gV:Nat} {aN:Option Addr} {nN cN:Nat} {vb0:Option Nat} {N0:List NV} {vA va v:Value} {A A2:List Ar} {N:List NV} {E:List Nd} {Mt:List Nat}
theorem LV0.ext (h:LV0 wW w0 B gMet gm gD gN gV aN nN cN vb0 N0 v N E Mt w) (hx:Ext w w'):LV0 wW w0 B gMet gm gD gN gV aN nN cN vb0 N0 v N E Mt w' :=
 ⟨h.bst.ext hx,h.bl.trans (Below.mono hx h.bst.size),h.fr.trans (Fr.of_below hx) h.nr,h.nr,h.ex⟩
theorem LVt.ext (h:LVt wW w0 B gMet gm gD gN gV aN nN cN vb0 N0 vA A v N E Mt w) (hx:Ext w w'):LVt wW w0 B gMet gm gD gN gV aN nN cN vb0 N0 vA A v N E Mt w' :=
 ⟨h.bst.ext hx,h.bl.trans (Below.mono hx h.bst.size),h.fr.trans (Fr.of_below hx) h.nr,h.nr,h.ex,h.own.later hx (Nat.le_refl _),h.apart⟩
theorem LVt.called (h:LVt wW w0 B gMet gm gD gN gV aN nN cN vb0 N0 vA A v N E Mt w) {q:Nat × List Nat × List Nd} {e:Ending} (hp:VPost wW B gMet gm gD gN gV aN nN cN q v N w e w') :
  e=.returned (.int .i64 (q.1:Int))∧∃ v' N',LVt wW w0 B gMet gm gD gN gV aN nN cN vb0 N0 vA A v' N' q.2.2 q.2.1 w':=by
 obtain ⟨he,v',N',hp⟩:=hp
 have hw0:=h.fr.size
 obtain ⟨X,hX,hX2⟩:=hp.ex
 refine ⟨he,v',N',hp.bst,hp.bl,h.fr.trans hp.fr h.nr,h.nr.trans hp.nr hw0,?_,h.own.keep fun g hg=>?_,fun x hx g hg=>?_⟩
 ·
  obtain ⟨E0,rfl,hE0⟩:=h.ex
  refine ⟨E0 ++ X,by rw [hX,List.append_assoc],fun x hx g hg=>?_⟩
  rcases List.mem_append.1 hx with hx | hx
  · exact hE0 x hx g hg
  · exact Nat.le_trans hw0 (hX2 x hx g hg)
 ·
  obtain ⟨cs,hcs⟩:=h.own.obj hg
  obtain ⟨_,_,_,h4,h5⟩:=h.bst.apartT hcs (by decide)
  refine hp.fr.block g (h.own.lt g hg) h4 h5 fun e=>?_
  obtain ⟨cs2,hc2⟩:=h.bst.own.obj e
  rw [hcs] at hc2
  injection hc2 with hc2;injection hc2 with _ h6;cases h6
 ·
  intro e
  rw [hX] at hx
  rcases List.mem_append.1 hx with hx | hx
  · exact h.apart x hx g hg e
  · have:=hX2 x hx g hg;have:=h.own.lt g e;omega
theorem LVt.app (h:LVt wW w0 B gMet gm gD gN gV aN nN cN vb0 N0 vA A v N E Mt w) (hB:B≤w0.heap.size) (hg:w.grownBy w' vA.ownBlock):LV0 wW w0 B gMet gm gD gN gV aN nN cN vb0 N0 v N E Mt w':=by
 have hk:∀ q,q<w.heap.size→vA.ownBlock≠some q→w'.heap[q]? = w.heap[q]?:=fun q hq hne=>hg.block q hq (fun e=>hne e.symm)
 have hva:∀ q,vA.ownBlock=some q→q≠gMet∧q≠gN∧q≠gV∧q≠gD∧q≠gm:=fun q hq=>by
  obtain ⟨cs,hcs⟩:=h.own.obj hq
  exact h.bst.apartT hcs (by decide)
 refine ⟨⟨h.bst.toVS0.keep fun q hq hh=>hk q hq fun e=>?_,h.bst.own.keep fun g hgo=>hk g (h.bst.own.lt g hgo) fun e=>?_⟩,h.bl.grown hg h.bst.size fun q hq=>Nat.le_trans hB (h.own.ge q hq),⟨hg.os.trans h.fr.os,hg.tape.trans h.fr.tape,hg.output.trans h.fr.output,Nat.le_trans h.fr.size hg.size,fun q hq h3 h4 h5=>?_⟩,h.nr,h.ex⟩
 ·
  obtain ⟨h1,h2,h3,h4,h5⟩:=hva q e
  rcases hh with (rfl | rfl | rfl) | rfl | rfl | ⟨x,hx,hq2⟩
  · exact h1 rfl
  · exact h2 rfl
  · exact h3 rfl
  · exact h4 rfl
  · exact h5 rfl
  · exact h.apart x hx q hq2 e
 ·
  obtain ⟨cs,hcs⟩:=h.own.obj e
  obtain ⟨cs2,hc2⟩:=h.bst.own.obj hgo
  rw [hcs] at hc2
  injection hc2 with hc2;injection hc2 with _ h6;cases h6
 ·
  have h6:=h.fr.size
  exact (hk q (by omega) (fun e=>by have:=h.own.ge q e;omega)).trans (h.fr.block q hq h3 h4 h5)
end
end Go.Proofs.YthjmdgejnakcmaaDoor
namespace Go.Proofs.YthjmdgejnakcmaaDoor
open Go.RowKit Go.WideShapes
set_option linter.unusedVariables false
set_option linter.unusedSimpArgs false
def Begins (R E:List Nd):Prop:=E.length≤R.length∧∀ k,k<E.length→R[k]? = E[k]?
theorem Begins.refl (E:List Nd):Begins E E:=⟨Nat.le_refl _,fun _ _=>rfl⟩
theorem Begins.trans {A B C:List Nd} (h:Begins A B) (h2:Begins B C):Begins A C:=⟨Nat.le_trans h2.1 h.1,fun k hk=>(h.2 k (Nat.lt_of_lt_of_le hk h2.1)).trans (h2.2 k hk)⟩
theorem Begins.snoc (E:List Nd) (x:Nd):Begins (E ++ [x]) E:=⟨by simp,fun k hk=>by rw [List.getElem?_append_left hk]⟩
theorem armsV_begins {rec:Nat→List Nat→List Nd→Nat × List Nat × List Nd} (hr:∀ i Mt E,Begins (rec i Mt E).2.2 E):∀ X A Mt E,Begins (armsV rec X A Mt E).2.2 E
 | [],_,_,_=>Begins.refl _
 | x :: r,A,Mt,E=>by rw [armsV];exact (armsV_begins hr r _ _ _).trans (hr _ _ _)
theorem numV_begins (Dn:List Nd):∀ m i Mt E,Begins (numV Dn m i Mt E).2.2 E
 | 0,_,_,_=>Begins.refl _
 | m
   + 1,i,Mt,E=>by
  rw [numV]
  split
  · exact Begins.refl _
  ·
   have h:=(armsV_begins (numV_begins Dn m) (Dn.getD i default).arcs [] (Mt ++ [i]) (E ++ [⟨(Dn.getD i default).fin,[]⟩])).trans (Begins.snoc E _)
   refine ⟨by rw [List.length_set];exact h.1,fun k hk=>?_⟩
   rw [List.getElem?_set_ne (by omega)]
   exact h.2 k hk
theorem VOk.snoc {Dn:List Nd} {Mt:List Nat} {E:List Nd} {i:Nat} (h:VOk Dn Mt E) (hi:i<Dn.length) (hno:¬ posI Mt i<Mt.length) (x:Nd):VOk Dn (Mt ++ [i]) (E ++ [x]):=by
 refine ⟨by simp [h.len],?_,fun j hj=>?_⟩
 ·
  rw [List.nodup_append]
  exact ⟨h.nd,by simp,fun a ha b hb=>by
   obtain rfl:=List.mem_singleton.1 hb
   intro e;subst e;exact hno (posI_lt ha)⟩
 ·
  rcases List.mem_append.1 hj with hj | hj
  · exact h.lt j hj
  · obtain rfl:=List.mem_singleton.1 hj;exact hi
theorem armsV_ok {Dn:List Nd} {rec:Nat→List Nat→List Nd→Nat × List Nat × List Nd} {i:Nat} (hi:i≤Dn.length) (hr:∀ j Mt E,j<i→VOk Dn Mt E→VOk Dn (rec j Mt E).2.1 (rec j Mt E).2.2):∀ X A Mt E,(∀ x∈X,0≤x.t∧x.t<(i:Int))→VOk Dn Mt E→VOk Dn (armsV rec X A Mt E).2.1 (armsV rec X A Mt E).2.2
 | [],_,_,_,_,h=>h
 | x :: r,A,Mt,E,hX,h=>by
  rw [armsV]
  have hx:=hX x (by simp)
  exact armsV_ok hi hr r _ _ _ (fun y hy=>hX y (by simp [hy])) (hr _ _ _ (by omega) h)
theorem numV_ok {Dn:List Nd} (hD:Down Dn):∀ m i Mt E,i<Dn.length→i<m→VOk Dn Mt E→VOk Dn (numV Dn m i Mt E).2.1 (numV Dn m i Mt E).2.2
 | 0,_,_,_,_,h,_=>by omega
 | m
   + 1,i,Mt,E,hi,hm,h=>by
  rw [numV]
  split
  · exact h
  ·
   rename_i hno
   have hg:Dn.getD i default=Dn[i]:=by rw [List.getD_eq_getElem?_getD,List.getElem?_eq_getElem hi];rfl
   have h2:=armsV_ok (Dn:=Dn) (rec:=numV Dn m) (i:=i) (by omega) (fun j Mt E hj h=>numV_ok hD m j Mt E (by omega) (by omega) h) (Dn.getD i default).arcs [] (Mt ++ [i]) (E ++ [⟨(Dn.getD i default).fin,[]⟩]) (by rw [hg];exact hD i hi) (h.snoc hi hno _)
   exact ⟨by rw [List.length_set];exact h2.len,h2.nd,h2.lt⟩
end Go.Proofs.YthjmdgejnakcmaaDoor
