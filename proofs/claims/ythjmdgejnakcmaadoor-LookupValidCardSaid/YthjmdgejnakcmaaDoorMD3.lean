/- Texts that the claims share: DNum, DRefP, DBuildF. -/
import Derived.Test.YthjmdgejnakcmaaDoorMD2
import Derived.Test.YthjmdgejnakcmaaDoorMD1
namespace Go.Proofs.YthjmdgejnakcmaaDoor
open Go.RowKit Go.WideShapes
set_option linter.unusedVariables false
set_option linter.unusedSimpArgs false
def VT2 (wW w0:World) (B gMet gm gD gN gV:Nat) (aN:Option Addr) (nN cN:Nat) (vb0:Option Nat) (N0:List NV) (v:Value) (N:List NV) (E:List Nd) (Mt:List Nat) (b1:Bool) (w:World):Prop :=
 match b1 with
 | false=>LV0 wW w0 B gMet gm gD gN gV aN nN cN vb0 N0 v N E Mt w
 | true=>True
theorem VT2.ext {wW w0:World} {B gMet gm gD gN gV:Nat} {aN:Option Addr} {nN cN:Nat} {vb0:Option Nat} {N0:List NV} {v:Value} {N:List NV} {E:List Nd} {Mt:List Nat}:∀ (b1:Bool) (w w':World),VT2 wW w0 B gMet gm gD gN gV aN nN cN vb0 N0 v N E Mt b1 w→Ext w w'→VT2 wW w0 B gMet gm gD gN gV aN nN cN vb0 N0 v N E Mt b1 w':=by
 intro b1 w w' h hx
 cases b1 with
 | false=>exact LV0.ext h hx
 | true=>trivial
theorem cells1 {w:World} {g:Nat} {a:Value} {t:TypeId} {f:Nat × Nat} (h:w.heap[g]? = some (.cells #[a] t f)):w.cell? ⟨g,0,none⟩=some a:=by
 rw [cell_of_row w g 0 _ _ f h];rfl
structure PVt (wW w0:World) (B gMet gm gD gN gV:Nat) (aN:Option Addr) (nN cN:Nat) (vb0:Option Nat) (N0:List NV) (v0:Value) (N:List NV) (E:List Nd) (Mt:List Nat) (nv:NV) (va:Value) (w:World):Prop where
 bst:VS0 w B gMet gm gD gN gV aN nN cN v0 N E Mt
 own:OwnG rowNode w B va (N ++ [nv])
 bl:Below B wW w
 fr:Fr gD gm vb0 w0 w
 nr:NewRow vb0 va.ownBlock w0.heap.size
 ex:∃ X,N=N0 ++ X∧∀ x∈X,∀ g,nvB x=some g→w0.heap.size≤g
section
variable {wW w0 w w':World} {B gMet gm gD gN gV:Nat} {aN:Option Addr} {nN cN:Nat} {vb0:Option Nat} {N0:List NV} {v va:Value} {N:List NV} {E:List Nd} {Mt:List Nat} {nv:NV}
theorem pvt_stays:Stays (fun va w=>PVt wW w0 B gMet gm gD gN gV aN nN cN vb0 N0 v N E Mt nv va w):=fun va w w' h hx =>
 ⟨h.bst.ext hx,h.own.later hx (Nat.le_refl _),h.bl.trans (Below.mono hx h.bst.size),h.fr.trans (Fr.of_below hx) h.nr,h.nr,h.ex⟩
theorem LV0.appN (h:LV0 wW w0 B gMet gm gD gN gV aN nN cN vb0 N0 v N E Mt w) (ho:OwnG rowNode w' B va (N ++ [nv])) (hg:w.grownBy w' v.ownBlock) (hat:va.ownBlock=v.ownBlock∨va.ownBlock=some w.heap.size):PVt wW w0 B gMet gm gD gN gV aN nN cN vb0 N0 v N E Mt nv va w':=by
 have hk:∀ q,q<w.heap.size→v.ownBlock≠some q→w'.heap[q]? = w.heap[q]?:=fun q hq hne=>hg.block q hq (fun e=>hne e.symm)
 refine ⟨h.bst.toVS0.keep fun q hq hh=>hk q hq fun e=>?_,ho,h.bl.grown hg h.bst.size fun q hq=>h.bst.own.ge q hq,⟨hg.os.trans h.fr.os,hg.tape.trans h.fr.tape,hg.output.trans h.fr.output,Nat.le_trans h.fr.size hg.size,fun q hq h3 h4 h5=>?_⟩,?_,h.ex⟩
 ·
  obtain ⟨cs,hcs⟩:=h.bst.own.obj e
  obtain ⟨h1,h2,h3,h4,h5⟩:=h.bst.apartT hcs (by decide)
  rcases hh with (rfl | rfl | rfl) | rfl | rfl | ⟨x,hx,hq2⟩
  · exact h1 rfl
  · exact h2 rfl
  · exact h3 rfl
  · exact h4 rfl
  · exact h5 rfl
  ·
   obtain ⟨_,cs2,hc2⟩:=h.bst.rows_lt x hx q hq2
   rw [hcs] at hc2
   injection hc2 with hc2;injection hc2 with _ h6;cases h6
 ·
  have h6:=h.fr.size
  refine (hk q (by omega) fun e=>?_).trans (h.fr.block q hq h3 h4 h5)
  rcases h.nr with h7 | h7
  · exact h5 (by rw [← h7];exact e)
  · have:=h7 q e;omega
 ·
  rcases hat with h1 | h1
  · rw [h1];exact h.nr
  · rw [h1];exact .inr fun q hq=>by injection hq with hq;have:=h.fr.size;omega
theorem
    PVt.store (h:PVt wW w0 B gMet gm gD gN gV aN nN cN vb0 N0 v N E Mt nv va w) (hB:B≤w0.heap.size) {nd:Nd} (hf:nv.fin=nd.fin) (ha:nd.arcs=[]) (hv:(Value.slice nv.a nv.n nv.c)=.slice none 0 0) (hgD:gD<w0.heap.size) :
  LV0 wW w0 B gMet gm gD gN gV aN nN cN vb0 N0 va (N ++ [nv]) (E ++ [nd]) Mt (w.setCell ⟨gD,0,none⟩ va):=by
 have hne:∀ q,q≠gD→(w.setCell ⟨gD,0,none⟩ va).heap[q]? = w.heap[q]?:=fun q hq=>Below.heap_setCell _ _ _ _ hq
 have hTy:∀ {q:Nat} {cs:Array Value} {t:TypeId} {fz:Nat × Nat},w.heap[q]? = some (.cells cs t fz)→t≠38→q≠gD:=fun {q cs t fz} hq ht e=>by
  have h1:=h.bst.dd
  rw [← e,hq] at h1;injection h1 with h1;injection h1 with _ h2;exact ht h2
 obtain ⟨es,c,hmo⟩:=h.bst.map.obj
 refine ⟨⟨⟨h.bst.bx.keep fun q hq hh=>hne q ?_,set_one h.bst.dd rfl,by simp [h.bst.len],fun k h1 h2=>?_,h.bst.map.kept (hne gm fun e=>?_),h.bst.hD,h.bst.hm,h.bst.dn⟩,h.own.keep fun g hg=>hne g ?_⟩,h.bl.setCell h.bst.hD _,⟨h.fr.os,h.fr.tape,h.fr.output,by rw [World.size_setCell];exact h.fr.size,fun q hq h3 h4 h5=>(hne q h3).trans (h.fr.block q hq h3 h4 h5)⟩,h.nr,?_⟩
 ·
  rcases hh with rfl | rfl | rfl
  · exact hTy h.bst.bx.met (by decide)
  · exact h.bst.dn
  · exact hTy h.bst.bx.vv (by decide)
 ·
  by_cases hkN:k<N.length
  ·
   have hkD:k<E.length:=by rw [← h.bst.len];exact hkN
   obtain ⟨h3,h4⟩:=h.bst.arcs k hkN hkD
   simp only [List.getElem_append_left hkN,List.getElem_append_left hkD]
   exact ⟨h3,h4.keep fun g hg=>by
    obtain ⟨cs,hcs⟩:=h4.obj hg
    exact hne g (hTy hcs (by decide))⟩
  ·
   obtain rfl:k=N.length:=by rw [List.length_append] at h1;simp at h1;omega
   have e1:(N ++ [nv])[N.length]=nv:=by simp
   have e2:(E ++ [nd])[N.length]=nd:=by simp [h.bst.len]
   rw [e1,e2,ha,hv]
   exact ⟨hf,OwnG.nil _ _ _⟩
 ·
  have h1:=h.bst.dd
  rw [← e,hmo] at h1;cases h1
 ·
  obtain ⟨cs,hcs⟩:=h.own.obj hg
  exact hTy hcs (by decide)
 ·
  obtain ⟨X,hX,hX2⟩:=h.ex
  refine ⟨X ++ [nv],by rw [hX,List.append_assoc],fun x hx g hg=>?_⟩
  rcases List.mem_append.1 hx with hx | hx
  · exact hX2 x hx g hg
  ·
   obtain rfl:=List.mem_singleton.1 hx
   unfold nvB at hg;rw [hv] at hg;cases hg
theorem
    LVt.done {A:List Ar} {a:Option Addr} {c n:Nat} {gr cr:Nat} (h:LVt wW w0 B gMet gm gD gN gV aN nN cN vb0 N0 (.slice a A.length c) A (.slice (some ⟨gr,0,none⟩) N.length cr) N E Mt w) (hB:B≤w0.heap.size) (hn:N0.length=n) (hnN:n<N.length) {f:Bool} (hE:E[n]? = some ⟨f,[]⟩) :
  ∃ N',LV0 wW w0 B gMet gm gD gN gV aN nN cN vb0 N0 (.slice (some ⟨gr,0,none⟩) N.length cr) N' (E.set n ⟨f,A⟩) Mt (w.setCell ⟨gr,n*2+1,none⟩ (.slice a A.length c)):=by
 have hnE:n<E.length:=by rw [← h.bst.len];exact hnN
 have hEn:E[n]=⟨f,[]⟩:=by rw [List.getElem?_eq_getElem hnE] at hE;injection hE
 obtain ⟨cs0,hc0⟩:=h.bst.own.obj (g:=gr) rfl
 have hne:∀ q,q≠gr→(w.setCell ⟨gr,n*2+1,none⟩ (.slice a A.length c)).heap[q]? = w.heap[q]?:=fun q hq=>Below.heap_setCell _ _ _ _ hq
 have hTy:∀ {q:Nat} {cs:Array Value} {t:TypeId} {fz:Nat × Nat},w.heap[q]? = some (.cells cs t fz)→t≠70→q≠gr:=fun {q cs t fz} hq ht e=>by
  rw [e,hc0] at hq;injection hq with hq;injection hq with _ h2;exact ht h2.symm
 obtain ⟨es,cm,hmo⟩:=h.bst.map.obj
 have hfin:N[n].fin=f:=by have:=(h.bst.arcs n hnN hnE).1;rw [this,hEn]
 refine ⟨N.set n ⟨N[n].fin,a,A.length,c⟩,⟨⟨h.bst.bx.keep fun q hq hh=>hne q ?_,(hne gD (hTy h.bst.dd (by decide))).trans h.bst.dd,by simp [h.bst.len],fun k h1 h2=>?_,h.bst.map.kept (hne gm fun e=>?_),h.bst.hD,h.bst.hm,h.bst.dn⟩,h.bst.own.setArcs hnN a A.length c⟩,h.bl.setCell (h.bst.own.ge gr rfl) _,⟨h.fr.os,h.fr.tape,h.fr.output,by rw [World.size_setCell];exact h.fr.size,fun q hq h3 h4 h5=>(hne q fun e=>?_).trans (h.fr.block q hq h3 h4 h5)⟩,h.nr,?_⟩
 ·
  rcases hh with rfl | rfl | rfl
  · exact hTy h.bst.bx.met (by decide)
  · exact hTy h.bst.bx.nn (by decide)
  · exact hTy h.bst.bx.vv (by decide)
 ·
  have hkN:k<N.length:=by simpa using h1
  have hkE:k<E.length:=by simpa using h2
  obtain ⟨h3,h4⟩:=h.bst.arcs k hkN hkE
  by_cases e:n=k
  ·
   subst e
   simp only [List.getElem_set_self]
   exact ⟨hfin,(h.own.mono hB).keep fun g hg=>by
    obtain ⟨cs,hcs⟩:=h.own.obj hg
    exact hne g (hTy hcs (by decide))⟩
  ·
   simp only [List.getElem_set_ne e]
   exact ⟨h3,h4.keep fun g hg=>by
    obtain ⟨cs,hcs⟩:=h4.obj hg
    exact hne g (hTy hcs (by decide))⟩
 · rw [e,hc0] at hmo;cases hmo
 ·
  rcases h.nr with h7 | h7
  · exact h5 (by rw [← h7,e];rfl)
  · have:=h7 gr rfl;omega
 ·
  obtain ⟨X,hX,hX2⟩:=h.ex
  refine ⟨X.set 0 ⟨N[n].fin,a,A.length,c⟩,?_,fun x hx g hg=>?_⟩
  ·
   generalize (⟨N[n].fin,a,A.length,c⟩:NV)=nv9
   rw [hX,List.set_append_right _ _ (by omega),hn,Nat.sub_self]
  ·
   rcases List.mem_or_eq_of_mem_set hx with hx | rfl
   · exact hX2 x hx g hg
   · exact h.own.ge g hg
end
theorem VSt.mapped {wW w w1:World} {B gMet gm gD gN gV:Nat} {aN:Option Addr} {nN cN:Nat} {v:Value} {N:List NV} {E:List Nd} {Mt Mt2:List Nat} (h:VSt w B gMet gm gD gN gV aN nN cN v N E Mt) (hb:Below B wW w) (hm:MapI w1 gm Mt2) (hg:w.grownBy w1 (some gm)) :
  LV0 wW w B gMet gm gD gN gV aN nN cN v.ownBlock N v N E Mt2 w1:=by
 obtain ⟨es,c,hmo⟩:=h.map.obj
 have hk:∀ q,q<w.heap.size→q≠gm→w1.heap[q]? = w.heap[q]?:=fun q hq hne=>hg.block q hq (fun e=>hne (by injection e))
 have hTy:∀ {q:Nat} {cs:Array Value} {t:TypeId} {fz:Nat × Nat},w.heap[q]? = some (.cells cs t fz)→q≠gm:=fun {q cs t fz} hq e=>by
  rw [e,hmo] at hq;cases hq
 refine ⟨⟨⟨h.bx.keep fun q hq hh=>hk q hq ?_,(hk gD (Array.getElem?_eq_some_iff.1 h.dd).1 (hTy h.dd)).trans h.dd,h.len,fun k h1 h2=>⟨(h.arcs k h1 h2).1,(h.arcs k h1 h2).2.keep fun g hgk=>?_⟩,hm,h.hD,h.hm,h.dn⟩,h.own.keep fun g hgk=>?_⟩,hb.grown hg h.size (fun q hq=>by injection hq with hq;rw [← hq];exact h.hm),⟨hg.os,hg.tape,hg.output,hg.size,fun q hq _ h4 _=>hk q hq h4⟩,.inl rfl,[],by simp,fun x hx=>by cases hx⟩
 ·
  rcases hh with rfl | rfl | rfl
  · exact hTy h.bx.met
  · exact hTy h.bx.nn
  · exact hTy h.bx.vv
 ·
  obtain ⟨cs,hcs⟩:=(h.arcs k h1 h2).2.obj hgk
  exact hk g ((h.arcs k h1 h2).2.lt g hgk) (hTy hcs)
 ·
  obtain ⟨cs,hcs⟩:=h.own.obj hgk
  exact hk g (h.own.lt g hgk) (hTy hcs)
def VT3 (wW w0:World) (B gMet gm gD gN gV:Nat) (aN:Option Addr) (nN cN:Nat) (vb0:Option Nat) (N0:List NV) (vA:Value) (A:List Ar) (v:Value) (N:List NV) (E E2:List Nd) (Mt Mt2:List Nat) (b1 b2:Bool) (w:World):Prop :=
 match b1,b2 with
 | false,_=>LVt wW w0 B gMet gm gD gN gV aN nN cN vb0 N0 vA A v N E Mt w
 | true,false=>∃ v2 N2,LVt wW w0 B gMet gm gD gN gV aN nN cN vb0 N0 vA A v2 N2 E2 Mt2 w
 | true,true=>True
def VV54 (wW w0:World) (B gMet gm gD gN gV:Nat) (aN:Option Addr) (nN cN:Nat) (vb0:Option Nat) (N0:List NV) (A2:List Ar) (E2:List Nd) (Mt2:List Nat) (va:Value) (w:World):Prop :=
 ∃ v2 N2,LVt wW w0 B gMet gm gD gN gV aN nN cN vb0 N0 va A2 v2 N2 E2 Mt2 w
section
variable {wW w0:World} {B gMet gm gD gN gV:Nat} {aN:Option Addr} {nN cN:Nat} {vb0:Option Nat} {N0:List NV} {vA:Value} {A A2:List Ar} {v:Value} {N:List NV} {E E2:List Nd} {Mt Mt2:List Nat}
theorem VT3.ext:∀ (b1 b2:Bool) (w w':World),VT3 wW w0 B gMet gm gD gN gV aN nN cN vb0 N0 vA A v N E E2 Mt Mt2 b1 b2 w→Ext w w'→VT3 wW w0 B gMet gm gD gN gV aN nN cN vb0 N0 vA A v N E E2 Mt Mt2 b1 b2 w':=by
 intro b1 b2 w w' h hx
 cases b1 with
 | false=>exact LVt.ext h hx
 | true =>
  cases b2 with
  | false =>
   obtain ⟨v2,N2,h2⟩:=h
   exact ⟨v2,N2,h2.ext hx⟩
  | true=>trivial
theorem VT3.some {b1:Bool} {w:World} (h:VT3 wW w0 B gMet gm gD gN gV aN nN cN vb0 N0 vA A v N E E2 Mt Mt2 b1 false w):VBx w gMet gm gD gN gV aN nN cN∧w0.heap.size≤w.heap.size∧OwnG rowArc w w0.heap.size vA A:=by
 cases b1 with
 | false=>exact ⟨(LVt.bst h).bx,(LVt.fr h).size,LVt.own h⟩
 | true =>
  obtain ⟨v2,N2,h2⟩:=h
  exact ⟨h2.bst.bx,h2.fr.size,h2.own⟩
theorem vv54_stays:Stays (VV54 wW w0 B gMet gm gD gN gV aN nN cN vb0 N0 A2 E2 Mt2):=by
 rintro va w w' ⟨v2,N2,h⟩ hx
 exact ⟨v2,N2,h.ext hx⟩
end
set_option maxHeartbeats 1600000 in
set_option maxRecDepth 100000 in
theorem
    visit_any
         (wW:World) (B gMet gm gD gN gV:Nat) (aN:Option Addr) (cN:Nat) (Dn:List Nd) (hWB:wW.heap.size≤B) (hDn:DawgS wW aN Dn) (hDl:Dn.length≤500000) (hDown:Down Dn) (hAl:∀ i (h:i<Dn.length),Dn[i].arcs.length≤1000) :
  ∀ (m i:Nat) (Mt:List Nat) (E:List Nd) (v:Value) (N:List NV) (w:World),i<Dn.length→i<m→VOk Dn Mt E→VSt w B gMet gm gD gN gV aN Dn.length cN v N E Mt→Below B wW w →
  Calls Tryd.prog 26 #[.int .i64 (i:Int),.pointer (some ⟨gMet,0,none⟩),.pointer (some ⟨gD,0,none⟩),.pointer (some ⟨gN,0,none⟩),.pointer (some ⟨gV,0,none⟩)] w (VPost wW B gMet gm gD gN gV aN Dn.length cN (numV Dn m i Mt E) v N w):=by
 intro m
 induction m with
 | zero=>intro i _ _ _ _ _ _ h;omega
 | succ m ih
       =>
  intro i Mt E v N w hi him hok hst hW
  have HDN:=Lib.hid hDn;have HDOWN:=Lib.hid hDown;have HOK:=Lib.hid hok;have HST:=Lib.hid hst;have HW:=Lib.hid hW;have IH:=Lib.hid ih;have HAL:=Lib.hid hAl
  have hBs:=hst.size
  have HBS:=Lib.hid hBs
  clear hDn hDown hok hst hW ih hAl
  have hlook:=HST.out.map.look i (by omega)
  have hmet:=cells1 HST.out.bx.met
  by_cases hp:posI Mt i<Mt.length
  ·
   rw [if_pos hp,decide_eq_true hp] at hlook
   have hres:numV Dn (m+1) i Mt E=(posI Mt i,Mt,E):=by rw [numV,if_pos hp]
   have HRES:=Lib.hid hres
   clear hp hres
   go_enter Tryd.func26,Tryd.ntmps26
   go_wp2
   go_ret
   rw [HRES.out]
   exact ⟨rfl,v,N,HST.out,HW.out,Fr.refl _ _ _ _,.inl rfl,[],by simp,fun x hx=>by cases hx⟩
  ·
   rw [if_neg hp,decide_eq_false hp] at hlook
   obtain ⟨na,nc,hna, -, -⟩:=HST.out.own.form
   rw [HST.out.len] at hna
   subst hna
   have hdd:=cells1 HST.out.dd
   have hlenM:(E.length:Int)=(Mt.length:Int):=by rw [HOK.out.len]
   have HLM:=Lib.hid hlenM
   have hEl:E.length≤500000:=by have:=HOK.out.le;omega
   have hMl:Mt.length<1000000:=by have:=HOK.out.len;omega
   have HP:=Lib.hid hp
   clear hp hlenM
   go_enter Tryd.func26,Tryd.ntmps26
   go_upto_region 6 with (first
    | (at_mapUpdate;go_loud (refine wpList_mapUpdate_i HST.out.map i (by omega) HP.out hMl rfl _ _ _ rfl rfl rfl (by show Value.int .i64 (E.length:Int)=_;rw [HLM.out]) ?_;intro w1 hm1 hg1)))
   have HL1:=Lib.hid (VSt.mapped HST.out HW.out hm1 hg1)
   obtain ⟨bN,oN,haN,hbN,f0,aa,cc,f1,hXl,hXs⟩:=HDN.out.at hi
   have hidxN:=idx_nodes aN bN oN Dn.length cN i haN hi
   have hgi:Dn.getD i default=Dn[i]:=by rw [List.getD_eq_getElem?_getD,List.getElem?_eq_getElem hi];rfl
   have HGI:=Lib.hid hgi
   have hXdown:=HDOWN.out i hi
   have hXlen:=HAL.out i hi
   obtain ⟨nd0,hnd0⟩:∃ nd0,Dn[i]=nd0:=⟨_,rfl⟩
   rw [hnd0] at f0 f1 hXl hXs hXdown hXlen HGI
   obtain ⟨f,X⟩:=nd0
   simp only at f0 f1 hXl hXs hXdown hXlen
   have HF0:=Lib.hid f0;have HF1:=Lib.hid f1;have HXS:=Lib.hid hXs;have HXD:=Lib.hid hXdown
   obtain ⟨FA,hFA⟩:∃ FA,armsV (numV Dn m) X [] (Mt ++ [i]) (E ++ [⟨f,[]⟩])=FA:=⟨_,rfl⟩
   have HFA:=Lib.hid hFA
   have hgDl:gD<w.heap.size:=(Array.getElem?_eq_some_iff.1 HST.out.dd).1
   simp only [Act.put]
   clear hm1 hg1 f0 f1 hXs hXdown hgi hnd0 haN hFA hlook hmet hdd
   refine wp_region_st (by kernel_rfl) (Vs [vq (.slice na E.length nc),vq (.slice aN Dn.length cN),vq (.int .i64 (i:Int)),vq (.pointer (some ⟨bN,oN+i*2,none⟩)),vq (.pointer (some ⟨bN,oN+i*2,none⟩)),vq (.bool f),vq (.agg #[.bool f,.slice none 0 0]),RowNd1 (.slice na E.length nc) (⟨f,none,0,0⟩:NV),fun va w9=>PVt wW w B gMet gm gD gN gV aN Dn.length cN (Value.slice na E.length nc).ownBlock N (.slice na E.length nc) N E (Mt ++ [i]) (⟨f,none,0,0⟩:NV) va w9]) (Xs [Ext,Ext,Ext,Ext,Ext,Ext,Ext,Ext,(fun w w'=>w.grownBy w' (Value.slice na E.length nc).ownBlock)]) (fun fL=>(fun b1 W=>VT2 wW w B gMet gm gD gN gV aN Dn.length cN (Value.slice na E.length nc).ownBlock N (.slice na E.length nc) N E (Mt ++ [i]) b1 W) (fL 8)) [0,0,0,6,14,30,62,126,255] 62 9 (by kernel_rfl) rfl ?hV ?hS ?hop ?hfin ?hlast
   case hV =>
    refine xs_stays (vs_stays (by simp only [List.mem_cons,List.not_mem_nil,or_false,forall_eq_or_imp,forall_eq];exact ⟨stays_const _,stays_const _,stays_const _,stays_const _,stays_const _,stays_const _,stays_const _,rowNd1_stays _ _,pvt_stays⟩)) ?_
    exact ⟨.inl rfl,.inl rfl,.inl rfl,.inl rfl,.inl rfl,.inl rfl,.inl rfl,.inl rfl,.inr (staysM_all ⟨fun _ _=>fun _ _ _ h _=>h,fun _ _=>fun _ _ _ h _=>h,fun _ _=>fun _ _ _ h _=>h,fun _ _=>fun _ _ _ h _=>h,fun _ _=>fun _ _ _ h _=>h,fun _ _=>fun _ _ _ h _=>h,fun _ _=>fun _ _ _ h _=>h,fun _ _=>rowNd1_grown _ _,fun h=>absurd rfl h,trivial⟩),trivial⟩
   case hS =>
    intro fL hf
    show (fun b1 W=>VT2 wW w B gMet gm gD gN gV aN Dn.length cN (Value.slice na E.length nc).ownBlock N (.slice na E.length nc) N E (Mt ++ [i]) b1 W) (fL 8) _
    rw [hf 8 (by decide)]
    exact VT2.ext false _ _ HL1.out ⟨rfl,rfl,rfl,Nat.le_refl _,fun _ _=>rfl⟩
   case hop =>
    refine ⟨?_,?_,?_,?_,?_,?_,?_,?c7,?c8,?_,trivial⟩
    all_goals first | rw [if_neg (by decide)] | rw [if_pos (by decide)]
    all_goals try exact True.intro
    all_goals try intro ac W fL hsz hfi hms hdn hS0 hdep hbase hund
    all_goals try have hS:(fun b1 W=>VT2 wW w B gMet gm gD gN gV aN Dn.length cN (Value.slice na E.length nc).ownBlock N (.slice na E.length nc) N E (Mt ++ [i]) b1 W) (fL 8) W:=hS0
    all_goals try (have hfl8:fL 8=true:=hms 8 (by decide);rw [hfl8] at hS)
    all_goals try (have hfl8:fL 8=false:=(by first | exact hfi | exact hdn 8 (by decide) (by decide));rw [hfl8] at hS)
    all_goals try (
     have hlst:LV0 wW w B gMet gm gD gN gV aN Dn.length cN (Value.slice na E.length nc).ownBlock N (.slice na E.length nc) N E (Mt ++ [i]) W:=hS
     have hcD:=cells1 hlst.bst.dd
     have hcN:=cells1 hlst.bst.bx.nn
     have hcF:=(hlst.bl.cell (p:=⟨bN,oN+i*2,none⟩) (by show bN<B;omega)).trans HF0.out)
    all_goals try have hh2:=gdA ac 2 (.pointer (some ⟨gD,0,none⟩)) (hbase 2 (by kernel_rfl))
    all_goals try have hh3:=gdA ac 3 (.pointer (some ⟨gN,0,none⟩)) (hbase 3 (by kernel_rfl))
    all_goals try have hh0:=gdA ac 0 (.int .i64 (i:Int)) (hbase 0 (by kernel_rfl))
    all_goals try (have d26:ac.tmps.getD 26 undef=.slice na E.length nc:=hdep 0 (by decide);have dd26:=d26;rw [Array.getD_eq_getD_getElem?] at dd26)
    all_goals try have d33:(RowNd1 (.slice na E.length nc) (⟨f,none,0,0⟩:NV)) (ac.tmps.getD 33 undef) W:=hdep 7 (by decide)
    all_goals try (have hdep:=depL hdep;simp [DepL,slotOf,vq] at hdep)
    all_goals try clear hbase hms hdn hund
    case c7 =>
     have hS1:(fun b1 W=>VT2 wW w B gMet gm gD gN gV aN Dn.length cN (Value.slice na E.length nc).ownBlock N (.slice na E.length nc) N E (Mt ++ [i]) b1 W) ((upd fL 7) 8) W:=hS0
     have hlt62:(Value.slice na E.length nc).ownBlock≠some W.heap.size:=fun e=>by
      have:=hlst.bst.own.lt _ e;omega
     refine opOk_run rfl (.inl ⟨.slice (some ⟨W.heap.size,0,none⟩) 1 1,W.alloc (.cells #[.bool f,.slice none 0 0] 70),?_,⟨_,rfl,heap_alloc_new _ _,hlt62⟩,(Below.refl _ _).alloc (Nat.le_refl _) _,(show (fun b1 W=>VT2 wW w B gMet gm gD gN gV aN Dn.length cN (Value.slice na E.length nc).ownBlock N (.slice na E.length nc) N E (Mt ++ [i]) b1 W) ((upd fL 7) 8) _ by
      rw [show upd fL 7 8=fL 8 from if_neg (by decide)]
      exact VT2.ext _ _ _ hS0 ((Below.refl _ _).alloc (Nat.le_refl _) _))⟩)
     clear hsz hS hS0 hS1 hfi hlst;simp [go_sem,Act.eval, *]
    case c8 =>
     obtain ⟨g62,e62,hg62,hn62⟩:=d33
     refine opOk_run rfl ((opres_append_g rowNode_ok (.tmp 26) (.tmp 33) rfl (eval_tmp d26) hlst.bst.own ⟨g62,0,none⟩ 1 [(⟨f,none,0,0⟩:NV)] (eval_tmp e62) (cells_built hg62) (by rw [hlst.bst.len];simp only [List.length_singleton];omega) hlst.bst.size).mono ?_)
     rintro va w' ⟨ho,hgr,hat⟩
     refine ⟨hlst.appN ho hgr hat,hgr,?_⟩
     show VT2 wW w B gMet gm gD gN gV aN Dn.length cN (Value.slice na E.length nc).ownBlock N (.slice na E.length nc) N E (Mt ++ [i]) (upd fL 8 8) w'
     rw [show upd fL 8 8=true from if_pos rfl]
     trivial
    all_goals (refine opOk_run rfl (.inl ⟨_,W,?_,rfl,Ext.refl _,hS0⟩);clear hsz hS hS0 hfi;simp [go_sem,Act.eval, *];done)
   case hfin =>
    intro h;exact absurd h (by decide)
   case hlast =>
    intro _ ac W hsz hdf fL hf hS0 hv hbase
    have hS:(fun b1 W=>VT2 wW w B gMet gm gD gN gV aN Dn.length cN (Value.slice na E.length nc).ownBlock N (.slice na E.length nc) N E (Mt ++ [i]) b1 W) (fL 8) W:=hS0
    clear hS0
    rw [hf 8 (by decide)] at hS
    have hst:ac.tmps.getD 2 undef=.pointer (some ⟨gD,0,none⟩):=hbase 2 (by kernel_rfl)
    have hnv:PVt wW w B gMet gm gD gN gV aN Dn.length cN (Value.slice na E.length nc).ownBlock N (.slice na E.length nc) N E (Mt ++ [i]) (⟨f,none,0,0⟩:NV) (ac.tmps.getD 34 undef) W:=hv 8 (by decide)
    obtain ⟨ya,yc,hya, -, -⟩:=hnv.own.form
    rw [hya] at hnv
    refine wpOp_store rfl rfl rfl rfl (eval_tmp hst) (eval_tmp hya) (by simp [World.frozen?,hnv.bst.dd]) (cells1 hnv.bst.dd) (by kernel_rfl) ?_
    have hl2:=hnv.store hBs (nd:=⟨f,[]⟩) rfl rfl rfl hgDl
    obtain ⟨wz2,hwz2⟩:∃ wz2,W.setCell ⟨gD,0,none⟩ (.slice ya (N ++ [(⟨f,none,0,0⟩:NV)]).length yc)=wz2:=⟨_,rfl⟩
    rw [hwz2] at hl2 ⊢
    have HL2:=Lib.hid hl2
    clear hS hnv hwz2 hst hl2
    obtain ⟨sx,hsx,hsA⟩:=act_puts [26,27,28,29,30,31,32,33,34] (by kernel_rfl) hsz hdf hbase
    clear hya
    rw [hsA]
    simp only [List.foldl]
    simp only [Act.put,List.setIfInBounds_toArray,List.set_cons_succ,List.set_cons_zero]
    clear hsA hsx hv hbase hsz hdf hf
    have HLV:Hid (LVt wW w B gMet gm gD gN gV aN Dn.length cN (Value.slice na E.length nc).ownBlock N (.slice none 0 0) [] (.slice ya (N ++ [(⟨f,none,0,0⟩:NV)]).length yc) (N ++ [(⟨f,none,0,0⟩:NV)]) (E ++ [⟨f,[]⟩]) (Mt ++ [i]) wz2):=⟨HL2.out.bst,HL2.out.bl,HL2.out.fr,HL2.out.nr,HL2.out.ex,OwnG.nil _ _ _,fun x _ g _ e=>by cases e⟩
    have hcN2:=cells1 HL2.out.bst.bx.nn
    have hcA2:=(HL2.out.bl.cell (p:=⟨bN,oN+i*2+1,none⟩) (by show bN<B;omega)).trans HF1.out
    have HOK1:=Lib.hid (HOK.out.snoc hi HP.out (⟨f,[]⟩:Nd))
    go_wp2_with fail
    go_loopw [41,10] (fun s41 s10 wr=>∃ (k:Nat) (A:List Ar) (vA vE:Value) (N':List NV) (E':List Nd) (Mt':List Nat),s41=.int .i64 (k:Int)∧k≤X.length∧vA=s10∧LVt wW w B gMet gm gD gN gV aN Dn.length cN (Value.slice na E.length nc).ownBlock N vA A vE N' E' Mt' wr ∧
     armsV (numV Dn m) (X.drop k) A Mt' E'=FA∧VOk Dn Mt' E'∧E.length<E'.length∧E'[E.length]? = some ⟨f,[]⟩∧A.length≤k) (fun s41 _ _=>X.length - (intOf s41).toNat)
    case atStart=>exact ⟨0,[],.slice none 0 0,_,_,_,_,rfl,Nat.zero_le _,rfl,HLV.out,HFA.out,HOK1.out,by simp,by simp,Nat.le_refl _⟩
    case round =>
     obtain ⟨k,A,vA,vE,N',E',Mt',rfl,hk,rfl,hlv,harm,hvok,hlenE,hEn,hAk⟩:=hrel
     have HLV':=Lib.hid hlv;have HARM:=Lib.hid harm;have HVOK:=Lib.hid hvok;have HEN:=Lib.hid hEn
     clear hlv harm hvok hEn
     by_cases hkX:k<X.length
     ·
      obtain ⟨
          b3,o3,ha3,hb3,q0,q1⟩:=HXS.out.at hkX
      have hidx3:=idx_arcs aa b3 o3 X.length cc k ha3 hkX
      have hxd:=HXD.out X[k] (List.getElem_mem hkX)
      obtain ⟨x,hx⟩:∃ x,X[k]=x:=⟨_,rfl⟩
      have HXK0:=Lib.hid hx
      rw [hx] at q0 q1 hxd
      obtain ⟨xc,xt⟩:=x
      simp only at q0 q1 hxd
      obtain ⟨tn,rfl⟩:=Int.eq_ofNat_of_zero_le hxd.1
      have htn:tn<i:=by omega
      have HXK:Hid (X[k]=⟨xc,(tn:Int)⟩):=HXK0.out
      have c0:=(HLV'.out.bl.cell (p:=⟨b3,o3+k*2,none⟩) (by show b3<B;omega)).trans q0
      have c1:=(HLV'.out.bl.cell (p:=⟨b3,o3+k*2+1,none⟩) (by show b3<B;omega)).trans q1
      clear ha3 hx HXK0 q0 q1 hxd
      obtain ⟨qi,qM,qE,hq⟩:∃ qi qM qE,numV Dn m tn Mt' E'=(qi,qM,qE):=⟨_,_,_,rfl⟩
      have HQ:=Lib.hid hq
      have hvok2:=numV_ok HDOWN.out m tn Mt' E' (by omega) (by omega) HVOK.out
      rw [hq] at hvok2
      have HVOK2:=Lib.hid hvok2
      have hbg:=numV_begins Dn m tn Mt' E'
      rw [hq] at hbg
      have HBG:Hid (E.length<qE.length∧qE[E.length]? = some ⟨f,[]⟩):=⟨Nat.lt_of_lt_of_le hlenE hbg.1,(hbg.2 _ hlenE).trans HEN.out⟩
      clear hq hvok2 hbg
      go_upto_region 11 with fail
      obtain ⟨wy,hwy⟩:∃ wy,wy=wr.alloc (.cells #[.int .u8 xc,.int .i64 (tn:Int)] 72):=⟨_,rfl⟩
      have hwb:Below wr.heap.size wr wy:=by rw [hwy];exact (Below.refl _ _).alloc (Nat.le_refl _) _
      have HVB:Hid (wy.heap[wr.heap.size]? = some (.cells #[.int .u8 xc,.int .i64 (tn:Int)] 72 (0,0))):=by show _=_;rw [hwy];exact heap_alloc_new _ _
      have HLY:=Lib.hid (HLV'.out.ext hwb)
      have HNE:Hid (vA.ownBlock≠some wr.heap.size):=fun e=>by have:=HLV'.out.own.lt _ e;omega
      rw [← hwy]
      clear hwy hwb
      refine wp_region_st (by kernel_rfl) (Vs [vq (vA),vq (.pointer (some ⟨wr.heap.size,0,none⟩)),vq (.int .u8 xc),vq (.func (.func 26) #[] #[.pointer (some ⟨gMet,0,none⟩),.pointer (some ⟨gD,0,none⟩),.pointer (some ⟨gN,0,none⟩),.pointer (some ⟨gV,0,none⟩)]),vq (.pointer (some ⟨wr.heap.size,1,none⟩)),vq (.int .i64 (tn:Int)),vq (.int .i64 (qi:Int)),vq (.agg #[.int .u8 xc,.int .i64 (qi:Int)]),RowArc1 vA (⟨xc,(qi:Int)⟩:Ar),VV54 wW w B gMet gm gD gN gV aN Dn.length cN (Value.slice na E.length nc).ownBlock N (A ++ [(⟨xc,(qi:Int)⟩:Ar)]) qE qM,VV54 wW w B gMet gm gD gN gV aN Dn.length cN (Value.slice na E.length nc).ownBlock N (A ++ [(⟨xc,(qi:Int)⟩:Ar)]) qE qM]) (Xs [Ext,Ext,Ext,Ext,Ext,Ext,(fun _ _=>True),Ext,Ext,(fun w w'=>w.grownBy w' vA.ownBlock),Ext]) (fun fL=>(fun b1 b2 W=>VT3 wW w B gMet gm gD gN gV aN Dn.length cN (Value.slice na E.length nc).ownBlock N vA A vE N' E' qE Mt' qM b1 b2 W∧W.heap[wr.heap.size]? = some (.cells #[.int .u8 xc,.int .i64 (tn:Int)] 72 (0,0))) (fL 6) (fL 9)) [0,0,2,0,0,16,56,126,254,511,1023] 62 11 (by kernel_rfl) rfl ?hV ?hS ?hop ?hfin ?hlast
      case hV =>
       refine xs_stays (vs_stays (by simp only [List.mem_cons,List.not_mem_nil,or_false,forall_eq_or_imp,forall_eq];exact ⟨stays_const _,stays_const _,stays_const _,stays_const _,stays_const _,stays_const _,stays_const _,stays_const _,rowArc1_stays _ _,vv54_stays,vv54_stays⟩)) ?_
       exact ⟨.inl rfl,.inl rfl,.inl rfl,.inl rfl,.inl rfl,.inl rfl,.inr (staysM_all ⟨fun _ _=>fun _ _ _ h _=>h,fun _ _=>fun _ _ _ h _=>h,fun _ _=>fun _ _ _ h _=>h,fun _ _=>fun _ _ _ h _=>h,fun _ _=>fun _ _ _ h _=>h,fun _ _=>fun _ _ _ h _=>h,fun h=>absurd rfl h,fun _ h=>absurd h (by decide),fun _ h=>absurd h (by decide),fun _ h=>absurd h (by decide),fun _ h=>absurd h (by decide),trivial⟩),.inl rfl,.inl rfl,.inr (staysM_all ⟨fun _ _=>fun _ _ _ h _=>h,fun _ _=>fun _ _ _ h _=>h,fun _ _=>fun _ _ _ h _=>h,fun _ _=>fun _ _ _ h _=>h,fun _ _=>fun _ _ _ h _=>h,fun _ _=>fun _ _ _ h _=>h,fun _ _=>fun _ _ _ h _=>h,fun _ _=>fun _ _ _ h _=>h,fun _ _=>rowArc1_grown _ _,fun h=>absurd rfl h,fun _ h=>absurd h (by decide),trivial⟩),.inl rfl,trivial⟩
      case hS =>
       intro fL hf
       show (fun b1 b2 W=>VT3 wW w B gMet gm gD gN gV aN Dn.length cN (Value.slice na E.length nc).ownBlock N vA A vE N' E' qE Mt' qM b1 b2 W∧W.heap[wr.heap.size]? = some (.cells #[.int .u8 xc,.int .i64 (tn:Int)] 72 (0,0))) (fL 6) (fL 9) _
       rw [hf 6 (by decide),hf 9 (by decide)]
       exact ⟨VT3.ext false false _ _ HLY.out ⟨rfl,rfl,rfl,Nat.le_refl _,fun _ _=>rfl⟩,HVB.out⟩
      case hop =>
       refine ⟨?_,?_,?_,?c3,?_,?_,?c6,?_,?c8,?c9,?c10,trivial⟩
       all_goals first | rw [if_neg (by decide)] | rw [if_pos (by decide)]
       all_goals try intro ac W fL hsz hfi hms hdn hS0 hdep hbase hund
       all_goals try have hS:(fun b1 b2 W=>VT3 wW w B gMet gm gD gN gV aN Dn.length cN (Value.slice na E.length nc).ownBlock N vA A vE N' E' qE Mt' qM b1 b2 W∧W.heap[wr.heap.size]? = some (.cells #[.int .u8 xc,.int .i64 (tn:Int)] 72 (0,0))) (fL 6) (fL 9) W:=hS0
       all_goals try (have hfl6:fL 6=true:=hms 6 (by decide);rw [hfl6] at hS)
       all_goals try (have hfl6:fL 6=false:=(by first | exact hfi | exact hdn 6 (by decide) (by decide));rw [hfl6] at hS)
       all_goals try (have hfl9:fL 9=true:=hms 9 (by decide);rw [hfl9] at hS)
       all_goals try (have hfl9:fL 9=false:=(by first | exact hfi | exact hdn 9 (by decide) (by decide));rw [hfl9] at hS)
       all_goals try (
        have hvb:=hS.2
        obtain ⟨vb0',vb1'⟩:=cells2 hvb
        clear hvb)
       all_goals try (have h10:ac.tmps.getD 10 undef=vA:=hund 10 10 (by decide) (hdn 10 (by decide) (by decide)) rfl;have hh10:=h10;rw [Array.getD_eq_getD_getElem?] at hh10)
       all_goals try have hh12:=gdA ac 12 (.pointer (some ⟨wr.heap.size,0,none⟩)) (hbase 12 (by kernel_rfl))
       all_goals try (have h4:ac.tmps.getD 4 undef=.pointer (some ⟨gV,0,none⟩):=hbase 4 (by kernel_rfl);have hh4:=h4;rw [Array.getD_eq_getD_getElem?] at hh4)
       all_goals try (have d45:ac.tmps.getD 45 undef=vA:=hdep 0 (by decide);have dd45:=d45;rw [Array.getD_eq_getD_getElem?] at dd45)
       all_goals try have d53:(RowArc1 vA (⟨xc,(qi:Int)⟩:Ar)) (ac.tmps.getD 53 undef) W:=hdep 8 (by decide)
       all_goals try have d54:(VV54 wW w B gMet gm gD gN gV aN Dn.length cN (Value.slice na E.length nc).ownBlock N (A ++ [(⟨xc,(qi:Int)⟩:Ar)]) qE qM) (ac.tmps.getD 54 undef) W:=hdep 9 (by decide)
       all_goals try (have hdep:=depL hdep;simp [DepL,slotOf,vq] at hdep)
       all_goals try clear hbase hms hdn hund
       case c3 =>
        have hS1:(fun b1 b2 W=>VT3 wW w B gMet gm gD gN gV aN Dn.length cN (Value.slice na E.length nc).ownBlock N vA A vE N' E' qE Mt' qM b1 b2 W∧W.heap[wr.heap.size]? = some (.cells #[.int .u8 xc,.int .i64 (tn:Int)] 72 (0,0))) ((upd fL 3) 6) ((upd fL 3) 9) W:=hS0
        have hvv:=cells1 (VT3.some hS.1).1.vv
        unfold VFn at hvv
        refine opOk_run rfl (.inl ⟨_,W,?_,rfl,Ext.refl _,hS1⟩)
        clear hsz hS hS0 hS1 hfi;simp [go_sem,Act.eval, *]
       case c6 =>
        have hlt51:LVt wW w B gMet gm gD gN gV aN Dn.length cN (Value.slice na E.length nc).ownBlock N vA A vE N' E' Mt' W:=hS.1
        have hc51:=IH.out tn Mt' E' vE N' W (by omega) (by omega) HVOK.out hlt51.bst hlt51.bl
        rw [HQ.out] at hc51
        refine opOk_run rfl (.inr ⟨26,#[.int .i64 (tn:Int),.pointer (some ⟨gMet,0,none⟩),.pointer (some ⟨gD,0,none⟩),.pointer (some ⟨gN,0,none⟩),.pointer (some ⟨gV,0,none⟩)],W,by (clear hsz hS hS0 hfi hc51 hlt51;simp [go_sem,Act.eval, *]),?_⟩)
        refine hc51.mono ?_
        clear hc51
        rintro e w' hp
        obtain ⟨he,v2,N2,hl2⟩:=hlt51.called hp
        refine ⟨_,he,rfl,trivial,?_⟩
        have hbk:w'.heap[wr.heap.size]? = W.heap[wr.heap.size]?:=by
         obtain ⟨_,_,_,h4,h5⟩:=hlt51.bst.apartT hS.2 (by decide)
         obtain ⟨_,v3,N3,hp3⟩:=hp
         exact hp3.fr.block _ (Array.getElem?_eq_some_iff.1 hS.2).1 h4 h5 (fun e=>by
          obtain ⟨cs2,hc2⟩:=hlt51.bst.own.obj e
          have hc3:=hS.2
          rw [hc2] at hc3
          injection hc3 with hc3;injection hc3 with _ h6;cases h6)
        refine ⟨?_,hbk.trans hS.2⟩
        show VT3 wW w B gMet gm gD gN gV aN Dn.length cN (Value.slice na E.length nc).ownBlock N vA A vE N' E' qE Mt' qM (upd fL 6 6) (upd fL 6 9) w'
        rw [show upd fL 6 6=true from if_pos rfl,show upd fL 6 9=fL 9 from if_neg (by decide),show fL 9=false from hfl9]
        exact ⟨v2,N2,hl2⟩
       case c8 =>
        have hS1:(fun b1 b2 W=>VT3 wW w B gMet gm gD gN gV aN Dn.length cN (Value.slice na E.length nc).ownBlock N vA A vE N' E' qE Mt' qM b1 b2 W∧W.heap[wr.heap.size]? = some (.cells #[.int .u8 xc,.int .i64 (tn:Int)] 72 (0,0))) ((upd fL 8) 6) ((upd fL 8) 9) W:=hS0
        have hlt62:vA.ownBlock≠some W.heap.size:=fun e=>by
         have:=(VT3.some hS.1).2.2.lt _ e;omega
        refine opOk_run rfl (.inl ⟨.slice (some ⟨W.heap.size,0,none⟩) 1 1,W.alloc (.cells #[.int .u8 xc,.int .i64 (qi:Int)] 72),?_,⟨_,rfl,heap_alloc_new _ _,hlt62⟩,(Below.refl _ _).alloc (Nat.le_refl _) _,(show (fun b1 b2 W=>VT3 wW w B gMet gm gD gN gV aN Dn.length cN (Value.slice na E.length nc).ownBlock N vA A vE N' E' qE Mt' qM b1 b2 W∧W.heap[wr.heap.size]? = some (.cells #[.int .u8 xc,.int .i64 (tn:Int)] 72 (0,0))) ((upd fL 8) 6) ((upd fL 8) 9) _ by
         rw [show upd fL 8 6=fL 6 from if_neg (by decide),show upd fL 8 9=fL 9 from if_neg (by decide)]
         exact ⟨VT3.ext _ _ _ _ hS0.1 ((Below.refl _ _).alloc (Nat.le_refl _) _),(Below.heap_alloc _ _ _ (Array.getElem?_eq_some_iff.1 hS0.2).1).trans hS0.2⟩)⟩)
        clear hsz hS hS0 hS1 hfi;simp [go_sem,Act.eval, *]
       case c9 =>
        obtain ⟨g62,e62,hg62,hn62⟩:=d53
        obtain ⟨⟨v2,N2,hl2⟩,hbk⟩:=hS
        refine opOk_run rfl ((opres_append_g rowArc_ok (.tmp 45) (.tmp 53) rfl (eval_tmp d45) hl2.own ⟨g62,0,none⟩ 1 [(⟨xc,(qi:Int)⟩:Ar)] (eval_tmp e62) (cells_built hg62) (by simp only [List.length_singleton];omega) hl2.fr.size).mono ?_)
        rintro va w' ⟨ho,hgr,hat⟩
        have hl3:=hl2.app HBS.out hgr
        refine ⟨⟨v2,N2,hl3.bst,hl3.bl,hl3.fr,hl3.nr,hl3.ex,ho,fun y hy g hg e=>?_⟩,hgr,?_⟩
        ·
         rcases hat with h1 | h1
         · rw [h1] at e;exact hl2.apart y hy g hg e
         ·
          rw [h1] at e
          injection e with e
          have:=(hl2.bst.rows_lt y hy g hg).1;omega
        ·
         refine ⟨?_,(hgr.block _ (Array.getElem?_eq_some_iff.1 hbk).1 (fun e=>HNE.out e.symm)).trans hbk⟩
         show VT3 wW w B gMet gm gD gN gV aN Dn.length cN (Value.slice na E.length nc).ownBlock N vA A vE N' E' qE Mt' qM (upd fL 9 6) (upd fL 9 9) w'
         rw [show upd fL 9 9=true from if_pos rfl,show upd fL 9 6=fL 6 from if_neg (by decide),hfl6]
         trivial
       case c10 =>
        have hS1:(fun b1 b2 W=>VT3 wW w B gMet gm gD gN gV aN Dn.length cN (Value.slice na E.length nc).ownBlock N vA A vE N' E' qE Mt' qM b1 b2 W∧W.heap[wr.heap.size]? = some (.cells #[.int .u8 xc,.int .i64 (tn:Int)] 72 (0,0))) ((upd fL 10) 6) ((upd fL 10) 9) W:=hS0
        have h10:VV54 wW w B gMet gm gD gN gV aN Dn.length cN (Value.slice na E.length nc).ownBlock N (A ++ [(⟨xc,(qi:Int)⟩:Ar)]) qE qM (ac.tmps.getD 54 undef) W:=d54
        rw [Array.getD_eq_getD_getElem?] at h10
        refine opOk_run rfl (.inl ⟨_,W,?_,h10,Ext.refl _,hS1⟩)
        clear hsz hS hS0 hS1 hfi h10;simp [go_sem,Act.eval, *]
       all_goals (refine opOk_run rfl (.inl ⟨_,W,?_,rfl,Ext.refl _,hS0⟩);clear hsz hS hS0 hfi;simp [go_sem,Act.eval, *];done)
      case hlast =>
       intro h;exact absurd rfl h
      case hfin =>
       intro _ ac W hsz hdf fL hf hS0 hv hbase
       have hS:(fun b1 b2 W=>VT3 wW w B gMet gm gD gN gV aN Dn.length cN (Value.slice na E.length nc).ownBlock N vA A vE N' E' qE Mt' qM b1 b2 W∧W.heap[wr.heap.size]? = some (.cells #[.int .u8 xc,.int .i64 (tn:Int)] 72 (0,0))) (fL 6) (fL 9) W:=hS0
       clear hS0
       rw [hf 6 (by decide),hf 9 (by decide)] at hS
       obtain ⟨sx,hsx,hsA⟩:=act_puts [45,46,47,48,49,50,51,52,53,54,10] (by kernel_rfl) hsz hdf hbase
       have hr10:VV54 wW w B gMet gm gD gN gV aN Dn.length cN (Value.slice na E.length nc).ownBlock N (A ++ [(⟨xc,(qi:Int)⟩:Ar)]) qE qM (sx 10) W:=by rw [hsx 10];exact hv 10 (by decide)
       obtain ⟨v2,N2,hl2⟩:=hr10
       have HL3:=Lib.hid hl2
       clear hl2 hS
       rw [hsA]
       simp only [List.foldl]
       simp only [Act.put,List.setIfInBounds_toArray,List.set_cons_succ,List.set_cons_zero]
       clear hsA hsx hv hbase hsz hdf hf
       obtain ⟨va,hva⟩:∃ va,sx 10=va:=⟨_,rfl⟩
       rw [hva] at HL3 ⊢
       clear hva
       have hA2:armsV (numV Dn m) (X.drop (k+1)) (A ++ [(⟨xc,(qi:Int)⟩:Ar)]) qM qE=FA:=by
        have h:=HARM.out
        rw [List.drop_eq_getElem_cons hkX,HXK.out,armsV] at h
        simp only [Int.toNat_natCast] at h
        rw [HQ.out] at h
        exact h
       have HA2:=Lib.hid hA2
       clear hA2
       go_wp2_with fail
       go_roundw
       case rel=>exact ⟨k+1,_,va,v2,N2,qE,qM,by go_num,by omega,rfl,HL3.out,HA2.out,HVOK2.out,HBG.out.1,HBG.out.2,by rw [List.length_append];simp;omega⟩
       case measure=>simp [intOf];omega
     ·
      obtain rfl:k=X.length:=by omega
      have harm:=HARM.out
      rw [List.drop_length,armsV] at harm
      obtain ⟨a4,c4,rfl, -, -⟩:=HLV'.out.own.form
      have hNE:=HLV'.out.bst.len
      have hlvv:=HLV'.out
      rcases hlvv.bst.own.blk with ⟨_,h0⟩ | ⟨g4,c5,h0, -, -, -⟩
      · exfalso;rw [h0] at hNE;simp at hNE;omega
      rw [h0] at hlvv
      have hN0:=HST.out.len
      obtain ⟨N5,hl5⟩:=hlvv.done hBs hN0 (by omega) HEN.out
      have HL5:=Lib.hid hl5
      have hcd:=cells1 hlvv.bst.dd
      have hlt5:E.length<N'.length:=by rw [hNE];exact hlenE
      have hcell:wr.cell? ⟨g4,E.length*2+1,none⟩=some (.slice N'[E.length].a N'[E.length].n N'[E.length].c):=hlvv.bst.own.cell rowNode_ok (i:=E.length) (j:=1) hlt5 (by decide)
      have hfz5:wr.frozen? ⟨g4,E.length*2+1,none⟩=false:=by
       obtain ⟨cs,hcs⟩:=hlvv.bst.own.obj (g:=g4) rfl
       simp [World.frozen?,hcs]
      have hidx5:=idx_nodes _ g4 0 N'.length c5 E.length rfl hlt5
      simp only [Nat.zero_add] at hidx5
      have HHN:=Lib.hid hNE;have HHM:=Lib.hid harm
      clear harm hNE hl5 hlvv h0 hN0
      go_wp2_with fail
      go_ret
      rw [numV,if_neg HP.out,HGI.out]
      simp only
      rw [HFA.out,← HHM.out]
      exact ⟨rfl,_,_,HL5.out⟩
end Go.Proofs.YthjmdgejnakcmaaDoor
namespace Go.Proofs.YthjmdgejnakcmaaDoor
open Go.RowKit Go.WideShapes
set_option linter.unusedVariables false
set_option linter.unusedSimpArgs false
def OwnD (w:World) (B:Nat) (v:Value) (D:List Nd):Prop:=∃ N:List NV,OwnG rowNode w B v N∧N.length=D.length∧∀ k (h:k<N.length) (h2:k<D.length),N[k].fin=D[k].fin∧OwnG rowArc w B (.slice N[k].a N[k].n N[k].c) D[k].arcs
theorem OwnD.dawg {w:World} {B:Nat} {v:Value} {D:List Nd} (h:OwnD w B v D) (hl:∀ i (h:i<D.length),D[i].arcs.length≤1000):∃ a c,v=.slice a D.length c∧D.length≤c∧DawgS w a D:=by
 obtain ⟨N,ho,hn,ha⟩:=h
 rcases ho.blk with ⟨rfl,h0⟩ | ⟨g,c,rfl,h1,h2,h3⟩
 ·
  have:D=[]:=List.eq_nil_of_length_eq_zero (by rw [← hn,h0];rfl)
  subst this
  exact ⟨none,0,rfl,Nat.le_refl _,DawgS.nil _ _⟩
 ·
  refine ⟨some ⟨g,0,none⟩,c,by rw [hn],by omega,fun k hk=>?_⟩
  have hkN:k<N.length:=by omega
  obtain ⟨hf,hr⟩:=ha k hkN hk
  have c0:w.cell? ⟨g,k*2,none⟩=some (.bool N[k].fin):=ho.cell rowNode_ok (i:=k) (j:=0) hkN (by decide)
  have c1:w.cell? ⟨g,k*2+1,none⟩=some (.slice N[k].a N[k].n N[k].c):=ho.cell rowNode_ok (i:=k) (j:=1) hkN (by decide)
  obtain ⟨hA,hl2,_⟩:=hr.arcs
  have hk1:=hl k hk
  refine ⟨g,0,rfl,h2,by rw [Nat.zero_add,c0,hf],N[k].a,N[k].c,by rw [Nat.zero_add,c1,hl2],by omega,hA⟩
theorem VOk.nil (Dn:List Nd):VOk Dn [] []:=⟨rfl,List.nodup_nil,fun j hj=>by cases hj⟩
def w5 (w:World) (vN:Value):World:=((((w.alloc (Obj.cells #[vN] 38)).alloc (Obj.cells #[Value.slice none 0 0] 38)).alloc (Obj.map #[] 0)).alloc (Obj.cells #[Value.map (some (w.heap.size+1+1))] 75)).alloc
 (Obj.cells #[VFn (w.heap.size+1+1+1) (w.heap.size+1) w.heap.size (w.heap.size+1+1+1+1)] 76)
theorem w5_below (w:World) (vN:Value):Below w.heap.size w (w5 w vN):=by
 have e:∀ (wx:World) (o:Obj),w.heap.size≤wx.heap.size→Below w.heap.size w wx→Below w.heap.size w (wx.alloc o):=fun wx o h hb=>hb.alloc h _
 unfold w5
 iterate 5 refine e _ _ (by first | omega | (simp only [World.size_alloc];omega)) ?_
 exact Below.refl _ _
theorem skip {w:World} {o:Obj} {g:Nat} {x:Option Obj} (h:g<w.heap.size) (hx:w.heap[g]? = x):(w.alloc o).heap[g]? = x:=(Below.heap_alloc _ _ _ h).trans hx
theorem w5_st (w:World) (aN:Option Addr) (nN cN:Nat):VSt (w5 w (.slice aN nN cN)) w.heap.size (w.heap.size+1+1+1) (w.heap.size+1+1) (w.heap.size+1) w.heap.size (w.heap.size+1+1+1+1) aN nN cN (.slice none 0 0) [] [] []:=by
 refine ⟨⟨⟨?_,?_,?_⟩,?_,rfl,fun k h=>by simp at h,?_,by omega,by omega,by omega⟩,OwnG.nil _ _ _⟩
 all_goals unfold w5
 ·
  refine skip (by simp only [World.size_alloc];omega) ?_
  have h:=heap_alloc_new (((w.alloc (Obj.cells #[.slice aN nN cN] 38)).alloc (Obj.cells #[Value.slice none 0 0] 38)).alloc (Obj.map #[] 0)) (Obj.cells #[Value.map (some (w.heap.size+1+1))] 75)
  simp only [World.size_alloc] at h
  exact h
 ·
  iterate 4 refine skip (by simp only [World.size_alloc];omega) ?_
  exact heap_alloc_new _ _
 ·
  have h:=heap_alloc_new ((((w.alloc (Obj.cells #[.slice aN nN cN] 38)).alloc (Obj.cells #[Value.slice none 0 0] 38)).alloc (Obj.map #[] 0)).alloc (Obj.cells #[Value.map (some (w.heap.size+1+1))] 75)) (Obj.cells #[VFn (w.heap.size+1+1+1) (w.heap.size+1) w.heap.size (w.heap.size+1+1+1+1)] 76)
  simp only [World.size_alloc] at h
  exact h
 ·
  iterate 3 refine skip (by simp only [World.size_alloc];omega) ?_
  have h:=heap_alloc_new (w.alloc (Obj.cells #[.slice aN nN cN] 38)) (Obj.cells #[Value.slice none 0 0] 38)
  simp only [World.size_alloc] at h
  exact h
 ·
  have h:=MapI.new ((w.alloc (Obj.cells #[Value.slice aN nN cN] 38)).alloc (Obj.cells #[Value.slice none 0 0] 38))
  simp only [World.size_alloc] at h
  refine h.kept ?_
  iterate 2 refine skip (by simp only [World.size_alloc];omega) ?_
  rfl
set_option maxHeartbeats 800000 in
theorem numbered_any (Dn:List Nd) (s:Nat) (aN:Option Addr) (cN:Nat) (w:World) (hDn:DawgS w aN Dn) (hDl:Dn.length≤500000) (hDown:Down Dn) (hAl:∀ i (h:i<Dn.length),Dn[i].arcs.length≤1000) (hs:s<Dn.length) :
  Calls Tryd.prog 18 #[.slice aN Dn.length cN,.int .i64 (s:Int)] w fun e w'=>∃ v,e=.returned v∧OwnD w' w.heap.size v (numV Dn (s+1) s [] []).2.2∧Below w.heap.size w w':=by
 have HV:=Lib.hid (visit_any w w.heap.size (w.heap.size+1+1+1) (w.heap.size+1+1) (w.heap.size+1) w.heap.size (w.heap.size+1+1+1+1) aN cN Dn (Nat.le_refl _) hDn hDl hDown hAl (s+1) s [] [] (.slice none 0 0) [] (w5 w (.slice aN Dn.length cN)) hs (Nat.lt_succ_self _) (VOk.nil _) (w5_st _ _ _ _) (w5_below _ _))
 clear hDn hDown hAl hs
 have hmm:=@run_makeMap Tryd.prog
 have hsf:∀ (fn:Fn) (x y:Array Value) (a:Addr) (m:Mode) (w:World),(store a (.func fn x y) m).run Tryd.prog w=stored Tryd.prog w a (.func fn x y) m:=fun fn x y a m w=>run_store Tryd.prog w a (.func fn x y) m rfl
 go_enter Tryd.func18,Tryd.ntmps18
 go_upto_region 5 with fail
 clear hmm hsf
 change Code.wp _ _ _ _ (w5 w (.slice aN Dn.length cN))
 have hvv:=cells1 (w5_st w aN Dn.length cN).bx.vv
 unfold VFn at hvv
 obtain ⟨wz,hwz⟩:∃ wz,w5 w (.slice aN Dn.length cN)=wz:=⟨_,rfl⟩
 rw [hwz] at HV hvv ⊢
 clear hwz
 go_wp2_with (first
  | (go_at_call 26;refine HV.out.mono ?_;rintro e w6 ⟨rfl,v,N,hl⟩;have hcd:=cells1 hl.bst.dd;have HL:=Lib.hid hl;clear hl))
 go_ret
 refine ⟨v,rfl,⟨N,HL.out.bst.own,HL.out.bst.len,HL.out.bst.arcs⟩,HL.out.bl⟩
end Go.Proofs.YthjmdgejnakcmaaDoor
namespace Go.Proofs.YthjmdgejnakcmaaDoor
set_option linter.unusedVariables false
set_option linter.unusedSimpArgs false
def idxR (Mt:List Rst) (r:Rst):Nat:=Mt.findIdx fun q=>decide (q=r)
def armsC (rec:Rst→List Rst→List Nd→Nat × List Rst × List Nd) (r:Rst):List Nat→List Ar→List Rst→List Nd→List Ar × List Rst × List Nd
 | [],A,Mt,E=>(A,Mt,E)
 | c :: C,A,Mt,E=>if afterL r c=[] then armsC rec r C A Mt E else armsC rec r C (A ++ [⟨(c:Int),((rec (afterL r c) Mt E).1:Nat)⟩]) (rec (afterL r c) Mt E).2.1 (rec (afterL r c) Mt E).2.2
def armsG (rec:Rst→List Rst→List Nd→Nat × List Rst × List Nd):List (Nat × Rst)→List Ar→List Rst→List Nd→List Ar × List Rst × List Nd
 | [],A,Mt,E=>(A,Mt,E)
 | g :: G,A,Mt,E=>armsG rec G (A ++ [⟨(g.1:Int),((rec g.2 Mt E).1:Nat)⟩]) (rec g.2 Mt E).2.1 (rec g.2 Mt E).2.2
def
  refV:Nat→Rst→List Rst→List Nd→Nat × List Rst × List Nd
 | 0,_,Mt,E=>(0,Mt,E)
 | m+1,r,Mt,E=>if idxR Mt r<Mt.length then (idxR Mt r,Mt,E) else
  (E.length,(armsC (refV m) r (List.range' 33 94) [] (Mt ++ [r]) (E ++ [⟨false,[]⟩])).2.1,(armsC (refV m) r (List.range' 33 94) [] (Mt ++ [r]) (E ++ [⟨false,[]⟩])).2.2.set E.length ⟨finR r,(armsC (refV m) r (List.range' 33 94) [] (Mt ++ [r]) (E ++ [⟨false,[]⟩])).1⟩)
theorem armsC_G (rec:Rst→List Rst→List Nd→Nat × List Rst × List Nd) (r:Rst):∀ C A Mt E,armsC rec r C A Mt E=armsG rec (C.filterMap fun c=>if afterL r c=[] then none else some (c,afterL r c)) A Mt E
 | [],_,_,_=>rfl
 | c
   :: C,A,Mt,E=>by
  rw [armsC,List.filterMap_cons]
  by_cases h:afterL r c=[]
  · rw [if_pos h,if_pos h];exact armsC_G rec r C _ _ _
  ·
   rw [if_neg h,if_neg h]
   simp only
   rw [armsG];exact armsC_G rec r C _ _ _
def ofF (r:Rst):List Nd:=(refV 21 r [] []).2.2
def SimE (P:List Nat) (E1 E2:List Nd):Prop:=E1.length=E2.length∧∀ k,k ∉ P→E1[k]? = E2[k]?
theorem findIdx_congr {α:Type} {p q:α→Bool}:∀ {l:List α},(∀ x∈l,p x=q x)→l.findIdx p=l.findIdx q
 | [],_=>rfl
 | x :: r,h=>by rw [List.findIdx_cons,List.findIdx_cons,h x (by simp),findIdx_congr fun y hy=>h y (List.mem_cons_of_mem _ hy)]
theorem findIdx_map' {α β:Type} {f:α→β} {p:β→Bool}:∀ {l:List α},(l.map f).findIdx p=l.findIdx fun x=>p (f x)
 | []=>rfl
 | x :: r=>by rw [List.map_cons,List.findIdx_cons,List.findIdx_cons,findIdx_map']
def Rf (R:List Rst) (i:Nat):Rst:=R.getD i []
theorem Rf_at {R:List Rst} {i:Nat} {g:Rst} (h:R[i]? = some g):Rf R i=g:=by rw [Rf,List.getD_eq_getElem?_getD,h];rfl
theorem idx_pos {R:List Rst} (hR:R.Nodup) {Mt:List Nat} (hM:∀ j∈Mt,j<R.length) {i:Nat} (hi:i<R.length):idxR (Mt.map (Rf R)) (Rf R i)=posI Mt i:=by
 unfold idxR posI
 rw [findIdx_map']
 refine findIdx_congr fun j hj=>?_
 have h1:R[j]? = some (Rf R j):=by rw [Rf,List.getD_eq_getElem?_getD,List.getElem?_eq_getElem (hM j hj)];rfl
 have h2:R[i]? = some (Rf R i):=by rw [Rf,List.getD_eq_getElem?_getD,List.getElem?_eq_getElem hi];rfl
 by_cases e:j=i
 · subst e;simp
 ·
  have:Rf R j≠Rf R i:=fun h=>e (nodup_idx hR h1 (by rw [h2,h]))
  simp [e,this]
def SimQ (R:List Rst) (n:Nat) (P:List Nat) (q:Nat × List Nat × List Nd) (q2:Nat × List Rst × List Nd):Prop:=q.1=q2.1∧q.2.1.map (Rf R)=q2.2.1∧SimE P q.2.2 q2.2.2∧∀ j∈q.2.1,j<n
theorem arms_sim {R:List Rst} {n:Nat} {P:List Nat} {rec:Nat→List Nat→List Nd→Nat × List Nat × List Nd} {rec2:Rst→List Rst→List Nd→Nat × List Rst × List Nd} {b:Nat} {G:List (Nat × Rst)} {X:List Ar} (hA:Arcs R b G X)
  (hr:∀ t g Mt E1 E2,t<b→(∃ c,(c,g)∈G)→R[t]? = some g→(∀ j∈Mt,j<n)→SimE P E1 E2→SimQ R n P (rec t Mt E1) (rec2 g (Mt.map (Rf R)) E2)) :
  ∀ A Mt E1 E2,(∀ j∈Mt,j<n)→SimE P E1 E2→(armsV rec X A Mt E1).1=(armsG rec2 G A (Mt.map (Rf R)) E2).1∧(armsV rec X A Mt E1).2.1.map (Rf R)=(armsG rec2 G A (Mt.map (Rf R)) E2).2.1∧SimE P (armsV rec X A Mt E1).2.2 (armsG rec2 G A (Mt.map (Rf R)) E2).2.2∧∀ j∈(armsV rec X A Mt E1).2.1,j<n:=by
 induction hA with
 | nil=>intro A Mt E1 E2 hM hE;exact ⟨rfl,rfl,hE,hM⟩
 | @cons c t g G X h1 h2 h3 _ ih =>
  intro A Mt E1 E2 hM hE
  rw [armsV,armsG]
  simp only [Int.toNat_natCast]
  obtain ⟨k1,k2,k3,k4⟩:=hr t g Mt E1 E2 h2 ⟨c,by simp⟩ h3 hM hE
  have:=ih (fun t g Mt E1 E2 a b=>hr t g Mt E1 E2 a (by obtain ⟨c,b⟩:=b;exact ⟨c,List.mem_cons_of_mem _ b⟩)) (A ++ [⟨(c:Int),((rec t Mt E1).1:Nat)⟩]) _ _ _ k4 k3
  rw [k2,k1] at this
  rw [k1]
  exact this
theorem
    num_sim {D:List Nd} {R:List Rst} (hT:NTab D R):∀ m2 m i Mt E1 E2 P,i<D.length→i<m→(∀ s∈Rf R i,s.length<m2)→(∀ j∈Mt,j<D.length)→SimE P E1 E2 →
  SimQ R D.length P (numV D m i Mt E1) (refV m2 (Rf R i) (Mt.map (Rf R)) E2)
 | 0,m,i,Mt,E1,E2,P,hi,_,hs,_,_=>by
  exfalso
  have hiR:i<R.length:=by rw [hT.len];exact hi
  have h1:Rf R i=R[i]:=Rf_at (List.getElem?_eq_getElem hiR)
  obtain ⟨x,hx⟩:=List.exists_mem_of_ne_nil _ (hT.ok _ (List.getElem_mem hiR)).2.2
  have:=hs x (by rw [h1];exact hx);omega
 | m2+1,0,i,_,_,_,_,_,h,_,_,_=>by omega
 | m2+1,m+1,i,Mt,E1,E2,P,hi,him,hs,hM,hE=>by
  have hiR:i<R.length:=by rw [hT.len];exact hi
  have h1:Rf R i=R[i]:=Rf_at (List.getElem?_eq_getElem hiR)
  rw [numV,refV,idx_pos hT.nodup (by rw [hT.len];exact hM) hiR,List.length_map]
  by_cases h:posI Mt i<Mt.length
  · rw [if_pos h,if_pos h];exact ⟨rfl,rfl,hE,hM⟩
  ·
   rw [if_neg h,if_neg h]
   obtain ⟨n1,n2⟩:=hT.nd i hi hiR
   have hg:D.getD i default=D[i]:=by rw [List.getD_eq_getElem?_getD,List.getElem?_eq_getElem hi];rfl
   rw [hg,armsC_G]
   have hM2:∀ j∈Mt ++ [i],j<D.length:=fun j hj=>by
    rcases List.mem_append.1 hj with hj | hj
    · exact hM j hj
    · obtain rfl:=List.mem_singleton.1 hj;exact hi
   have hE2:SimE (E1.length :: P) (E1 ++ [⟨D[i].fin,[]⟩]) (E2 ++ [⟨false,[]⟩]):=by
    refine ⟨by simp [hE.1],fun k hk=>?_⟩
    simp only [List.mem_cons,not_or] at hk
    by_cases h3:k<E1.length
    · rw [List.getElem?_append_left h3,List.getElem?_append_left (by rw [← hE.1];exact h3)];exact hE.2 k hk.2
    · rw [List.getElem?_eq_none (by simp;omega),List.getElem?_eq_none (by simp [← hE.1];omega)]
   obtain ⟨a1,a2,a3,a4⟩:=arms_sim (n:=D.length) (P:=E1.length :: P) (rec:=numV D m) (rec2:=refV m2) n2 (fun t g Mt E1 E2 ht hg hR hM hE=>by
    have:=num_sim hT m2 m t Mt E1 E2 _ (by omega) (by omega) (by
     rw [Rf_at hR]
     intro s hs2
     obtain ⟨c,hc⟩:=hg
     have h4:=(grp_mem hc).2.2.1
     simp only at h4
     rw [h4] at hs2
     obtain ⟨b,_,h5⟩:=afterL_mem.1 hs2
     have:=hs (b :: s) (by rw [h1];exact h5)
     simp at this;omega) hM hE
    rwa [Rf_at hR] at this) [] (Mt ++ [i]) (E1 ++ [⟨D[i].fin,[]⟩]) (E2 ++ [⟨false,[]⟩]) hM2 hE2
   have hmap:(Mt ++ [i]).map (Rf R)=Mt.map (Rf R) ++ [R[i]]:=by rw [List.map_append,List.map_singleton,h1]
   rw [hmap] at a1 a2 a3
   rw [n1] at a1 a2 a3 a4
   rw [h1]
   have hgr:(List.range' 33 94).filterMap (fun c=>if afterL R[i] c=[] then none else some (c,afterL R[i] c))=grp R[i]:=rfl
   rw [hgr,n1]
   refine ⟨hE.1,a2,⟨by simp only [List.length_set];exact a3.1,fun k hk=>?_⟩,a4⟩
   simp only
   rw [a1,← hE.1]
   by_cases e:k=E1.length
   ·
    subst e
    rw [List.getElem?_set,List.getElem?_set,if_pos rfl,if_pos rfl,a3.1]
   ·
    rw [List.getElem?_set_ne (Ne.symm e),List.getElem?_set_ne (Ne.symm e)]
    exact a3.2 k (by simp only [List.mem_cons,not_or];exact ⟨e,hk⟩)
theorem build_of {L:List ByteArray} (hP:Pre 0 21 L) (hB:BytesB L):(numV (nodeW 21 0 L []).2 ((nodeW 21 0 L []).1+1) (nodeW 21 0 L []).1 [] []).2.2=ofF (restAt 0 L)∧(nodeW 21 0 L []).1<(nodeW 21 0 L []).2.length∧Down (nodeW 21 0 L []).2∧∀ i (h:i<(nodeW 21 0 L []).2.length),(nodeW 21 0 L []).2[i].arcs.length≤1000:=by
 obtain ⟨R,hT,_,hi⟩:=nodeW_tab 21 0 L [] [] hP hB NTab.nil
 have hiR:(nodeW 21 0 L []).1<(nodeW 21 0 L []).2.length:=by rw [← hT.len];exact (List.getElem?_eq_some_iff.1 hi).1
 have h:=num_sim hT 21 ((nodeW 21 0 L []).1+1) (nodeW 21 0 L []).1 [] [] [] [] hiR (Nat.lt_succ_self _) (by
  rw [Rf_at hi]
  intro s hs
  obtain ⟨x,hx,rfl⟩:=List.mem_map.1 hs
  have:=hP.lt x hx
  simpa using this) (fun j hj=>by cases hj) ⟨rfl,fun _ _=>rfl⟩
 refine ⟨?_,hiR,fun i hi=>(hT.down i hi).1,fun i hi=>(hT.down i hi).2⟩
 obtain ⟨_,_,h3,_⟩:=h
 rw [Rf_at hi] at h3
 exact List.ext_getElem? fun k=>h3.2 k (by simp)
end Go.Proofs.YthjmdgejnakcmaaDoor
namespace Go.Proofs.YthjmdgejnakcmaaDoor
set_option linter.unusedVariables false
set_option linter.unusedSimpArgs false
def OkR (r:Rst):Prop:=SortR r∧BytesR r∧r≠[]
def DoneAt (Mt:List Rst) (E:List Nd) (k:Nat):Prop:=∃ r X,Mt[k]? = some r∧E[k]? = some ⟨finR r,X⟩∧Arcs Mt E.length (grp r) X
theorem DoneAt.mono {Mt Mt':List Rst} {E E':List Nd} {k:Nat} (h:DoneAt Mt E k) (hM:Mt <+: Mt') (hl:E.length≤E'.length) (hE:E'[k]? = E[k]?):DoneAt Mt' E' k:=by
 obtain ⟨r,X,h1,h2,h3⟩:=h
 refine ⟨r,X,?_,hE.trans h2,h3.mono hM hl⟩
 obtain ⟨S,rfl⟩:=hM
 rw [List.getElem?_append_left (List.getElem?_eq_some_iff.1 h1).1];exact h1
structure RStep (Mt:List Rst) (E:List Nd) (Mt':List Rst) (E':List Nd):Prop where
 pre:Mt <+: Mt'
 len:Mt'.length=E'.length
 nodup:Mt'.Nodup
 ok:∀ r∈Mt',OkR r
 old:∀ k,k<E.length→E'[k]? = E[k]?
 new:∀ k,E.length≤k→k<E'.length→DoneAt Mt' E' k
theorem RStep.le {Mt Mt':List Rst} {E E':List Nd} (h:RStep Mt E Mt' E') (hl:Mt.length=E.length):E.length≤E'.length:=by
 rw [← h.len,← hl];exact h.pre.length_le
theorem RStep.trans {Mt Mt' Mt2:List Rst} {E E' E2:List Nd} (h:RStep Mt E Mt' E') (hl:Mt.length=E.length) (h2:RStep Mt' E' Mt2 E2):RStep Mt E Mt2 E2:=by
 have h3:=h.le hl
 have h4:=h2.le h.len
 refine ⟨h.pre.trans h2.pre,h2.len,h2.nodup,h2.ok,fun k hk=>(h2.old k (by omega)).trans (h.old k hk),fun k hk hk2=>?_⟩
 by_cases h5:k<E'.length
 · exact (h.new k hk h5).mono h2.pre h4 (h2.old k h5)
 · exact h2.new k (by omega) hk2
theorem OkR.after {r:Rst} (h:OkR r) {c:Nat} (hc:afterL r c≠[]):OkR (afterL r c):=⟨afterL_sort h.1,afterL_bytes h.2.1,hc⟩
theorem armsG_tab {rec:Rst→List Rst→List Nd→Nat × List Rst × List Nd} {m:Nat}
  (hr:∀ r Mt E,Mt.length=E.length→Mt.Nodup→(∀ x∈Mt,OkR x)→OkR r→(∀ s∈r,s.length<m)→RStep Mt E (rec r Mt E).2.1 (rec r Mt E).2.2∧(rec r Mt E).2.1[(rec r Mt E).1]? = some r) :
  ∀
   G A Mt E,Mt.length=E.length→Mt.Nodup→(∀ x∈Mt,OkR x)→(∀ g∈G,OkR g.2∧g.1<256∧∀ s∈g.2,s.length<m) →
   RStep Mt E (armsG rec G A Mt E).2.1 (armsG rec G A Mt E).2.2∧∃ X,(armsG rec G A Mt E).1=A ++ X∧Arcs (armsG rec G A Mt E).2.1 (armsG rec G A Mt E).2.2.length G X
 | [],A,Mt,E,hl,hn,ho,_=>by
  rw [armsG]
  exact ⟨⟨List.prefix_refl _,hl,hn,ho,fun _ _=>rfl,fun k h1 h2=>by simp only at h2;omega⟩,[],by simp,.nil⟩
 | (c,g) :: G,A,Mt,E,hl,hn,ho,hG=>by
  rw [armsG]
  obtain ⟨o1,o2,o3⟩:=hG (c,g) (by simp)
  simp only at o1 o2 o3 ⊢
  obtain ⟨s1,s2⟩:=hr g Mt E hl hn ho o1 o3
  obtain ⟨t1,X,t2,t3⟩:=armsG_tab hr G (A ++ [⟨(c:Int),((rec g Mt E).1:Nat)⟩]) _ _ s1.len s1.nodup s1.ok fun g hg=>hG g (List.mem_cons_of_mem _ hg)
  refine ⟨s1.trans hl t1,_ :: X,by rw [t2,List.append_assoc];rfl,.cons o2 ?_ ?_ t3⟩
  ·
   have:=(List.getElem?_eq_some_iff.1 s2).1
   rw [s1.len] at this
   have:=t1.le s1.len;omega
  ·
   obtain ⟨S,hS⟩:=t1.pre
   rw [← hS,List.getElem?_append_left (List.getElem?_eq_some_iff.1 s2).1];exact s2
theorem idxR_at {Mt:List Rst} {r:Rst} (h:idxR Mt r<Mt.length):Mt[idxR Mt r]? = some r:=by
 rw [List.getElem?_eq_getElem h]
 have:=List.findIdx_getElem (w:=h)
 exact congrArg some (of_decide_eq_true this)
theorem idxR_no {Mt:List Rst} {r:Rst} (h:¬ idxR Mt r<Mt.length):r ∉ Mt:=fun hr=>h (List.findIdx_lt_length_of_exists ⟨r,hr,by simp⟩)
theorem
    refV_tab:∀ m r Mt E,Mt.length=E.length→Mt.Nodup→(∀ x∈Mt,OkR x)→OkR r→(∀ s∈r,s.length<m)→RStep Mt E (refV m r Mt E).2.1 (refV m r Mt E).2.2∧(refV m r Mt E).2.1[(refV m r Mt E).1]? = some r
 | 0,r,Mt,E,hl,hn,ho,hr,hs=>by
  exfalso
  obtain ⟨x,hx⟩:=List.exists_mem_of_ne_nil _ hr.2.2
  have:=hs x hx;omega
 | m
   +
    1,r,Mt,E,hl,hn,ho,hr,hs=>by
  rw [refV,armsC_G]
  by_cases h:idxR Mt r<Mt.length
  ·
   rw [if_pos h]
   exact ⟨⟨List.prefix_refl _,hl,hn,ho,fun _ _=>rfl,fun k h1 h2=>by simp only at h2;omega⟩,idxR_at h⟩
  ·
   rw [if_neg h]
   have hno:=idxR_no h
   have hgr:(List.range' 33 94).filterMap (fun c=>if afterL r c=[] then none else some (c,afterL r c))=grp r:=rfl
   rw [hgr]
   obtain ⟨s1,X,s2,s3⟩:=armsG_tab (rec:=refV m) (m:=m) (refV_tab m) (grp r) [] (Mt ++ [r]) (E ++ [⟨false,[]⟩]) (by simp [hl]) (by
    rw [List.nodup_append]
    exact ⟨hn,by simp,fun a ha b hb e=>by
     obtain rfl:=List.mem_singleton.1 hb
     subst e;exact hno ha⟩) (fun x hx=>by
    rcases List.mem_append.1 hx with hx | hx
    · exact ho x hx
    ·
     obtain rfl:=List.mem_singleton.1 hx;exact hr) fun g hg=>by
     obtain ⟨g1,g2,g3,g4⟩:=grp_mem hg
     refine ⟨by rw [g3];exact hr.after (by rw [← g3];exact g4),by omega,fun s hsg=>?_⟩
     rw [g3] at hsg
     obtain ⟨b,_,h5⟩:=afterL_mem.1 hsg
     have:=hs _ h5
     simp at this;omega
   simp only [List.nil_append] at s2
   obtain ⟨q,hq⟩:∃ q,armsG (refV m) (grp r) [] (Mt ++ [r]) (E ++ [⟨false,[]⟩])=q:=⟨_,rfl⟩
   rw [hq] at s1 s2 s3 ⊢
   have hle:=s1.le (by simp [hl])
   simp at hle
   have hEl:E.length<q.2.2.length:=by omega
   have hat:q.2.1[E.length]? = some r:=by
    obtain ⟨S,hS⟩:=s1.pre
    rw [← hS,List.getElem?_append_left (by simp [hl]),← hl];simp
   refine ⟨⟨(List.prefix_append _ _).trans s1.pre,by rw [List.length_set];exact s1.len,s1.nodup,s1.ok,fun k hk=>?_,fun k hk hk2=>?_⟩,hat⟩
   · rw [List.getElem?_set_ne (by omega),s1.old k (by simp;omega),List.getElem?_append_left hk]
   ·
    by_cases e:k=E.length
    ·
     subst e
     refine ⟨r,X,hat,?_,by rw [List.length_set];exact s3⟩
     rw [List.getElem?_set_self hEl,s2]
    ·
     rw [List.length_set] at hk2
     exact (s1.new k (by simp;omega) hk2).mono (List.prefix_refl _) (by rw [List.length_set];exact Nat.le_refl _) (by rw [List.getElem?_set_ne (Ne.symm e)])
structure GTab (Mt:List Rst) (E:List Nd):Prop where
 len:Mt.length=E.length
 nodup:Mt.Nodup
 ok:∀ r∈Mt,OkR r
 nd:∀ k (h:k<E.length),∃ r,Mt[k]? = some r∧E[k].fin=finR r∧Arcs Mt E.length (grp r) E[k].arcs
theorem of_tab {r:Rst} (hr:OkR r) (hs:∀ s∈r,s.length<21):∃ Mt,GTab Mt (ofF r)∧Mt[0]? = some r:=by
 obtain ⟨h1,h2⟩:=refV_tab 21 r [] [] rfl List.nodup_nil (fun x hx=>by cases hx) hr hs
 refine ⟨_,⟨h1.len,h1.nodup,h1.ok,fun k hk=>?_⟩,?_⟩
 ·
  obtain ⟨q,X,e1,e2,e3⟩:=h1.new k (Nat.zero_le _) hk
  have:(ofF r)[k]=⟨finR q,X⟩:=by
   have h3:=List.getElem?_eq_getElem hk
   rw [show (ofF r)[k]? = some ⟨finR q,X⟩ from e2] at h3
   injection h3 with h3;exact h3.symm
  rw [this]
  exact ⟨q,e1,rfl,e3⟩
 ·
  have h0:(refV 21 r [] []).1=0:=by rw [refV,if_neg (by simp [idxR])];rfl
  rw [h0] at h2;exact h2
def sumG (G:List (Nat × Rst)):Nat:=(G.map fun g=>g.2.length).sum
theorem catG_len:∀ G:List (Nat × Rst),(catG G).length=sumG G
 | []=>rfl
 | g :: G=>by
  have:=catG_len G
  unfold catG sumG at this ⊢
  rw [List.flatMap_cons,List.length_append,this];simp
theorem grp_sum {r:Rst} (h:OkR r):sumG (grp r)≤r.length:=by
 have:=congrArg List.length (recon h.1 h.2.1)
 rw [List.length_append,catG_len] at this;omega
theorem armsG_le {rec:Rst→List Rst→List Nd→Nat × List Rst × List Nd} {k:Nat} (hr:∀ r Mt E,OkR r→(rec r Mt E).2.2.length≤E.length+r.length*k):∀ G A Mt E,(∀ g∈G,OkR g.2)→(armsG rec G A Mt E).2.2.length≤E.length+sumG G*k
 | [],_,_,_,_=>Nat.le_add_right _ _
 | g :: G,A,Mt,E,h=>by
  rw [armsG]
  have h1:=armsG_le hr G (A ++ [⟨(g.1:Int),((rec g.2 Mt E).1:Nat)⟩]) (rec g.2 Mt E).2.1 (rec g.2 Mt E).2.2 fun x hx=>h x (List.mem_cons_of_mem _ hx)
  have h2:=hr g.2 Mt E (h g (by simp))
  have h3:sumG (g :: G)*k=g.2.length*k+sumG G*k:=by rw [← Nat.add_mul];rfl
  omega
theorem
    refV_le:∀ m r Mt E,OkR r→(refV m r Mt E).2.2.length≤E.length+r.length*m
 | 0,_,_,_,_=>Nat.le_add_right _ _
 | m
   +
    1,r,Mt,E,hr=>by
  rw [refV,armsC_G]
  have hgr:(List.range' 33 94).filterMap (fun c=>if afterL r c=[] then none else some (c,afterL r c))=grp r:=rfl
  rw [hgr]
  split
  · exact Nat.le_add_right _ _
  ·
   have h1:=armsG_le (rec:=refV m) (k:=m) (refV_le m) (grp r) [] (Mt ++ [r]) (E ++ [⟨false,[]⟩]) fun g hg=>by
    obtain ⟨g1,g2,g3,g4⟩:=grp_mem hg
    rw [g3];exact hr.after (by rw [← g3];exact g4)
   have h2:sumG (grp r)*m≤r.length*m:=Nat.mul_le_mul_right _ (grp_sum hr)
   have h3:1≤r.length:=by
    cases r with
    | nil=>exact absurd rfl hr.2.2
    | cons=>simp
   have h4:r.length*(m+1)=r.length*m+r.length:=Nat.mul_succ _ _
   simp only [List.length_set]
   simp at h1;omega
theorem ofF_le {r:Rst} (hr:OkR r):(ofF r).length≤r.length*21:=by
 have:=refV_le 21 r [] [] hr
 simpa [ofF] using this
end Go.Proofs.YthjmdgejnakcmaaDoor
namespace Go.Proofs.YthjmdgejnakcmaaDoor
open Go.RowKit Go.WideShapes
set_option linter.unusedVariables false
set_option linter.unusedSimpArgs false
theorem less_trans:∀ {a b c:List UInt8},Op.bytesLess a b=true→Op.bytesLess b c=true→Op.bytesLess a c=true
 | _,[],_,h,_=>by rw [less_nil] at h;cases h
 | _,_ :: _,[],_,h=>by rw [less_nil] at h;cases h
 | [],_ :: _,_ :: _,_,_=>rfl
 | x
   :: a,y :: b,z :: c,h1,h2=>by
  rw [less_cons] at *
  rcases h1 with h1 | ⟨rfl,h1⟩
  ·
   rcases h2 with h2 | ⟨rfl,h2⟩
   · exact .inl (by omega)
   · exact .inl h1
  ·
   rcases h2 with h2 | ⟨rfl,h2⟩
   · exact .inl h2
   · exact .inr ⟨rfl,less_trans h1 h2⟩
theorem ltS_trans {a b c:ByteArray} (h1:ltS a b=true) (h2:ltS b c=true):ltS a c=true:=less_trans h1 h2
theorem pairwise_adj {α:Type} {p:α→α→Prop} (ht:∀ a b c,p a b→p b c→p a c):∀ {L:List α},(∀ i (h:i+1<L.length),p (L[i]'(by omega)) L[i+1])→L.Pairwise p
 | [],_=>.nil
 | [x],_=>by simp
 | x
   :: y :: r,h=>by
  have ih:=pairwise_adj (p:=p) ht (L:=y :: r) (fun i hi=>by
   have h2:=h (i+1) (by simpa using hi)
   simpa using h2)
  have h0:p x y:=h 0 (by simp)
  refine List.pairwise_cons.2 ⟨fun z hz=>?_,ih⟩
  rcases List.mem_cons.1 hz with rfl | hz
  · exact h0
  · exact ht _ _ _ h0 ((List.pairwise_cons.1 ih).1 z hz)
theorem Dict.sorted {L:List ByteArray} (h:Dict L):L.Pairwise fun x y=>ltS x y=true :=
 pairwise_adj (p:=fun x y=>ltS x y=true) (fun _ _ _ h1 h2=>ltS_trans h1 h2) fun i hi=>(h.2.2 (i+1) hi hi).2 (by omega)
theorem Dict.word {L:List ByteArray} (h:Dict L):∀ x∈L,wordB x=true:=fun x hx=>by
 obtain ⟨i,hi,rfl⟩:=List.getElem_of_mem hx
 exact (h.2.2 i hi hi).1
theorem word_facts {x:ByteArray} (h:wordB x=true):1≤x.size∧x.size≤20∧∀ b∈x.data.toList,33≤UInt8.toNat b∧UInt8.toNat b<127:=by
 unfold wordB at h
 simp only [Bool.and_eq_true,decide_eq_true_eq] at h
 refine ⟨h.1,h.2.1,fun b hb=>?_⟩
 have:=List.all_eq_true.1 h.2.2 b hb
 unfold classF at this
 split at this
 · omega
 ·
  split at this
  · omega
  ·
   split at this
   · omega
   · simp at this
theorem Dict.pre {L:List ByteArray} (h:Dict L):Pre 0 21 L∧BytesB L:=by
 refine ⟨⟨fun e=>by have:=h.1;rw [e] at this;simp at this,fun _ _=>Nat.zero_le _,fun x hx=>?_,fun x hx c hc=>?_,fun _ _ _ _=>by simp,h.sorted⟩,fun x hx=>(word_facts (h.word x hx)).2.2⟩
 · have:=(word_facts (h.word x hx)).2.1;omega
 · have:=(word_facts (h.word x hx)).2.2 c hc;omega
theorem Dict.okR {L:List ByteArray} (h:Dict L):OkR (restAt 0 L)∧∀ s∈restAt 0 L,s.length<21:=by
 obtain ⟨hP,hB⟩:=h.pre
 refine ⟨⟨restAt_sort hP.same hP.inc,restAt_bytes hB,fun e=>hP.ne (List.map_eq_nil_iff.1 e)⟩,fun s hs=>?_⟩
 obtain ⟨x,hx,rfl⟩:=List.mem_map.1 hs
 have:=hP.lt x hx
 simpa using this
def buildP (L:List ByteArray) (w:World) (e:Ending) (w':World):Prop :=
 (Dict L∧∃ a c,e=.returned (.tuple #[.slice a (ofF (restAt 0 L)).length c,.int .i64 0])∧(ofF (restAt 0 L)).length≤c∧(ofF (restAt 0 L)).length≤4200∧DawgS w' a (ofF (restAt 0 L))∧Below w.heap.size w w') ∨
 (¬ Dict L∧e=.returned (.tuple #[.slice none 0 0,.int .i64 90])∧Below w.heap.size w w')
set_option maxHeartbeats 800000 in
theorem
    build_any (L:List ByteArray) (n:Nat) (a:Option Addr) (cap:Nat) (w:World) (hR:StrS w a L) (hL:n=L.length) (hn:n≤9223372036854775807) (hc:n≤cap) (hT:Tab w) :
  Calls Tryd.prog 8 #[.slice a n cap] w (buildP L w):=by
 subst hL
 have HR:=Lib.hid hR;have HT:=Lib.hid hT;clear hR hT
 by_cases hd:Dict L
 ·
  have HD:=Lib.hid hd
  have hdb:=dictB_yes hd
  clear hd
  have hmm:=@run_makeMap Tryd.prog
  go_enter Tryd.func8,Tryd.ntmps8
  go_upto_region 4 with (first
   | (go_at_call 16;refine (dictionary_any L _ a cap _ HR.out rfl hn).mono ?_;rintro e w1 ⟨rfl,rfl⟩;rw [hdb]))
  clear hmm
  obtain ⟨b,o,rfl, -, -⟩:=HR.out.at (k:=0) (by have:=HD.out.1;omega)
  obtain ⟨w2,hw2⟩:∃ w2,w2=(w.alloc (Obj.map #[] 0)).alloc (Obj.cells #[Value.slice none 0 0,Value.map (some w.heap.size)] 57):=⟨_,rfl⟩
  have HB2:Hid (Below w.heap.size w w2):=by
   show Below _ _ _
   rw [hw2]
   exact ((Below.refl _ _).alloc (Nat.le_refl _) _).alloc (by simp only [World.size_alloc];omega) _
  have HST:Hid (BSt w2 w.heap.size (w.heap.size+1) w.heap.size (.slice none 0 0) [] []):=by
   show BSt _ _ _ _ _ _ _
   rw [hw2]
   refine ⟨?_,OwnG.nil _ _ _,rfl,fun k h=>by simp at h,?_,by omega,by omega⟩
   ·
    have h:=heap_alloc_new (w.alloc (Obj.map #[] 0)) (Obj.cells #[Value.slice none 0 0,Value.map (some w.heap.size)] 57)
    simp only [World.size_alloc] at h
    exact h
   · refine (MapS.new w).kept (skip (by simp only [World.size_alloc];omega) rfl)
  rw [← hw2]
  clear hw2
  obtain ⟨HP,HBY⟩:Hid (Pre 0 21 L)∧Hid (BytesB L):=HD.out.pre
  obtain ⟨hbo,hb1,hb2,hb3⟩:=build_of HP.out HBY.out
  have hl200:L.length≤200:=HD.out.2.1
  have hdl:=nodeW_le 21 0 L [] HP.out.ne
  have HOKR:=Lib.hid HD.out.okR
  obtain ⟨s0,D0,hq⟩:∃ s0 D0,nodeW 21 0 L []=(s0,D0):=⟨_,_,rfl⟩
  have HNA:=Lib.hid (node_any w w.heap.size (w.heap.size+1) w.heap.size (Nat.le_refl _) HT.out 21 0 L b o cap (.slice none 0 0) [] [] w2 HR.out hc (by omega) HP.out (by omega) (by simp;omega) HST.out HB2.out)
  rw [hq] at hbo hb1 hb2 hb3 hdl HNA
  simp only at hbo hb1 hb2 hb3 hdl
  have HBO:=Lib.hid hbo;have HDN:=Lib.hid hb2;have HAL:=Lib.hid hb3
  have hdl2:D0.length≤4200:=by simp at hdl;omega
  clear hbo hb2 hb3 hq hdl
  go_upto_region 5 with (first
   | (go_at_call 17;refine HNA.out.mono ?_;rintro e w3 ⟨v3,N3,E3,rfl,hb3, -, -,hB3, -, -⟩;have HB3:=Lib.hid hb3;have HW3:=Lib.hid hB3;clear hb3 hB3))
  have hrep:=HB3.out.rep
  obtain ⟨a3,c3,hv3,hc3,hdw⟩:=OwnD.dawg (w:=w3) (B:=w.heap.size) (v:=v3) (D:=D0) ⟨N3,HB3.out.own,HB3.out.len,HB3.out.arcs⟩ HAL.out
  subst hv3
  have HDW:=Lib.hid hdw
  have hr0:w3.cell? ⟨w.heap.size+1,0,none⟩=some (.slice a3 D0.length c3):=by
   rw [cell_of_row _ _ _ _ _ _ hrep];rfl
  clear hrep hdw
  go_wp2_with (first
   | (go_at_call 18;refine (numbered_any D0 s0 a3 c3 w3 HDW.out (by omega) HDN.out HAL.out hb1).mono ?_;rintro e w4 ⟨v4,rfl,ho4,hb4⟩;have HO4:=Lib.hid ho4;have HB4:=Lib.hid hb4;clear ho4 hb4))
  rw [HBO.out] at HO4
  obtain ⟨Mt,hgt, -⟩:=of_tab HOKR.out.1 HOKR.out.2
  obtain ⟨a4,c4,rfl,hc4,hdw4⟩:=HO4.out.dawg fun i hi=>by
   obtain ⟨r,_,_,h3⟩:=hgt.nd i hi
   rw [h3.len];have:=grp_len r;omega
  have hle:=ofF_le HOKR.out.1
  have hln:(restAt 0 L).length=L.length:=by simp [restAt]
  go_ret2
  exact .inl ⟨HD.out,a4,c4,rfl,hc4,by omega,hdw4,HW3.out.trans (HB4.out.mono HW3.out.size)⟩
 ·
  have HD:=Lib.hid hd
  have hdb:=dictB_no hd
  clear hd
  go_enter Tryd.func8,Tryd.ntmps8
  go_wp2_with (first
   | (go_at_call 16;refine (dictionary_any L _ a cap _ HR.out rfl hn).mono ?_;rintro e w1 ⟨rfl,rfl⟩;rw [hdb]))
  go_ret2
  exact .inr ⟨HD.out,rfl,Below.refl _ _⟩
end Go.Proofs.YthjmdgejnakcmaaDoor
