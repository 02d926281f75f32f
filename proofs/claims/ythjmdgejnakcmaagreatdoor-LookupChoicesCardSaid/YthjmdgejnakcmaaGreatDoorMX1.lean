/- What the lifts of the laws need besides. -/
import Derived.WalkKit
import Derived.ProofKit
import Derived.OpenShut
import Derived.ShutString
import Derived.ChangeOld
import Derived.Deep.Slices
import Derived.Test.YthjmdgejnakcmaaGreatDoorMA1
import Derived.Test.YthjmdgejnakcmaaGreatDoorMD1
import Derived.Test.YthjmdgejnakcmaaGreatDoorMD6
import Derived.Deep.Strs
import Derived.Test.YthjmdgejnakcmaaGreatDoorMF4
import Derived.Test.YthjmdgejnakcmaaGreatDoorMF5
import Derived.Test.YthjmdgejnakcmaaGreatDoorMK7
import Derived.Test.YthjmdgejnakcmaaGreatDoorRows
import Derived.Test.YthjmdgejnakcmaaGreatDoorMD2
import Derived.Lib.LaidTab
import Derived.Deep.DeepHandedRow
namespace Go.Proofs.YthjmdgejnakcmaaGreatDoor
set_option linter.unusedVariables false
set_option linter.unusedSimpArgs false
open Go.ChangeShapes Go.WideShapes Go.ChangeAt Go.RowKit
section
variable {H:Type} {enc:TypeId × Value→H} {P:Program} {w:World} {base:Nat} {spare:Nat→Bool} {held:Bool} {fuel:Nat} {cs:List Value} {x:DataW H × List MemPlace}
theorem addr_add (b o n:Nat):(⟨b,o,none⟩:Addr).add n=⟨b,o+n,none⟩:=by
 unfold Addr.add;split <;> simp_all
theorem addr_block (a:Addr) (n:Nat):(a.add n).block=a.block:=by unfold Addr.add;split <;> rfl
theorem addr_off (a:Addr) (n:Nat):(a.add n).off=a.off+n:=by
 unfold Addr.add;split
 · rename_i h;rw [h];rfl
 · rfl
theorem addr_spot (a:Addr) (n:Nat) (h:(a.add n).spot=none):a.add n=⟨a.block,a.off+n,none⟩:=by
 rw [← addr_block a n,← addr_off a n,← h]
theorem args_back (hl:laidOutB P=true) {W W':World} (hb:Below W.heap.size W W'):∀ (ts:List TypeId) (vs:List Value) (ds:List (DataW H)) (ps:List MemPlace),
  (∀ t∈ts,P.readableRec t=true∧t<P.types.size)→DataW.TrodAll enc P W 0 (fun _=>true) true ts vs ds ps→(∀ x∈ps,x.block<W.heap.size) →
   DataW.TrodAll enc P W' 0 (fun b=>decide (b<W.heap.size)) true ts vs ds ps
 | [],[],[],_,_,h,_=>h
 | t :: ts,v :: vs,d :: ds,ps,ht,h,hlt=>by
  obtain ⟨p,q,h0,h1,rfl⟩:=h
  exact ⟨p,q,Below.trod hl (ht t (by simp)).1 (ht t (by simp)).2 h0 hb (fun x hx=>hlt x (by simp [hx])),args_back hl hb ts vs ds q (fun t' h'=>ht t' (by simp [h'])) h1 (fun x hx=>hlt x (by simp [hx])),rfl⟩
 | [],[],_ :: _,_,_,h,_=>h.elim
 | [],_ :: _,_,_,_,h,_=>h.elim
 | _ :: _,[],_,_,_,h,_=>h.elim
 | _ :: _,_ :: _,[],_,_,h,_=>h.elim
theorem trodAll_lt:∀ (ts:List TypeId) (vs:List Value) (ds:List (DataW H)) (ps:List MemPlace),
  DataW.TrodAll enc P w base spare held ts vs ds ps→∀ x∈ps,x.block<w.heap.size
 | [],[],[],_,h,x,hx=>by
  have:_=[]:=h
  subst this;cases hx
 | t :: ts,v :: vs,d :: ds,ps,h,x,hx=>by
  obtain ⟨p,q,⟨m,h0⟩,h1,rfl⟩:=h
  rcases List.mem_append.1 hx with hx | hx
  · exact DataW.trod_lt m _ _ _ h0 x hx
  · exact trodAll_lt ts vs ds q h1 x hx
 | [],[],_ :: _,_,h,_,_=>h.elim
 | [],_ :: _,_,_,h,_,_=>h.elim
 | _ :: _,[],_,_,h,_,_=>h.elim
 | _ :: _,_ :: _,[],_,h,_,_=>h.elim
end
end Go.Proofs.YthjmdgejnakcmaaGreatDoor
namespace Go.Proofs.YthjmdgejnakcmaaGreatDoor
open Go.RowKit Go.WideShapes
set_option linter.unusedVariables false
set_option linter.unusedSimpArgs false
instance:Inhabited BR:=⟨⟨none,0,0,fun _=>0⟩⟩
end Go.Proofs.YthjmdgejnakcmaaGreatDoor
namespace Go.Proofs.YthjmdgejnakcmaaGreatDoor
set_option linter.unusedVariables false
set_option linter.unusedSimpArgs false
open Go.ChangeShapes Go.WideShapes Go.ChangeAt Go.RowKit
section
variable {H:Type} {enc:TypeId × Value→H} {w:World} {base:Nat} {spare:Nat→Bool} {held:Bool} {d:DataW H} {p:List MemPlace} {r:Reach} {b0:Nat} {v:Value}
open Go.Deep in
theorem
    slice_bytes {fuel:Nat} {cs:List Value} {x:DataW H × List MemPlace} (h:DataW.trod enc Tryz.prog w base spare held fuel 26 cs=some x):∃ a len cap Z,cs=[.slice a len cap]∧IsBytes w a len Z∧len≤9223372036854775807:=by
 rcases open_slice1 Tryz.underlying26 (by kernel_rfl) h with ⟨h0,_⟩ | ⟨ad,l,c,m,n,V,D,Pl,h0,hba,hl,hcm,hmm,_,hel⟩
 · exact ⟨none,0,0,fun _=>0,h0,.inl rfl,by omega⟩
 ·
  have hlm:l≤m:=by rw [hmm];split <;> omega
  have hle:l≤9223372036854775807:=by unfold maxLen at hcm;omega
  have key:∀ i,i<l→∃ z,w.cell? (ad.add i)=some (.int .u8 z)∧0≤z∧z≤255:=fun i hi=>by
   obtain ⟨h1,h2⟩:=hel i (by omega)
   obtain ⟨z,hz,_,hw⟩:=DataW.trod_int Tryz.underlying5 h2
   have:V i=.int .u8 z:=List.head_eq_of_cons_eq hz
   rw [this] at h1
   exact ⟨z,h1,bounds_u8 hw⟩
  by_cases h9:l=0
  · exact ⟨some ad,l,c,fun _=>0,h0,.inl h9,hle⟩
  ·
   obtain ⟨Z,hZ⟩:=choose_lt (α:=Int) key
   obtain ⟨b,o,sp⟩:=ad
   have hs:=World.cell?_spot (hZ 0 (by omega)).1
   obtain rfl:sp=none:=by simpa [Addr.add] using hs
   refine ⟨some ⟨b,o,none⟩,l,c,Z,h0,.inr ⟨b,o,rfl,hle,?_,fun i hi=>?_⟩,hle⟩
   ·
    have:=World.block_lt_of_cell? w _ (hZ 0 (by omega)).1
    rwa [addr_block] at this
   ·
    have hk:=hZ i hi
    rw [addr_add] at hk
    exact hk
set_option maxRecDepth 100000 in
theorem open_bytes (hv:Value.okWide Tryz.prog w r b0 26 v) (h:DataW.Trod enc Tryz.prog w base spare held 26 v d p):∃ x:BytA,v=x.val∧BytOk w x:=by
 obtain ⟨a,len,cap,rfl⟩:=okWide_slice Tryz.underlying26 hv
 obtain ⟨f,hf⟩:=h
 have hf2:DataW.trod enc Tryz.prog w base spare held f 26 [.slice a len cap]=some (d,p):=by simpa [Value.cells] using hf
 obtain ⟨a1,l1,c1,Z,h0,h1,h2⟩:=slice_bytes hf2
 cases h0
 exact ⟨⟨a,len,cap,Z⟩,rfl,h1,h2⟩
end
end Go.Proofs.YthjmdgejnakcmaaGreatDoor
namespace Go.Proofs.YthjmdgejnakcmaaGreatDoor.Fl
set_option linter.unusedVariables false
set_option linter.unusedSimpArgs false
open Go.ChangeShapes Go.WideShapes Go.ChangeAt Go.RowKit
instance:Inhabited RR:=⟨⟨none,0,0,none,0,0,0,0,0,fun _=>0,fun _=>0⟩⟩
section
variable {H:Type} {enc:TypeId × Value→H} {w:World} {base:Nat} {spare:Nat→Bool} {held:Bool} {d:DataW H} {p:List MemPlace} {r:Reach} {b0:Nat} {v:Value}
theorem trod_struct5 {P:Program} {t:TypeId} {f0 f1 f2 f3 f4:Field} {fuel:Nat} {cs:List Value} {x:DataW H × List MemPlace} (ht:P.underlying t=some (.struct #[f0,f1,f2,f3,f4])) (h:DataW.trod enc P w base spare held fuel t cs=some x) :
  ∃
   y0 y1 y2 y3 y4 n,cs.length=P.cellsOf t∧DataW.trod enc P w base spare held n f0.type ((cs.drop f0.offset).take (P.cellsOf f0.type))=some y0 ∧
   DataW.trod enc P w base spare held n f1.type ((cs.drop f1.offset).take (P.cellsOf f1.type))=some y1∧DataW.trod enc P w base spare held n f2.type ((cs.drop f2.offset).take (P.cellsOf f2.type))=some y2 ∧
   DataW.trod enc P w base spare held n f3.type ((cs.drop f3.offset).take (P.cellsOf f3.type))=some y3∧DataW.trod enc P w base spare held n f4.type ((cs.drop f4.offset).take (P.cellsOf f4.type))=some y4:=by
 obtain ⟨xs,n,_,rfl,hl,hlen,hf⟩:=DataW.trod_struct ht h
 match xs,hlen with
 | [y0,y1,y2,y3,y4],_=>exact ⟨y0,y1,y2,y3,y4,n,hl,by simpa using hf 0 f0 rfl,by simpa using hf 1 f1 rfl,by simpa using hf 2 f2 rfl,by simpa using hf 3 f3 rfl,by simpa using hf 4 f4 rfl⟩
open Go.Deep in
theorem
    slice_bytes {fuel:Nat} {cs:List Value} {x:DataW H × List MemPlace} (h:DataW.trod enc Tryz.prog w base spare held fuel 26 cs=some x):∃ a len cap Z,cs=[.slice a len cap]∧IsBytes w a len Z:=by
 rcases open_slice1 Tryz.underlying26 (by kernel_rfl) h with ⟨h0,_⟩ | ⟨ad,l,c,m,n,V,D,Pl,h0,hba,hl,hcm,hmm,_,hel⟩
 · exact ⟨none,0,0,fun _=>0,h0,.inl rfl⟩
 ·
  have hlm:l≤m:=by rw [hmm];split <;> omega
  have hle:l≤9223372036854775807:=by unfold maxLen at hcm;omega
  have key:∀ i,i<l→∃ z,w.cell? (ad.add i)=some (.int .u8 z)∧0≤z∧z≤255:=fun i hi=>by
   obtain ⟨h1,h2⟩:=hel i (by omega)
   obtain ⟨z,hz,_,hw⟩:=DataW.trod_int Tryz.underlying5 h2
   have:V i=.int .u8 z:=List.head_eq_of_cons_eq hz
   rw [this] at h1
   exact ⟨z,h1,bounds_u8 hw⟩
  by_cases h9:l=0
  · exact ⟨some ad,l,c,fun _=>0,h0,.inl h9⟩
  ·
   obtain ⟨Z,hZ⟩:=choose_lt (α:=Int) key
   obtain ⟨b,o,sp⟩:=ad
   have hs:=World.cell?_spot (hZ 0 (by omega)).1
   obtain rfl:sp=none:=by simpa [Addr.add] using hs
   refine ⟨some ⟨b,o,none⟩,l,c,Z,h0,.inr ⟨b,o,rfl,hle,?_,fun i hi=>?_⟩⟩
   ·
    have:=World.block_lt_of_cell? w _ (hZ 0 (by omega)).1
    rwa [addr_block] at this
   ·
    have hk:=hZ i hi
    rw [addr_add] at hk
    exact hk
set_option maxRecDepth 100000 in
theorem trod_rawrule {fuel:Nat} {cs:List Value} {x:DataW H × List MemPlace} (h:DataW.trod enc Tryz.prog w base spare held fuel 106 cs=some x) :
  ∃ q:RR,cs=[.slice q.ai q.li q.ci,.slice q.ao q.lo q.co,.int .u8 q.f,.int .u8 q.d,.int .u8 q.c]∧RROk w q:=by
 obtain ⟨y0,y1,y2,y3,y4,n,hl,h0,h1,h2,h3,h4⟩:=trod_struct5 Tryz.underlying106 h
 have hsz:cs.length=5:=hl.trans (by kernel_rfl)
 match cs,hsz with
 | [c0,c1,c2,c3,c4],_ =>
  obtain ⟨ai,li,ci,ZI,e0,g0⟩:=slice_bytes h0
  obtain ⟨ao,lo,co,ZO,e1,g1⟩:=slice_bytes h1
  obtain ⟨f,e2,_,w2⟩:=DataW.trod_int Tryz.underlying5 h2
  obtain ⟨dd,e3,_,w3⟩:=DataW.trod_int Tryz.underlying5 h3
  obtain ⟨c,e4,_,w4⟩:=DataW.trod_int Tryz.underlying5 h4
  obtain rfl:c0=.slice ai li ci:=List.head_eq_of_cons_eq e0
  obtain rfl:c1=.slice ao lo co:=List.head_eq_of_cons_eq e1
  obtain rfl:c2=.int .u8 f:=List.head_eq_of_cons_eq e2
  obtain rfl:c3=.int .u8 dd:=List.head_eq_of_cons_eq e3
  obtain rfl:c4=.int .u8 c:=List.head_eq_of_cons_eq e4
  exact ⟨⟨ai,li,ci,ao,lo,co,f,dd,c,ZI,ZO⟩,rfl,(bounds_u8 w2).1,(bounds_u8 w2).2,(bounds_u8 w3).1,(bounds_u8 w3).2,(bounds_u8 w4).1,(bounds_u8 w4).2,g0,g1⟩
open Go.Deep in
theorem
    slice_raws {fuel:Nat} {cs:List Value} {x:DataW H × List MemPlace} (h:DataW.trod enc Tryz.prog w base spare held fuel 22 cs=some x):∃ a len cap Q,cs=[.slice a len cap]∧RawRows w a len Q:=by
 rcases open_slice Tryz.underlying22 h with ⟨h0,_⟩ | ⟨ad,l,c,m,n,D,Pl,h0,hba,hl,hcm,hmm,_,hel⟩
 · exact ⟨none,0,0,fun _=>⟨none,0,0,none,0,0,0,0,0,fun _=>0,fun _=>0⟩,h0,.inl rfl⟩
 ·
  have hlm:l≤m:=by rw [hmm];split <;> omega
  have hC:Tryz.prog.cellsOf 106=5:=by kernel_rfl
  have key:∀ i,i<l→∃ q:RR,((w.cell? ⟨ad.block,ad.off+i*5+0,none⟩=some (.slice q.ai q.li q.ci)∧w.cell? ⟨ad.block,ad.off+i*5+1,none⟩=some (.slice q.ao q.lo q.co)∧w.cell? ⟨ad.block,ad.off+i*5+2,none⟩=some (.int .u8 q.f)∧w.cell? ⟨ad.block,ad.off+i*5+3,none⟩=some (.int .u8 q.d)∧w.cell? ⟨ad.block,ad.off+i*5+4,none⟩=some (.int .u8 q.c))∧RROk w q)∧(i=0→ad.spot=none)∧ad.block<w.heap.size:=by
   intro i hi
   obtain ⟨cs',hcs,htr⟩:=hel i (by omega)
   rw [hC] at hcs
   obtain ⟨q,rfl,hq⟩:=trod_rawrule htr
   obtain ⟨_,hl',hg⟩:=World.cells?_some hcs
   have hat:∀ j,j<5→∀ u,[Value.slice q.ai q.li q.ci,.slice q.ao q.lo q.co,.int .u8 q.f,.int .u8 q.d,.int .u8 q.c][j]? = some u→w.cell? ⟨ad.block,ad.off+i*5+j,none⟩=some u:=by
    intro j hj u hu
    have h1:=hg j hj
    rw [hu] at h1
    have hspot:=World.cell?_spot h1
    have e:(ad.add (i*5)).add j=⟨ad.block,ad.off+i*5+j,none⟩:=by
     rw [addr_spot _ _ hspot,addr_block,addr_off]
    rwa [e] at h1
   refine ⟨q,⟨⟨hat 0 (by omega) _ rfl,hat 1 (by omega) _ rfl,hat 2 (by omega) _ rfl,hat 3 (by omega) _ rfl,hat 4 (by omega) _ rfl⟩,hq⟩,fun hi0=>?_,?_⟩
   ·
    subst hi0
    have h1:=hg 0 (by omega)
    have hspot:=World.cell?_spot (v:=.slice q.ai q.li q.ci) h1
    simpa [Addr.add] using hspot
   ·
    have:=World.cells?_block hcs (by omega)
    rwa [addr_block] at this
  by_cases h9:l=0
  · exact ⟨some ad,l,c,fun _=>⟨none,0,0,none,0,0,0,0,0,fun _=>0,fun _=>0⟩,h0,.inl h9⟩
  ·
   obtain ⟨Q,hQ⟩:=choose_lt (α:=RR) (n:=l) (fun i hi=>key i hi)
   have hsp:=(hQ 0 (by omega)).2.1 rfl
   obtain ⟨b,o,sp⟩:=ad
   simp only at hsp
   subst hsp
   exact ⟨some ⟨b,o,none⟩,l,c,Q,h0,.inr ⟨b,o,rfl,(hQ 0 (by omega)).2.2,fun i hi=>(hQ i hi).1⟩⟩
end
end Go.Proofs.YthjmdgejnakcmaaGreatDoor.Fl
namespace Go.Proofs.YthjmdgejnakcmaaGreatDoor
set_option linter.unusedVariables false
set_option linter.unusedSimpArgs false
open Go.ChangeShapes Go.WideShapes Go.ChangeAt Go.RowKit Fl
section
variable {H:Type} {enc:TypeId × Value→H} {w:World} {base:Nat} {spare:Nat→Bool} {held:Bool} {d:DataW H} {p:List MemPlace} {r:Reach} {b0:Nat} {v:Value}
set_option maxRecDepth 100000 in
theorem trod_raw02 {fuel:Nat} {cs:List Value} {x:DataW H × List MemPlace} (h:DataW.trod enc Tryz.prog w base spare held fuel 24 cs=some x) (hsz:cs.length=3):∃ q:Raw2A,cs=[.int .u8 q.M,.int .u8 q.A,.slice q.a q.len q.cap]∧Raw2Ok w q:=by
 obtain ⟨y0,y1,y2,n,_,_,h0,h1,h2⟩:=Go.Deep.trod_struct3 Tryz.underlying24 h
 match cs,hsz with
 | [c0,c1,c2],_ =>
  obtain ⟨M,e0,_,w0⟩:=DataW.trod_int Tryz.underlying5 h0
  obtain ⟨A,e1,_,w1⟩:=DataW.trod_int Tryz.underlying5 h1
  obtain ⟨a,len,cap,Q,e2,hQ⟩:=slice_raws h2
  have g0:c0=.int .u8 M:=List.head_eq_of_cons_eq e0
  have g1:c1=.int .u8 A:=List.head_eq_of_cons_eq e1
  have g2:c2=.slice a len cap:=List.head_eq_of_cons_eq e2
  subst g0 g1 g2
  exact ⟨⟨M,A,a,len,cap,Q⟩,rfl,(bounds_u8 w0).1,(bounds_u8 w0).2,(bounds_u8 w1).1,(bounds_u8 w1).2,hQ⟩
open Go.Deep in
set_option maxRecDepth 100000 in
theorem slice_bytess {fuel:Nat} {cs:List Value} {x:DataW H × List MemPlace} (h:DataW.trod enc Tryz.prog w base spare held fuel 25 cs=some x):∃ q:BytsA,cs=[.slice q.a q.len q.cap]∧BytsOk w q:=by
 rcases open_slice1 Tryz.underlying25 (by kernel_rfl) h with ⟨h0,_⟩ | ⟨ad,len,cap,m,n,V,D,Pl,h0,hba,hl,hcm,hmm,_,hel⟩
 · exact ⟨⟨none,0,0,fun _=>default⟩,h0,fun i hi=>absurd hi (Nat.not_lt_zero i),by show 0≤_;omega⟩
 ·
  have hlm:len≤m:=by rw [hmm];split <;> omega
  have hle:len≤9223372036854775807:=by unfold maxLen at hcm;omega
  have key:∀ i,i<len→∃ q:BR,w.cell? (ad.add i)=some (.slice q.a q.n q.c)∧IsBytes w q.a q.n q.Z∧q.n≤9223372036854775807:=fun i hi=>by
   obtain ⟨h1,h2⟩:=hel i (by omega)
   obtain ⟨a1,l1,c1,Z,hz,g1,g2⟩:=Go.Proofs.YthjmdgejnakcmaaGreatDoor.slice_bytes h2
   have:V i=.slice a1 l1 c1:=List.head_eq_of_cons_eq hz
   rw [this] at h1
   exact ⟨⟨a1,l1,c1,Z⟩,h1,g1,g2⟩
  obtain ⟨Q,hQ⟩:=choose_lt (α:=BR) key
  refine ⟨⟨some ad,len,cap,Q⟩,h0,fun i (hi:i<len)=>?_,hle⟩
  obtain ⟨b,o,sp⟩:=ad
  have hs:=World.cell?_spot (hQ 0 (by omega)).1
  obtain rfl:sp=none:=by simpa [Addr.add] using hs
  have hk:=hQ i hi
  have hb:=World.block_lt_of_cell? w _ hk.1
  rw [addr_block] at hb
  rw [addr_add] at hk
  exact ⟨b,o,rfl,hb,hk⟩
set_option maxRecDepth 100000 in
theorem open_case (hv:Value.okWide Tryz.prog w r b0 28 v) (h:DataW.Trod enc Tryz.prog w base spare held 28 v d p):∃ x:CaseA,v=x.val∧CaseOk w x:=by
 obtain ⟨cs,rfl,hsz⟩:∃ cs,v=.agg cs∧cs.size=5:=by
  unfold Value.okWide at hv
  rw [Tryz.underlying28] at hv
  obtain ⟨cs,h,h2,_⟩:=hv
  exact ⟨cs,h,h2.trans (by kernel_rfl)⟩
 obtain ⟨f,hf⟩:=h
 obtain ⟨y0,y1,y2,n,_,_,h0,h1,h2⟩:=Go.Deep.trod_struct3 Tryz.underlying28 hf
 have hcs:∃ c0 c1 c2 c3 c4,cs=#[c0,c1,c2,c3,c4]:=by
  obtain ⟨l⟩:=cs
  match l,hsz with
  | [c0,c1,c2,c3,c4],_=>exact ⟨c0,c1,c2,c3,c4,rfl⟩
 obtain ⟨c0,c1,c2,c3,c4,rfl⟩:=hcs
 have hC0:Tryz.prog.cellsOf 24=3:=by kernel_rfl
 have hC1:Tryz.prog.cellsOf 25=1:=by kernel_rfl
 have hC2:Tryz.prog.cellsOf 26=1:=by kernel_rfl
 rw [hC0] at h0
 rw [hC1] at h1
 rw [hC2] at h2
 obtain ⟨q,e0,hq⟩:=trod_raw02 (cs:=[c0,c1,c2]) h0 rfl
 obtain ⟨qW,e1,hqW⟩:=slice_bytess (cs:=[c3]) h1
 obtain ⟨a,len,cap,Z,e2,hZ,hle⟩:=Go.Proofs.YthjmdgejnakcmaaGreatDoor.slice_bytes (cs:=[c4]) h2
 simp only [List.cons.injEq,and_true] at e0 e1 e2
 obtain ⟨rfl,rfl,rfl⟩:=e0
 subst e1 e2
 exact ⟨⟨q,qW,⟨a,len,cap,Z⟩⟩,rfl,hq,hqW,⟨hZ,hle⟩⟩
end
end Go.Proofs.YthjmdgejnakcmaaGreatDoor
namespace Go.Proofs.YthjmdgejnakcmaaGreatDoor
open Go.ChangeShapes Go.WideShapes Go.ChangeAt Go.RowKit
set_option linter.unusedVariables false
set_option linter.unusedSimpArgs false
theorem gPow:Tryz.prog.globalNamed "internal/strconv.uint64pow10" = some 0:=by kernel_rfl
theorem gPowT:(Tryz.prog.globals[0]?).map (·.type)=some 245:=by kernel_rfl
theorem laid_tab {W:World} (h:laidMetH Tryz.prog [("math/bits.deBruijn32tab",Rows.laid_math_bits_deBruijn32tab),("math/bits.deBruijn64tab",Rows.laid_math_bits_deBruijn64tab),("internal/strconv.uint64pow10",Rows.laid_internal_strconv_uint64pow10)] W):Tab W:=by
 obtain ⟨ps,h1,_⟩:laidMet Tryz.prog [("math/bits.deBruijn32tab",Rows.laid_math_bits_deBruijn32tab),("math/bits.deBruijn64tab",Rows.laid_math_bits_deBruijn64tab),("internal/strconv.uint64pow10",Rows.laid_internal_strconv_uint64pow10)] W:=h
 obtain ⟨_,_,_,_,_,q1,_,_,_,_,h2,_⟩:=h1
 obtain ⟨_,_,_,_,_,q2,_,_,_,_,h3,_⟩:=h2
 obtain ⟨g',t',cs,fuel,p,q,hg',ht',hvar,hd,_,_⟩:=h3
 obtain rfl:=Option.some.inj (gPow.symm.trans hg')
 obtain rfl:=Option.some.inj (gPowT.symm.trans ht')
 have hd2:DataW.trod (fun _=>()) Tryz.prog W 0 (fun _=>true) false fuel 245 cs.toList=some (Lib.tabData .u64 Lib.pow10Tab,p):=hd
 show W.var? Tryz.prog "internal/strconv.uint64pow10" = _
 rw [hvar,← Lib.cells_of_tab Tryz.underlying245 Tryz.underlying221 (by kernel_rfl) (by kernel_rfl) hd2]
def putCells (w:World) (g:Nat) (cs:Array Value):World :=
 { w
   with heap:=w.heap.modify g fun
   | .cells _ t f=>.cells cs t f
   | o=>o }
noncomputable def laidWorld (os:Os):World :=
 putCells (putCells (putCells (World.holding Tryz.prog os ⟨#[],#[],[]⟩) 0 #[.int .u64 1,.int .u64 10,.int .u64 100,.int .u64 1000,.int .u64 10000,.int .u64 100000,.int .u64 1000000,.int .u64 10000000,.int .u64 100000000,.int .u64 1000000000,.int .u64 10000000000,.int .u64 100000000000,.int .u64 1000000000000,.int .u64 10000000000000,.int .u64 100000000000000,.int .u64 1000000000000000,.int .u64 10000000000000000,.int .u64 100000000000000000,.int .u64 1000000000000000000,.int .u64 10000000000000000000])
  1 #[.int .u8 0,.int .u8 1,.int .u8 28,.int .u8 2,.int .u8 29,.int .u8 14,.int .u8 24,.int .u8 3,.int .u8 30,.int .u8 22,.int .u8 20,.int .u8 15,.int .u8 25,.int .u8 17,.int .u8 4,.int .u8 8,.int .u8 31,.int .u8 27,.int .u8 13,.int .u8 23,.int .u8 21,.int .u8 19,.int .u8 16,.int .u8 7,.int .u8 26,.int .u8 12,.int .u8 18,.int .u8 6,.int .u8 11,.int .u8 5,.int .u8 10,.int .u8 9])
  2 #[.int .u8 0,.int .u8 1,.int .u8 56,.int .u8 2,.int .u8 57,.int .u8 49,.int .u8 28,.int .u8 3,.int .u8 61,.int .u8 58,.int .u8 42,.int .u8 50,.int .u8 38,.int .u8 29,.int .u8 17,.int .u8 4,.int .u8 62,.int .u8 47,.int .u8 59,.int .u8 36,.int .u8 45,.int .u8 43,.int .u8 51,.int .u8 22,.int .u8 53,.int .u8 39,.int .u8 33,.int .u8 30,.int .u8 24,.int .u8 18,.int .u8 12,.int .u8 5,.int .u8 63,.int .u8 55,.int .u8 48,.int .u8 27,.int .u8 60,.int .u8 41,.int .u8 37,.int .u8 16,.int .u8 46,.int .u8 35,.int .u8 44,.int .u8 21,.int .u8 52,.int .u8 32,.int .u8 23,.int .u8 11,.int .u8 54,.int .u8 26,.int .u8 40,.int .u8 15,.int .u8 34,.int .u8 20,.int .u8 31,.int .u8 10,.int .u8 25,.int .u8 14,.int .u8 19,.int .u8 9,.int .u8 13,.int .u8 8,.int .u8 7,.int .u8 6]
theorem laid_met (os:Os) (args:Array Value):laidMet Tryz.prog [("math/bits.deBruijn32tab",Rows.laid_math_bits_deBruijn32tab),("math/bits.deBruijn64tab",Rows.laid_math_bits_deBruijn64tab),("internal/strconv.uint64pow10",Rows.laid_internal_strconv_uint64pow10)] ((laidWorld os).forCall (fun _ _=>0) ⟨#[],args,[]⟩).memory :=
 laidMet_of_run' 8 (by kernel_rfl) (by kernel_rfl)
end Go.Proofs.YthjmdgejnakcmaaGreatDoor
