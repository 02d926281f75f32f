/- Texts that the claims share: Open. -/
import Derived.Test.YtpljngaejaehcaaGreatDoorMA1
import Derived.WalkKit
import Derived.ProofKit
import Derived.OpenShut
import Derived.ShutString
import Derived.ChangeOld
import Derived.Deep.Slices
set_option linter.unusedVariables false
set_option linter.unusedSimpArgs false
namespace Go.Proofs.YtpljngaejaehcaaGreatDoor
open Go.ChangeShapes Go.WideShapes Go.ChangeAt Go.RowKit
section
variable {H:Type} {enc:TypeId × Value→H} {P:Program} {w:World} {base:Nat} {spare:Nat→Bool} {held:Bool} {fuel:Nat} {cs:List Value} {x:DataW H × List MemPlace}
theorem J1 {t e:TypeId} {n:Nat} {k:IntKind} (ht:P.underlying t=some (.array n e)) (he:P.underlying e=some (.int k)) (jb:P.cellsOf e=1) (hC:P.cellsOf t=n)
  (h:DataW.trod enc P w base spare held fuel t cs=some x):∃ zs:List Int,zs.length=n∧cs=zs.map (Value.int k)∧∀ z∈zs,(Lit.int k z).wf=true:=by
 obtain ⟨xs,m,rfl,_,ja,hx,jc⟩:=DataW.trod_array ht h;rw [hC] at ja;have key:∀ i,i<n→∃ z,cs[i]? = some (.int k z)∧(Lit.int k z).wf=true:=by
  intro i hi;have h1:=jc i hi;rw [jb,Nat.mul_one] at h1;obtain ⟨y,hy⟩:∃ y,xs[i]? = some y:=⟨_,AA (by omega)⟩
  rw [hy] at h1;obtain ⟨z,hz,_,hw⟩:=DataW.trod_int he h1;refine ⟨z,?_,hw⟩;have h2:=congrArg (fun l=>l[0]?) hz;simpa [List.getElem?_take,List.getElem?_drop] using h2
 refine ⟨cs.map intOf,by simpa using ja,?_,?_⟩
 ·rw [List.map_map];refine List.ext_getElem? fun i=>?_;by_cases hi:i<n
  ·obtain ⟨z,hz,_⟩:=key i hi;simp [hz,intOf]
  · rw [AP (by omega),AP (by simp;omega)]
 ·intro z hz;obtain ⟨v,hv,rfl⟩:=AH.1 hz;obtain ⟨i,hi⟩:=List.mem_iff_getElem?.1 hv;have jd:i<n:=by
   by_cases h:i<n
   · exact h
   · rw [AP (by omega)] at hi;cases hi
  obtain ⟨z,je,hw⟩:=key i jd;rw [je] at hi;cases hi;exact hw
def Fu (k:IntKind) (m:Nat) (w:World) (a:Option Addr) (len:Nat) (Z:Nat→Nat→Int):Prop :=
 len=0∨∃ b o,a=some ⟨b,o,none⟩∧len≤9223372036854775807∧b<w.heap.size∧∀ i,i<len→∀ j,j<m→w.cell? ⟨b,o+i*m+j,none⟩=some (.int k (Z i j))∧(Lit.int k (Z i j)).wf=true
theorem addr_add (b o n:Nat):(⟨b,o,none⟩:Addr).add n=⟨b,o+n,none⟩:=by
 unfold Addr.add;split <;> simp_all
theorem C3 (a:Addr) (n:Nat):(a.add n).block=a.block:=by unfold Addr.add;split <;> rfl
theorem IL (a:Addr) (n:Nat):(a.add n).off=a.off+n:=by
 unfold Addr.add;split
 · rename_i h;rw [h];rfl
 · rfl
theorem JZ (a:Addr) (n:Nat) (h:(a.add n).spot=none):a.add n=⟨a.block,a.off+n,none⟩:=by
 rw [← C3 a n,← IL a n,← h]
open Go.Deep in
theorem trod_rows {t e e2:TypeId} {m:Nat} {k:IntKind} {a:Option Addr} {len cap:Nat} (ht:P.underlying t=some (.slice e)) (he:P.underlying e=some (.array m e2)) (je:P.underlying e2=some (.int k)) (jc:P.cellsOf e2=1) (hC:P.cellsOf e=m) (hm:0<m)
  (h:DataW.trod enc P w base spare held fuel t [.slice a len cap]=some x):∃ Z,Fu k m w a len Z:=by
 rcases open_slice ht h with ⟨h0,_⟩ | ⟨ad,l,c,mm,n,D,Pl,h0,hba,hl,jd,jh,_,jf⟩
 ·cases h0;exact ⟨fun _ _=>0,.inl rfl⟩
 ·cases
     h0
  have hlm:len≤mm:=by rw [jh];split <;> omega
  have key:∀ i,i<len→∃ zs:List Int,zs.length=m∧(∀ j,j<m→w.cell? (⟨ad.block,ad.off+i*m+j,none⟩:Addr)=some (.int k (zs.getD j 0))∧(Lit.int k (zs.getD j 0)).wf=true)∧(i=0→ad.spot=none)∧ad.block<w.heap.size:=by
   intro i hi;obtain ⟨cs',jb,ji⟩:=jf i (by omega);rw [hC] at jb;obtain ⟨zs,hz,rfl,hw⟩:=J1 he je jc hC ji;obtain ⟨_,hl',hg⟩:=World.cells?_some jb;refine ⟨zs,hz,fun j hj=>?_,fun jg=>?_,?_⟩
   ·have h1:=hg j hj;have h2:(zs.map (Value.int k))[j]? = some (.int k (zs.getD j 0)):=by
     rw [List.getElem?_map,AO,AA (by omega)];rfl
    rw [h2] at h1;have ja:=World.cell?_spot h1;have e:(ad.add (i*m)).add j=⟨ad.block,ad.off+i*m+j,none⟩:=by
     rw [JZ _ _ ja,C3,IL]
    rw [e] at h1;refine ⟨h1,hw _ ?_⟩;rw [AO,AA (by omega)];exact AG _
   ·subst jg;have h1:=hg 0 hm;have h2:(zs.map (Value.int k))[0]? = some (.int k (zs.getD 0 0)):=by
     rw [List.getElem?_map,AO,AA (by omega)];rfl
    rw [h2] at h1;have ja:=World.cell?_spot h1;simpa [Addr.add] using ja
   ·have:=World.cells?_block jb hm
    rwa [C3] at this
  by_cases h0:len=0
  · exact ⟨fun _ _=>0,.inl h0⟩
  ·refine ⟨fun i j=>if h:i<len then (Classical.choose (key i h)).getD j 0 else 0,.inr ⟨ad.block,ad.off,?_,by unfold maxLen at jd;omega,(Classical.choose_spec (key 0 (by omega))).2.2.2,fun i hi j hj=>?_⟩⟩
   ·have:=(Classical.choose_spec (key 0 (by omega))).2.2.1 rfl;obtain ⟨b,o,sp⟩:=ad;simp only at this;rw [this]
   ·simp only [dif_pos hi];exact (Classical.choose_spec (key i hi)).2.1 j hj
theorem Ja (hl:laidOutB P=true) {W W':World} (hb:Below W.heap.size W W'):∀ (ts:List TypeId) (vs:List Value) (ds:List (DataW H)) (ps:List MemPlace),
  (∀ t∈ts,P.readableRec t=true∧t<P.types.size)→DataW.TrodAll enc P W 0 (fun _=>true) true ts vs ds ps→(∀ x∈ps,x.block<W.heap.size) →
   DataW.TrodAll enc P W' 0 (fun b=>decide (b<W.heap.size)) true ts vs ds ps
 | [],[],[],_,_,h,_=>h
 | t :: ts,v :: vs,d :: ds,ps,ht,h,hlt=>by
  obtain ⟨p,q,h0,h1,rfl⟩:=h;exact ⟨p,q,Below.trod hl (ht t (by simp)).1 (ht t (by simp)).2 h0 hb (fun x hx=>hlt x (by simp [hx])),Ja hl hb ts vs ds q (fun t' h'=>ht t' (by simp [h'])) h1 (fun x hx=>hlt x (by simp [hx])),rfl⟩
 | [],[],_ :: _,_,_,h,_=>h.elim
 | [],_ :: _,_,_,_,h,_=>h.elim
 | _ :: _,[],_,_,_,h,_=>h.elim
 | _ :: _,_ :: _,[],_,_,h,_=>h.elim
theorem IM:∀ (ts:List TypeId) (vs:List Value) (ds:List (DataW H)) (ps:List MemPlace),
  DataW.TrodAll enc P w base spare held ts vs ds ps→∀ x∈ps,x.block<w.heap.size
 | [],[],[],_,h,x,hx=>by
  have:_=[]:=h;subst this;cases hx
 | t :: ts,v :: vs,d :: ds,ps,h,x,hx=>by
  obtain ⟨p,q,⟨m,h0⟩,h1,rfl⟩:=h;rcases AT.1 hx with hx | hx
  · exact DataW.trod_lt m _ _ _ h0 x hx
  · exact IM ts vs ds q h1 x hx
 | [],[],_ :: _,_,h,_,_=>h.elim
 | [],_ :: _,_,_,h,_,_=>h.elim
 | _ :: _,[],_,_,h,_,_=>h.elim
 | _ :: _,_ :: _,[],_,h,_,_=>h.elim
end
end Go.Proofs.YtpljngaejaehcaaGreatDoor
