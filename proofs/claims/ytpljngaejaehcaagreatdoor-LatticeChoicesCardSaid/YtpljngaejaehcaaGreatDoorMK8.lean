/- Texts that the claims share: NV, NG, NH, NI, K33, NY, NZ. -/
import Derived.Deep.CutBlock
import Derived.Deep.OwnRows
import Derived.Test.YtpljngaejaehcaaGreatDoorMK7
import Derived.Test.YtpljngaejaehcaaGreatDoorMK5
import Derived.Test.YtpljngaejaehcaaGreatDoorMK6
import Derived.Test.YtpljngaejaehcaaGreatDoorMK2
import Derived.Test.YtpljngaejaehcaaGreatDoorMK4
set_option maxHeartbeats 12800000
set_option maxRecDepth 100000
set_option linter.unusedVariables false
set_option linter.unusedSimpArgs false
namespace Go.Proofs.YtpljngaejaehcaaGreatDoor
open Go.RowKit Go.WideShapes Fl
theorem NM {p q:Edg}:Q0 p q<0↔Eh p q:=by
 obtain ⟨p1,p2,p3,p4⟩:=p;obtain ⟨q1,q2,q3,q4⟩:=q;simp only [Q0,orF,Eh,Bt];constructor
 ·intro h
  (repeat' split at h) <;> omega
 ·intro h
  (repeat' split) <;> omega
def Du (n:Int) (e:Edg):Prop:=0≤e.1∧e.1<e.2.1∧e.2.1≤n∧0≤e.2.2.1∧e.2.2.1<200∧0≤e.2.2.2∧e.2.2.2≤1000000
def Im (n:Int) (E:List Edg) (k:Nat):Prop:=∀ i (h:i<E.length),i<k→Du n E[i]∧(0<i→Eh (E[i - 1]'(by omega)) E[i])
def Jh (n:Int) (E:List Edg):Prop:=0≤n∧n≤40∧E.length≤20000∧Im n E E.length
noncomputable def F2 (n:Int) (E:List Edg):Bool:=@decide (Jh n E) (Classical.propDecidable _)
theorem In {n:Int} {E:List Edg} (h:Jh n E):F2 n E=true:=@decide_eq_true _ (Classical.propDecidable _) h
theorem CH {n:Int} {E:List Edg} (h:¬ Jh n E):F2 n E=false:=@decide_eq_false _ (Classical.propDecidable _) h
theorem Im.step {n:Int} {E:List Edg} {k:Nat} (h:Im n E k) (hk:k<E.length) (h1:Du n E[k]) (h2:0<k→Eh (E[k - 1]'(by omega)) E[k]):Im n E (k+1):=by
 intro i hi hik;by_cases e:i=k
 · subst e;exact ⟨h1,h2⟩
 · exact h i hi (by omega)
theorem lval_any (
         n
          :
           Int) (
              E:List Edg) (a:Option Addr) (cap:Nat) (w:World) (hE:CM w a E) (hl:E.length≤1000000) :
  Calls Tryz.prog 22 #[FP n a E.length cap] w fun e w'=>e=.returned (.bool (F2 n E))∧Ext w w':=by
 have HE:=A0 hE;clear hE;unfold FP
 go_enter Tryz.func22,Tryz.ntmps22
 go_upto_region 1 with fail
 obtain ⟨wb,jo⟩:∃ wb,w.alloc (.cells #[.int .i64 n,.slice a E.length cap] 45)=wb:=⟨_,rfl⟩
 rw [jo];have jH:Ext w wb:=by rw [← jo];exact (Below.refl _ _).alloc (A3 _) _
 have bb:wb.heap[w.heap.size]? = some (.cells #[.int .i64 n,.slice a E.length cap] 45 (0,0)):=by rw [← jo];exact heap_alloc_new _ _
 obtain ⟨g,hg⟩:∃ g,w.heap.size=g:=⟨_,rfl⟩
 rw [hg] at bb ⊢;have HX:=A0 jH;have jk:=A0 bb;have jm:=A0 (A5.1 bb).1;clear jo jH bb hg;have h9:=(Below.block (Ext.refl _) _ jm.out).trans jk.out;have m0:wb.cell? ⟨g,0,none⟩=some (.int .i64 n):=by rw [cell_of_row _ _ 0 _ _ _ h9];rfl
 have m1:wb.cell? ⟨g,1,none⟩=some (.slice a E.length cap):=by rw [cell_of_row _ _ 1 _ _ _ h9];rfl
 clear h9;by_cases n0:n<0
 ·have HN:Hid (F2 n E=false):=CH fun h=>by
   have h1:=h.1;have h2:=h.2.1;have h3:=h.2.2.1;omega
  go_wp2_with fail
  go_ret;exact ⟨Aa HN.out.symm,HX.out⟩
 by_cases n1:40<n
 ·have HN:Hid (F2 n E=false):=CH fun h=>by
   have h1:=h.1;have h2:=h.2.1;have h3:=h.2.2.1;omega
  go_wp2_with fail
  go_ret;exact ⟨Aa HN.out.symm,HX.out⟩
 by_cases n2:(20000:Int)<(E.length:Int)
 ·have HN:Hid (F2 n E=false):=CH fun h=>by
   have h1:=h.1;have h2:=h.2.1;have h3:=h.2.2.1;omega
  go_wp2_with fail
  go_ret;exact ⟨Aa HN.out.symm,HX.out⟩
 have jt:Hid (0≤n∧n≤40∧E.length≤20000):=⟨by omega,by omega,by omega⟩
 go_wp2_with fail
 clear n0 n1 n2 m0 m1
 go_loopw [22] (fun i wr=>∃ k:Nat,k≤E.length∧i=.int .i64 (k:Int)∧Im n E k∧Ext wb wr) (fun i _=>E.length - (intOf i).toNat)
 case atStart=>exact ⟨0,Nat.zero_le _,rfl,fun i _ h=>by omega,Ext.refl _⟩
 case round =>
  obtain ⟨k,hk,rfl,hu,hb⟩:=hrel;have HB:=A0 hb;have HU:=A0 hu;clear hb hu;by_cases jj:k<E.length
  ·have jx
        :
         (k:Int)
              < (E.length:Int):=by omega
   obtain ⟨b1,o1,ha,hb1,x0,x1,x2,x3⟩:=(HE.out.later (Ext.trans HX.out HB.out) (A3 _)) k jj;have jv:=Ca a b1 o1 E.length cap k ha jj;obtain ⟨⟨e1,e2,e3,e4⟩,hx⟩:∃ x,E[k]'jj=x:=⟨_,rfl⟩
   have jg:=A0 hx;rw [hx] at x0 x1 x2 x3;simp only at x0 x1 x2 x3;have jd:Hid (k<E.length):=jj;clear hx ha
   go_upto_region 6 with fail
   obtain ⟨wq,jp⟩:∃ wq,wr.alloc (.cells #[.int .i64 e1,.int .i64 e2,.int .i64 e3,.int .i64 e4] 62)=wq:=⟨_,rfl⟩
   rw [jp];have jI:Ext wr wq:=by rw [← jp];exact (Below.refl _ _).alloc (A3 _) _
   have bq:wq.heap[wr.heap.size]? = some (.cells #[.int .i64 e1,.int .i64 e2,.int .i64 e3,.int .i64 e4] 62 (0,0)):=by rw [← jp];exact heap_alloc_new _ _
   obtain ⟨gq,jF⟩:∃ gq,wr.heap.size=gq:=⟨_,rfl⟩
   rw [jF] at bq ⊢;have je:=A0 jI;have jq:=A0 bq;have jr:=A0 (A5.1 bq).1;have u0:wq.cell? ⟨gq,0,none⟩=some (.int .i64 e1):=by rw [cell_of_row _ _ 0 _ _ _ bq];rfl
   have u1:wq.cell? ⟨gq,1,none⟩=some (.int .i64 e2):=by rw [cell_of_row _ _ 1 _ _ _ bq];rfl
   have u2:wq.cell? ⟨gq,2,none⟩=some (.int .i64 e3):=by rw [cell_of_row _ _ 2 _ _ _ bq];rfl
   have u3:wq.cell? ⟨gq,3,none⟩=some (.int .i64 e4):=by rw [cell_of_row _ _ 3 _ _ _ bq];rfl
   clear jp jI bq jF jv x0 x1 x2 x3;have h9:=(Below.block (Ext.trans HB.out je.out) _ jm.out).trans jk.out;have v0:wq.cell? ⟨g,0,none⟩=some (.int .i64 n):=by rw [cell_of_row _ _ 0 _ _ _ h9];rfl
   have v1:wq.cell? ⟨g,1,none⟩=some (.slice a E.length cap):=by rw [cell_of_row _ _ 1 _ _ _ h9];rfl
   clear h9;by_cases a0:e1<0
   ·have HN:Hid (F2 n E=false):=CH fun h=>by
     have:=(h.2.2.2 k jd.out jd.out).1;rw [jg.out] at this;unfold Du at this;simp only at this;omega
    go_wp2_with fail
    go_ret;exact ⟨Aa HN.out.symm,Ext.trans HX.out (Ext.trans HB.out je.out)⟩
   ·by_cases a1
          :
           e2≤e1
    ·have HN:Hid (F2 n E=false):=CH fun h=>by
      have:=(h.2.2.2 k jd.out jd.out).1;rw [jg.out] at this;unfold Du at this;simp only at this;omega
     go_wp2_with fail
     go_ret;exact ⟨Aa HN.out.symm,Ext.trans HX.out (Ext.trans HB.out je.out)⟩
    ·by_cases a2
           :
            n
             <
              e2
     ·have HN:Hid (F2 n E=false):=CH fun h=>by
       have:=(h.2.2.2 k jd.out jd.out).1;rw [jg.out] at this;unfold Du at this;simp only at this;omega
      go_wp2_with fail
      go_ret;exact ⟨Aa HN.out.symm,Ext.trans HX.out (Ext.trans HB.out je.out)⟩
     ·by_cases a3
            :
             e3<0
      ·have HN:Hid (F2 n E=false):=CH fun h=>by
        have:=(h.2.2.2 k jd.out jd.out).1;rw [jg.out] at this;unfold Du at this;simp only at this;omega
       go_wp2_with fail
       go_ret;exact ⟨Aa HN.out.symm,Ext.trans HX.out (Ext.trans HB.out je.out)⟩
      ·by_cases a4
             :
              200≤e3
       ·have HN:Hid (F2 n E=false):=CH fun h=>by
         have:=(h.2.2.2 k jd.out jd.out).1;rw [jg.out] at this;unfold Du at this;simp only at this;omega
        go_wp2_with fail
        go_ret;exact ⟨Aa HN.out.symm,Ext.trans HX.out (Ext.trans HB.out je.out)⟩
       ·by_cases a5
              : e4<0
        ·have HN:Hid (F2 n E=false):=CH fun h=>by
          have:=(h.2.2.2 k jd.out jd.out).1;rw [jg.out] at this;unfold Du at this;simp only at this;omega
         go_wp2_with fail
         go_ret;exact ⟨Aa HN.out.symm,Ext.trans HX.out (Ext.trans HB.out je.out)⟩
        ·by_cases a6:1000000<e4
         ·have HN:Hid (F2 n E=false):=CH fun h=>by
           have:=(h.2.2.2 k jd.out jd.out).1;rw [jg.out] at this;unfold Du at this;simp only at this;omega
          go_wp2_with fail
          go_ret;exact ⟨Aa HN.out.symm,Ext.trans HX.out (Ext.trans HB.out je.out)⟩
         ·have jy:Hid (Du n (E[k]'jj)):=by
           show Du n (E[k]'jj);rw [jg.out];unfold Du;simp only;omega
          go_upto_region 10 with fail
          clear u0 u1 u2 u3 v0 v1;by_cases jw:k=0
          ·have ju:¬ (0:Int)<(k:Int):=by omega
           have jJ:=A0 jw;have HS:Hid (Im n E (k+1)):=HU.out.step jd.out jy.out (fun h=>by omega);clear jw;refine Am (by kernel_rfl) (Vs [vq (.int .i64 (k:Int)),vq (.bool false),vq (.bool false),vq (undef),vq (undef),vq (undef),vq (undef),vq (undef),vq (undef),vq (undef),vq (undef),vq (undef),vq (.bool false)]) (fun W=>Ext wq W) 76 (by kernel_rfl) rfl ?hVx ?hSx ?hS (Ay ?hop) ?hfin
           case hop =>
            refine ⟨?_,?k1,?_,?_,?_,?_,?_,?_,?_,?_,?_,?_,?_,trivial⟩
            all_goals
             intro A W jc hS jb ja;have jf:Ext wq W:=hS;have h9:=(Below.block (Ext.trans HB.out (Ext.trans je.out jf)) _ jm.out).trans jk.out;have m0:W.cell? ⟨g,0,none⟩=some (.int .i64 n):=by rw [cell_of_row _ _ 0 _ _ _ h9];rfl
             have m1:W.cell? ⟨g,1,none⟩=some (.slice a E.length cap):=by rw [cell_of_row _ _ 1 _ _ _ h9];rfl
             clear h9;have h8:=(Below.block jf _ jr.out).trans jq.out;have u0:W.cell? ⟨gq,0,none⟩=some (.int .i64 e1):=by rw [cell_of_row _ _ 0 _ _ _ h8];rfl
             have u1:W.cell? ⟨gq,1,none⟩=some (.int .i64 e2):=by rw [cell_of_row _ _ 1 _ _ _ h8];rfl
             have u2:W.cell? ⟨gq,2,none⟩=some (.int .i64 e3):=by rw [cell_of_row _ _ 2 _ _ _ h8];rfl
             have u3:W.cell? ⟨gq,3,none⟩=some (.int .i64 e4):=by rw [cell_of_row _ _ 3 _ _ _ h8];rfl
             clear h8 jf;have h1:A.tmps.getD 1 undef=.pointer (some ⟨g,0,none⟩):=ja 1 (by kernel_rfl);have h3:A.tmps.getD 3 undef=.int .i64 (k:Int):=ja 3 (by kernel_rfl);have h4:A.tmps.getD 4 undef=.pointer (some ⟨gq,0,none⟩):=ja 4 (by kernel_rfl);clear ja;simp [AY,Region.binds,Vs,vq] at jb
            case k1 =>
             refine AX rfl (.inl ⟨_,W,?_,rfl,Ext.refl _⟩);clear jc hS;simp [go_sem,Act.eval, *];exact jJ.out
            all_goals first
             | (refine AX rfl (.inl ⟨_,W,?_,rfl,Ext.refl _⟩);clear jc hS;simp [go_sem,Act.eval, *];done)
             | exact DM (j:=2) (d:=64) (b:=false) rfl (by kernel_rfl) (by simp only [jb]) rfl rfl
           case hVx=>exact Af (by simp only [AS,List.not_mem_nil,or_false,forall_eq_or_imp,forall_eq];and_intros <;> exact AW _)
           case hSx=>exact fun W W' h hx=>Ext.trans h hx
           case hS=>first | exact Ext.refl _ | exact B8 _
           case hfin =>
            intro A W jc ji hS hv ja;obtain ⟨x,hx,hA⟩:=Ag [62,63,64,65,66,67,68,69,70,71,72,73,74] (by kernel_rfl) jc ji ja;have e74:x 74=.bool false:=(hx 74).trans (hv 12 (by decide));rw [hA];simp only [List.foldl];rw [e74];clear e74;simp only [Act.put,List.setIfInBounds_toArray,List.set_cons_succ,List.set_cons_zero];clear hA hx hv ja jc ji;have jl:=A0 (Ext.trans HB.out (Ext.trans je.out hS));clear hS
            go_wp2_with fail
            go_roundw
            case rel=>exact ⟨k+1,by omega,by go_num,HS.out,jl.out⟩
            case measure=>simp [intOf];omega
          ·have ju:(0:Int)<(k:Int):=by omega
           have js:Hid (0<k):=by show 0<k;omega
           have hj:k - 1<E.length:=by omega
           obtain ⟨b2,o2,jE,jh,y0,y1,y2,y3⟩:=(HE.out.later (Ext.trans HX.out (Ext.trans HB.out je.out)) (A3 _)) (k - 1) hj;have jn:=Ca a b2 o2 E.length cap (k - 1) jE hj;obtain ⟨⟨q1,q2,q3,q4⟩,hy⟩:∃ y,E[k - 1]'hj=y:=⟨_,rfl⟩
           have jD:Hid (E[k - 1]'(Nat.lt_of_le_of_lt (Nat.sub_le k 1) jj)=(q1,q2,q3,q4)):=hy;simp only [hy] at y0 y1 y2 y3;obtain ⟨j,jG⟩:∃ j,k - 1=j:=⟨_,rfl⟩
           have hwk:IntKind.i64.wrap ((k:Int) - 1)=(j:Int):=by rw [IntWalk.i64_in _ (by omega)];omega
           rw [jG] at jn y0 y1 y2 y3;have jz:=A0 y0;have jA:=A0 y1;have jB:=A0 y2;have jC:=A0 y3;obtain ⟨z,hz⟩:∃ z,Q0 (q1,q2,q3,q4) (e1,e2,e3,e4)=z:=⟨_,rfl⟩
           have HZ:=A0 hz;clear hy jE jG hj y0 y1 y2 y3 jw hz;by_cases hz0:0≤z
           ·have HN:Hid (F2 n E=false):=CH fun h=>by
             have h1:=(h.2.2.2 k jd.out jd.out).2 js.out;rw [jg.out,jD.out,← NM,HZ.out] at h1;omega
            refine Am (by kernel_rfl) (Vs [vq (.int .i64 (k:Int)),vq (.bool true),vq (.bool true),vq (.pointer (some ⟨g,1,none⟩)),vq (.slice a E.length cap),vq (.int .i64 (k:Int)),vq (.int .i64 (j:Int)),vq (.pointer (some ⟨b2,o2+j*4,none⟩)),vq (.agg #[.int .i64 q1,.int .i64 q2,.int .i64 q3,.int .i64 q4]),vq (.agg #[.int .i64 e1,.int .i64 e2,.int .i64 e3,.int .i64 e4]),vq (.int .i64 z),vq (.bool true),vq (.bool true)]) (fun W=>Ext wq W) 76 (by kernel_rfl) rfl ?hVx ?hSx ?hS (Ay ?hop) ?hfin
            case hop =>
             refine ⟨?_,?k1,?_,?_,?_,?_,?_,?_,?_,?_,?k10,?_,?_,trivial⟩
             all_goals
              intro A W jc hS jb ja;have jf:Ext wq W:=hS;have h9:=(Below.block (Ext.trans HB.out (Ext.trans je.out jf)) _ jm.out).trans jk.out;have m0:W.cell? ⟨g,0,none⟩=some (.int .i64 n):=by rw [cell_of_row _ _ 0 _ _ _ h9];rfl
              have m1:W.cell? ⟨g,1,none⟩=some (.slice a E.length cap):=by rw [cell_of_row _ _ 1 _ _ _ h9];rfl
              clear h9;have h8:=(Below.block jf _ jr.out).trans jq.out;have u0:W.cell? ⟨gq,0,none⟩=some (.int .i64 e1):=by rw [cell_of_row _ _ 0 _ _ _ h8];rfl
              have u1:W.cell? ⟨gq,1,none⟩=some (.int .i64 e2):=by rw [cell_of_row _ _ 1 _ _ _ h8];rfl
              have u2:W.cell? ⟨gq,2,none⟩=some (.int .i64 e3):=by rw [cell_of_row _ _ 2 _ _ _ h8];rfl
              have u3:W.cell? ⟨gq,3,none⟩=some (.int .i64 e4):=by rw [cell_of_row _ _ 3 _ _ _ h8];rfl
              clear h8 jf;have y0:=(Below.cell hS (p:=⟨b2,o2+j*4,none⟩) jh).trans jz.out;have y1:=(Below.cell hS (p:=⟨b2,o2+j*4+1,none⟩) jh).trans jA.out;have y2:=(Below.cell hS (p:=⟨b2,o2+j*4+2,none⟩) jh).trans jB.out;have y3:=(Below.cell hS (p:=⟨b2,o2+j*4+3,none⟩) jh).trans jC.out;have h1:A.tmps.getD 1 undef=.pointer (some ⟨g,0,none⟩):=ja 1 (by kernel_rfl);have h3:A.tmps.getD 3 undef=.int .i64 (k:Int):=ja 3 (by kernel_rfl);have h4:A.tmps.getD 4 undef=.pointer (some ⟨gq,0,none⟩):=ja 4 (by kernel_rfl);clear ja;simp [AY,Region.binds,Vs,vq] at jb
             case k1 =>
              refine AX rfl (.inl ⟨_,W,?_,rfl,Ext.refl _⟩);clear jc hS ju;simp [go_sem,Act.eval, *];have:=js.out;omega
             case k10 =>
              refine Al (j:=2) (d:=64) (b:=true) rfl (by kernel_rfl) (by simp only [jb]) rfl (.inr ⟨49,#[.agg #[.int .i64 q1,.int .i64 q2,.int .i64 q3,.int .i64 q4],.agg #[.int .i64 e1,.int .i64 e2,.int .i64 e3,.int .i64 e4]],W,by (clear jc hS;simp [go_sem,Act.eval, *]),?_⟩);refine (GW (q1,q2,q3,q4) (e1,e2,e3,e4) W).mono ?_;rintro e w' ⟨he,hx⟩;rw [HZ.out] at he;exact ⟨_,he,rfl,hx⟩
             all_goals first
              | (refine AX rfl (.inl ⟨_,W,?_,rfl,Ext.refl _⟩);clear jc hS;simp [go_sem,Act.eval, *];done)
              | (refine Al (j:=2) (d:=64) (b:=true) rfl (by kernel_rfl) (by simp only [jb]) rfl (.inl ⟨_,W,?_,rfl,Ext.refl _⟩);clear jc hS;simp [go_sem,Act.eval, *];done)
            case hVx=>exact Af (by simp only [AS,List.not_mem_nil,or_false,forall_eq_or_imp,forall_eq];and_intros <;> exact AW _)
            case hSx=>exact fun W W' h hx=>Ext.trans h hx
            case hS=>first | exact Ext.refl _ | exact B8 _
            case hfin =>
             intro A W jc ji hS hv ja;obtain ⟨x,hx,hA⟩:=Ag [62,63,64,65,66,67,68,69,70,71,72,73,74] (by kernel_rfl) jc ji ja;have e74:x 74=.bool true:=(hx 74).trans (hv 12 (by decide));rw [hA];simp only [List.foldl];rw [e74];clear e74;simp only [Act.put,List.setIfInBounds_toArray,List.set_cons_succ,List.set_cons_zero];clear hA hx hv ja jc ji;have jl:=A0 (Ext.trans HX.out (Ext.trans HB.out (Ext.trans je.out hS)));clear hS
             go_wp2_with fail
             go_ret;exact ⟨Aa HN.out.symm,jl.out⟩
           ·have HS:Hid (Im n E (k+1)):=HU.out.step jd.out jy.out (fun _=>by rw [jg.out,jD.out,← NM,HZ.out];omega);refine Am (by kernel_rfl) (Vs [vq (.int .i64 (k:Int)),vq (.bool true),vq (.bool true),vq (.pointer (some ⟨g,1,none⟩)),vq (.slice a E.length cap),vq (.int .i64 (k:Int)),vq (.int .i64 (j:Int)),vq (.pointer (some ⟨b2,o2+j*4,none⟩)),vq (.agg #[.int .i64 q1,.int .i64 q2,.int .i64 q3,.int .i64 q4]),vq (.agg #[.int .i64 e1,.int .i64 e2,.int .i64 e3,.int .i64 e4]),vq (.int .i64 z),vq (.bool false),vq (.bool false)]) (fun W=>Ext wq W) 76 (by kernel_rfl) rfl ?hVx ?hSx ?hS (Ay ?hop) ?hfin
            case hop =>
             refine ⟨?_,?k1,?_,?_,?_,?_,?_,?_,?_,?_,?k10,?_,?_,trivial⟩
             all_goals
              intro A W jc hS jb ja;have jf:Ext wq W:=hS;have h9:=(Below.block (Ext.trans HB.out (Ext.trans je.out jf)) _ jm.out).trans jk.out;have m0:W.cell? ⟨g,0,none⟩=some (.int .i64 n):=by rw [cell_of_row _ _ 0 _ _ _ h9];rfl
              have m1:W.cell? ⟨g,1,none⟩=some (.slice a E.length cap):=by rw [cell_of_row _ _ 1 _ _ _ h9];rfl
              clear h9;have h8:=(Below.block jf _ jr.out).trans jq.out;have u0:W.cell? ⟨gq,0,none⟩=some (.int .i64 e1):=by rw [cell_of_row _ _ 0 _ _ _ h8];rfl
              have u1:W.cell? ⟨gq,1,none⟩=some (.int .i64 e2):=by rw [cell_of_row _ _ 1 _ _ _ h8];rfl
              have u2:W.cell? ⟨gq,2,none⟩=some (.int .i64 e3):=by rw [cell_of_row _ _ 2 _ _ _ h8];rfl
              have u3:W.cell? ⟨gq,3,none⟩=some (.int .i64 e4):=by rw [cell_of_row _ _ 3 _ _ _ h8];rfl
              clear h8 jf;have y0:=(Below.cell hS (p:=⟨b2,o2+j*4,none⟩) jh).trans jz.out;have y1:=(Below.cell hS (p:=⟨b2,o2+j*4+1,none⟩) jh).trans jA.out;have y2:=(Below.cell hS (p:=⟨b2,o2+j*4+2,none⟩) jh).trans jB.out;have y3:=(Below.cell hS (p:=⟨b2,o2+j*4+3,none⟩) jh).trans jC.out;have h1:A.tmps.getD 1 undef=.pointer (some ⟨g,0,none⟩):=ja 1 (by kernel_rfl);have h3:A.tmps.getD 3 undef=.int .i64 (k:Int):=ja 3 (by kernel_rfl);have h4:A.tmps.getD 4 undef=.pointer (some ⟨gq,0,none⟩):=ja 4 (by kernel_rfl);clear ja;simp [AY,Region.binds,Vs,vq] at jb
             case k1 =>
              refine AX rfl (.inl ⟨_,W,?_,rfl,Ext.refl _⟩);clear jc hS ju;simp [go_sem,Act.eval, *];have:=js.out;omega
             case k10 =>
              refine Al (j:=2) (d:=64) (b:=true) rfl (by kernel_rfl) (by simp only [jb]) rfl (.inr ⟨49,#[.agg #[.int .i64 q1,.int .i64 q2,.int .i64 q3,.int .i64 q4],.agg #[.int .i64 e1,.int .i64 e2,.int .i64 e3,.int .i64 e4]],W,by (clear jc hS;simp [go_sem,Act.eval, *]),?_⟩);refine (GW (q1,q2,q3,q4) (e1,e2,e3,e4) W).mono ?_;rintro e w' ⟨he,hx⟩;rw [HZ.out] at he;exact ⟨_,he,rfl,hx⟩
             all_goals first
              | (refine AX rfl (.inl ⟨_,W,?_,rfl,Ext.refl _⟩);clear jc hS;simp [go_sem,Act.eval, *];done)
              | (refine Al (j:=2) (d:=64) (b:=true) rfl (by kernel_rfl) (by simp only [jb]) rfl (.inl ⟨_,W,?_,rfl,Ext.refl _⟩);clear jc hS;simp [go_sem,Act.eval, *];done)
            case hVx=>exact Af (by simp only [AS,List.not_mem_nil,or_false,forall_eq_or_imp,forall_eq];and_intros <;> exact AW _)
            case hSx=>exact fun W W' h hx=>Ext.trans h hx
            case hS=>first | exact Ext.refl _ | exact B8 _
            case hfin =>
             intro A W jc ji hS hv ja;obtain ⟨x,hx,hA⟩:=Ag [62,63,64,65,66,67,68,69,70,71,72,73,74] (by kernel_rfl) jc ji ja;have e74:x 74=.bool false:=(hx 74).trans (hv 12 (by decide));rw [hA];simp only [List.foldl];rw [e74];clear e74;simp only [Act.put,List.setIfInBounds_toArray,List.set_cons_succ,List.set_cons_zero];clear hA hx hv ja jc ji;have jl:=A0 (Ext.trans HB.out (Ext.trans je.out hS));clear hS
             go_wp2_with fail
             go_roundw
             case rel=>exact ⟨k+1,by omega,by go_num,HS.out,jl.out⟩
             case measure=>simp [intOf];omega
  ·have jx:¬ (k:Int)<(E.length:Int):=by omega
   have HN:Hid (F2 n E=true):=In ⟨jt.out.1,jt.out.2.1,jt.out.2.2,fun i hi _=>HU.out i hi (by omega)⟩
   go_wp2_with fail
   go_ret;exact ⟨Aa HN.out.symm,Ext.trans HX.out HB.out⟩
def BE:BQ Edg:=⟨51,109,4,32,.agg #[.int .i64 0,.int .i64 0,.int .i64 0,.int .i64 0],fun e=>[.int .i64 e.1,.int .i64 e.2.1,.int .i64 e.2.2.1,.int .i64 e.2.2.2]⟩
theorem BF:BE.Ok:=⟨Tryz.underlying51,by kernel_rfl,rfl,by decide,fun _=>rfl,fun x u hu=>by
 have h:u=.int .i64 x.1∨u=.int .i64 x.2.1∨u=.int .i64 x.2.2.1∨u=.int .i64 x.2.2.2:=by simpa [BE] using hu
 rcases h with rfl | rfl | rfl | rfl <;> rfl,by decide⟩
theorem AZ.lnks {w:World} {B:Nat} {a:Option Addr} {n c:Nat} {L:List Edg} (h:AZ BE w B (.slice a n c) L):CM w a L∧n=L.length∧L.length≤c:=by
 obtain ⟨a',c',he,hc,_⟩:=h.form;injection he with e1 e2 e3;refine ⟨fun k hk=>?_,e2,by omega⟩;rcases h.blk with ⟨_,rfl⟩ | ⟨g,c2,ja,_,hg,_⟩
 · simp at hk
 ·injection ja with f1 f2 f3;subst f1;refine ⟨g,0,rfl,hg,?_,?_,?_,?_⟩
  ·have:=h.cell BF hk (j:=0) (by decide);simpa [BE] using this
  ·have:=h.cell BF hk (j:=1) (by decide);simpa [BE] using this
  ·have:=h.cell BF hk (j:=2) (by decide);simpa [BE] using this
  ·have:=h.cell BF hk (j:=3) (by decide);simpa [BE] using this
theorem KS (a:Option Addr) (b o len cap k:Nat) (ha:a=some ⟨b,o,none⟩) (hk:k<len) (w:World) :
  (Instr.indexAt 51 (.slice a len cap) (.int .i64 (k:Int))).run Tryz.prog w=.ok (.pointer (some ⟨b,o+k*4,none⟩)) w:=by
 subst ha;have h0:(0:Int)≤(k:Int):=by omega
 have h1:(k:Int)<(len:Int):=by omega
 simp [go_sem,h0,h1]
theorem Q1 (n m:Int) (a b:Option Addr) (k c l d:Nat) (w:World):∃ w1,(w.alloc (.cells #[.int .i64 n,.slice a k c] 53)).alloc (.cells #[.int .i64 m,.slice b l d] 53)=w1∧Ext w w1 ∧
  (∀ W,Ext w1 W→W.cell? ⟨w.heap.size,0,none⟩=some (.int .i64 n)∧W.cell? ⟨w.heap.size,1,none⟩=some (.slice a k c))∧(∀ W,Ext w1 W→W.cell? ⟨w.heap.size+1,0,none⟩=some (.int .i64 m)∧W.cell? ⟨w.heap.size+1,1,none⟩=some (.slice b l d)):=by
 obtain ⟨wa,ja⟩:∃ wa,w.alloc (.cells #[.int .i64 n,.slice a k c] 53)=wa:=⟨_,rfl⟩
 obtain ⟨w1,jb⟩:∃ w1,wa.alloc (.cells #[.int .i64 m,.slice b l d] 53)=w1:=⟨_,rfl⟩
 have hx:Ext w wa:=by rw [← ja];exact (Below.refl _ _).alloc (A3 _) _
 have hy:Ext wa w1:=by rw [← jb];exact (Below.refl _ _).alloc (A3 _) _
 have hz:wa.heap.size=w.heap.size+1:=by rw [← ja];simp
 have h1:wa.heap[w.heap.size]? = some (.cells #[.int .i64 n,.slice a k c] 53 (0,0)):=by rw [← ja];exact heap_alloc_new _ _
 have h2:w1.heap[w.heap.size+1]? = some (.cells #[.int .i64 m,.slice b l d] 53 (0,0)):=by rw [← hz,← jb];exact heap_alloc_new _ _
 refine ⟨w1,by rw [ja,jb],Ext.trans hx hy,fun W hW=>?_,fun W hW=>?_⟩
 ·have h3:=(Below.block (Ext.trans hy hW) _ (A5.1 h1).1).trans h1;exact ⟨by rw [cell_of_row W _ 0 _ _ _ h3];rfl,by rw [cell_of_row W _ 1 _ _ _ h3];rfl⟩
 ·have h3:=(Below.block hW _ (A5.1 h2).1).trans h2;exact ⟨by rw [cell_of_row W _ 0 _ _ _ h3];rfl,by rw [cell_of_row W _ 1 _ _ _ h3];rfl⟩
theorem gsame_any
         (D E:List Edg) (n m:Int) (a b:Option Addr) (c d:Nat) (w:World) (hX:CM w a D) (hY:CM w b E) (hl1:D.length≤9223372036854775807) (hl2:E.length≤9223372036854775807) :
  Calls Tryz.prog 17 #[FP n a D.length c,FP m b E.length d] w fun e w'=>e=.returned (.bool (decide (n=m∧D=E)))∧Ext w w':=by
 have HX:=A0 hX;have HY:=A0 hY;clear hX hY;unfold FP
 go_enter Tryz.func17,Tryz.ntmps17
 go_upto_region 1 with fail
 obtain ⟨w1,jo,jp,jl,jm⟩:=Q1 n m a b D.length c E.length d w;rw [jo];have ja:=A0 jp;have je:=A0 jl;have jf:=A0 jm;clear jo jp jl jm;obtain ⟨g,hg⟩:∃ g,w.heap.size=g:=⟨_,rfl⟩
 rw [hg] at je jf ⊢;clear hg;obtain ⟨p0,p1⟩:=je.out w1 (Ext.refl _);obtain ⟨q0,q1⟩:=jf.out w1 (Ext.refl _);by_cases hn:n=m
 ·subst
     hn
  by_cases hl:D.length=E.length
  ·have jr:(
         (D.length:Int) != (E.length:Int))=false:=by simp [hl]
   have HL:=A0 hl;clear hl
   go_wp2_with fail
   clear p0 p1 q0 q1
   go_loopg [5] D.length (fun g v5 wr=>∃ k:Nat,v5=.int .i64 (k:Int)∧k≤D.length∧g=D.length - k∧D.take k=E.take k∧Ext w1 wr)
   case atStart=>exact ⟨0,rfl,Nat.zero_le _,rfl,rfl,Ext.refl _⟩
   case round =>
    obtain ⟨k,rfl,hk,jn,ht,hB⟩:=hrel;have HT:=A0 ht;have HB:=A0 hB;have jq:=A0 jn;clear ht hB jn;obtain ⟨p0,p1⟩:=je.out wr HB.out;obtain ⟨q0,q1⟩:=jf.out wr HB.out;have jd:Ext w wr:=Ext.trans ja.out HB.out;by_cases jg:k<D.length
    ·have jb:k<E.length:=by have:=HL.out;omega
     obtain ⟨b1,o1,jj,hb1,x0,x1,x2,x3⟩:=(HX.out.go jd) k jg;obtain ⟨b2,o2,jk,hb2,y0,y1,y2,y3⟩:=(HY.out.go jd) k jb;have hi1:=KS a b1 o1 D.length c k jj jg;have hi2:=KS b b2 o2 E.length d k jk jb;have jh:Hid (D.take (k+1)=D.take k ++ [D[k]]):=AN jg;have ji:Hid (E.take (k+1)=E.take k ++ [E[k]]):=AN jb;have jc:Hid (D[k]≠E[k]→decide (D=E)=false):=fun js=>decide_eq_false fun h=>by
      subst h;exact js rfl
     have HXR:=A0 jd;obtain ⟨⟨e1,e2,e3,e4⟩,hx⟩:∃ x,D[k]=x:=⟨_,rfl⟩
     obtain ⟨⟨f1,f2,f3,f4⟩,hy⟩:∃ y,E[k]=y:=⟨_,rfl⟩
     rw [hx] at x0 x1 x2 x3 jh jc;rw [hy] at y0 y1 y2 y3 ji jc;simp only at x0 x1 x2 x3 y0 y1 y2 y3;clear jj jk hx hy jd;by_cases h0:e1=f1
     ·subst
         h0
      by_cases h1:e2=f2
      ·subst h1;by_cases h2:e3=f3
       ·subst h2;by_cases h3:e4=f4
        ·subst h3;go_wp2
         go_quiet (fail)
         go_wp2
         go_roundg (D.length - (k+1))
         case measure=>have:=jq.out;omega
         case rel=>exact ⟨k+1,by go_num,by omega,rfl,by rw [jh.out,ji.out,HT.out],below_drewN HB.out _⟩
        ·have hg3:(e4 == f4)=false:=by rw [beq_eq_false_iff_ne];exact h3
         have HR:=A0 (jc.out fun e=>h3 (by injection e with _ e;injection e with _ e;injection e with _ e));go_wp2
         go_quiet (fail)
         go_wp2;go_ret;exact ⟨Aa HR.out.symm,Ext.trans ja.out (below_drewN HB.out _)⟩
       ·have hg2:(e3 == f3)=false:=by rw [beq_eq_false_iff_ne];exact h2
        have HR:=A0 (jc.out fun e=>h2 (by injection e with _ e;injection e with _ e;injection e with e));go_wp2
        go_quiet (fail)
        go_wp2;go_ret;exact ⟨Aa HR.out.symm,Ext.trans ja.out (below_drewN HB.out _)⟩
      ·have hg1:(e2 == f2)=false:=by rw [beq_eq_false_iff_ne];exact h1
       have HR:=A0 (jc.out fun e=>h1 (by injection e with _ e;injection e with e));go_wp2
       go_quiet (fail)
       go_wp2;go_ret;exact ⟨Aa HR.out.symm,Ext.trans ja.out (below_drewN HB.out _)⟩
     ·have hg0:(e1 == f1)=false:=by rw [beq_eq_false_iff_ne];exact h0
      have HR:=A0 (jc.out fun e=>h0 (by injection e with e));go_wp2
      go_quiet (fail)
      go_wp2;go_ret;exact ⟨Aa HR.out.symm,Ext.trans ja.out (below_drewN HB.out _)⟩
    ·have HR:Hid (decide (D=E)=true):=decide_eq_true (by
      have h:=HT.out;have h2:=HL.out;rw [AF (by omega),AF (by omega)] at h;exact h)
     go_wp2;go_ret;exact ⟨Aa HR.out.symm,Ext.trans ja.out HB.out⟩
  ·have jr:((D.length:Int) == (E.length:Int))=false:=by simpa using fun h=>hl (by omega)
   have HR:Hid (decide (D=E)=false):=decide_eq_false fun h=>hl (by rw [h]);go_wp2;go_ret;exact ⟨Aa HR.out.symm,ja.out⟩
 ·have hnI:(n == m)=false:=by rw [beq_eq_false_iff_ne];exact hn
  have HR:Hid (decide (n=m∧D=E)=false):=decide_eq_false fun h=>hn h.1;go_wp2;go_ret;exact ⟨Aa HR.out.symm,ja.out⟩
theorem Lg {α:Type} {f:α→List Value} {k:Nat} (hk:∀ x,(f x).length=k):∀ (L:List α) (i j:Nat) (hi:i<L.length) (x:α) (u:Value),j<k→f x=(f L[i]).set j u→(L.set i x).flatMap f=(L.flatMap f).set (i*k+j) u
 | y :: r,0,j,_,x,u,hj,h=>by
  rw [List.set_cons_zero,List.flatMap_cons,List.flatMap_cons,Nat.zero_mul,Nat.zero_add,List.set_append,if_pos (by rw [hk];exact hj)];rw [h];rfl
 | y :: r,i+1,j,hi,x,u,hj,h=>by
  have e:(i+1)*k+j - k=i*k+j:=by rw [Nat.add_mul];omega
  rw [List.set_cons_succ,List.flatMap_cons,List.flatMap_cons,List.set_append,if_neg (by rw [hk,Nat.add_mul];omega),hk,e,Lg hk r i j (by simpa using hi) x u hj h]
theorem AZ.put {α:Type} {T:BQ α} (hT:T.Ok) {w:World} {B g n c i j:Nat} {L:List α} {x:α} {u:Value} (h:AZ T w B (.slice (some ⟨g,0,none⟩) n c) L) (hi:i<L.length) (hj:j<T.k) (hx:T.enc x=(T.enc L[i]).set j u) :
  AZ T (w.setCell ⟨g,i*T.k+j,none⟩ u) B (.slice (some ⟨g,0,none⟩) n c) (L.set i x):=by
 rcases h.2 with ⟨h0,_⟩ | ⟨g',cap,cur,he,h1,h2,h3,h4,h5,h6⟩
 · cases h0
 ·obtain ⟨rfl,rfl,rfl⟩:g=g'∧n=L.length∧c=cap:=by
   injection he with e1 e2 e3;injection e1 with e1;injection e1 with e1;exact ⟨e1,e2,e3⟩
  have hlt:i*T.k+j<L.length*T.k:=by
   have:(i+1)*T.k≤L.length*T.k:=Nat.mul_le_mul_right _ hi;rw [Nat.add_mul] at this;omega
  refine ⟨by rw [DV hT],.inr ⟨g,c,cur.setIfInBounds (i*T.k+j) u,by rw [List.length_set],h1,Ao h2 rfl,by rw [List.length_set];exact h3,h4,by rw [Array.size_setIfInBounds];exact h5,?_⟩⟩;rw [Array.toList_setIfInBounds,List.length_set,List.take_set,h6,Lg hT.len L i j hi x u hj hx]
theorem AZ.put4 {w:World} {B g n c i:Nat} {L:List Edg} (h:AZ BE w B (.slice (some ⟨g,0,none⟩) n c) L) (hi:i<L.length) (e1 e2 e3 e4:Int) :
  AZ BE ((((w.setCell ⟨g,i*4,none⟩ (.int .i64 e1)).setCell ⟨g,i*4+1,none⟩ (.int .i64 e2)).setCell ⟨g,i*4+2,none⟩ (.int .i64 e3)).setCell ⟨g,i*4+3,none⟩ (.int .i64 e4)) B (.slice (some ⟨g,0,none⟩) n c) (L.set i (e1,e2,e3,e4)):=by
 have h1:=AZ.put BF h hi (j:=0) (x:=(e1,L[i].2.1,L[i].2.2.1,L[i].2.2.2)) (u:=.int .i64 e1) (by decide) rfl;have h2:=AZ.put BF h1 (by rw [List.length_set];exact hi) (j:=1) (x:=(e1,e2,L[i].2.2.1,L[i].2.2.2)) (u:=.int .i64 e2) (by decide) (by rw [List.getElem_set_self];rfl);have h3:=AZ.put BF h2 (by rw [List.length_set,List.length_set];exact hi) (j:=2) (x:=(e1,e2,e3,L[i].2.2.2)) (u:=.int .i64 e3) (by decide) (by rw [List.getElem_set_self];rfl);have h4:=AZ.put BF h3 (by rw [List.length_set,List.length_set,List.length_set];exact hi) (j:=3) (x:=(e1,e2,e3,e4)) (u:=.int .i64 e4) (by decide) (by rw [List.getElem_set_self];rfl);rw [List.set_set,List.set_set,List.set_set] at h4;exact h4
theorem Tq.grow {g:Nat} {w0 w w':World} {v:Value} (h:Tq g w0 w) (hg:w.grownBy w' v.ownBlock) (hv:∀ q,v.ownBlock=some q→w0.heap.size≤q):Tq g w0 w' :=
 ⟨hg.os.trans h.os,hg.tape.trans h.tape,hg.output.trans h.output,A8 h.size hg.size,fun k hk ja=>(hg.block k (A7 hk h.size) fun e=>by have:=hv k e.symm;omega).trans (h.block k hk ja)⟩
theorem At {w:World} {g:Nat} {a b:Value} {t:TypeId} {f:Nat × Nat} (h:w.heap[g]? = some (.cells #[a,b] t f)):w.cell? ⟨g,0,none⟩=some a∧w.cell? ⟨g,1,none⟩=some b:=by
 refine ⟨?_,?_⟩ <;> (rw [cell_of_row w g _ _ _ f h];rfl)
theorem T3 {w w':World} {g:Nat} {tmp:Obj} {v0 v1:Value} {t:TypeId} {v:Value} (hg:(w.alloc tmp).grownBy w' v.ownBlock) (hm:w.heap[g]? = some (.cells #[v0,v1] t (0,0))) (hn:v.ownBlock≠some g) :
  w'.cell? ⟨g,0,none⟩=some v0∧w'.cell? ⟨g,1,none⟩=some v1∧∀ i,w'.frozen? ⟨g,i,none⟩=false:=by
 have hl:=(A5.1 hm).1;have h1:w'.heap[g]? = some (.cells #[v0,v1] t (0,0)):=(hg.block g (by rw [A6];omega) (Ne.symm hn)).trans ((Below.heap_alloc _ _ _ hl).trans hm);obtain ⟨m0,m1⟩:=At h1;exact ⟨m0,m1,fun i=>by simp [World.frozen?,h1]⟩
theorem TL {α:Type} {T:BQ α} {w w' w0:World} {g n1 c1 n9 c9:Nat} {tmp:Obj} {v0:Value} {t:TypeId} {a1 a9:Option Addr} {CS DS:List α} (hm:w.heap[g]? = some (.cells #[v0,.slice a1 n1 c1] t (0,0)))
  (ho:AZ T w w0.heap.size (.slice a1 n1 c1) CS) (ja:AZ T w' w0.heap.size (.slice a9 n9 c9) DS) (hg:(w.alloc tmp).grownBy w' (Value.slice a1 n1 c1).ownBlock) (ht:Tq g w0 w) (hw:g<w0.heap.size) :
  (w'.setCell ⟨g,1,none⟩ (.slice a9 n9 c9)).heap[g]? = some (.cells #[v0,.slice a9 n9 c9] t (0,0))∧AZ T (w'.setCell ⟨g,1,none⟩ (.slice a9 n9 c9)) w0.heap.size (.slice a9 n9 c9) DS∧Tq g w0 (w'.setCell ⟨g,1,none⟩ (.slice a9 n9 c9)):=by
 have hl:=(A5.1 hm).1;have hx:Ext w (w.alloc tmp):=(Below.refl _ _).alloc (A3 _) _;have h1:w'.heap[g]? = some (.cells #[v0,.slice a1 n1 c1] t (0,0)):=(hg.block g (by rw [A6];omega) (fun e=>by have:=ho.ge g e.symm;omega)).trans ((Below.heap_alloc _ _ _ hl).trans hm);exact ⟨Ao h1 rfl,ja.keep fun q hq=>Below.heap_setCell _ _ _ _ (by have:=ja.ge q hq;show q≠g;omega),((ht.trans (Tq.of hx)).grow hg fun q hq=>ho.ge q hq).trans (Tq.set _ _ _ _)⟩
theorem SN {w:World} {g:Nat} {u0 u1:Value} {t:TypeId} (h:w.heap[g]? = some (.cells #[u0,u1] t (0,0))) (v0 v1:Value) :
  ∃ w',(w.setCell ⟨g,0,none⟩ v0).setCell ⟨g,1,none⟩ v1=w'∧Tq g w w'∧w'.cell? ⟨g,0,none⟩=some v0∧w'.cell? ⟨g,1,none⟩=some v1:=by
 have h4:((w.setCell ⟨g,0,none⟩ v0).setCell ⟨g,1,none⟩ v1).heap[g]? = some (.cells #[v0,v1] t (0,0)):=Ao (Ao h rfl) rfl;obtain ⟨c0,c1⟩:=At h4;exact ⟨_,rfl,(Tq.set _ _ _ _).trans (Tq.set _ _ _ _),c0,c1⟩
theorem Eb (w:World) (o0 o1:Obj):∃ w2,(w.alloc o0).alloc o1=w2∧Ext w w2∧w2.heap[w.heap.size]? = some o0∧w2.heap[w.heap.size+1]? = some o1∧w2.heap.size=w.heap.size+1+1:=by
 have x:∀ (W:World) (o:Obj),Ext W (W.alloc o):=fun W o=>(Below.refl _ _).alloc (A3 _) _;have n:∀ (W:World) (o:Obj),(W.alloc o).heap[W.heap.size]? = some o:=fun W o=>World.alloc_heap_new W o;refine ⟨_,rfl,Ext.trans (x _ _) (x _ _),(Below.block (x _ _) _ (by simp)).trans (n _ _),?_,by simp⟩;have:=n (w.alloc o0) o1
 rwa [A6] at this
theorem SO (w:World) (o0 o1 o2:Obj):∃ w3,((w.alloc o0).alloc o1).alloc o2=w3∧Ext w w3∧w3.heap[w.heap.size]? = some o0∧w3.heap[w.heap.size+1]? = some o1∧w3.heap[w.heap.size+1+1]? = some o2∧w3.heap.size=w.heap.size+1+1+1:=by
 have x:∀ (W:World) (o:Obj),Ext W (W.alloc o):=fun W o=>(Below.refl _ _).alloc (A3 _) _;have n:∀ (W:World) (o:Obj),(W.alloc o).heap[W.heap.size]? = some o:=fun W o=>World.alloc_heap_new W o;have k:∀ (W:World) (o p:Obj) (i:Nat),W.heap[i]? = some p→(W.alloc o).heap[i]? = some p:=fun W o p i h=>(Below.block (x W o) _ (A5.1 h).1).trans h;refine ⟨_,rfl,Ext.trans (x _ _) (Ext.trans (x _ _) (x _ _)),k _ _ _ _ (k _ _ _ _ (n _ _)),?_,?_,by simp⟩
 · exact k _ _ _ _ (by have:=n (w.alloc o0) o1;rwa [A6] at this)
 ·have:=n ((w.alloc o0).alloc o1) o2
  rwa [A6,A6] at this
def GrP (n:Int) (E:List Edg) (w:World) (e:Ending) (w':World):Prop:=∃ v,e=.returned (.agg #[.int .i64 n,v])∧AZ BE w' w.heap.size v E∧Ext w w'
theorem Tq.own {α:Type} {T:BQ α} {w w':World} {g B:Nat} {v:Value} {L:List α} (ho:AZ T w B v L) (ht:Tq g w w') (hg:g<B):AZ T w' B v L:=ho.keep fun q hq=>ht.block q (ho.lt q hq) fun e=>by
 have h1:=ho.ge q hq;injection e with e;omega
def zE:Edg:=(0,0,0,0)
theorem Q2 {E:List Edg} {k:Nat} (hk:k<E.length) {e:Edg} (he:E[k]=e):(E.take k ++ List.replicate (E.length - k) zE).set k e=E.take (k+1) ++ List.replicate (E.length - (k+1)) zE:=by
 have h1:(E.take k).length=k:=by rw [AK];omega
 rw [List.set_append,if_neg (by omega),h1,Nat.sub_self,AN hk,he,show E.length - k=(E.length - (k+1))+1 by omega,List.replicate_succ,List.set_cons_zero,List.append_assoc];rfl
theorem OX {w:World} {ops:Array Oper} {rest:List Oper} {o:Oper} {a:Act} {Q:Exit→Act→World→Prop}
  (jc:o.guard=none) (l c:Operand) (jd:o.op=Op.makeSlice 51 l c) (B n:Nat) (hl:a.eval l=.int .i64 (n:Int)) (hc:a.eval c=.int .i64 (n:Int)) (hn:n≤1000000) (hB:B≤w.heap.size)
  (hK:∀ w',AZ BE w' B (.slice (some ⟨w.heap.size,0,none⟩) n n) (List.replicate n zE)→Below w.heap.size w w'→wpList Tryz.prog ops Q rest (a.put o.dst (.slice (some ⟨w.heap.size,0,none⟩) n n)) w'):wpList Tryz.prog ops Q (o :: rest) a w:=by
 obtain ⟨i0,hi,je,jf,jg⟩:=info_parts BF.info;have hb:i0.bytes*n≤64*1000000:=Nat.mul_le_mul (by rw [jg];decide) hn;refine wpList_make_full w jc l c BE.sl jd B BE.e i0 BE.z BE.k BF.und hi je jf .i64 .i64 (n:Int) (n:Int) n hl hc rfl rfl (by omega) (by unfold maxLen;omega) hB ?_;intro w' ja hg;refine hK w' ?_ ⟨hg.os,hg.tape,hg.output,hg.size,fun k hk=>hg.block k hk (by simp)⟩;unfold AZ;rw [List.length_replicate];have e:(madeCells BE.z.cells (n*BE.k)).toList=(List.replicate n zE).flatMap BE.enc:=by
  have h1:∀ m,(List.replicate m zE).flatMap BE.enc=List.replicate (m*4) (.int .i64 0):=fun m=>by
   induction m with
   | zero=>rfl
   | succ m ih=>rw [List.replicate_succ,List.flatMap_cons,ih,show (m+1)*4=m*4+1+1+1+1 by omega];rfl
  rw [h1];apply List.ext_getElem
  · simp [madeCells,BE]
  ·intro j h2 h3;have hm:j % 4=0∨j % 4=1∨j % 4=2∨j % 4=3:=by omega
   have jb:BE.z.cells=#[.int .i64 0,.int .i64 0,.int .i64 0,.int .i64 0]:=rfl;rcases hm with hm | hm | hm | hm <;> simp [madeCells,hm,jb]
 rw [← e];exact ja
theorem graph_any (n:Int) (E:List Edg) (a:Option Addr) (cap:Nat) (w:World) (hE:CM w a E) (hl:E.length≤1000000) :
  Calls Tryz.prog 48 #[.int .i64 n,.slice a E.length cap] w (GrP n E w):=by
 have HE:=A0 hE;clear hE
 go_enter Tryz.func48,Tryz.ntmps48
 go_upto_block 0 with (at_make;go_loud (refine OX rfl _ _ rfl (w.heap.size+1) E.length (by go_num) (by go_num) (by omega) (by simp) ?_);intro w3 jb jz;have jd:=A0 jb;have jh:=A0 jz;clear jb jz)
 have jd:=A0 (by have h:=jd.out;rw [A6] at h;exact h);have jI:Ext w (w.alloc (.cells #[.int .i64 0,.slice none 0 0] 53)):=(Below.refl _ _).alloc (A3 _) _;have h0:=(Below.block jh.out _ (by simp)).trans (heap_alloc_new w (.cells #[.int .i64 0,.slice none 0 0] 53));have jJ:w.heap.size+1≤w3.heap.size:=by have:=jh.out.size;rwa [A6] at this
 obtain ⟨cs3,ja⟩:=Au jd.out (g:=w.heap.size+1) rfl;have jD:=(A5.1 ja).1;obtain ⟨w4,jl⟩:∃ w4,w3.alloc (.cells #[.int .i64 n,.slice (some ⟨w.heap.size+1,0,none⟩) E.length E.length] 53)=w4:=⟨_,rfl⟩
 rw [jl];have jn:Ext w3 w4:=by rw [← jl];exact (Below.refl _ _).alloc (A3 _) _
 have je:w4.heap[w3.heap.size]? = some (.cells #[.int .i64 n,.slice (some ⟨w.heap.size+1,0,none⟩) E.length E.length] 53 (0,0)):=by rw [← jl];exact heap_alloc_new _ _
 have jQ:Hid (Ext w w4):=Ext.trans jI (Ext.trans jh.out jn);have jx:=A0 ((Below.block jn _ (A5.1 h0).1).trans h0);have jw:=A0 (jd.out.later jn (A3 _));obtain ⟨gr,js⟩:∃ gr,w.heap.size=gr:=⟨_,rfl⟩
 have jp:=A0 js;obtain ⟨gg,jB⟩:∃ gg,w3.heap.size=gg:=⟨_,rfl⟩
 rw [jB] at je jD jJ ⊢;rw [js] at je jD jJ jw jx ⊢;have jK:=A0 je;have jR:Hid (gg<w4.heap.size):=(A5.1 je).1;clear jI h0 ja jl jn je js jB jd jh
 go_wp2_with fail
 go_loopg [15,6,7] E.length (fun g v15 v6 v7 wr=>∃ k:Nat,v15=.int .i64 (k:Int)∧k≤E.length∧g=E.length - k∧AZ BE wr (gr+1) (.slice (some ⟨gr+1,0,none⟩) E.length E.length) (E.take k ++ List.replicate (E.length - k) zE)∧Tq (gr+1) w4 wr)
 case atStart=>exact ⟨0,rfl,Nat.zero_le _,rfl,jw.out,Tq.of (Ext.refl _)⟩
 case round =>
  obtain ⟨k,rfl,hk,jC,jF,ht⟩:=hrel;have jq:=A0 jF;have HT:=A0 ht;have jL:=A0 jC;have jr:=ht.at (q:=gg) (by omega) jK.out;have jv:=A0 jr;obtain ⟨m0,m1⟩:=At jr;have jg:Ext w wr:=Below.trans jQ.out (Below.mono (ht.below (A3 _) (by have:=jR.out;omega)) (by have:=jp.out;omega));have HXR:=A0 jg;have hgn:gr+1≠gg:=by omega
  clear jF ht jC jr;by_cases jj:k<E.length
  ·have hltI:(k:Int)<(E.length:Int):=by omega
   obtain ⟨b1,o1,ha,hb1,x0,x1,x2,x3⟩:=(HE.out.go jg) k jj;have ju:=Ca a b1 o1 E.length cap k ha jj;have ji:Hid (∀ e,E[k]=e→(E.take k ++ List.replicate (E.length - k) zE).set k e=E.take (k+1) ++ List.replicate (E.length - (k+1)) zE):=fun e he=>Q2 jj he;obtain ⟨⟨e1,e2,e3,e4⟩,hx⟩:∃ x,E[k]=x:=⟨_,rfl⟩
   have ji:=A0 (ji.out _ hx);rw [hx] at x0 x1 x2 x3;simp only at x0 x1 x2 x3;obtain ⟨M,hM⟩:∃ M,E.take k ++ List.replicate (E.length - k) zE=M:=⟨_,rfl⟩
   have jE:M.length=E.length:=by rw [← hM,AB,AK,List.length_replicate];omega
   have jf:k<M.length:=by omega
   rw [hM] at jq ji;have HML:=A0 jE;clear hM hx ha jE jg
   go_upto_region 5 with fail
   obtain ⟨wq,jm⟩:∃ wq,wr.alloc (.cells #[.int .i64 e1,.int .i64 e2,.int .i64 e3,.int .i64 e4] 62)=wq:=⟨_,rfl⟩
   rw [jm];have jo:Ext wr wq:=by rw [← jm];exact (Below.refl _ _).alloc (A3 _) _
   have jA:wq.heap[wr.heap.size]? = some (.cells #[.int .i64 e1,.int .i64 e2,.int .i64 e3,.int .i64 e4] 62 (0,0)):=by rw [← jm];exact heap_alloc_new _ _
   have jO:Hid (Tq (gr+1) w4 wq):=HT.out.trans (Tq.of jo);have jc:=jq.out.later jo (A3 _);have jN:=A0 jc;clear m0 m1 x0 x1 x2 x3 ju;obtain ⟨m0,m1⟩:=At ((Below.block jo _ (A5.1 jv.out).1).trans jv.out);obtain ⟨u0,u1,u2,u3⟩:=Ax jA;obtain ⟨cs3,ja⟩:=Au jc (g:=gr+1) rfl;have lf:∀ i,wq.frozen? ⟨gr+1,i,none⟩=false:=fun i=>by simp [World.frozen?,ja]
   have y0:wq.cell? ⟨gr+1,k*4,none⟩=some (.int .i64 M[k].1):=by
    have h:=jc.cell BF jf (j:=0) (by decide);simpa [BE] using h
   have y1:wq.cell? ⟨gr+1,k*4+1,none⟩=some (.int .i64 M[k].2.1):=by
    have h:=jc.cell BF jf (j:=1) (by decide);simpa [BE] using h
   have y2:wq.cell? ⟨gr+1,k*4+2,none⟩=some (.int .i64 M[k].2.2.1):=by
    have h:=jc.cell BF jf (j:=2) (by decide);simpa [BE] using h
   have y3:wq.cell? ⟨gr+1,k*4+3,none⟩=some (.int .i64 M[k].2.2.2):=by
    have h:=jc.cell BF jf (j:=3) (by decide);simpa [BE] using h
   have jt:=KS (some ⟨gr+1,0,none⟩) (gr+1) 0 E.length E.length k rfl jj;rw [Nat.zero_add] at jt;clear jm jo jA ja jc
   go_wp2_with fail
   go_roundg (E.length - (k+1))
   case measure=>have:=jL.out;omega
   case rel =>
    have hp:=jN.out.put4 jf e1 e2 e3 e4;rw [ji.out] at hp;exact ⟨k+1,by go_num,by omega,rfl,hp,(((jO.out.trans (Tq.set _ _ _ _)).trans (Tq.set _ _ _ _)).trans (Tq.set _ _ _ _)).trans (Tq.set _ _ _ _)⟩
  ·obtain rfl:k=E.length:=by omega
   have jM:Hid (AZ BE wr (gr+1) (.slice (some ⟨gr+1,0,none⟩) E.length E.length) E):=by
    have h:=jq.out;rw [List.take_length,Nat.sub_self,List.replicate_zero,List.append_nil] at h;exact h
   have jk:=HT.out.at (q:=gr) (by omega) jx.out;obtain ⟨r0,r1⟩:=At jk;have rf:∀ i,wr.frozen? ⟨gr,i,none⟩=false:=fun i=>by simp [World.frozen?,jk]
   obtain ⟨wf,jH,jG,t0,t1⟩:=SN jk (.int .i64 n) (.slice (some ⟨gr+1,0,none⟩) E.length E.length);have jP:=A0 jH;have jy:=A0 jG;clear jk jH jG
   go_wp2_with fail
   rw [jP.out];clear m0 m1 r0 r1 rf;refine bodyPost_ret (v:=.agg #[.int .i64 n,.slice (some ⟨gr+1,0,none⟩) E.length E.length]) (by simp [results,Tryz.results48,go_sem,t0,t1]) rfl ?_;exact ⟨_,rfl,(Tq.own jM.out jy.out (by omega)).mono (by have:=jp.out;omega),Below.trans jg (jy.out.below (by have:=jp.out;omega) jg.size)⟩
theorem Md (n:Int) (E:List Edg) (a:Option Addr) (cap:Nat) (w:World) (hE:CM w a E) (hl:E.length≤1000000) (hn0:0≤n) (hn1:n≤1000) :
  Calls Tryz.prog 18 #[FP n a E.length cap] w (GrP (n+1) E w):=by
 have HE:=A0 hE;clear hE;have hw1:RowKit.wrap64 (n+1)=n+1:=by unfold RowKit.wrap64;omega
 have hw2:IntKind.i64.wrap (n+1)=n+1:=IntWalk.i64_in _ (by omega);unfold FP
 go_enter Tryz.func18,Tryz.ntmps18
 go_upto_region 1 with fail
 obtain ⟨wb,je,jg,h0,h1,hz⟩:=Eb w (.cells #[.int .i64 n,.slice a E.length cap] 45) (.cells #[.int .i64 0,.slice none 0 0] 53);rw [je];obtain ⟨m0,m1⟩:=At h0;have jc:=A0 jg;have HR:=A0 h1;have HZ:=A0 hz;clear je jg h0 h1 hz
 go_wp2_with fail
 refine (graph_any (n+1) E a cap wb (HE.out.go jc.out) hl).mono ?_;rintro e w' ⟨v,rfl,hv,hx⟩;obtain ⟨a9,c9,jl, -, -⟩:=hv.form;subst jl;have ja:=(Below.block hx _ (A5.1 HR.out).1).trans HR.out;obtain ⟨r0,r1⟩:=At ja;have rf:∀ i,w'.frozen? ⟨w.heap.size+1,i,none⟩=false:=fun i=>by simp [World.frozen?,ja]
 obtain ⟨wf,jf,jd,t0,t1⟩:=SN ja (.int .i64 (n+1)) (.slice a9 E.length c9);have jj:=A0 jf;have jb:=A0 jd;have ji:=A0 hv;have jk:=A0 hx;clear ja jf jd hv hx m0 m1
 go_wp2_with fail
 rw [jj.out];clear r0 r1 rf;refine bodyPost_ret (v:=.agg #[.int .i64 (n+1),.slice a9 E.length c9]) (by simp [results,Tryz.results18,go_sem,t0,t1]) rfl ?_;have hzb:=HZ.out;have jh:=Ext.trans jc.out jk.out;exact ⟨_,rfl,(Tq.own ji.out jb.out (by omega)).mono (by omega),Below.trans jh (jb.out.below (by omega) jh.size)⟩
theorem Me (n:Int) (E:List Edg) (a:Option Addr) (cap:Nat) (w:World) (hE:CM w a E) (hl:E.length≤1000000) (hn0:0≤n) (hn1:n≤1000) :
  Calls Tryz.prog 19 #[FP n a E.length cap] w (GrP (n+1) E w):=by
 have HE:=A0 hE;clear hE;have hw1:RowKit.wrap64 (n+1)=n+1:=by unfold RowKit.wrap64;omega
 have hw2:IntKind.i64.wrap (n+1)=n+1:=IntWalk.i64_in _ (by omega);unfold FP
 go_enter Tryz.func19,Tryz.ntmps19
 go_upto_block 0 with fail
 obtain ⟨w0,jE,jG,h0,h1,h2,hz⟩:=SO w (.cells #[.int .i64 n,.slice a E.length cap] 45) (.cells #[.int .i64 0,.slice none 0 0] 53) (.cells #[.int .i64 (n+1),.slice none 0 0] 53);rw [jE];obtain ⟨gr,jm⟩:∃ gr,w.heap.size=gr:=⟨_,rfl⟩
 have jv:=A0 jm;rw [jm] at h0 h1 h2 hz ⊢;have jz:=A0 jG;have jH:=A0 h0;have jN:=A0 h1;have jI:=A0 h2;have HZ:=A0 hz;clear jE jG h0 h1 h2 hz jm
 go_wp2_with fail
 go_loopg [4,5] E.length (fun g v4 v5 wr=>∃ (k:Nat) (a3:Option Addr) (c3:Nat),v4=.int .i64 (k:Int)∧k≤E.length∧g=E.length - k∧wr.heap[gr+1+1]? = some (.cells #[.int .i64 (n+1),.slice a3 (E.take k).length c3] 53 (0,0))∧AZ BE wr w0.heap.size (.slice a3 (E.take k).length c3) (E.take k)∧Tq (gr+1+1) w0 wr)
 case atStart=>exact ⟨0,none,0,rfl,Nat.zero_le _,rfl,jI.out,AZ.nil _ _ _,Tq.of (Ext.refl _)⟩
 case round =>
  obtain ⟨k,a3,c3,rfl,hk,jC,jc,jq,ht⟩:=hrel;obtain ⟨F,hF⟩:∃ F,E.take k=F:=⟨_,rfl⟩
  rw [hF] at jc jq;have hfl:F.length≤E.length:=by rw [← hF,AK];omega
  have HF:=A0 hF;have jd:=A0 jq;have HT:=A0 ht;have jJ:=A0 jC;have HGB:=A0 jc;have hzz:=HZ.out;have ju:Ext w wr:=Below.trans jz.out (Below.mono (ht.below (A3 _) (by omega)) (by have:=jv.out;omega));obtain ⟨b0,b1⟩:=At (ht.at (q:=gr) (by omega) jH.out);have jA:=A0 ju;clear jq ht jC hF;by_cases jo:k<E.length
  ·have hltI:(k:Int)<(E.length:Int):=by omega
   obtain ⟨bb,o1,ha,hb1,x0,x1,x2,x3⟩:=(HE.out.go ju) k jo;have jn:=Ca a bb o1 E.length cap k ha jo;have jk:Hid (E.take (k+1)=F ++ [E[k]]):=by show _=_;rw [← HF.out];exact AN jo
   obtain ⟨⟨e1,e2,e3,e4⟩,hx⟩:∃ x,E[k]=x:=⟨_,rfl⟩
   rw [hx] at x0 x1 x2 x3 jk;simp only at x0 x1 x2 x3;clear hx ha ju
   go_upto_region 6 with fail
   obtain ⟨wq,ji⟩:∃ wq,wr.alloc (.cells #[.int .i64 e1,.int .i64 e2,.int .i64 e3,.int .i64 e4] 62)=wq:=⟨_,rfl⟩
   rw [ji];have jj:Ext wr wq:=by rw [← ji];exact (Below.refl _ _).alloc (A3 _) _
   have jB:wq.heap[wr.heap.size]? = some (.cells #[.int .i64 e1,.int .i64 e2,.int .i64 e3,.int .i64 e4] 62 (0,0)):=by rw [← ji];exact heap_alloc_new _ _
   have jy:Hid (Tq (gr+1+1) w0 wq):=HT.out.trans (Tq.of jj);have jd:=A0 (jd.out.later jj (A3 _));have jl:=(Below.block jj _ (A5.1 jc).1).trans jc;have jw:=A0 jl;have jL:Hid ((Value.slice a3 F.length c3).ownBlock≠some (gr+1+1)):=fun e=>by have:=jd.out.ge _ e;omega
   clear b0 b1 x0 x1 x2 x3 jn;obtain ⟨m0,m1⟩:=At jl;obtain ⟨u0,u1,u2,u3⟩:=Ax jB;clear ji jj jB jl jc
   go_wp2_with (at_builtin;go_loud (refine Ac (v:=.slice a3 F.length c3) BF rfl _ _ rfl rfl (jd.out.later ((Below.refl _ _).alloc (A3 _) _) (A3 _)) ⟨wq.heap.size,0,none⟩ 1 [(e1,e2,e3,e4)] rfl (Ae (heap_alloc_new _ _)) (by simp only [AC];omega) (by have:=jy.out.size;simp only [A6];omega) ?_);intro v59 w59 jb ja jg;have jf:=A0 jb;have je:=A0 ja;clear jb ja jg;obtain ⟨m0,m1,mf⟩:=T3 (je.out) (jw.out) (jL.out);obtain ⟨a59,c59,jt, -, -⟩:=jf.out.form;subst jt)
   obtain ⟨jp,jr,js⟩:=TL jw.out jd.out jf.out je.out jy.out (by omega);simp only [AB,AC] at jp jr js;have jK:=A0 jp;have jM:=A0 jr;have jO:=A0 js;clear jp jr js
   go_roundg (E.length - (k+1))
   case measure=>have:=jJ.out;omega
   case rel=>exact ⟨k+1,a59,c59,by go_num,by omega,rfl,by rw [jk.out,AB,AC];exact jK.out,by rw [jk.out,AB,AC];exact jM.out,jO.out⟩
  ·obtain rfl:k=E.length:=by omega
   have jQ:F=E:=by rw [← HF.out,List.take_length]
   subst jQ;obtain ⟨m0,m1⟩:=At jc;have jh:=HT.out.at (q:=gr+1) (by omega) jN.out;obtain ⟨r0,r1⟩:=At jh;have rf:∀ i,wr.frozen? ⟨gr+1,i,none⟩=false:=fun i=>by simp [World.frozen?,jh]
   obtain ⟨wf,jF,jD,t0,t1⟩:=SN jh (.int .i64 (n+1)) (.slice a3 F.length c3);have jP:=A0 jF;have jx:=A0 jD;clear jh jF jD jc
   go_wp2_with fail
   rw [jP.out];clear m0 m1 r0 r1 rf;refine bodyPost_ret (v:=.agg #[.int .i64 (n+1),.slice a3 F.length c3]) (by simp [results,Tryz.results19,go_sem,t0,t1]) rfl ?_;exact ⟨_,rfl,(Tq.own jd.out jx.out (by omega)).mono (by have:=jz.out.size;omega),Below.trans jA.out (jx.out.below (by have:=jv.out;omega) jA.out.size)⟩
def NN (f:Nat→Bool) (e:Edg):Nat→Bool:=fun j=>if j=e.2.1.toNat then (f j || f e.1.toNat) else f j
def J7 (E:List Edg):Nat→Bool:=E.foldl NN (fun j=>decide (j=0))
def OY (n:Int) (E:List Edg):Bool:=J7 E n.toNat
theorem Q3 {E:List Edg} {k:Nat} (hk:k<E.length):J7 (E.take (k+1))=NN (J7 (E.take k)) E[k]:=by
 unfold J7;rw [AN hk,List.foldl_append];rfl
theorem OZ {f:Nat→Bool} {s t:Nat} {e3 e4:Int} (h:f s=true):NN f ((s:Int),(t:Int),e3,e4)=fun j=>if j=t then true else f j:=by
 funext j;show (if j=((t:Int)).toNat then (f j || f ((s:Int)).toNat) else f j)=_;rw [Int.toNat_natCast,Int.toNat_natCast,h];simp
theorem Q4 {f:Nat→Bool} {s t:Nat} {e3 e4:Int} (h:f s=false):NN f ((s:Int),(t:Int),e3,e4)=f:=by
 funext j;show (if j=((t:Int)).toNat then (f j || f ((s:Int)).toNat) else f j)=_;rw [Int.toNat_natCast,Int.toNat_natCast,h];simp
def FZ (n:Nat) (f:Nat→Bool):List Bool:=(List.range n).map f
theorem FG (n:Nat) (f:Nat→Bool):(FZ n f).length=n:=by simp [FZ]
theorem Gs {n i:Nat} {f:Nat→Bool} (h:i<n):(FZ n f)[i]? = some (f i):=by
 rw [FZ,List.getElem?_map,List.getElem?_range h];rfl
theorem Oa {n t:Nat} {f:Nat→Bool} {b:Bool}:(FZ n f).set t b=FZ n (fun j=>if j=t then b else f j):=by
 apply List.ext_getElem?;intro i;rw [List.getElem?_set];by_cases hi:i<n
 ·rw [Gs hi,Gs hi,FG];by_cases e:t=i
  · subst e;simp [hi]
  · rw [if_neg e,if_neg (fun h=>e h.symm)]
 ·have h1:(FZ n f)[i]? = none:=by rw [AP];rw [FG];omega
  have h2:(FZ n (fun j=>if j=t then b else f j))[i]? = none:=by rw [AP];rw [FG];omega
  rw [h1,h2,FG];split
  · rw [if_neg (by omega)]
  · rfl
def FT (t:TypeId) (w:World) (g n:Nat) (f:Nat→Bool):Prop:=w.heap[g]? = some (.cells ((FZ n f).map Value.bool).toArray t (0,0))
section
variable {ty:TypeId} {w w1:World} {g n i:Nat} {f:Nat→Bool} {b:Bool}
theorem FT.cell (h:FT ty w g n f) (hi:i<n):w.cell? ⟨g,i,none⟩=some (.bool (f i)):=by
 rw [cell_of_row w g i _ _ (0,0) h];rw [List.getElem?_toArray,List.getElem?_map,Gs hi];rfl
theorem FT.free (h:FT ty w g n f):w.frozen? ⟨g,i,none⟩=false:=by unfold FT at h;simp [World.frozen?,h]
theorem FT.set (h:FT ty w g n f):FT ty (w.setCell ⟨g,i,none⟩ (.bool b)) g n (fun j=>if j=i then b else f j):=by
 unfold FT at h ⊢;simp only [World.setCell];rw [Array.getElem?_modify,if_pos rfl,h,← Oa];simp [List.map_set]
theorem FT.lt (h:FT ty w g n f):g<w.heap.size:=(A5.1 h).1
theorem FT.go (h:FT ty w g n f) (hb:Ext w w1):FT ty w1 g n f:=(Below.block hb g h.lt).trans h
end
theorem KT (g s:Nat) (hs:s<41) (w:World):(Instr.indexAt 111 (.pointer (some ⟨g,0,none⟩)) (.int .i64 (s:Int))).run Tryz.prog w=.ok (.pointer (some ⟨g,s,none⟩)) w:=by
 have h0:(0:Int)≤(s:Int):=by omega
 have h1:(s:Int)<41:=by omega
 simp [go_sem,h0,h1]
theorem RL {n:Int} {e:Edg} (h:Du n e) (hn:n≤40):∃ s t:Nat,e.1=(s:Int)∧e.2.1=(t:Int)∧s<t∧(t:Int)≤n∧t<41:=by
 unfold Du at h;exact ⟨e.1.toNat,e.2.1.toNat,by omega,by omega,by omega,by omega,by omega⟩
theorem lreach_any (n:Int) (E:List Edg) (a:Option Addr) (cap:Nat) (w:World) (hE:CM w a E) (hl:E.length≤1000000) (jc:Jh n E) :
  Calls Tryz.prog 20 #[FP n a E.length cap] w fun e w'=>e=.returned (.bool (OY n E))∧Ext w w':=by
 have HE:=A0 hE;have jA:=A0 jc;obtain ⟨m,hm⟩:∃ m:Nat,n=(m:Int):=⟨n.toNat,by have:=jc.1;omega⟩
 have hm40:m≤40:=by have:=jc.2.1;omega
 subst hm;have HV:=A0 (In jc);have jM:Hid (∀ k (h:k<E.length),∃ s t:Nat,E[k].1=(s:Int)∧E[k].2.1=(t:Int)∧s<t∧t≤m∧t<41):=fun k h=>by
  obtain ⟨s,t,h1,h2,h3,h4,h5⟩:=RL (jA.out.2.2.2 k h h).1 jA.out.2.1;exact ⟨s,t,h1,h2,h3,by omega,h5⟩
 clear hE jc;unfold FP
 go_enter Tryz.func20,Tryz.ntmps20
 go_upto_region 1 with fail
 obtain ⟨wb,jj⟩:∃ wb,w.alloc (.cells #[.int .i64 (m:Int),.slice a E.length cap] 45)=wb:=⟨_,rfl⟩
 rw [jj];have jL:Ext w wb:=by rw [← jj];exact (Below.refl _ _).alloc (A3 _) _
 have jg:wb.heap[w.heap.size]? = some (.cells #[.int .i64 (m:Int),.slice a E.length cap] 45 (0,0)):=by rw [← jj];exact heap_alloc_new _ _
 obtain ⟨gx,jp⟩:∃ gx,w.heap.size=gx:=⟨_,rfl⟩
 have HGE:=A0 jp;rw [jp] at jg ⊢;have jG:=A0 jL;have jy:=A0 jg;obtain ⟨m0,m1⟩:=At jg;clear jj jL jg jp
 go_wp2_with fail
 refine (lval_any (m:Int) E a cap wb (HE.out.go jG.out) hl).mono ?_;rintro e w1 ⟨rfl,jt⟩;rw [HV.out];have jF:Hid (Ext w w1):=Ext.trans jG.out jt;have jf:=(Below.block jt _ (A5.1 jy.out).1).trans jy.out;have jl:=A0 jf;clear jt m0 m1;obtain ⟨m0,m1⟩:=At jf;clear jf
 go_upto_region 5 with fail
 obtain ⟨w4,ji⟩:∃ w4,w1.alloc (.cells ((FZ 41 (fun j=>decide (j=0))).map Value.bool).toArray 111)=w4:=⟨_,rfl⟩
 have jb:w1.alloc (.cells #[.bool true,.bool false,.bool false,.bool false,.bool false,.bool false,.bool false,.bool false,.bool false,.bool false,.bool false,.bool false,.bool false,.bool false,.bool false,.bool false,.bool false,.bool false,.bool false,.bool false,.bool false,.bool false,.bool false,.bool false,.bool false,.bool false,.bool false,.bool false,.bool false,.bool false,.bool false,.bool false,.bool false,.bool false,.bool false,.bool false,.bool false,.bool false,.bool false,.bool false,.bool false] 111)=w4:=by rw [← ji];rfl
 rw [jb];have ju:Ext w1 w4:=by rw [← ji];exact (Below.refl _ _).alloc (A3 _) _
 have jr:FT 111 w4 w1.heap.size 41 (J7 (E.take 0)):=by show _=_;rw [← ji];exact heap_alloc_new _ _
 obtain ⟨gr,jK⟩:∃ gr,w1.heap.size=gr:=⟨_,rfl⟩
 rw [jK] at jr ⊢;have jB:=A0 jr;have jO:Hid (Ext w w4):=Ext.trans jF.out ju;have hgz:gx<gr:=by have:=(A5.1 jl.out).1;omega
 have jx:=A0 ((Below.block ju _ (A5.1 jl.out).1).trans jl.out);have jN:Hid (w.heap.size≤gr):=by show _≤_;have:=jF.out.size;omega
 clear m0 m1;obtain ⟨m0,m1⟩:=At jx.out;clear jb ji ju jr jK
 go_wp2_with fail
 clear m0 m1
 go_loopg [13,5] E.length (fun g v13 v5 wr=>∃ k:Nat,v13=.int .i64 (k:Int)∧k≤E.length∧g=E.length - k∧FT 111 wr gr 41 (J7 (E.take k))∧Tq gr w4 wr)
 case atStart=>exact ⟨0,rfl,Nat.zero_le _,rfl,jB.out,Tq.of (Ext.refl _)⟩
 case round =>
  obtain ⟨k,rfl,hk,jJ,ja,ht⟩:=hrel;have jo:=A0 ja;have HT:=A0 ht;have jz:=A0 jJ;have jI:=ht.at (q:=gx) (by omega) jx.out;have jw:Ext w wr:=Below.trans jO.out (Below.mono (ht.below (A3 _) (by have:=jB.out.lt;omega)) jN.out);have jP:=A0 jw;obtain ⟨m0,m1⟩:=At jI;clear jJ ht;by_cases jh:k<E.length
  ·have hltI:(k:Int)<(E.length:Int):=by omega
   obtain ⟨b1,o1,ha,jf,x0,x1,x2,x3⟩:=(HE.out.go jw) k jh;have jq:=Ca a b1 o1 E.length cap k ha jh;have HN:=A0 (Q3 jh);obtain ⟨s,t,hs,js,hst,htm,je⟩:=jM.out k jh;obtain ⟨⟨e1,e2,e3,e4⟩,hx⟩:∃ x,E[k]=x:=⟨_,rfl⟩
   rw [hx] at x0 x1 x2 x3 HN hs js;simp only at x0 x1 x2 x3 hs js;subst hs js;obtain ⟨f,hf⟩:∃ f,J7 (E.take k)=f:=⟨_,rfl⟩
   rw [hf] at ja jo HN;obtain ⟨r,hr⟩:∃ r,f s=r:=⟨_,rfl⟩
   have jD:=A0 hr;have his:=KT gr s (by omega);have hit:=KT gr t je;clear hx ha jw hf jI
   go_upto_region 8 with fail
   obtain ⟨wq,jk⟩:∃ wq,wr.alloc (.cells #[.int .i64 (s:Int),.int .i64 (t:Int),.int .i64 e3,.int .i64 e4] 62)=wq:=⟨_,rfl⟩
   rw [jk];have jv:Ext wr wq:=by rw [← jk];exact (Below.refl _ _).alloc (A3 _) _
   have jH:wq.heap[wr.heap.size]? = some (.cells #[.int .i64 (s:Int),.int .i64 (t:Int),.int .i64 e3,.int .i64 e4] 62 (0,0)):=by rw [← jk];exact heap_alloc_new _ _
   have jE:Hid (Tq gr w4 wq):=HT.out.trans (Tq.of jv);have jd:=ja.go jv;have jC:=A0 jd;have cs:=jd.cell (show s<41 by omega);have ct:=jd.cell je;have fz:wq.frozen? ⟨gr,t,none⟩=false:=jd.free;rw [hr] at cs;obtain ⟨u0,u1,u2,u3⟩:=Ax jH;clear jk jv jH jd ja m0 m1 x0 x1 x2 x3 jq hr;cases r with
   | true =>
    have jm:Hid (J7 (E.take (k+1))=fun j=>if j=t then true else f j):=HN.out.trans (OZ jD.out)
    go_wp2_with fail
    go_roundg (E.length - (k+1))
    case measure=>have:=jz.out;omega
    case rel=>exact ⟨k+1,by go_num,by omega,rfl,by rw [jm.out];exact jC.out.set,jE.out.trans (Tq.set _ _ _ _)⟩
   | false =>
    have jm:Hid (J7 (E.take (k+1))=f):=HN.out.trans (Q4 jD.out)
    go_wp2_with fail
    go_roundg (E.length - (k+1))
    case measure=>have:=jz.out;omega
    case rel=>exact ⟨k+1,by go_num,by omega,rfl,by rw [jm.out];exact jC.out,jE.out⟩
  ·obtain rfl:k=E.length:=by omega
   have him:=KT gr m (by omega);have cm:=ja.cell (show m<41 by omega);rw [List.take_length] at cm;obtain ⟨r,hr⟩:∃ r,J7 E m=r:=⟨_,rfl⟩
   rw [hr] at cm;have jn:Hid (OY (m:Int) E=r):=by show _=_;unfold OY;rw [Int.toNat_natCast];exact hr
   clear hr ja
   go_wp2_with fail
   go_ret;exact ⟨Aa jn.out.symm,jP.out⟩
theorem Dg {α:Type} {T:BQ α} (hT:T.Ok) {w:World} {B g n:Nat} {cs:Array Value} {L:List α} (h:w.heap[g]? = some (.cells cs T.e (0,0))) (jb:cs.toList=L.flatMap T.enc) (hB:B≤g) (hn:n=L.length) (hl:n≤1000000):AZ T w B (.slice (some ⟨g,0,none⟩) n n) L:=by
 subst hn;have ja:=DV hT L;have jc:cs.size=L.length*T.k:=by rw [← Array.length_toList,jb,ja]
 refine ⟨ja,.inr ⟨g,L.length,cs,rfl,hB,h,A3 _,by unfold maxLen;omega,jc,?_⟩⟩;rw [jb,AF (by rw [ja];exact A3 _)]
theorem KU {w:World} {g n:Nat} {cs:Array Value} {Ls:List SV} {L:List Slt} (h:w.heap[g]? = some (.cells cs 81 (0,0))) (jb:cs.toList=Ls.flatMap Bl.enc) (hn:n=Ls.length) (hl:n≤1000000) (ja:Ls.length=L.length)
  (jc:∀ (k:Nat) (x:SV) (s:Slt),Ls[k]? = some x→L[k]? = some s→AZ Av w 0 (svS x) s):Cd w 0 (.slice (some ⟨g,0,none⟩) n n) L :=
 ⟨Ls,Dg C4 h jb (Nat.zero_le _) hn hl,ja,jc⟩
theorem Q5 {w:World} {x:SV} {s:Slt} (h:AZ Av w 0 (svS x) s):∀ (k:Nat) (y:SV) (t:Slt),[x][k]? = some y→[s][k]? = some t→AZ Av w 0 (svS y) t:=fun k y t h1 h2=>by
 rcases k with _ | k
 · cases h1;cases h2;exact h
 · simp at h1
open Go.RowKit Go.WideShapes
def mdW (Q:Nat→BR):Nat→List ByteArray
 | 0=>[⟨#[97]⟩,⟨#[98]⟩]
 | k+1=>Fx (mwF (Q k).Z (Q k).n) (mdW Q k)
theorem Ec (Q:Nat→BR):∀ k,2≤(mdW Q k).length∧(mdW Q k).length≤k+2
 | 0=>by simp [mdW]
 | k+1=>by
  have h:=Ec Q k;have h1:=Ig (bf:=wbf (mwF (Q k).Z (Q k).n)) (sm:=wsm (mwF (Q k).Z (Q k).n)) (mg:=id) (p:=mwF (Q k).Z (Q k).n) (mdW Q k);have h2:=Pw (bf:=wbf (mwF (Q k).Z (Q k).n)) (sm:=wsm (mwF (Q k).Z (Q k).n)) (mg:=id) (p:=mwF (Q k).Z (Q k).n) (mdW Q k);rw [mdW,Fx];omega
theorem KV (Q:Nat→BR):∀ k,(mdW Q k).Pairwise fun x y=>ltS x y=true
 | 0=>by
  rw [mdW];exact AQ.2 ⟨fun y hy=>by rw [AD.1 hy];kernel_rfl,List.pairwise_singleton _ _⟩
 | k+1=>by rw [mdW];exact MZ (KV Q k)
theorem Mf (Q:Nat→BR):∀ k,∀ x∈mdW Q k,CO x=true∧x.size≤3
 | 0,x,hx=>by
  rw [mdW] at hx;rcases AS.1 hx with rfl | hx
  · decide
  · rw [AD.1 hx];decide
 | k+1,x,hx=>by
  rw [mdW,Fx] at hx;exact gins_all (P:=fun x=>CO x=true∧x.size≤3) (SM _ _) (fun q h=>h) (Mf Q k) x hx
theorem Q6 (Q:Nat→BR) (k:Nat) (hk:k≤100):CJ (mdW Q k):=by
 have h:=Ec Q k;exact PY (by omega) (by omega) (fun x hx=>(Mf Q k x hx).1) (KV Q k)
def mdC (Z:Nat→Int) (nc n:Nat):List Nat:=(List.range n).map fun i=>if i<nc then (Z i).toNat else 0
theorem NO (Z:Nat→Int) (nc n:Nat):(mdC Z nc n).length=n:=by simp [mdC]
theorem Lh (Z:Nat→Int) (nc n:Nat):mdC Z nc (n+1)=mdC Z nc n ++ [if n<nc then (Z n).toNat else 0]:=by simp [mdC,List.range_succ]
theorem NP (Z:Nat→Int) (nc:Nat) (hZ:∀ i,i<nc→Z i≤255):∀ n,E7 (mdC Z nc n)≤255*n
 | 0=>by simp [mdC,E7]
 | n+1=>by
  have h:=NP Z nc hZ n;rw [Lh,Gq];split
  · rename_i h1;have:=hZ n h1;omega
  · omega
def mdP (n:Nat) (Z:Nat→Nat→Int):Nat→List Prs
 | 0=>[]
 | k+1=>FS9 (Z k 0 % (n:Int),Z k 1 % (n:Int),1+Z k 2 % 16) (mdP n Z k)
theorem KW (n:Nat) (Z:Nat→Nat→Int):∀ k,(mdP n Z k).length≤k
 | 0=>by simp [mdP]
 | k+1=>by
  have h:=KW n Z k;rw [mdP,FS9];have h1:=Ig (bf:=pbf (Z k 0 % (n:Int),Z k 1 % (n:Int),1+Z k 2 % 16)) (sm:=psm (Z k 0 % (n:Int),Z k 1 % (n:Int),1+Z k 2 % 16)) (mg:=pmg (Z k 0 % (n:Int),Z k 1 % (n:Int),1+Z k 2 % 16)) (p:=(Z k 0 % (n:Int),Z k 1 % (n:Int),1+Z k 2 % 16)) (mdP n Z k);omega
theorem KX (n:Nat) (hn:1≤n) (Z:Nat→Nat→Int):∀ k,F1 n (mdP n Z k)
 | 0=>F1.nil n
 | k+1=>by
  rw [mdP];refine (KX n hn Z k).add ⟨?_,?_,?_,?_,?_⟩
  · exact Int.emod_nonneg _ (by omega)
  · exact Int.emod_lt_of_pos _ (by omega)
  · exact Int.emod_nonneg _ (by omega)
  · exact Int.emod_lt_of_pos _ (by omega)
  · show 1≤1+Z k 2 % 16;omega
theorem KY (n:Nat) (Z:Nat→Nat→Int):∀ k:Nat,BN (mdP n Z k)≤16*(k:Int)
 | 0=>by simp [mdP,BN]
 | k+1=>by
  have h:=KY n Z k;rw [mdP,Le];simp only;omega
theorem Q7 {n:Nat} (hn:1≤n) (Z:Nat→Nat→Int) (k:Nat) (hk:k≤100):∀ q∈mdP n Z k,0≤q.2.2∧q.2.2≤1000000000:=fun q hq=>by
 have h1:=(KX n hn Z k)
 have h2:=KY n Z k;obtain ⟨i,hi,rfl⟩:=List.getElem_of_mem hq;have h3:=Ik hi;have h4:=Lf h1 (i+1);have h5:0≤BN ((mdP n Z k).take i):=Ea fun q hq=>(h1.ok q (List.mem_of_mem_take hq)).2.2.2.2;have h6:=(h1.ok _ (AG hi)).2.2.2.2;omega
theorem Q8 (Q:Nat→BR) (kw:Nat) (hkw:kw≤6) (Z:Nat→Int) (nc:Nat) (hZ:∀ i,i<nc→Z i≤255) (ZU:Nat→Nat→Int) (ku:Nat) (hku:ku≤8) (bk:Int) (h0:0≤bk) (h1:bk≤255) :
  Ii (mdW Q kw) (mdC Z nc (mdW Q kw).length) (mdP (mdW Q kw).length ZU ku) bk where
 dict:=Q6 Q kw (by omega)
 len:=NO _ _ _
 tot:=by have:=NP Z nc hZ (mdW Q kw).length;have:=Ec Q kw;omega
 prs:=KX _ (by have:=Ec Q kw;omega) _ _
 ptot:=by have:=KY (mdW Q kw).length ZU ku;omega
 plen:=by have:=KW (mdW Q kw).length ZU ku;omega
 b0:=h0
 b1:=by omega
def s3C (z:Int) (k:Nat):Ch:=⟨UInt8.ofNat (97+k),z / 4 % 8⟩
def DB (z:Int) (k:Nat) (o:Slt):Bool:=decide (0<z % 4) || (decide (k=2) && decide (o.length=0))
def DG (z:Nat→Int):Nat→Slt
 | 0=>[]
 | k+1=>DG z k ++ (if DB (z k) k (DG z k)=true then [s3C (z k) k] else [])
def s3F (z:Nat→Int):Slt:=DG z 3
def s3s (Z:Nat→Nat→Int) (n:Nat):List Slt:=(List.range n).map fun i=>s3F (Z i)
theorem Q9 (Z:Nat→Nat→Int) (n:Nat):s3s Z (n+1)=s3s Z n ++ [s3F (Z n)]:=by simp [s3s,List.range_succ]
theorem KZ (Z:Nat→Nat→Int) (n:Nat):(s3s Z n).length=n:=by simp [s3s]
theorem Io (z:Nat→Int):∀ k,(DG z k).length≤k
 | 0=>by simp [DG]
 | k+1=>by
  have h:=Io z k;rw [DG,AB];split
  · simp only [AC];omega
  · simp only [List.length_nil];omega
theorem s3To_key (z:Nat→Int):∀ k,k≤3→∀ x∈DG z k,97≤x.key.toNat∧x.key.toNat<97+k∧0≤x.cost∧x.cost≤7
 | 0,_,x,hx=>by simp [DG] at hx
 | k
   +
    1,hk,x,hx=>by
  rw [DG] at hx;rcases AT.1 hx with hx | hx
  · have:=s3To_key z k (by omega) x hx;omega
  ·split at hx
   ·rw [AD.1 hx];have h:(UInt8.ofNat (97+k)).toNat=97+k:=by rw [UInt8.toNat_ofNat'];omega
    show 97≤(UInt8.ofNat (97+k)).toNat∧(UInt8.ofNat (97+k)).toNat<97+(k+1)∧0≤z k / 4 % 8∧z k / 4 % 8≤7;omega
   · cases hx
theorem s3To_inc (z:Nat→Int):∀ k,k≤3→(DG z k).Pairwise fun a b=>a.key.toNat<b.key.toNat
 | 0,_=>by rw [DG];exact .nil
 | k
   +
    1,hk=>by
  rw [DG];refine List.pairwise_append.2 ⟨s3To_inc z k (by omega),?_,fun a ha b hb=>?_⟩
  ·split
   · exact List.pairwise_singleton _ _
   · exact .nil
  ·split at hb
   ·rw [AD.1 hb];have h:=(s3To_key z k (by omega) a ha).2.1;have h2:(UInt8.ofNat (97+k)).toNat=97+k:=by rw [UInt8.toNat_ofNat'];omega
    show a.key.toNat<(UInt8.ofNat (97+k)).toNat;omega
   · cases hb
theorem SQ (z:Nat→Int):1≤(s3F z).length:=by
 unfold s3F;rw [DG,AB];split
 · simp
 ·rename_i h;unfold DB at h;simp only [decide_true,Bool.true_and,Bool.or_eq_true,decide_eq_true_eq] at h;omega
structure Dk (L:List Slt):Prop where
 ne:∀ s∈L,1≤s.length
 few:∀ s∈L,s.length≤8
 inc:∀ s∈L,s.Pairwise fun a b=>a.key.toNat<b.key.toNat
 key:∀ s∈L,∀ x∈s,97≤x.key.toNat∧x.key.toNat≤99
 cst:∀ s∈L,∀ x∈s,0≤x.cost∧x.cost≤8
theorem SR (Z:Nat→Nat→Int) (n:Nat):Dk (s3s Z n):=by
 have hm:∀ s∈s3s Z n,∃ i,s=s3F (Z i):=fun s hs=>by
  obtain ⟨i,_,rfl⟩:=AH.1 hs;exact ⟨i,rfl⟩
 refine ⟨fun s hs=>?_,fun s hs=>?_,fun s hs=>?_,fun s hs x hx=>?_,fun s hs x hx=>?_⟩ <;> obtain ⟨i,rfl⟩:=hm s hs
 · exact SQ _
 · have:=Io (Z i) 3;unfold s3F;omega
 · exact s3To_inc _ 3 (A3 _)
 · have:=s3To_key (Z i) 3 (A3 _) x hx;omega
 · have:=s3To_key (Z i) 3 (A3 _) x hx;omega
theorem Dk.bnd {L:List Slt} (h:Dk L):Bp 300 L:=fun s hs x hx=>by have:=h.cst s hs x hx;omega
theorem Dk.dis {L:List Slt} (h:Dk L):MR L:=fun s hs=>(h.inc s hs).imp fun {a b} h1 e=>by rw [e] at h1;omega
theorem Dk.valid {L:List Slt} (h:Dk L) (hl:L.length≤40):validB L=true:=by
 unfold validB;rw [decide_eq_true hl,Bool.true_and,List.all_eq_true];intro s hs;have h1:=h.ne s hs;have h2:=h.few s hs;unfold okS;rw [decide_eq_true h1,decide_eq_true h2,Bool.true_and,Bool.true_and,List.all_eq_true];intro k hk;have hk:=AV.1 hk;have h3:=h.key s hs _ (AG hk);have h4:=h.cst s hs _ (AG hk);refine (NI hk).2 ⟨by omega,by omega,by omega,by omega,?_⟩;by_cases h0:k=0
 · exact .inl h0
 ·refine .inr ?_;rw [Pt (show k - 1<s.length by omega)];exact List.pairwise_iff_getElem.1 (h.inc s hs) (k - 1) k (by omega) hk (by omega)
section
variable {w:World} {B:Nat} {Z:Nat→Nat→Int} {n:Nat}
theorem Mg {v:Value} (h:Cd w B v (s3s Z n)) (hn:n≤40) (jb:v≠.slice none 0 0):∃ L gL cL,v=.slice (some ⟨gL,0,none⟩) L.length cL∧Df w (some ⟨gL,0,none⟩) cL L∧Dk L∧Cd w B (.slice (some ⟨gL,0,none⟩) L.length cL) L∧L.length=n:=by
 have ja:Dk (s3s Z n):=SR Z n;obtain ⟨Ls,hr⟩:=id h;rcases hr.own.blk with ⟨e,_⟩ | ⟨g,c,e,_⟩
 · exact absurd e jb
 ·rw [hr.len] at e;subst e;exact ⟨_,g,c,rfl,(Df.of h (by rw [KZ];exact hn) ja.bnd ja.dis).1,ja,h,KZ _ _⟩
end
end Go.Proofs.YtpljngaejaehcaaGreatDoor
