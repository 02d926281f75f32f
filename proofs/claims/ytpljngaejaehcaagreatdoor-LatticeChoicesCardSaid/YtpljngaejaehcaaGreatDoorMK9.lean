/- Texts that the claims share: NF, NE, MA. -/
import Derived.Deep.CutBlock
import Derived.Test.YtpljngaejaehcaaGreatDoorMK8
import Derived.Test.YtpljngaejaehcaaGreatDoorMK6
import Derived.Test.YtpljngaejaehcaaGreatDoorMK2
import Derived.Test.YtpljngaejaehcaaGreatDoorMA2
import Derived.Test.YtpljngaejaehcaaGreatDoorMK4
import Derived.Test.YtpljngaejaehcaaGreatDoorMK7
import Derived.Test.YtpljngaejaehcaaGreatDoorMD4
set_option maxHeartbeats 12800000
set_option maxRecDepth 100000
set_option linter.unusedVariables false
set_option linter.unusedSimpArgs false
namespace Go.Proofs.YtpljngaejaehcaaGreatDoor
open Go.RowKit Go.WideShapes Fl
theorem NQ (a:Option Addr) (b o len cap k:Nat) (ha:a=some ⟨b,o,none⟩) (hk:k<len) (w:World) :
  (Instr.indexAt 27 (.slice a len cap) (.int .i64 (k:Int))).run Tryz.prog w=.ok (.pointer (some ⟨b,o+k*3,none⟩)) w:=by
 subst ha;have h0:(0:Int)≤(k:Int):=by omega
 have h1:(k:Int)<(len:Int):=by omega
 simp [go_sem,h0,h1]
theorem Cw (x:Nat→Int) (k:Nat):DG x (k+1)=DG x k ++ (if DB (x k) k (DG x k)=true then [s3C (x k) k] else []):=rfl
theorem RM {w5:World} {g:Nat} {o:Obj} (h:w5.heap[g]? = some o):∀ W,Ext w5 W→W.heap[g]? = some o:=fun W hx=>(Below.block hx _ (A5.1 h).1).trans h
theorem Gt {k:IntKind} {m:Nat} {w w1:World} {a:Option Addr} {len:Nat} {Z:Nat→Nat→Int} {B:Nat} (h:Fu k m w a len Z) (hb:Below B w w1) (hB:w.heap.size≤B):Fu k m w1 a len Z:=by
 rcases h with h | ⟨b,o,ha,hl,hlt,hr⟩
 · exact .inl h
 · exact .inr ⟨b,o,ha,hl,by have:=hb.size;omega,fun i hi j hj=>⟨(hb.cell (p:=⟨b,_,none⟩) (by show b<B;omega)).trans (hr i hi j hj).1,(hr i hi j hj).2⟩⟩
theorem Ji {k:IntKind} {m:Nat} {w:World} {a:Option Addr} {len:Nat} {Z:Nat→Nat→Int} (h:Fu k m w a len Z) {i:Nat} (hi:i<len) :
  ∃ b o,a=some ⟨b,o,none⟩∧b<w.heap.size∧∀ j,j<m→w.cell? ⟨b,o+i*m+j,none⟩=some (.int k (Z i j))∧(Lit.int k (Z i j)).wf=true:=by
 rcases h with h | ⟨b,o,h1,_,h3,h4⟩
 · omega
 · exact ⟨b,o,h1,h3,h4 i hi⟩
theorem slot14_any (x:Nat→Int) (w:World) (hx:∀ i,i<3→0≤x i∧x i≤255) :
  Calls Tryz.prog 38 #[.agg #[.int .u8 (x 0),.int .u8 (x 1),.int .u8 (x 2)]] w fun e w'=>∃ v,e=.returned v∧AZ Av w' w.heap.size v (s3F x)∧Ext w w':=by
 have HX:=A0 hx;clear hx
 go_enter Tryz.func38,Tryz.ntmps38
 go_upto_region 1 with fail
 obtain ⟨w0,jL⟩:∃ w0,w.alloc (.cells #[.int .u8 (x 0),.int .u8 (x 1),.int .u8 (x 2)] 95)=w0:=⟨_,rfl⟩
 rw [jL];have jV:Hid (Ext w w0):=by show Ext _ _;rw [← jL];exact (Below.refl _ _).alloc (A3 _) _
 have jM:w0.heap[w.heap.size]? = some (.cells #[.int .u8 (x 0),.int .u8 (x 1),.int .u8 (x 2)] 95 (0,0)):=by rw [← jL];exact heap_alloc_new _ _
 have jH:=A0 (RM jM);have jA:=A0 (A5.1 jM).1;obtain ⟨gz,jN⟩:∃ gz,w.heap.size=gz:=⟨_,rfl⟩
 rw [jN] at jH jA ⊢;have j5:=A0 jN;clear jL jM jN
 go_wp2_with fail
 have jU:Hid (AZ Av (w0.alloc (.cells #[] 79)) w0.heap.size (.slice (some ⟨w0.heap.size,0,none⟩) 0 0) []):=AZ.empty Av (heap_alloc_new _ _) (A3 _);have jT:Hid (Ext w0 (w0.alloc (.cells #[] 79))):=(Below.refl _ _).alloc (A3 _) _
 go_loopg [3,4] 3 (fun g v3 v4 wr=>∃ k:Nat,v4=.int .i64 (k:Int)∧k≤3∧g=3 - k∧AZ Av wr w0.heap.size v3 (DG x k)∧Ext w0 wr)
 case atStart=>exact ⟨0,rfl,Nat.zero_le _,rfl,jU.out,jT.out⟩
 case round =>
  clear jU jT;obtain ⟨k,rfl,hk,jX,jS,hb⟩:=hrel;obtain ⟨a3,c3,j8, -, -⟩:=jS.form;subst j8;have jl:=A0 jS;have HB:=A0 hb;have jB:=A0 jX;have jR:=Io x k;obtain ⟨T,hT⟩:∃ T,DG x k=T:=⟨_,rfl⟩
  rw [hT] at jl jR ⊢;have HT:=A0 hT;have h9:=jH.out wr HB.out;have z0:wr.cell? ⟨gz,0,none⟩=some (.int .u8 (x 0)):=by rw [cell_of_row _ _ 0 _ _ _ h9];rfl
  have z1:wr.cell? ⟨gz,1,none⟩=some (.int .u8 (x 1)):=by rw [cell_of_row _ _ 1 _ _ _ h9];rfl
  have z2:wr.cell? ⟨gz,2,none⟩=some (.int .u8 (x 2)):=by rw [cell_of_row _ _ 2 _ _ _ h9];rfl
  clear h9;clear jS hb jX hT;by_cases hlt:k<3
  ·have j7:k=0∨k=1∨k=2:=by omega
   rcases j7 with rfl | rfl | rfl
   ·have jY:(x 0).tmod 4=x 0 % 4:=Int.tmod_eq_emod_of_nonneg (HX.out 0 (by decide)).1;have jK:(x 0).tdiv 4=x 0 / 4:=Int.tdiv_eq_ediv_of_nonneg (HX.out 0 (by decide)).1;have j3:=(HX.out 0 (by decide)).1;have j4:=(HX.out 0 (by decide)).2;obtain ⟨cq,jt⟩:∃ cq,x 0 / 4 % 8=cq:=⟨_,rfl⟩
    obtain ⟨dq,jv⟩:∃ dq,x 0 / 4=dq:=⟨_,rfl⟩
    rw [jv] at jK;have jG:=A0 jt;rw [jv] at jt;have jW:dq.tmod 8=cq:=by rw [Int.tmod_eq_emod_of_nonneg (by omega)];exact jt
    have jZ:IntKind.u8.wrap (x 0 % 4)=x 0 % 4:=IntWalk.u8_in _ (by omega);have j0:IntKind.u8.wrap dq=dq:=IntWalk.u8_in _ (by omega);have j1:IntKind.u8.wrap cq=cq:=IntWalk.u8_in _ (by omega);have j2:IntKind.i64.wrap cq=cq:=IntWalk.i64_in _ (by omega);clear jt jv;by_cases hp:0<x 0 % 4
    ·have jo:Hid (DB (x 0) 0 T=true):=by show _=_;unfold DB;rw [decide_eq_true hp];rfl
     have HE:Hid (DG x (0+1)=T ++ [⟨UInt8.ofNat (97+0),cq⟩]):=by show _=_;rw [Cw,HT.out,if_pos jo.out,s3C,jG.out]
     have jn:Hid (w0.heap.size≤wr.heap.size):=HB.out.size;have jD:Hid ((Value.slice a3 T.length c3).ownBlock≠some gz):=fun e=>by have:=jl.out.ge _ e;have:=jA.out;omega
     have jC:Hid (gz<wr.heap.size):=A7 jA.out jn.out
     go_upto_region 6 with fail
     clear z0 z1 z2;refine An (by kernel_rfl) (Vs [vq (.slice a3 T.length c3),vq (.int .i64 0),vq (.int .u8 97),vq (.int .i64 0),vq (.pointer (some ⟨gz,0,none⟩)),vq (.int .u8 (x 0)),vq (.int .u8 dq),vq (.int .u8 cq),vq (.int .i64 cq),vq (.agg #[.int .u8 97,.int .i64 cq]),Da Av (.slice a3 T.length c3) ⟨UInt8.ofNat (97+0),cq⟩,Bq Av (wr) (w0.heap.size) (.slice a3 T.length c3) (T ++ [⟨UInt8.ofNat (97+0),cq⟩]),Bq Av (wr) (w0.heap.size) (.slice a3 T.length c3) (T ++ [⟨UInt8.ofNat (97+0),cq⟩])]) (Xs [Ext,Ext,Ext,Ext,Ext,Ext,Ext,Ext,Ext,Ext,Ext,(fun w w'=>w.grownBy w' (.slice a3 T.length c3:Value).ownBlock),Ext]) (fun fL=>(ApT (wr) (.slice a3 T.length c3)) (fL 11)) [0,0,2,0,8,24,56,120,248,510,1022,2047,4095] 37 13 (by kernel_rfl) rfl ?hV ?hS ?hop ?hfin ?hlast
     case hV =>
      refine Az (Af (by simp only [AS,List.not_mem_nil,or_false,forall_eq_or_imp,forall_eq];exact ⟨AW _,AW _,AW _,AW _,AW _,AW _,AW _,AW _,AW _,AW _,CT _ _ _,Bf,Bf⟩)) ?_;exact ⟨.inl rfl,.inl rfl,.inl rfl,.inl rfl,.inl rfl,.inl rfl,.inl rfl,.inl rfl,.inl rfl,.inl rfl,.inl rfl,.inr (Aw ⟨fun _ _=>fun _ _ _ h _=>h,fun _ _=>fun _ _ _ h _=>h,fun _ _=>fun _ _ _ h _=>h,fun _ _=>fun _ _ _ h _=>h,fun _ _=>fun _ _ _ h _=>h,fun _ _=>fun _ _ _ h _=>h,fun _ _=>fun _ _ _ h _=>h,fun _ _=>fun _ _ _ h _=>h,fun _ _=>fun _ _ _ h _=>h,fun _ _=>fun _ _ _ h _=>h,fun _ _=>CU _ _ _,fun h=>absurd rfl h,fun _ h=>absurd h (by decide),trivial⟩),.inl rfl,trivial⟩
     case hS =>
      intro fL hf;show (ApT (wr) (.slice a3 T.length c3)) (fL 11) _;rw [hf 11 (by decide)]
      first | exact Ext.refl _ | exact B8 _
     case hop =>
      refine ⟨?_,?_,?c2,?_,?_,?_,?_,?_,?_,?_,?c10,?c11,?c12,trivial⟩
      all_goals first | rw [if_neg (by decide)] | rw [if_pos (by decide)]
      all_goals try intro ac W fL jh jj jx jq jb jc ja jk
      all_goals try have hS:(ApT (wr) (.slice a3 T.length c3)) (fL 11) W:=jb
      all_goals try (have jd:fL 11=true:=jx 11 (by decide);rw [jd] at hS)
      all_goals try (have jd:fL 11=false:=(by first | exact jj | exact jq 11 (by decide) (by decide));rw [jd] at hS)
      all_goals try (
       have z9:W.cell? ⟨gz,0,none⟩=some (.int .u8 (x 0)):=by
        rw [cell_of_row _ _ 0 _ _ _ ((ApT.old jb gz jC.out jD.out).trans (jH.out wr HB.out))];rfl)
      all_goals try have jP:=gdA ac 3 (.slice a3 T.length c3) (jk 12 3 (by decide) (jq 12 (by decide) (by decide)) rfl)
      all_goals try have jQ:=gdA ac 4 (.int .i64 0) (ja 4 (by kernel_rfl))
      all_goals try have jO:=gdA ac 1 (.pointer (some ⟨gz,0,none⟩)) (ja 1 (by kernel_rfl))
      all_goals try (have d24:ac.tmps.getD 24 undef=.slice a3 T.length c3:=jc 0 (by decide);have dd24:=d24;rw [A4] at dd24)
      all_goals try have d34:(Da Av (.slice a3 T.length c3) ⟨UInt8.ofNat (97+0),cq⟩) (ac.tmps.getD 34 undef) W:=jc 10 (by decide)
      all_goals try have d35:(Bq Av (wr) (w0.heap.size) (.slice a3 T.length c3) (T ++ [⟨UInt8.ofNat (97+0),cq⟩])) (ac.tmps.getD 35 undef) W:=jc 11 (by decide)
      all_goals try (have jc:=DJ jc;simp [Cg,AY,vq] at jc)
      all_goals try clear ja jx jq jk
      case c2 =>
       have jg:(ApT (wr) (.slice a3 T.length c3)) ((upd fL 2) 11) W:=jb;refine AX rfl (.inl ⟨_,W,?_,rfl,Ext.refl _,jg⟩);clear jh hS jb jg jj;simp [go_sem,Act.eval, *];rfl
      case c10 =>
       have jg:(ApT (wr) (.slice a3 T.length c3)) ((upd fL 10) 11) W:=jb;have jf:(.slice a3 T.length c3:Value).ownBlock≠some W.heap.size:=fun e=>by
        have h9:=(jl.out).lt _ e;have h8:=Below.size hS;omega
       refine AX rfl (.inl ⟨.slice (some ⟨W.heap.size,0,none⟩) 1 1,W.alloc (.cells #[.int .u8 97,.int .i64 cq] 79),?_,⟨_,rfl,heap_alloc_new _ _,jf⟩,(Below.refl _ _).alloc (A3 _) _,(show (ApT (wr) (.slice a3 T.length c3)) ((upd fL 10) 11) _ by
        rw [show upd fL 10 11=fL 11 from if_neg (by decide)];exact ApT.ext _ _ _ jb ((Below.refl _ _).alloc (A3 _) _))⟩)
       clear jh hS jb jg jj jf;simp [go_sem,Act.eval, *]
      case c11 =>
       obtain ⟨g62,e62,jr,jF⟩:=d34;refine AX rfl ((B6 Bd (.tmp 24) (.tmp 34) rfl (Ad d24) ((jl.out).later hS (A3 _)) ⟨g62,0,none⟩ 1 [⟨UInt8.ofNat (97+0),cq⟩] (Ad e62) (Ae jr) (by simp only [AC];omega) (A8 jn.out (Below.size hS))).mono ?_);rintro va w' ⟨ho,jw,jE⟩;have ji:=Bq.made hS ho jw jE;refine ⟨ji,jw,?_⟩;show ApT (wr) (.slice a3 T.length c3) (upd fL 11 11) w';rw [show upd fL 11 11=true from if_pos rfl];exact ji.old
      case c12 =>
       have jg:(ApT (wr) (.slice a3 T.length c3)) ((upd fL 12) 11) W:=jb;have jp:Bq Av (wr) (w0.heap.size) (.slice a3 T.length c3) (T ++ [⟨UInt8.ofNat (97+0),cq⟩]) (ac.tmps.getD 35 undef) W:=d35;rw [A4] at jp;refine AX rfl (.inl ⟨_,W,?_,jp,Ext.refl _,jg⟩);clear jh hS jb jg jj jp;simp [go_sem,Act.eval, *]
      all_goals (refine AX rfl (.inl ⟨_,W,?_,rfl,Ext.refl _,jb⟩);clear jh hS jb jj;simp [go_sem,Act.eval, *];done)
     case hlast =>
      intro h;exact absurd rfl h
     case hfin =>
      intro _ ac W jh ju fL hf jb hv ja;have hS:(ApT (wr) (.slice a3 T.length c3)) (fL 11) W:=jb;clear jb;rw [hf 11 (by decide)] at hS;obtain ⟨sx,jz,jy⟩:=Ag [24,25,26,27,28,29,30,31,32,33,34,35,3] (by kernel_rfl) jh ju ja;have je:Bq Av (wr) (w0.heap.size) (.slice a3 T.length c3) (T ++ [⟨UInt8.ofNat (97+0),cq⟩]) (sx 3) W:=by rw [jz 3];exact hv 12 (by decide)
      obtain ⟨ya,yc,js, -, -⟩:=je.own.form;rw [js] at je;have jm:=A0 je;clear je hS;rw [jy];simp only [List.foldl];simp only [Act.put,List.setIfInBounds_toArray,List.set_cons_succ,List.set_cons_zero];clear jy jz hv ja jh ju hf;rw [js];clear js
      go_wp2_with fail
      go_roundg (3 - (0+1))
      case measure=>have:=jB.out;omega
      case rel=>exact ⟨0+1,by go_num,by omega,rfl,by rw [HE.out];first | exact jm.out.own | (have h:=jm.out.own;simp only [AB,AC] at h;exact h),Below.trans HB.out (jm.out.below jn.out (fun q hq=>jl.out.ge q hq))⟩
    ·have jI:Hid (¬ DB (x 0) 0 T=true):=fun h=>by
      unfold DB at h;rw [decide_eq_false hp] at h;simp at h
     have HE:Hid (DG x (0+1)=T):=by
      show _=_;rw [Cw,HT.out,if_neg jI.out,List.append_nil]
     go_wp2_with fail
     go_roundg (3 - (0+1))
     case measure=>have:=jB.out;omega
     case rel=>exact ⟨0+1,by go_num,by omega,rfl,by rw [HE.out];exact jl.out,HB.out⟩
   ·have jY:(x 1).tmod 4=x 1 % 4:=Int.tmod_eq_emod_of_nonneg (HX.out 1 (by decide)).1;have jK:(x 1).tdiv 4=x 1 / 4:=Int.tdiv_eq_ediv_of_nonneg (HX.out 1 (by decide)).1;have j3:=(HX.out 1 (by decide)).1;have j4:=(HX.out 1 (by decide)).2;obtain ⟨cq,jt⟩:∃ cq,x 1 / 4 % 8=cq:=⟨_,rfl⟩
    obtain ⟨dq,jv⟩:∃ dq,x 1 / 4=dq:=⟨_,rfl⟩
    rw [jv] at jK;have jG:=A0 jt;rw [jv] at jt;have jW:dq.tmod 8=cq:=by rw [Int.tmod_eq_emod_of_nonneg (by omega)];exact jt
    have jZ:IntKind.u8.wrap (x 1 % 4)=x 1 % 4:=IntWalk.u8_in _ (by omega);have j0:IntKind.u8.wrap dq=dq:=IntWalk.u8_in _ (by omega);have j1:IntKind.u8.wrap cq=cq:=IntWalk.u8_in _ (by omega);have j2:IntKind.i64.wrap cq=cq:=IntWalk.i64_in _ (by omega);clear jt jv;by_cases hp:0<x 1 % 4
    ·have jo:Hid (DB (x 1) 1 T=true):=by show _=_;unfold DB;rw [decide_eq_true hp];rfl
     have HE:Hid (DG x (1+1)=T ++ [⟨UInt8.ofNat (97+1),cq⟩]):=by show _=_;rw [Cw,HT.out,if_pos jo.out,s3C,jG.out]
     have jn:Hid (w0.heap.size≤wr.heap.size):=HB.out.size;have jD:Hid ((Value.slice a3 T.length c3).ownBlock≠some gz):=fun e=>by have:=jl.out.ge _ e;have:=jA.out;omega
     have jC:Hid (gz<wr.heap.size):=A7 jA.out jn.out
     go_upto_region 6 with fail
     clear z0 z1 z2;refine An (by kernel_rfl) (Vs [vq (.slice a3 T.length c3),vq (.int .i64 1),vq (.int .u8 98),vq (.int .i64 1),vq (.pointer (some ⟨gz,1,none⟩)),vq (.int .u8 (x 1)),vq (.int .u8 dq),vq (.int .u8 cq),vq (.int .i64 cq),vq (.agg #[.int .u8 98,.int .i64 cq]),Da Av (.slice a3 T.length c3) ⟨UInt8.ofNat (97+1),cq⟩,Bq Av (wr) (w0.heap.size) (.slice a3 T.length c3) (T ++ [⟨UInt8.ofNat (97+1),cq⟩]),Bq Av (wr) (w0.heap.size) (.slice a3 T.length c3) (T ++ [⟨UInt8.ofNat (97+1),cq⟩])]) (Xs [Ext,Ext,Ext,Ext,Ext,Ext,Ext,Ext,Ext,Ext,Ext,(fun w w'=>w.grownBy w' (.slice a3 T.length c3:Value).ownBlock),Ext]) (fun fL=>(ApT (wr) (.slice a3 T.length c3)) (fL 11)) [0,0,2,0,8,24,56,120,248,510,1022,2047,4095] 37 13 (by kernel_rfl) rfl ?hV ?hS ?hop ?hfin ?hlast
     case hV =>
      refine Az (Af (by simp only [AS,List.not_mem_nil,or_false,forall_eq_or_imp,forall_eq];exact ⟨AW _,AW _,AW _,AW _,AW _,AW _,AW _,AW _,AW _,AW _,CT _ _ _,Bf,Bf⟩)) ?_;exact ⟨.inl rfl,.inl rfl,.inl rfl,.inl rfl,.inl rfl,.inl rfl,.inl rfl,.inl rfl,.inl rfl,.inl rfl,.inl rfl,.inr (Aw ⟨fun _ _=>fun _ _ _ h _=>h,fun _ _=>fun _ _ _ h _=>h,fun _ _=>fun _ _ _ h _=>h,fun _ _=>fun _ _ _ h _=>h,fun _ _=>fun _ _ _ h _=>h,fun _ _=>fun _ _ _ h _=>h,fun _ _=>fun _ _ _ h _=>h,fun _ _=>fun _ _ _ h _=>h,fun _ _=>fun _ _ _ h _=>h,fun _ _=>fun _ _ _ h _=>h,fun _ _=>CU _ _ _,fun h=>absurd rfl h,fun _ h=>absurd h (by decide),trivial⟩),.inl rfl,trivial⟩
     case hS =>
      intro fL hf;show (ApT (wr) (.slice a3 T.length c3)) (fL 11) _;rw [hf 11 (by decide)]
      first | exact Ext.refl _ | exact B8 _
     case hop =>
      refine ⟨?_,?_,?c2,?_,?_,?_,?_,?_,?_,?_,?c10,?c11,?c12,trivial⟩
      all_goals first | rw [if_neg (by decide)] | rw [if_pos (by decide)]
      all_goals try intro ac W fL jh jj jx jq jb jc ja jk
      all_goals try have hS:(ApT (wr) (.slice a3 T.length c3)) (fL 11) W:=jb
      all_goals try (have jd:fL 11=true:=jx 11 (by decide);rw [jd] at hS)
      all_goals try (have jd:fL 11=false:=(by first | exact jj | exact jq 11 (by decide) (by decide));rw [jd] at hS)
      all_goals try (
       have z9:W.cell? ⟨gz,1,none⟩=some (.int .u8 (x 1)):=by
        rw [cell_of_row _ _ 1 _ _ _ ((ApT.old jb gz jC.out jD.out).trans (jH.out wr HB.out))];rfl)
      all_goals try have jP:=gdA ac 3 (.slice a3 T.length c3) (jk 12 3 (by decide) (jq 12 (by decide) (by decide)) rfl)
      all_goals try have jQ:=gdA ac 4 (.int .i64 1) (ja 4 (by kernel_rfl))
      all_goals try have jO:=gdA ac 1 (.pointer (some ⟨gz,0,none⟩)) (ja 1 (by kernel_rfl))
      all_goals try (have d24:ac.tmps.getD 24 undef=.slice a3 T.length c3:=jc 0 (by decide);have dd24:=d24;rw [A4] at dd24)
      all_goals try have d34:(Da Av (.slice a3 T.length c3) ⟨UInt8.ofNat (97+1),cq⟩) (ac.tmps.getD 34 undef) W:=jc 10 (by decide)
      all_goals try have d35:(Bq Av (wr) (w0.heap.size) (.slice a3 T.length c3) (T ++ [⟨UInt8.ofNat (97+1),cq⟩])) (ac.tmps.getD 35 undef) W:=jc 11 (by decide)
      all_goals try (have jc:=DJ jc;simp [Cg,AY,vq] at jc)
      all_goals try clear ja jx jq jk
      case c2 =>
       have jg:(ApT (wr) (.slice a3 T.length c3)) ((upd fL 2) 11) W:=jb;refine AX rfl (.inl ⟨_,W,?_,rfl,Ext.refl _,jg⟩);clear jh hS jb jg jj;simp [go_sem,Act.eval, *];rfl
      case c10 =>
       have jg:(ApT (wr) (.slice a3 T.length c3)) ((upd fL 10) 11) W:=jb;have jf:(.slice a3 T.length c3:Value).ownBlock≠some W.heap.size:=fun e=>by
        have h9:=(jl.out).lt _ e;have h8:=Below.size hS;omega
       refine AX rfl (.inl ⟨.slice (some ⟨W.heap.size,0,none⟩) 1 1,W.alloc (.cells #[.int .u8 98,.int .i64 cq] 79),?_,⟨_,rfl,heap_alloc_new _ _,jf⟩,(Below.refl _ _).alloc (A3 _) _,(show (ApT (wr) (.slice a3 T.length c3)) ((upd fL 10) 11) _ by
        rw [show upd fL 10 11=fL 11 from if_neg (by decide)];exact ApT.ext _ _ _ jb ((Below.refl _ _).alloc (A3 _) _))⟩)
       clear jh hS jb jg jj jf;simp [go_sem,Act.eval, *]
      case c11 =>
       obtain ⟨g62,e62,jr,jF⟩:=d34;refine AX rfl ((B6 Bd (.tmp 24) (.tmp 34) rfl (Ad d24) ((jl.out).later hS (A3 _)) ⟨g62,0,none⟩ 1 [⟨UInt8.ofNat (97+1),cq⟩] (Ad e62) (Ae jr) (by simp only [AC];omega) (A8 jn.out (Below.size hS))).mono ?_);rintro va w' ⟨ho,jw,jE⟩;have ji:=Bq.made hS ho jw jE;refine ⟨ji,jw,?_⟩;show ApT (wr) (.slice a3 T.length c3) (upd fL 11 11) w';rw [show upd fL 11 11=true from if_pos rfl];exact ji.old
      case c12 =>
       have jg:(ApT (wr) (.slice a3 T.length c3)) ((upd fL 12) 11) W:=jb;have jp:Bq Av (wr) (w0.heap.size) (.slice a3 T.length c3) (T ++ [⟨UInt8.ofNat (97+1),cq⟩]) (ac.tmps.getD 35 undef) W:=d35;rw [A4] at jp;refine AX rfl (.inl ⟨_,W,?_,jp,Ext.refl _,jg⟩);clear jh hS jb jg jj jp;simp [go_sem,Act.eval, *]
      all_goals (refine AX rfl (.inl ⟨_,W,?_,rfl,Ext.refl _,jb⟩);clear jh hS jb jj;simp [go_sem,Act.eval, *];done)
     case hlast =>
      intro h;exact absurd rfl h
     case hfin =>
      intro _ ac W jh ju fL hf jb hv ja;have hS:(ApT (wr) (.slice a3 T.length c3)) (fL 11) W:=jb;clear jb;rw [hf 11 (by decide)] at hS;obtain ⟨sx,jz,jy⟩:=Ag [24,25,26,27,28,29,30,31,32,33,34,35,3] (by kernel_rfl) jh ju ja;have je:Bq Av (wr) (w0.heap.size) (.slice a3 T.length c3) (T ++ [⟨UInt8.ofNat (97+1),cq⟩]) (sx 3) W:=by rw [jz 3];exact hv 12 (by decide)
      obtain ⟨ya,yc,js, -, -⟩:=je.own.form;rw [js] at je;have jm:=A0 je;clear je hS;rw [jy];simp only [List.foldl];simp only [Act.put,List.setIfInBounds_toArray,List.set_cons_succ,List.set_cons_zero];clear jy jz hv ja jh ju hf;rw [js];clear js
      go_wp2_with fail
      go_roundg (3 - (1+1))
      case measure=>have:=jB.out;omega
      case rel=>exact ⟨1+1,by go_num,by omega,rfl,by rw [HE.out];first | exact jm.out.own | (have h:=jm.out.own;simp only [AB,AC] at h;exact h),Below.trans HB.out (jm.out.below jn.out (fun q hq=>jl.out.ge q hq))⟩
    ·have jI:Hid (¬ DB (x 1) 1 T=true):=fun h=>by
      unfold DB at h;rw [decide_eq_false hp] at h;simp at h
     have HE:Hid (DG x (1+1)=T):=by
      show _=_;rw [Cw,HT.out,if_neg jI.out,List.append_nil]
     go_wp2_with fail
     go_roundg (3 - (1+1))
     case measure=>have:=jB.out;omega
     case rel=>exact ⟨1+1,by go_num,by omega,rfl,by rw [HE.out];exact jl.out,HB.out⟩
   ·have jY:(x 2).tmod 4=x 2 % 4:=Int.tmod_eq_emod_of_nonneg (HX.out 2 (by decide)).1;have jK:(x 2).tdiv 4=x 2 / 4:=Int.tdiv_eq_ediv_of_nonneg (HX.out 2 (by decide)).1;have j3:=(HX.out 2 (by decide)).1;have j4:=(HX.out 2 (by decide)).2;obtain ⟨cq,jt⟩:∃ cq,x 2 / 4 % 8=cq:=⟨_,rfl⟩
    obtain ⟨dq,jv⟩:∃ dq,x 2 / 4=dq:=⟨_,rfl⟩
    rw [jv] at jK;have jG:=A0 jt;rw [jv] at jt;have jW:dq.tmod 8=cq:=by rw [Int.tmod_eq_emod_of_nonneg (by omega)];exact jt
    have jZ:IntKind.u8.wrap (x 2 % 4)=x 2 % 4:=IntWalk.u8_in _ (by omega);have j0:IntKind.u8.wrap dq=dq:=IntWalk.u8_in _ (by omega);have j1:IntKind.u8.wrap cq=cq:=IntWalk.u8_in _ (by omega);have j2:IntKind.i64.wrap cq=cq:=IntWalk.i64_in _ (by omega);clear jt jv;by_cases hp:0<x 2 % 4
    ·have jo:Hid (DB (x 2) 2 T=true):=by show _=_;unfold DB;rw [decide_eq_true hp];rfl
     have HE:Hid (DG x (2+1)=T ++ [⟨UInt8.ofNat (97+2),cq⟩]):=by show _=_;rw [Cw,HT.out,if_pos jo.out,s3C,jG.out]
     have jn:Hid (w0.heap.size≤wr.heap.size):=HB.out.size;have jD:Hid ((Value.slice a3 T.length c3).ownBlock≠some gz):=fun e=>by have:=jl.out.ge _ e;have:=jA.out;omega
     have jC:Hid (gz<wr.heap.size):=A7 jA.out jn.out
     go_upto_region 6 with fail
     clear z0 z1 z2;refine An (by kernel_rfl) (Vs [vq (.slice a3 T.length c3),vq (.int .i64 2),vq (.int .u8 99),vq (.int .i64 2),vq (.pointer (some ⟨gz,2,none⟩)),vq (.int .u8 (x 2)),vq (.int .u8 dq),vq (.int .u8 cq),vq (.int .i64 cq),vq (.agg #[.int .u8 99,.int .i64 cq]),Da Av (.slice a3 T.length c3) ⟨UInt8.ofNat (97+2),cq⟩,Bq Av (wr) (w0.heap.size) (.slice a3 T.length c3) (T ++ [⟨UInt8.ofNat (97+2),cq⟩]),Bq Av (wr) (w0.heap.size) (.slice a3 T.length c3) (T ++ [⟨UInt8.ofNat (97+2),cq⟩])]) (Xs [Ext,Ext,Ext,Ext,Ext,Ext,Ext,Ext,Ext,Ext,Ext,(fun w w'=>w.grownBy w' (.slice a3 T.length c3:Value).ownBlock),Ext]) (fun fL=>(ApT (wr) (.slice a3 T.length c3)) (fL 11)) [0,0,2,0,8,24,56,120,248,510,1022,2047,4095] 37 13 (by kernel_rfl) rfl ?hV ?hS ?hop ?hfin ?hlast
     case hV =>
      refine Az (Af (by simp only [AS,List.not_mem_nil,or_false,forall_eq_or_imp,forall_eq];exact ⟨AW _,AW _,AW _,AW _,AW _,AW _,AW _,AW _,AW _,AW _,CT _ _ _,Bf,Bf⟩)) ?_;exact ⟨.inl rfl,.inl rfl,.inl rfl,.inl rfl,.inl rfl,.inl rfl,.inl rfl,.inl rfl,.inl rfl,.inl rfl,.inl rfl,.inr (Aw ⟨fun _ _=>fun _ _ _ h _=>h,fun _ _=>fun _ _ _ h _=>h,fun _ _=>fun _ _ _ h _=>h,fun _ _=>fun _ _ _ h _=>h,fun _ _=>fun _ _ _ h _=>h,fun _ _=>fun _ _ _ h _=>h,fun _ _=>fun _ _ _ h _=>h,fun _ _=>fun _ _ _ h _=>h,fun _ _=>fun _ _ _ h _=>h,fun _ _=>fun _ _ _ h _=>h,fun _ _=>CU _ _ _,fun h=>absurd rfl h,fun _ h=>absurd h (by decide),trivial⟩),.inl rfl,trivial⟩
     case hS =>
      intro fL hf;show (ApT (wr) (.slice a3 T.length c3)) (fL 11) _;rw [hf 11 (by decide)]
      first | exact Ext.refl _ | exact B8 _
     case hop =>
      refine ⟨?_,?_,?c2,?_,?_,?_,?_,?_,?_,?_,?c10,?c11,?c12,trivial⟩
      all_goals first | rw [if_neg (by decide)] | rw [if_pos (by decide)]
      all_goals try intro ac W fL jh jj jx jq jb jc ja jk
      all_goals try have hS:(ApT (wr) (.slice a3 T.length c3)) (fL 11) W:=jb
      all_goals try (have jd:fL 11=true:=jx 11 (by decide);rw [jd] at hS)
      all_goals try (have jd:fL 11=false:=(by first | exact jj | exact jq 11 (by decide) (by decide));rw [jd] at hS)
      all_goals try (
       have z9:W.cell? ⟨gz,2,none⟩=some (.int .u8 (x 2)):=by
        rw [cell_of_row _ _ 2 _ _ _ ((ApT.old jb gz jC.out jD.out).trans (jH.out wr HB.out))];rfl)
      all_goals try have jP:=gdA ac 3 (.slice a3 T.length c3) (jk 12 3 (by decide) (jq 12 (by decide) (by decide)) rfl)
      all_goals try have jQ:=gdA ac 4 (.int .i64 2) (ja 4 (by kernel_rfl))
      all_goals try have jO:=gdA ac 1 (.pointer (some ⟨gz,0,none⟩)) (ja 1 (by kernel_rfl))
      all_goals try (have d24:ac.tmps.getD 24 undef=.slice a3 T.length c3:=jc 0 (by decide);have dd24:=d24;rw [A4] at dd24)
      all_goals try have d34:(Da Av (.slice a3 T.length c3) ⟨UInt8.ofNat (97+2),cq⟩) (ac.tmps.getD 34 undef) W:=jc 10 (by decide)
      all_goals try have d35:(Bq Av (wr) (w0.heap.size) (.slice a3 T.length c3) (T ++ [⟨UInt8.ofNat (97+2),cq⟩])) (ac.tmps.getD 35 undef) W:=jc 11 (by decide)
      all_goals try (have jc:=DJ jc;simp [Cg,AY,vq] at jc)
      all_goals try clear ja jx jq jk
      case c2 =>
       have jg:(ApT (wr) (.slice a3 T.length c3)) ((upd fL 2) 11) W:=jb;refine AX rfl (.inl ⟨_,W,?_,rfl,Ext.refl _,jg⟩);clear jh hS jb jg jj;simp [go_sem,Act.eval, *];rfl
      case c10 =>
       have jg:(ApT (wr) (.slice a3 T.length c3)) ((upd fL 10) 11) W:=jb;have jf:(.slice a3 T.length c3:Value).ownBlock≠some W.heap.size:=fun e=>by
        have h9:=(jl.out).lt _ e;have h8:=Below.size hS;omega
       refine AX rfl (.inl ⟨.slice (some ⟨W.heap.size,0,none⟩) 1 1,W.alloc (.cells #[.int .u8 99,.int .i64 cq] 79),?_,⟨_,rfl,heap_alloc_new _ _,jf⟩,(Below.refl _ _).alloc (A3 _) _,(show (ApT (wr) (.slice a3 T.length c3)) ((upd fL 10) 11) _ by
        rw [show upd fL 10 11=fL 11 from if_neg (by decide)];exact ApT.ext _ _ _ jb ((Below.refl _ _).alloc (A3 _) _))⟩)
       clear jh hS jb jg jj jf;simp [go_sem,Act.eval, *]
      case c11 =>
       obtain ⟨g62,e62,jr,jF⟩:=d34;refine AX rfl ((B6 Bd (.tmp 24) (.tmp 34) rfl (Ad d24) ((jl.out).later hS (A3 _)) ⟨g62,0,none⟩ 1 [⟨UInt8.ofNat (97+2),cq⟩] (Ad e62) (Ae jr) (by simp only [AC];omega) (A8 jn.out (Below.size hS))).mono ?_);rintro va w' ⟨ho,jw,jE⟩;have ji:=Bq.made hS ho jw jE;refine ⟨ji,jw,?_⟩;show ApT (wr) (.slice a3 T.length c3) (upd fL 11 11) w';rw [show upd fL 11 11=true from if_pos rfl];exact ji.old
      case c12 =>
       have jg:(ApT (wr) (.slice a3 T.length c3)) ((upd fL 12) 11) W:=jb;have jp:Bq Av (wr) (w0.heap.size) (.slice a3 T.length c3) (T ++ [⟨UInt8.ofNat (97+2),cq⟩]) (ac.tmps.getD 35 undef) W:=d35;rw [A4] at jp;refine AX rfl (.inl ⟨_,W,?_,jp,Ext.refl _,jg⟩);clear jh hS jb jg jj jp;simp [go_sem,Act.eval, *]
      all_goals (refine AX rfl (.inl ⟨_,W,?_,rfl,Ext.refl _,jb⟩);clear jh hS jb jj;simp [go_sem,Act.eval, *];done)
     case hlast =>
      intro h;exact absurd rfl h
     case hfin =>
      intro _ ac W jh ju fL hf jb hv ja;have hS:(ApT (wr) (.slice a3 T.length c3)) (fL 11) W:=jb;clear jb;rw [hf 11 (by decide)] at hS;obtain ⟨sx,jz,jy⟩:=Ag [24,25,26,27,28,29,30,31,32,33,34,35,3] (by kernel_rfl) jh ju ja;have je:Bq Av (wr) (w0.heap.size) (.slice a3 T.length c3) (T ++ [⟨UInt8.ofNat (97+2),cq⟩]) (sx 3) W:=by rw [jz 3];exact hv 12 (by decide)
      obtain ⟨ya,yc,js, -, -⟩:=je.own.form;rw [js] at je;have jm:=A0 je;clear je hS;rw [jy];simp only [List.foldl];simp only [Act.put,List.setIfInBounds_toArray,List.set_cons_succ,List.set_cons_zero];clear jy jz hv ja jh ju hf;rw [js];clear js
      go_wp2_with fail
      go_roundg (3 - (2+1))
      case measure=>have:=jB.out;omega
      case rel=>exact ⟨2+1,by go_num,by omega,rfl,by rw [HE.out];first | exact jm.out.own | (have h:=jm.out.own;simp only [AB,AC] at h;exact h),Below.trans HB.out (jm.out.below jn.out (fun q hq=>jl.out.ge q hq))⟩
    ·by_cases jJ:T.length=0
     ·have j6:((T.length:Int) == 0)=true:=by rw [jJ];rfl
      have jo:Hid (DB (x 2) 2 T=true):=by show _=_;unfold DB;rw [decide_eq_true jJ];simp
      clear jJ;have HE:Hid (DG x (2+1)=T ++ [⟨UInt8.ofNat (97+2),cq⟩]):=by show _=_;rw [Cw,HT.out,if_pos jo.out,s3C,jG.out]
      have jn:Hid (w0.heap.size≤wr.heap.size):=HB.out.size;have jD:Hid ((Value.slice a3 T.length c3).ownBlock≠some gz):=fun e=>by have:=jl.out.ge _ e;have:=jA.out;omega
      have jC:Hid (gz<wr.heap.size):=A7 jA.out jn.out
      go_upto_region 6 with fail
      clear z0 z1 z2;refine An (by kernel_rfl) (Vs [vq (.slice a3 T.length c3),vq (.int .i64 2),vq (.int .u8 99),vq (.int .i64 2),vq (.pointer (some ⟨gz,2,none⟩)),vq (.int .u8 (x 2)),vq (.int .u8 dq),vq (.int .u8 cq),vq (.int .i64 cq),vq (.agg #[.int .u8 99,.int .i64 cq]),Da Av (.slice a3 T.length c3) ⟨UInt8.ofNat (97+2),cq⟩,Bq Av (wr) (w0.heap.size) (.slice a3 T.length c3) (T ++ [⟨UInt8.ofNat (97+2),cq⟩]),Bq Av (wr) (w0.heap.size) (.slice a3 T.length c3) (T ++ [⟨UInt8.ofNat (97+2),cq⟩])]) (Xs [Ext,Ext,Ext,Ext,Ext,Ext,Ext,Ext,Ext,Ext,Ext,(fun w w'=>w.grownBy w' (.slice a3 T.length c3:Value).ownBlock),Ext]) (fun fL=>(ApT (wr) (.slice a3 T.length c3)) (fL 11)) [0,0,2,0,8,24,56,120,248,510,1022,2047,4095] 37 13 (by kernel_rfl) rfl ?hV ?hS ?hop ?hfin ?hlast
      case hV =>
       refine Az (Af (by simp only [AS,List.not_mem_nil,or_false,forall_eq_or_imp,forall_eq];exact ⟨AW _,AW _,AW _,AW _,AW _,AW _,AW _,AW _,AW _,AW _,CT _ _ _,Bf,Bf⟩)) ?_;exact ⟨.inl rfl,.inl rfl,.inl rfl,.inl rfl,.inl rfl,.inl rfl,.inl rfl,.inl rfl,.inl rfl,.inl rfl,.inl rfl,.inr (Aw ⟨fun _ _=>fun _ _ _ h _=>h,fun _ _=>fun _ _ _ h _=>h,fun _ _=>fun _ _ _ h _=>h,fun _ _=>fun _ _ _ h _=>h,fun _ _=>fun _ _ _ h _=>h,fun _ _=>fun _ _ _ h _=>h,fun _ _=>fun _ _ _ h _=>h,fun _ _=>fun _ _ _ h _=>h,fun _ _=>fun _ _ _ h _=>h,fun _ _=>fun _ _ _ h _=>h,fun _ _=>CU _ _ _,fun h=>absurd rfl h,fun _ h=>absurd h (by decide),trivial⟩),.inl rfl,trivial⟩
      case hS =>
       intro fL hf;show (ApT (wr) (.slice a3 T.length c3)) (fL 11) _;rw [hf 11 (by decide)]
       first | exact Ext.refl _ | exact B8 _
      case hop =>
       refine ⟨?_,?_,?c2,?_,?_,?_,?_,?_,?_,?_,?c10,?c11,?c12,trivial⟩
       all_goals first | rw [if_neg (by decide)] | rw [if_pos (by decide)]
       all_goals try intro ac W fL jh jj jx jq jb jc ja jk
       all_goals try have hS:(ApT (wr) (.slice a3 T.length c3)) (fL 11) W:=jb
       all_goals try (have jd:fL 11=true:=jx 11 (by decide);rw [jd] at hS)
       all_goals try (have jd:fL 11=false:=(by first | exact jj | exact jq 11 (by decide) (by decide));rw [jd] at hS)
       all_goals try (
        have z9:W.cell? ⟨gz,2,none⟩=some (.int .u8 (x 2)):=by
         rw [cell_of_row _ _ 2 _ _ _ ((ApT.old jb gz jC.out jD.out).trans (jH.out wr HB.out))];rfl)
       all_goals try have jP:=gdA ac 3 (.slice a3 T.length c3) (jk 12 3 (by decide) (jq 12 (by decide) (by decide)) rfl)
       all_goals try have jQ:=gdA ac 4 (.int .i64 2) (ja 4 (by kernel_rfl))
       all_goals try have jO:=gdA ac 1 (.pointer (some ⟨gz,0,none⟩)) (ja 1 (by kernel_rfl))
       all_goals try (have d24:ac.tmps.getD 24 undef=.slice a3 T.length c3:=jc 0 (by decide);have dd24:=d24;rw [A4] at dd24)
       all_goals try have d34:(Da Av (.slice a3 T.length c3) ⟨UInt8.ofNat (97+2),cq⟩) (ac.tmps.getD 34 undef) W:=jc 10 (by decide)
       all_goals try have d35:(Bq Av (wr) (w0.heap.size) (.slice a3 T.length c3) (T ++ [⟨UInt8.ofNat (97+2),cq⟩])) (ac.tmps.getD 35 undef) W:=jc 11 (by decide)
       all_goals try (have jc:=DJ jc;simp [Cg,AY,vq] at jc)
       all_goals try clear ja jx jq jk
       case c2 =>
        have jg:(ApT (wr) (.slice a3 T.length c3)) ((upd fL 2) 11) W:=jb;refine AX rfl (.inl ⟨_,W,?_,rfl,Ext.refl _,jg⟩);clear jh hS jb jg jj;simp [go_sem,Act.eval, *];rfl
       case c10 =>
        have jg:(ApT (wr) (.slice a3 T.length c3)) ((upd fL 10) 11) W:=jb;have jf:(.slice a3 T.length c3:Value).ownBlock≠some W.heap.size:=fun e=>by
         have h9:=(jl.out).lt _ e;have h8:=Below.size hS;omega
        refine AX rfl (.inl ⟨.slice (some ⟨W.heap.size,0,none⟩) 1 1,W.alloc (.cells #[.int .u8 99,.int .i64 cq] 79),?_,⟨_,rfl,heap_alloc_new _ _,jf⟩,(Below.refl _ _).alloc (A3 _) _,(show (ApT (wr) (.slice a3 T.length c3)) ((upd fL 10) 11) _ by
         rw [show upd fL 10 11=fL 11 from if_neg (by decide)];exact ApT.ext _ _ _ jb ((Below.refl _ _).alloc (A3 _) _))⟩)
        clear jh hS jb jg jj jf;simp [go_sem,Act.eval, *]
       case c11 =>
        obtain ⟨g62,e62,jr,jF⟩:=d34;refine AX rfl ((B6 Bd (.tmp 24) (.tmp 34) rfl (Ad d24) ((jl.out).later hS (A3 _)) ⟨g62,0,none⟩ 1 [⟨UInt8.ofNat (97+2),cq⟩] (Ad e62) (Ae jr) (by simp only [AC];omega) (A8 jn.out (Below.size hS))).mono ?_);rintro va w' ⟨ho,jw,jE⟩;have ji:=Bq.made hS ho jw jE;refine ⟨ji,jw,?_⟩;show ApT (wr) (.slice a3 T.length c3) (upd fL 11 11) w';rw [show upd fL 11 11=true from if_pos rfl];exact ji.old
       case c12 =>
        have jg:(ApT (wr) (.slice a3 T.length c3)) ((upd fL 12) 11) W:=jb;have jp:Bq Av (wr) (w0.heap.size) (.slice a3 T.length c3) (T ++ [⟨UInt8.ofNat (97+2),cq⟩]) (ac.tmps.getD 35 undef) W:=d35;rw [A4] at jp;refine AX rfl (.inl ⟨_,W,?_,jp,Ext.refl _,jg⟩);clear jh hS jb jg jj jp;simp [go_sem,Act.eval, *]
       all_goals (refine AX rfl (.inl ⟨_,W,?_,rfl,Ext.refl _,jb⟩);clear jh hS jb jj;simp [go_sem,Act.eval, *];done)
      case hlast =>
       intro h;exact absurd rfl h
      case hfin =>
       intro _ ac W jh ju fL hf jb hv ja;have hS:(ApT (wr) (.slice a3 T.length c3)) (fL 11) W:=jb;clear jb;rw [hf 11 (by decide)] at hS;obtain ⟨sx,jz,jy⟩:=Ag [24,25,26,27,28,29,30,31,32,33,34,35,3] (by kernel_rfl) jh ju ja;have je:Bq Av (wr) (w0.heap.size) (.slice a3 T.length c3) (T ++ [⟨UInt8.ofNat (97+2),cq⟩]) (sx 3) W:=by rw [jz 3];exact hv 12 (by decide)
       obtain ⟨ya,yc,js, -, -⟩:=je.own.form;rw [js] at je;have jm:=A0 je;clear je hS;rw [jy];simp only [List.foldl];simp only [Act.put,List.setIfInBounds_toArray,List.set_cons_succ,List.set_cons_zero];clear jy jz hv ja jh ju hf;rw [js];clear js
       go_wp2_with fail
       go_roundg (3 - (2+1))
       case measure=>have:=jB.out;omega
       case rel=>exact ⟨2+1,by go_num,by omega,rfl,by rw [HE.out];first | exact jm.out.own | (have h:=jm.out.own;simp only [AB,AC] at h;exact h),Below.trans HB.out (jm.out.below jn.out (fun q hq=>jl.out.ge q hq))⟩
     ·have j6:((T.length:Int) == 0)=false:=by rw [beq_eq_false_iff_ne];omega
      have jI:Hid (¬ DB (x 2) 2 T=true):=fun h=>by
       unfold DB at h;rw [decide_eq_false hp,decide_eq_false jJ] at h;simp at h
      clear jJ;have HE:Hid (DG x (2+1)=T):=by
       show _=_;rw [Cw,HT.out,if_neg jI.out,List.append_nil]
      go_wp2_with fail
      go_roundg (3 - (2+1))
      case measure=>have:=jB.out;omega
      case rel=>exact ⟨2+1,by go_num,by omega,rfl,by rw [HE.out];exact jl.out,HB.out⟩
  ·obtain rfl:k=3:=by omega
   go_wp2_with fail
   go_ret;refine ⟨_,rfl,?_,Ext.trans jV.out HB.out⟩;have h9:s3F x=T:=HT.out;rw [h9];exact jl.out.mono (by have:=jV.out.size;have:=j5.out;omega)
theorem slots14_any (Z:Nat→Nat→Int) (a:Option Addr) (len cap n:Nat) (w:World) (hZ:Fu .u8 3 w a len Z) (hl:len≤9223372036854775807) (hn:n≤1000) :
  Calls Tryz.prog 13 #[.slice a len cap,.int .i64 (n:Int)] w fun e w'=>∃ v,e=.returned v∧Cd w' w.heap.size v (s3s Z (min len n))∧v≠.slice none 0 0∧Ext w w':=by
 have HZ:=A0 hZ;clear hZ
 go_enter Tryz.func13,Tryz.ntmps13
 go_wp2_with fail
 have jq:Hid (Be (w.alloc (.cells #[] 81)) w.heap.size (.slice (some ⟨w.heap.size,0,none⟩) 0 0) [] []):=⟨AZ.empty Bl (heap_alloc_new _ _) (A3 _),rfl,fun k x s h=>by simp at h⟩
 have jo:Hid (Ext w (w.alloc (.cells #[] 81))):=(Below.refl _ _).alloc (A3 _) _
 go_loopg [5,6] n (fun g v5 v6 wr=>∃ i:Nat,v6=.int .i64 (i:Int)∧i≤n∧i≤len∧g=n - i∧Cd wr w.heap.size v5 (s3s Z i)∧v5≠.slice none 0 0∧Ext w wr)
 case atStart=>exact ⟨0,rfl,Nat.zero_le _,Nat.zero_le _,rfl,⟨_,jq.out⟩,by simp,jo.out⟩
 case round =>
  clear jq jo;obtain ⟨i,rfl,hi,hil,jr,⟨Ls,hq⟩,jv,hb⟩:=hrel;obtain ⟨a5,c5,jD, -, -⟩:=hq.own.form;subst jD;have HQ:=A0 hq;have jA:=A0 jr;have HB:=A0 hb;have jp:=A0 jv;have jt:Ls.length=i:=by rw [hq.len,KZ]
  have jB:=A0 jt;clear hq jr hb jt jv;by_cases ju:i<len
  ·by_cases hin:i<n
   ·have jm:(i:Int)<(n:Int):=by omega
    have js:(i:Int)<(len:Int):=by omega
    have jz:=Gt HZ.out HB.out (A3 _);obtain ⟨b,o,ha,hb1,jf⟩:=Ji jz ju;have jw:wr.cell? ⟨b,o+i*3,none⟩=some (.int .u8 (Z i 0)):=(jf 0 (by decide)).1;have jx:=(jf 1 (by decide)).1;have jy:=(jf 2 (by decide)).1;have HR:Hid (∀ j,j<3→0≤Z i j∧Z i j≤255):=fun j hj=>bounds_u8 (jf j hj).2;have jl:=NQ a b o len cap i ha ju;have jk:=A0 (Q9 Z i);obtain ⟨x,hx⟩:∃ x,Z i=x:=⟨_,rfl⟩
    rw [hx] at jw jx jy HR jk;clear hx ha jf jz
    go_wp2_with fail
    refine (slot14_any x wr HR.out).mono ?_;rintro e w1 ⟨v,rfl,hv,jn⟩;obtain ⟨a8,c8,jE, -, -⟩:=hv.form;subst jE;have jj:=A0 (HQ.out.later jn (A3 _));have jh:Hid (Ext w w1):=Ext.trans HB.out jn;obtain ⟨T,hT⟩:∃ T,s3F x=T:=⟨_,rfl⟩
    rw [hT] at hv jk ⊢;have jC:Hid (ElS w1 ⟨a8,T.length,c8⟩ T):=ElS.of hv;clear hT hv jn jw jx jy jl
    go_wp2_with (at_builtin;go_loud (refine Ac (v:=.slice a5 Ls.length c5) C4 rfl _ _ rfl rfl (jj.out.own.later ((Below.refl _ _).alloc (A3 _) _) (A3 _)) ⟨w1.heap.size,0,none⟩ 1 [⟨a8,T.length,c8⟩] rfl (Ae (heap_alloc_new _ _)) (by have:=jB.out;simp only [AC];omega) (by have:=jh.out.size;simp only [A6];omega) ?_);intro v16 w16 jb ja je;have ji:=A0 jb;have jd:=A0 ja;clear jb ja je)
    go_roundg (n - (i+1))
    case measure=>have:=jA.out;omega
    case rel =>
     have jg:Ext w1 (w1.alloc (.cells #[.slice a8 T.length c8] 81)):=(Below.refl _ _).alloc (A3 _) _;have jc:=Be.push (jj.out.later jg (A3 _)) ji.out jd.out (jC.out.kc (Kc.of jg (A3 _)));rw [← jk.out] at jc;exact ⟨i+1,by go_num,by omega,by omega,rfl,⟨_,jc⟩,(fun e=>by
      have h9:=jc.len;rcases jc.own.blk with ⟨_,h⟩ | ⟨g,c,h,_⟩
      · simp at h
      · rw [h] at e;simp at e),Below.grown (Ext.trans jh.out jg) jd.out (by have:=jh.out.size;have:=jg.size;omega) fun q hq=>jj.out.own.ge q hq⟩
   ·have jm:¬ (i:Int)<(n:Int):=by omega
    have js:(i:Int)<(len:Int):=by omega
    have HR:Hid (s3s Z (min len n)=s3s Z i):=by show _=_;rw [show min len n=i by omega]
    go_wp2_with fail
    go_ret;exact ⟨_,rfl,by rw [HR.out];exact ⟨_,HQ.out⟩,jp.out,HB.out⟩
  ·have js:¬ (i:Int)<(len:Int):=by omega
   have HR:Hid (s3s Z (min len n)=s3s Z i):=by show _=_;rw [show min len n=i by omega]
   go_wp2_with fail
   go_ret;exact ⟨_,rfl,by rw [HR.out];exact ⟨_,HQ.out⟩,jp.out,HB.out⟩
theorem Mh (w:World) (o0 o1 o2 o3:Obj):∃ w4,((((w.alloc o0).alloc o1).alloc o2).alloc o3)=w4∧Ext w w4∧w4.heap[w.heap.size]? = some o0∧w4.heap[w.heap.size+1]? = some o1∧w4.heap[w.heap.size+1+1]? = some o2∧w4.heap[w.heap.size+1+1+1]? = some o3∧w4.heap.size=w.heap.size+1+1+1+1:=by
 have x:∀ (W:World) (o:Obj),Ext W (W.alloc o):=fun W o=>(Below.refl _ _).alloc (A3 _) _;have n:∀ (W:World) (o:Obj),(W.alloc o).heap[W.heap.size]? = some o:=fun W o=>World.alloc_heap_new W o;have k:∀ (W:World) (o p:Obj) (i:Nat),W.heap[i]? = some p→(W.alloc o).heap[i]? = some p:=fun W o p i h=>(Below.block (x W o) _ (A5.1 h).1).trans h;refine ⟨_,rfl,Ext.trans (x _ _) (Ext.trans (x _ _) (Ext.trans (x _ _) (x _ _))),k _ _ _ _ (k _ _ _ _ (k _ _ _ _ (n _ _))),?_,?_,?_,by simp⟩
 · exact k _ _ _ _ (k _ _ _ _ (by have:=n (w.alloc o0) o1;rwa [A6] at this))
 · exact k _ _ _ _ (by have:=n ((w.alloc o0).alloc o1) o2;rwa [A6,A6] at this)
 ·have:=n (((w.alloc o0).alloc o1).alloc o2) o3
  rwa [A6,A6,A6] at this
theorem BH.mov {w w':World} {a:Option Addr} {L:List ByteArray} (h:BH w a L) (hz:w.heap.size≤w'.heap.size) (hk:∀ q,q<w.heap.size→(∃ i s,w.cell? ⟨q,i,none⟩=some (.string s))→w'.heap[q]? = w.heap[q]?):BH w' a L:=fun k hl=>by
 obtain ⟨b,o,ha,h1,h2⟩:=h k hl;exact ⟨b,o,ha,A7 h1 hz,(World.cell?_of_block (hk b h1 ⟨_,_,h2⟩)).trans h2⟩
theorem Jj {w:World} {g i:Nat} {cs:Array Value} {t:TypeId} {f:Nat × Nat} {s:ByteArray} (hg:w.heap[g]? = some (.cells cs t f)) (hn:∀ s,Value.string s ∉ cs.toList) (h:w.cell? ⟨g,i,none⟩=some (.string s)):False:=by
 rw [cell_of_row w g i _ _ f hg] at h;exact hn s (Array.mem_toList_iff.2 (Array.mem_of_getElem? h))
theorem BH.set {w:World} {a:Option Addr} {L:List ByteArray} (h:BH w a L) {g:Nat} {cs:Array Value} {t:TypeId} {f:Nat × Nat} (hg:w.heap[g]? = some (.cells cs t f)) (hn:∀ s,Value.string s ∉ cs.toList) (j:Nat) (u:Value):BH (w.setCell ⟨g,j,none⟩ u) a L :=
 h.mov (by rw [World.size_setCell];exact A3 _) fun q hq ⟨i,s,hc⟩=>Below.heap_setCell _ _ _ _ fun e=>by
  have e2:q=g:=e;subst e2;exact Jj hg hn hc
def CN:BQ Nat:=⟨36,3,1,8,.int .i64 0,fun x=>[.int .i64 (x:Int)]⟩
theorem FH:CN.Ok:=⟨Tryz.underlying36,by kernel_rfl,rfl,by decide,fun _=>rfl,fun x u hu=>by obtain rfl:u=.int .i64 (x:Int):=(AD.1 hu);rfl,by decide⟩
theorem AZ.cnts {w:World} {B:Nat} {a:Option Addr} {n c:Nat} {L:List Nat} (h:AZ CN w B (.slice a n c) L):OU w a L∧n=L.length∧L.length≤c:=by
 obtain ⟨a',c',he,hc,_⟩:=h.form;injection he with e1 e2 e3;refine ⟨fun k hk=>?_,e2,by omega⟩;rcases h.blk with ⟨_,rfl⟩ | ⟨g,c2,ja,_,hg,_⟩
 · simp at hk
 ·injection ja with f1 f2 f3;subst f1;have:=h.cell FH hk (j:=0) (by decide);exact ⟨g,0,rfl,hg,by simpa [CN] using this⟩
theorem BH.tq {w w':World} {a:Option Addr} {L:List ByteArray} (h:BH w a L) {g:Nat} {cs:Array Value} {t:TypeId} {f:Nat × Nat} (hg:w.heap[g]? = some (.cells cs t f)) (hn:∀ s,Value.string s ∉ cs.toList) (ht:Tq g w w'):BH w' a L :=
 h.mov ht.size fun q hq ⟨i,s,hc⟩=>ht.block q hq fun e=>by
  have e2:q=g:=by injection e
  subst e2;exact Jj hg hn hc
theorem PrS.tq {w w':World} {a:Option Addr} {E:List Prs} (h:PrS w a E) {g:Nat} {a0 a1 a2:Option Addr} {n0 c0 n1 c1 n2 c2:Nat} {bk:Int} {t:TypeId} {f:Nat × Nat} (hg:w.heap[g]? = some (.cells #[.slice a0 n0 c0,.slice a1 n1 c1,.slice a2 n2 c2,.int .i64 bk] t f)) (ht:Tq g w w'):PrS w' a E:=fun k hl=>by
 obtain ⟨b,o,ha,h1,h2,h3,h4⟩:=h k hl;have ja:b≠g:=fun e=>by
  subst e;rw [cell_of_row w b _ _ _ _ hg] at h3;have hi:∀ i,(#[.slice a0 n0 c0,.slice a1 n1 c1,.slice a2 n2 c2,.int .i64 bk]:Array Value)[i]? = some (.int .i64 E[k].2.1)→i=3:=fun i hi=>by
   match i with
   | 0=>simp at hi
   | 1=>simp at hi
   | 2=>simp at hi
   | 3=>rfl
   | i+4=>simp at hi
  have h5:=hi _ h3;rw [cell_of_row w b _ _ _ _ hg,show o+k*3=2 by omega] at h2;simp at h2
 have hk:w'.heap[b]? = w.heap[b]?:=ht.block b h1 fun e=>ja (by injection e);exact ⟨b,o,ha,A7 h1 ht.size,(World.cell?_of_block hk).trans h2,(World.cell?_of_block hk).trans h3,(World.cell?_of_block hk).trans h4⟩
def SS (M:List ByteArray) (v:Value) (w:World):Prop:=∃ a c,v=.slice a M.length c∧BH w a M∧M.length≤c
theorem Mi (M:List ByteArray):Bb (SS M):=by
 rintro v w w' ⟨a,c,h1,h2,h3⟩ hx;exact ⟨a,c,h1,h2.later hx (A3 _),h3⟩
def PrV (M:List Prs) (v:Value) (w:World):Prop:=∃ a c,v=.slice a M.length c∧PrS w a M∧M.length≤c
theorem Ob (M:List Prs):Bb (PrV M):=by
 rintro v w w' ⟨a,c,h1,h2,h3⟩ hx;exact ⟨a,c,h1,h2.go hx,h3⟩
theorem Gu (a0 a1 a2:Option Addr) (n0 c0 n1 c1 n2 c2:Nat) (bk:Int):∀ s,Value.string s ∉ (#[.slice a0 n0 c0,.slice a1 n1 c1,.slice a2 n2 c2,.int .i64 bk]:Array Value).toList:=fun s h=>by simp at h
def QA (Q:Nat→BR) (kw:Nat) (w:World) (e:Ending) (w':World):Prop :=
 ∃ (a0 a1 a2:Option Addr) (c0 c1 c2:Nat) (Ws:List ByteArray) (cs:List Nat) (ps:List Prs) (bk:Int),e=.returned (Mb a0 Ws.length c0 a1 cs.length c1 a2 ps.length c2 bk)∧Il w' a0 a1 a2 c0 c1 c2 Ws cs ps bk∧Ii Ws cs ps bk∧Ws=mdW Q kw∧AZ CN w' 0 (.slice a1 cs.length c1) cs∧Ext w w'
theorem Ip {w w':World} {g:Nat} {tmp:Obj} {v0 v1 v2:Value} {bk:Int} {v:Value} (hg:(w.alloc tmp).grownBy w' v.ownBlock) (hm:w.heap[g]? = some (.cells #[v0,v1,v2,.int .i64 bk] 39 (0,0))) (hn:v.ownBlock≠some g) :
  w'.cell? ⟨g,0,none⟩=some v0∧w'.cell? ⟨g,1,none⟩=some v1∧w'.cell? ⟨g,2,none⟩=some v2∧w'.cell? ⟨g,3,none⟩=some (.int .i64 bk)∧∀ i,w'.frozen? ⟨g,i,none⟩=false:=by
 have hl:=(A5.1 hm).1;have h1:w'.heap[g]? = some (.cells #[v0,v1,v2,.int .i64 bk] 39 (0,0)):=(hg.block g (by rw [A6];omega) (Ne.symm hn)).trans ((Below.heap_alloc _ _ _ hl).trans hm);obtain ⟨m0,m1,m2,m3⟩:=Ax h1;exact ⟨m0,m1,m2,m3,fun i=>by simp [World.frozen?,h1]⟩
theorem NR {w w' w0:World} {g n0 c0 n1 c1 n9 c9:Nat} {tmp:Obj} {a0 a1 a9:Option Addr} {bk:Int} {CS DS:List Nat} (hm:w.heap[g]? = some (.cells #[.slice a0 n0 c0,.slice a1 n1 c1,.slice none 0 0,.int .i64 bk] 39 (0,0)))
  (ho:AZ CN w w0.heap.size (.slice a1 n1 c1) CS) (ja:AZ CN w' w0.heap.size (.slice a9 n9 c9) DS) (hg:(w.alloc tmp).grownBy w' (Value.slice a1 n1 c1).ownBlock) (ht:Tq g w0 w) (hw:g<w0.heap.size) :
  (w'.setCell ⟨g,1,none⟩ (.slice a9 n9 c9)).heap[g]? = some (.cells #[.slice a0 n0 c0,.slice a9 n9 c9,.slice none 0 0,.int .i64 bk] 39 (0,0))∧AZ CN (w'.setCell ⟨g,1,none⟩ (.slice a9 n9 c9)) w0.heap.size (.slice a9 n9 c9) DS∧Tq g w0 (w'.setCell ⟨g,1,none⟩ (.slice a9 n9 c9)):=by
 have hl:=(A5.1 hm).1;have hx:Ext w (w.alloc tmp):=(Below.refl _ _).alloc (A3 _) _;have h1:w'.heap[g]? = some (.cells #[.slice a0 n0 c0,.slice a1 n1 c1,.slice none 0 0,.int .i64 bk] 39 (0,0)):=(hg.block g (by rw [A6];omega) (fun e=>by have:=ho.ge g e.symm;omega)).trans ((Below.heap_alloc _ _ _ hl).trans hm);exact ⟨Ao h1 rfl,ja.keep fun q hq=>Below.heap_setCell _ _ _ _ (by have:=ja.ge q hq;show q≠g;omega),((ht.trans (Tq.of hx)).grow hg fun q hq=>ho.ge q hq).trans (Tq.set _ _ _ _)⟩
theorem RN {w:World} {g:Nat} {u0 u1 u2 u3:Value} {t:TypeId} (h:w.heap[g]? = some (.cells #[u0,u1,u2,u3] t (0,0))) (v0 v1 v2 v3:Value) :
  ∃ w',(((w.setCell ⟨g,0,none⟩ v0).setCell ⟨g,1,none⟩ v1).setCell ⟨g,2,none⟩ v2).setCell ⟨g,3,none⟩ v3=w'∧Tq g w w'∧w'.cell? ⟨g,0,none⟩=some v0∧w'.cell? ⟨g,1,none⟩=some v1∧w'.cell? ⟨g,2,none⟩=some v2∧w'.cell? ⟨g,3,none⟩=some v3:=by
 have h4:((((w.setCell ⟨g,0,none⟩ v0).setCell ⟨g,1,none⟩ v1).setCell ⟨g,2,none⟩ v2).setCell ⟨g,3,none⟩ v3).heap[g]? = some (.cells #[v0,v1,v2,v3] t (0,0)):=Ao (Ao (Ao (Ao h rfl) rfl) rfl) rfl;obtain ⟨c0,c1,c2,c3⟩:=Ax h4;exact ⟨_,rfl,(((Tq.set _ _ _ _).trans (Tq.set _ _ _ _)).trans (Tq.set _ _ _ _)).trans (Tq.set _ _ _ _),c0,c1,c2,c3⟩
theorem QB {Q:Nat→BR} {kw k gr gm:Nat} {w w0 we wf:World} {M:List ByteArray} {CS:List Nat} {P:List Prs} {a a1 ap:Option Addr} {c c1 cp B:Nat} {bk:Int} (hn:M.length=k) (hM:mdW Q kw=M) (hcl:CS.length=k) (hc:k≤c) (jb:Ii M CS P bk) (hs:BH we a M) (ho:AZ CN we B (.slice a1 CS.length c1) CS) (hp:PrS we ap P)
  (hg:we.heap[gr+1]? = some (.cells #[.slice none 0 0,.slice none 0 0,.slice none 0 0,.int .i64 0] 39 (0,0))) (ht:Tq (gr+1) we wf) (jc:Ext w w0) (hb:Below gm w0 we) (hgr:w.heap.size=gr) (hgm:gr+1+1+1=gm) (hB:gm<B) :
  QA Q kw w (.returned (.agg #[.slice a k c,.slice a1 CS.length c1,.slice ap P.length cp,.int .i64 bk])) wf:=by
 subst hn;have ja:AZ CN wf B (.slice a1 CS.length c1) CS:=ho.keep fun q hq=>ht.block q (ho.lt q hq) fun e=>by
  have h1:=ho.ge q hq;injection e with e;omega
 refine ⟨a,a1,ap,c,c1,cp,M,CS,P,bk,rfl,⟨hs.tq hg (Gu _ _ _ _ _ _ _ _ _ _) ht,hc,(AZ.cnts ja).1,hp.tq hg ht⟩,jb,hM.symm,ja.mono (Nat.zero_le _),?_⟩;have h1:Below w.heap.size w we:=Below.trans jc (Below.mono hb (by omega));exact Below.trans h1 (ht.below (by omega) h1.size)
theorem made11_any (
          Q:Nat→BR) (aW aC aU:Option Addr) (lW cW lC cC lU cU:Nat) (ZC:Nat→Int) (ZU:Nat→Nat→Int) (bk:Int) (w:World) (hQ:EJ w aW lW Q) (hlW:lW≤9223372036854775807) (hC:BX w aC lC ZC) (hlC:lC≤9223372036854775807) (hU:Fu .u8 3 w aU lU ZU) (hlU:lU≤9223372036854775807) (yr:0≤bk) (jW:bk≤255) :
  Calls Tryz.prog 12 #[.agg #[.slice aW lW cW,.slice aC lC cC,.slice aU lU cU,.int .u8 bk]] w (QA Q (min lW 6) w):=by
 have HQ:=A0 hQ;have HC:=A0 hC;have HU:=A0 hU;clear hQ hC hU;have kM:RowKit.wrap64 bk=bk:=by unfold RowKit.wrap64;omega
 have HWB:=A0 kM
 go_enter Tryz.func12,Tryz.ntmps12
 go_upto_block 0 with fail
 obtain ⟨w0,kL,j1,h0,h1,h2,h3,kd⟩:=Mh w (.cells #[.slice aW lW cW,.slice aC lC cC,.slice aU lU cU,.int .u8 bk] 29) (.cells #[.slice none 0 0,.slice none 0 0,.slice none 0 0,.int .i64 0] 39) (.cells #[.string ⟨#[97]⟩,.string ⟨#[98]⟩] 9) (.cells #[.slice (some ⟨w.heap.size+1+1,0,none⟩) 2 2,.slice none 0 0,.slice none 0 0,.int .i64 bk] 39);rw [kL];have kG:=A0 j1;have jK:BH w0 (some ⟨w.heap.size+1+1,0,none⟩) (mdW Q 0):=by
  intro k hk;refine ⟨_,_,rfl,(A5.1 h2).1,?_⟩;rw [cell_of_row _ _ _ _ _ _ h2];have yu:k=0∨k=1:=by have:k<2:=hk;omega
  rcases yu with rfl | rfl <;> rfl
 obtain ⟨gr,kn⟩:∃ gr,w.heap.size=gr:=⟨_,rfl⟩
 have jP:=A0 kn;rw [kn] at h0 h1 h2 h3 kd jK ⊢;obtain ⟨gm,km⟩:∃ gm,gr+1+1+1=gm:=⟨_,rfl⟩
 rw [km] at h3 kd ⊢;have k2:=A0 km;have j4:Hid (∀ W,Below gm w0 W→W.heap[gr]? = some (.cells #[.slice aW lW cW,.slice aC lC cC,.slice aU lU cU,.int .u8 bk] 29 (0,0))):=fun W hx=>(Below.block hx _ (by omega)).trans h0;have yg:Hid (∀ W,Below gm w0 W→W.heap[gr+1]? = some (.cells #[.slice none 0 0,.slice none 0 0,.slice none 0 0,.int .i64 0] 39 (0,0))):=fun W hx=>(Below.block hx _ (by omega)).trans h1;have k4:=A0 h3;have kj:=A0 jK;have HZ4:Hid (w0.heap.size=gm+1):=kd;have jT:Hid (∀ W,Below gm w0 W→Below gr w W):=fun W hx=>Below.trans (Below.mono kG.out (by have:=jP.out;omega)) (Below.mono hx (by omega));clear kL j1 h0 h1 h2 h3 kd jK kn km kM
 go_cut [] (fun wx=>∃ wc:World,wc=wx∧∃ (a:Option Addr) (c:Nat),wc.heap[gm]? = some (.cells #[.slice a (mdW Q (min lW 6)).length c,.slice none 0 0,.slice none 0 0,.int .i64 bk] 39 (0,0))∧BH wc a (mdW Q (min lW 6))∧(mdW Q (min lW 6)).length≤c∧Below gm w0 wc)
 case first =>
  go_wp2_with fail
  go_loopg [4] 6 (fun g v4 wr=>∃ (k:Nat) (a:Option Addr) (c:Nat),v4=.int .i64 (k:Int)∧k≤6∧k≤lW∧g=6 - k∧wr.heap[gm]? = some (.cells #[.slice a (mdW Q k).length c,.slice none 0 0,.slice none 0 0,.int .i64 bk] 39 (0,0))∧BH wr a (mdW Q k)∧(mdW Q k).length≤c∧Below gm w0 wr)
  case atStart=>exact ⟨0,_,_,rfl,Nat.zero_le _,Nat.zero_le _,rfl,k4.out,kj.out,A3 _,Below.refl _ _⟩
  case round =>
   obtain ⟨k,a,c,rfl,hk6,hkl,jy,jb,jj,jA,hb⟩:=hrel;have yy:=(Ec Q k).2;have jQ:=A0 (KV Q k);have jd:Hid (mdW Q (k+1)=Fx (mwF (Q k).Z (Q k).n) (mdW Q k)):=rfl;have jh:Hid (¬ (k<lW∧k<6)→mdW Q (min lW 6)=mdW Q k):=fun h=>by rw [show min lW 6=k by omega]
   obtain ⟨M,hM⟩:∃ M,mdW Q k=M:=⟨_,rfl⟩
   rw [hM] at jb jj jA yy jQ jd jh;have jg:=A0 jb;have jU:=A0 jj;have jR:=A0 jA;have HB:=A0 hb;have jN:=A0 jy;have j3:=A0 (A5.1 jb).1;have k5:Hid (M.length≤1000):=by show _≤_;omega
   have ky:Hid (gm≤wr.heap.size):=Nat.le_of_lt j3.out;clear jb jj jA hb jy hM;obtain ⟨r0,r1,r2,r3⟩:=Ax (j4.out wr (HB.out));by_cases jz:k<lW
   ·have ju:(k:Int)<(lW:Int):=by omega
    by_cases h6:k<6
    ·have yp:(k:Int)<6:=by omega
     obtain ⟨b1,o1,ha,jW,ka,j7,j6⟩:=(HQ.out.later (jT.out wr HB.out) (by have:=jP.out;omega)) k jz;have jG:=KE aW b1 o1 lW cW k ha jz;obtain ⟨q,hq⟩:∃ q,Q k=q:=⟨_,rfl⟩
     rw [hq] at ka j7 j6 jd;obtain ⟨qa,qn,qc,qZ⟩:=q;simp only at ka j7 j6;have jd:Hid (mdW Q (k+1)=Fx (mwF qZ qn) M):=jd;obtain ⟨x,hx⟩:∃ x,mwF qZ qn=x:=⟨_,rfl⟩
     rw [hx] at jd;have ym:=A0 hx;have jT:=A0 ka;have k0:=A0 j7;have ye:=A0 j6;clear hx hq ha ka j7 j6
     go_upto_region 5 with fail
     clear r0 r1 r2 r3;refine An (by kernel_rfl) (Vs [vq (.pointer (some ⟨gm,0,none⟩)),vq (.slice a M.length c),vq (.pointer (some ⟨gr,0,none⟩)),vq (.slice aW lW cW),vq (.int .i64 (k:Int)),vq (.pointer (some ⟨b1,o1+k,none⟩)),vq (.slice qa qn qc),vq (.string x),SS (Fx x M),vq (.pointer (some ⟨gm,0,none⟩))]) (Xs []) (fun fL=>(fun W=>Ext wr W) ) [0,1,0,4,0,28,60,124,255,0] 97 10 (by kernel_rfl) rfl ?hV ?hS ?hop ?hfin ?hlast
     case hV =>
      refine Az (Af (by simp only [AS,List.not_mem_nil,or_false,forall_eq_or_imp,forall_eq];exact ⟨AW _,AW _,AW _,AW _,AW _,AW _,AW _,AW _,Mi _,AW _⟩)) ?_;exact trivial
     case hS =>
      intro fL hf;show (fun W=>Ext wr W)  _
      first | exact Ext.refl _ | exact B8 _
     case hop =>
      refine ⟨?_,?_,?_,?_,?_,?_,?_,?c7,?c8,?_,?_,trivial⟩
      all_goals first | rw [if_neg (by decide)] | rw [if_pos (by decide)]
      all_goals try exact True.intro
      all_goals try intro ac W fL jm jO kp kl jf ji ja jL
      all_goals try have hS:(fun W=>Ext wr W)  W:=jf
      all_goals try (
       have jw:Ext wr W:=hS;obtain ⟨r0,r1,r2,r3⟩:=Ax (j4.out W (Below.trans HB.out (Below.mono jw ky.out)));have g9:=(Below.block jw gm j3.out).trans jg.out;obtain ⟨m0,m1,m2,m3⟩:=Ax g9;have q0:=(Below.cell jw (p:=⟨b1,o1+k,none⟩) jW).trans jT.out;clear g9)
      all_goals try have yt:=gdA ac 3 (.pointer (some ⟨gm,0,none⟩)) (ja 3 (by kernel_rfl))
      all_goals try have hh1:=gdA ac 1 (.pointer (some ⟨gr,0,none⟩)) (ja 1 (by kernel_rfl))
      all_goals try have hh4:=gdA ac 4 (.int .i64 (k:Int)) (ja 4 (by kernel_rfl))
      all_goals try (have ji:=DJ ji;simp [Cg,AY,vq] at ji)
      all_goals try clear ja kp kl jL
      case c7 =>
       refine AX rfl (.inr ⟨36,#[.slice qa qn qc],W,by (clear jm hS jf jO;simp [go_sem,Act.eval, *]),?_⟩);refine (word11_any qZ qa qn qc W (k0.out.later jw (A3 _)) ye.out).mono ?_;rintro e w' ⟨he,hx⟩;rw [ym.out] at he;exact ⟨_,he,rfl,hx,Ext.trans jf hx⟩
      case c8 =>
       refine AX rfl (.inr ⟨35,#[.slice a M.length c,.string x],W,by (clear jm hS jf jO;simp [go_sem,Act.eval, *]),?_⟩);refine (insert11_any M a c x W (jU.out.later jw (A3 _)) jQ.out k5.out).mono ?_;rintro e w' ⟨nb,no,nc,he,hs,hc,hx⟩;exact ⟨_,he,⟨_,_,rfl,hs,hc⟩,hx,Ext.trans jf hx⟩
      all_goals (refine AX rfl (.inl ⟨_,W,?_,rfl,Ext.refl _,jf⟩);clear jm hS jf jO;simp [go_sem,Act.eval, *];done)
     case hfin =>
      intro h;exact absurd h (by decide)
     case hlast =>
      intro _ ac W jm jX fL hf jf hv ja;have hS:(fun W=>Ext wr W)  W:=jf;clear jf;have jj:ac.tmps.getD 35 undef=.pointer (some ⟨gm,0,none⟩):=hv 9 (by decide);have ks:SS (Fx x M) (ac.tmps.getD 34 undef) W:=hv 8 (by decide);obtain ⟨na,nc,js,jY,Jx⟩:=ks;have jB:Ext wr W:=hS;have jb:=(Below.block jB gm j3.out).trans jg.out;refine BK rfl rfl rfl rfl (Ad jj) (Ad js) (by simp [World.frozen?,jb]) (Ax jb).1 (by kernel_rfl) ?_;obtain ⟨wz,jl⟩:∃ wz,W.setCell ⟨gm,0,none⟩ (.slice na (Fx x M).length nc)=wz:=⟨_,rfl⟩
      rw [jl];have jE:Hid (wz.heap[gm]? = some (.cells #[.slice na (Fx x M).length nc,.slice none 0 0,.slice none 0 0,.int .i64 bk] 39 (0,0))):=by show _=_;rw [← jl];exact Ao jb rfl
      have yi:Hid (BH wz na (Fx x M)):=by show BH _ _ _;rw [← jl];exact jY.set jb (Gu _ _ _ _ _ _ _ _ _ _) 0 _
      have jD:Hid (Below gm w0 wz):=by show Below _ _ _;rw [← jl];exact (Below.trans HB.out (Below.mono jB ky.out)).setCell (p:=⟨gm,0,none⟩) (A3 _) _
      have k6:=A0 Jx;clear hS jB jb jY Jx jl jj;obtain ⟨sx,kv,j0⟩:=Ag [26,27,28,29,30,31,32,33,34,35] (by kernel_rfl) jm jX ja;clear js;rw [j0];simp only [List.foldl];simp only [Act.put,List.setIfInBounds_toArray,List.set_cons_succ,List.set_cons_zero];clear j0 kv hv ja jm jX hf
      go_wp2_with fail
      go_roundg (6 - (k+1))
      case measure=>have:=jN.out;omega
      case rel=>exact ⟨k+1,na,nc,by go_num,by omega,by omega,rfl,by rw [jd.out];exact jE.out,by rw [jd.out];exact yi.out,by rw [jd.out];exact k6.out,jD.out⟩
    ·have yp:¬ (k:Int)<6:=by omega
     have HE:=A0 (jh.out fun h=>h6 h.2)
     go_wp2_with fail
     go_meet
     rw [HE.out];exact ⟨_,rfl,a,c,jg.out,jU.out,jR.out,HB.out⟩
   ·have ju:¬ (k:Int)<(lW:Int):=by omega
    have HE:=A0 (jh.out fun h=>jz h.1)
    go_wp2_with fail
    go_meet
    rw [HE.out];exact ⟨_,rfl,a,c,jg.out,jU.out,jR.out,HB.out⟩
 case rest
      =>
  obtain ⟨wc,yA,a,c,jb,jj,jA,hb⟩:=hcut;subst yA;obtain ⟨kr,j9⟩:=Ec Q (min lW 6);have kg:Hid (min lW 6≤6):=Nat.min_le_right _ _;obtain ⟨kw,ko⟩:∃ kw,min lW 6=kw:=⟨_,rfl⟩
  rw [ko] at jb jj jA kr j9 kg;have k3:=A0 ko;have yo:Hid (∀ i,i<lC→ZC i≤255):=fun i hi=>by obtain ⟨_,_,_,_,_,_,h⟩:=HC.out.at hi;exact h
  obtain ⟨M,hM⟩:∃ M,mdW Q kw=M:=⟨_,rfl⟩
  have kB:=A0 hM;rw [hM] at jb jj jA kr j9;have j5:=A0 jb;have jU:=A0 jj;have jR:=A0 jA;have ke:=A0 hb;have jx:Hid (gm<wc.heap.size):=(A5.1 jb).1;obtain ⟨n,hn⟩:∃ n,M.length=n:=⟨_,rfl⟩
  have kE:=A0 hn;rw [hn] at j5 jR kr j9;obtain ⟨m0,m1,m2,m3⟩:=Ax j5.out;have hn8':n≤8:=by have:=kg.out;omega
  clear jb jj jA hb ko hM hn j9
  go_upto_block 2 with fail
  go_wp2_with fail
  clear m0 m1 m2 m3
  go_loopg [6,7] n (fun g v6 v7 wr=>∃ (k:Nat) (a1:Option Addr) (c1:Nat),v6=.int .i64 (k:Int)∧k≤n∧g=n - k∧wr.heap[gm]? = some (.cells #[.slice a n c,.slice a1 (mdC ZC lC k).length c1,.slice none 0 0,.int .i64 bk] 39 (0,0))∧AZ CN wr wc.heap.size (.slice a1 (mdC ZC lC k).length c1) (mdC ZC lC k)∧Tq gm wc wr)
  case atStart=>exact ⟨0,none,0,rfl,Nat.zero_le _,rfl,j5.out,AZ.nil _ _ _,Tq.of (Ext.refl _)⟩
  case round =>
   obtain ⟨k,a1,c1,rfl,hk,jy,jb,jv,hb⟩:=hrel;have jk:(mdC ZC lC k).length=k:=NO _ _ _;have jd:=A0 (Lh ZC lC k);obtain ⟨CS,kk⟩:∃ CS,mdC ZC lC k=CS:=⟨_,rfl⟩
   rw [kk] at jb jv jk jd;have k1:=A0 kk;have jg:=A0 jb;have jp:=A0 jv;have HB:=A0 hb;have jN:=A0 jy;have j3:=A0 (A5.1 jb).1;have kD:Hid ((Value.slice a1 CS.length c1).ownBlock≠some gm):=fun e=>by have:=jp.out.ge _ e;have:=jx.out;omega
   have jt:Below gm w0 wr:=ke.out.trans (HB.out.below (A3 _) (Nat.le_of_lt jx.out));have jC:=A0 jt;obtain ⟨m0,m1,m2,m3⟩:=Ax jb;obtain ⟨r0,r1,r2,r3⟩:=Ax (j4.out wr (jC.out));clear jb jv hb jy kk jt;by_cases jz:k<n
   ·have ju:(k:Int)<(n:Int):=by omega
    have hcs:CS.length≤8:=by omega
    by_cases j8:k<lC
    ·have ys:(k:Int)<(lC:Int):=by omega
     obtain ⟨b1,o1,ha,jW,hz,z0,z1⟩:=(HC.out.later (jT.out wr jC.out) (by have:=jP.out;omega)).at j8;have jG:=F9 aC b1 o1 lC cC k ha j8;obtain ⟨zn,kx⟩:∃ zn:Nat,ZC k=(zn:Int):=⟨(ZC k).toNat,by omega⟩
     have jV:Hid (mdC ZC lC (k+1)=CS ++ [zn]):=by show _=_;rw [jd.out,if_pos j8,kx];rfl
     have jd:=jV;rw [kx] at hz z0 z1;have jl:RowKit.wrap64 (zn:Int)=(zn:Int):=by unfold RowKit.wrap64;omega
     clear ha kx jk jV
     go_wp2_with (at_builtin;go_loud (refine Ac (v:=.slice a1 CS.length c1) FH rfl _ _ rfl rfl (jp.out.later ((Below.refl _ _).alloc (A3 _) _) (A3 _)) ⟨wr.heap.size,0,none⟩ 1 [zn] rfl (Ae (heap_alloc_new _ _)) (by simp only [AC];omega) (by have:=HB.out.size;simp only [A6];omega) ?_);intro v59 w59 je jc jq;have jo:=A0 je;have jn:=A0 jc;clear je jc jq;obtain ⟨m0,m1,m2,m3,mf⟩:=Ip (jn.out) (jg.out) (kD.out);obtain ⟨a59,c59,jM, -, -⟩:=jo.out.form;subst jM)
     obtain ⟨jH,jI,jF⟩:=NR jg.out jp.out jo.out jn.out HB.out jx.out;simp only [AB,AC] at jH jI jF;have jE:=A0 jH;have jS:=A0 jI;have jD:=A0 jF;clear jH jI jF m0 m1 m2 m3 mf
     go_wp2_with fail
     go_roundg (n - (k+1))
     case measure=>have:=jN.out;omega
     case rel=>exact ⟨k+1,a59,c59,by go_num,by omega,rfl,by rw [jd.out,AB,AC];exact jE.out,by rw [jd.out,AB,AC];exact jS.out,jD.out⟩
    ·have ys:¬ (k:Int)<(lC:Int):=by omega
     have jV:Hid (mdC ZC lC (k+1)=CS ++ [0]):=by show _=_;rw [jd.out,if_neg j8]
     have jd:=jV;clear jk jV
     go_wp2_with (at_builtin;go_loud (refine Ac (v:=.slice a1 CS.length c1) FH rfl _ _ rfl rfl (jp.out.later ((Below.refl _ _).alloc (A3 _) _) (A3 _)) ⟨wr.heap.size,0,none⟩ 1 [0] rfl (Ae (heap_alloc_new _ _)) (by simp only [AC];omega) (by have:=HB.out.size;simp only [A6];omega) ?_);intro v59 w59 je jc jq;have jo:=A0 je;have jn:=A0 jc;clear je jc jq;obtain ⟨m0,m1,m2,m3,mf⟩:=Ip (jn.out) (jg.out) (kD.out);obtain ⟨a59,c59,jM, -, -⟩:=jo.out.form;subst jM)
     obtain ⟨jH,jI,jF⟩:=NR jg.out jp.out jo.out jn.out HB.out jx.out;simp only [AB,AC] at jH jI jF;have jE:=A0 jH;have jS:=A0 jI;have jD:=A0 jF;clear jH jI jF m0 m1 m2 m3 mf
     go_wp2_with fail
     go_roundg (n - (k+1))
     case measure=>have:=jN.out;omega
     case rel=>exact ⟨k+1,a59,c59,by go_num,by omega,rfl,by rw [jd.out,AB,AC];exact jE.out,by rw [jd.out,AB,AC];exact jS.out,jD.out⟩
   ·obtain rfl:k=n:=by omega
    have kf:Hid (CS.length=k):=jk;clear jk
    go_upto_block 4 with fail
    clear m0 m1 m2 m3 r0 r1 r2 r3;obtain ⟨wd,kN⟩:∃ wd,wr=wd:=⟨_,rfl⟩
    have HWD:=A0 kN;rw [kN] at jg jp HB jC ⊢
    go_cut [] (fun wx=>∃ we:World,we=wx∧∃ (ap:Option Addr) (cp:Nat),we.heap[gm]? = some (.cells #[.slice a k c,.slice a1 CS.length c1,.slice ap (mdP k ZU (min lU 8)).length cp,.int .i64 bk] 39 (0,0))∧AZ CN we wc.heap.size (.slice a1 CS.length c1) CS∧PrS we ap (mdP k ZU (min lU 8))∧Tq gm wc we)
    case first =>
     go_wp2_with fail
     go_loopg [8,9] 8 (fun g v8 v9 wr=>∃ (i:Nat) (ap:Option Addr) (cp:Nat),v8=.int .i64 (i:Int)∧i≤8∧i≤lU∧g=8 - i∧wr.heap[gm]? = some (.cells #[.slice a k c,.slice a1 CS.length c1,.slice ap (mdP k ZU i).length cp,.int .i64 bk] 39 (0,0))∧AZ CN wr wc.heap.size (.slice a1 CS.length c1) CS∧PrS wr ap (mdP k ZU i)∧Tq gm wc wr)
     case atStart=>exact ⟨0,none,0,rfl,Nat.zero_le _,Nat.zero_le _,rfl,jg.out,jp.out,PrS.nil _ _,HB.out⟩
     case round =>
      obtain ⟨i,ap,cp,rfl,hi8,hil,jy,jb,jv,jJ,hb⟩:=hrel;have yz:=KW k ZU i;have ku:=KX k (by omega) ZU i;have kt:=Q7 (n:=k) (by omega) ZU i (by omega);have jd:Hid (mdP k ZU (i+1)=FS9 (ZU i 0 % (k:Int),ZU i 1 % (k:Int),1+ZU i 2 % 16) (mdP k ZU i)):=rfl;have jh:Hid (¬ (i<lU∧i<8)→mdP k ZU (min lU 8)=mdP k ZU i):=fun h=>by rw [show min lU 8=i by omega]
      obtain ⟨P,hP⟩:∃ P,mdP k ZU i=P:=⟨_,rfl⟩
      rw [hP] at jb jJ yz ku kt jd jh;have jg:=A0 jb;have jp:=A0 jv;have ki:=A0 jJ;have HB:=A0 hb;have jN:=A0 jy;have ya:=A0 ku.inc;have kh:=A0 kt;have yb:Hid (P.length≤1000):=by show _≤_;omega
      have jt:Below gm w0 wr:=ke.out.trans (HB.out.below (A3 _) (Nat.le_of_lt jx.out));have jC:=A0 jt;clear jb jv jJ hb jy hP ku kt;obtain ⟨r0,r1,r2,r3⟩:=Ax (j4.out wr (jC.out));by_cases jz:i<lU
      ·have ju:(i:Int)<(lU:Int):=by omega
       by_cases h8:i<8
       ·have yq:(i:Int)<8:=by omega
        have kY:=Gt HU.out (jT.out wr jt) (by have:=jP.out;omega);obtain ⟨b1,o1,ha,jW,jk⟩:=Ji kY jz;have kV:wr.cell? ⟨b1,o1+i*3,none⟩=some (.int .u8 (ZU i 0)):=(jk 0 (by decide)).1;have kW:=(jk 1 (by decide)).1;have kX:=(jk 2 (by decide)).1;have kS:=bounds_u8 (jk 0 (by decide)).2;have kT:=bounds_u8 (jk 1 (by decide)).2;have kU:=bounds_u8 (jk 2 (by decide)).2;have jG:=NQ aU b1 o1 lU cU i ha jz;obtain ⟨x0,j1⟩:∃ x,ZU i 0=x:=⟨_,rfl⟩
        obtain ⟨x1,kP⟩:∃ x,ZU i 1=x:=⟨_,rfl⟩
        obtain ⟨x2,kQ⟩:∃ x,ZU i 2=x:=⟨_,rfl⟩
        rw [j1] at kV kS jd;rw [kP] at kW kT jd;rw [kQ] at kX kU jd;have hk0:((k:Int) == 0)=false:=by rw [beq_eq_false_iff_ne];omega
        have hk00:¬ k=0:=by omega
        have i0:IntKind.i64.wrap x0=x0:=IntWalk.i64_in _ (by omega);have i1:IntKind.i64.wrap x1=x1:=IntWalk.i64_in _ (by omega);have yv:x0.tmod (k:Int)=x0 % (k:Int):=Int.tmod_eq_emod_of_nonneg kS.1;have yw:x1.tmod (k:Int)=x1 % (k:Int):=Int.tmod_eq_emod_of_nonneg kT.1;have yx:x2.tmod 16=x2 % 16:=Int.tmod_eq_emod_of_nonneg kU.1;have l0:0≤x0 % (k:Int)∧x0 % (k:Int)<(k:Int):=⟨Int.emod_nonneg _ (by omega),Int.emod_lt_of_pos _ (by omega)⟩
        have l1:0≤x1 % (k:Int)∧x1 % (k:Int)<(k:Int):=⟨Int.emod_nonneg _ (by omega),Int.emod_lt_of_pos _ (by omega)⟩
        obtain ⟨p0,kI⟩:∃ p,x0 % (k:Int)=p:=⟨_,rfl⟩
        obtain ⟨p1,kJ⟩:∃ p,x1 % (k:Int)=p:=⟨_,rfl⟩
        obtain ⟨p2,kK⟩:∃ p,x2 % 16=p:=⟨_,rfl⟩
        have l2:0≤p2∧p2≤15:=by omega
        rw [kI] at yv l0 jd;rw [kJ] at yw l1 jd;rw [kK] at yx jd;have i2:IntKind.i64.wrap p2=p2:=IntWalk.i64_in _ (by omega);have i3:IntKind.i64.wrap (1+p2)=1+p2:=IntWalk.i64_in _ (by omega);have i4:IntKind.i64.wrap p0=p0:=IntWalk.i64_in _ (by omega);have i5:IntKind.i64.wrap p1=p1:=IntWalk.i64_in _ (by omega);have v0:RowKit.wrap64 x0=x0:=by unfold RowKit.wrap64;omega
        have v1:RowKit.wrap64 x1=x1:=by unfold RowKit.wrap64;omega
        have v2:RowKit.wrap64 p2=p2:=by unfold RowKit.wrap64;omega
        have v3:RowKit.wrap64 p0=p0:=by unfold RowKit.wrap64;omega
        have v4:RowKit.wrap64 p1=p1:=by unfold RowKit.wrap64;omega
        have v5:RowKit.wrap64 (1+p2)=1+p2:=by unfold RowKit.wrap64;omega
        have v6:IntKind.u8.wrap p2=p2:=IntWalk.u8_in _ (by omega);have k8:Hid (0≤(p0,p1,1+p2).2.2):=by show (0:Int)≤1+p2;omega
        have k9:Hid ((p0,p1,1+p2).2.2≤1000000000):=by show (1:Int)+p2≤1000000000;omega
        clear j1 kP kQ jk kY ha kI kJ kK jt
        go_upto_region 18 with fail
        obtain ⟨wu,kc⟩:∃ wu,wr.alloc (.cells #[.int .u8 x0,.int .u8 x1,.int .u8 x2] 95)=wu:=⟨_,rfl⟩
        rw [kc];have j2:Ext wr wu:=by rw [← kc];exact (Below.refl _ _).alloc (A3 _) _
        have kb:wu.heap[wr.heap.size]? = some (.cells #[.int .u8 x0,.int .u8 x1,.int .u8 x2] 95 (0,0)):=by rw [← kc];exact heap_alloc_new _ _
        obtain ⟨gu,kH⟩:∃ gu,wr.heap.size=gu:=⟨_,rfl⟩
        rw [kH] at kb ⊢;have yj:=A0 kb;have yk:=A0 (A5.1 kb).1;have kq:=(Below.block j2 gm (A5.1 jg.out).1).trans jg.out;have kC:=A0 kq;have kz:=A0 (A5.1 kq).1;have yc:=A0 (ki.out.go j2);have kF:=A0 (AZ.later jp.out j2 (A3 _));have kZ:Hid (Tq gm wc wu):=HB.out.trans (Tq.of j2);clear kc j2 kb kH kq r0 r1 r2 r3 kV kW kX jG;refine An (by kernel_rfl) (Vs [vq (.agg #[.slice a k c,.slice a1 CS.length c1,.slice ap P.length cp,.int .i64 bk]),vq (.pointer (some ⟨gu,0,none⟩)),vq (.int .u8 x0),vq (.int .i64 x0),vq (.int .i64 (k:Int)),vq (.int .i64 p0),vq (.pointer (some ⟨gu,1,none⟩)),vq (.int .u8 x1),vq (.int .i64 x1),vq (.int .i64 (k:Int)),vq (.int .i64 p1),vq (.pointer (some ⟨gu,2,none⟩)),vq (.int .u8 x2),vq (.int .u8 p2),vq (.int .i64 p2),vq (.int .i64 (1+p2)),vq (.agg #[.int .i64 p0,.int .i64 p1,.int .i64 (1+p2)]),PrV (FS9 (p0,p1,1+p2) P),vq (.pointer (some ⟨gm,2,none⟩))]) (Xs []) (fun fL=>(fun W=>Ext wu W) ) [0,0,2,6,0,30,0,64,192,0,960,0,2048,6144,14336,30720,65534,131071,0] 97 19 (by kernel_rfl) rfl ?hV ?hS ?hop ?hfin ?hlast
        case hV =>
         refine Az (Af (by simp only [AS,List.not_mem_nil,or_false,forall_eq_or_imp,forall_eq];exact ⟨AW _,AW _,AW _,AW _,AW _,AW _,AW _,AW _,AW _,AW _,AW _,AW _,AW _,AW _,AW _,AW _,AW _,Ob _,AW _⟩)) ?_;exact trivial
        case hS =>
         intro fL hf;show (fun W=>Ext wu W)  _
         first | exact Ext.refl _ | exact B8 _
        case hop =>
         refine ⟨?_,?_,?_,?_,?_,?_,?_,?_,?_,?_,?_,?_,?_,?_,?_,?_,?_,?c17,?_,?_,trivial⟩
         all_goals first | rw [if_neg (by decide)] | rw [if_pos (by decide)]
         all_goals try exact True.intro
         all_goals try intro ac W fL jm jO kp kl jf ji ja jL
         all_goals try have hS:(fun W=>Ext wu W)  W:=jf
         all_goals try (
          have jw:Ext wu W:=hS;have g9:=(Below.block jw gm kz.out).trans kC.out;obtain ⟨m0,m1,m2,m3⟩:=Ax g9;have g8:=(Below.block jw gu yk.out).trans yj.out;have u0:W.cell? ⟨gu,0,none⟩=some (.int .u8 x0):=by rw [cell_of_row _ _ 0 _ _ _ g8];rfl
          have u1:W.cell? ⟨gu,1,none⟩=some (.int .u8 x1):=by rw [cell_of_row _ _ 1 _ _ _ g8];rfl
          have u2:W.cell? ⟨gu,2,none⟩=some (.int .u8 x2):=by rw [cell_of_row _ _ 2 _ _ _ g8];rfl
          clear g9 g8)
         all_goals try have yt:=gdA ac 3 (.pointer (some ⟨gm,0,none⟩)) (ja 3 (by kernel_rfl))
         all_goals try have hh9:=gdA ac 9 (.pointer (some ⟨gu,0,none⟩)) (ja 9 (by kernel_rfl))
         all_goals try have hh5:=gdA ac 5 (.int .i64 (k:Int)) (ja 5 (by kernel_rfl))
         all_goals try (have ji:=DJ ji;simp [Cg,AY,vq] at ji)
         all_goals try clear ja kp kl jL
         case c17 =>
          refine AX rfl (.inr ⟨37,#[.agg #[.slice a k c,.slice a1 CS.length c1,.slice ap P.length cp,.int .i64 bk],.agg #[.int .i64 p0,.int .i64 p1,.int .i64 (1+p2)]],W,by (clear jm hS jf jO;simp [go_sem,Act.eval, *]),?_⟩);refine (add11_any P (p0,p1,1+p2) a a1 ap k c CS.length c1 cp bk W (yc.out.go jw) ya.out yb.out kh.out k8.out k9.out).mono ?_;rintro e w' ⟨na,nc,he,hs,hc,hx⟩;exact ⟨_,he,⟨_,_,rfl,hs,hc⟩,hx,Ext.trans jf hx⟩
         all_goals (refine AX rfl (.inl ⟨_,W,?_,rfl,Ext.refl _,jf⟩);clear jm hS jf jO;simp [go_sem,Act.eval, *];done)
        case hfin =>
         intro h;exact absurd h (by decide)
        case hlast =>
         intro _ ac W jm jX fL hf jf hv ja;have hS:(fun W=>Ext wu W)  W:=jf;clear jf;have jj:ac.tmps.getD 95 undef=.pointer (some ⟨gm,2,none⟩):=hv 18 (by decide);have ks:PrV (FS9 (p0,p1,1+p2) P) (ac.tmps.getD 94 undef) W:=hv 17 (by decide);obtain ⟨na,nc,js,jY,Jx⟩:=ks;have jB:Ext wu W:=hS;have jb:=(Below.block jB gm kz.out).trans kC.out;refine BK rfl rfl rfl rfl (Ad jj) (Ad js) (by simp [World.frozen?,jb]) (Ax jb).2.2.1 (by kernel_rfl) ?_;obtain ⟨wz,jl⟩:∃ wz,W.setCell ⟨gm,2,none⟩ (.slice na (FS9 (p0,p1,1+p2) P).length nc)=wz:=⟨_,rfl⟩
         rw [jl];have jE:Hid (wz.heap[gm]? = some (.cells #[.slice a k c,.slice a1 CS.length c1,.slice na (FS9 (p0,p1,1+p2) P).length nc,.int .i64 bk] 39 (0,0))):=by show _=_;rw [← jl];exact Ao jb rfl
         have yd:Hid (PrS wz na (FS9 (p0,p1,1+p2) P)):=by show PrS _ _ _;rw [← jl];exact jY.tq jb (Tq.set _ _ _ _)
         have jS:Hid (AZ CN wz wc.heap.size (.slice a1 CS.length c1) CS):=by show AZ _ _ _ _ _;rw [← jl];exact (AZ.later kF.out jB (A3 _)).keep fun q hq=>Below.heap_setCell _ _ _ _ (by have:=kF.out.ge q hq;have:=jx.out;show q≠gm;omega)
         have jD:Hid (Tq gm wc wz):=by show Tq _ _ _;rw [← jl];exact (kZ.out.trans (Tq.of jB)).trans (Tq.set _ _ _ _)
         clear hS jB jb jY Jx jl jj;obtain ⟨sx,kv,j0⟩:=Ag [77,78,79,80,81,82,83,84,85,86,87,88,89,90,91,92,93,94,95] (by kernel_rfl) jm jX ja;clear js;rw [j0];simp only [List.foldl];simp only [Act.put,List.setIfInBounds_toArray,List.set_cons_succ,List.set_cons_zero];clear j0 kv hv ja jm jX hf
         go_wp2_with fail
         go_roundg (8 - (i+1))
         case measure=>have:=jN.out;omega
         case rel=>exact ⟨i+1,na,nc,by go_num,by omega,by omega,rfl,by rw [jd.out];exact jE.out,jS.out,by rw [jd.out];exact yd.out,jD.out⟩
       ·have yq:¬ (i:Int)<8:=by omega
        have HE:=A0 (jh.out fun h=>h8 h.2)
        go_wp2_with fail
        go_meet
        rw [HE.out];exact ⟨_,rfl,ap,cp,jg.out,jp.out,ki.out,HB.out⟩
      ·have ju:¬ (i:Int)<(lU:Int):=by omega
       have HE:=A0 (jh.out fun h=>jz h.1)
       go_wp2_with fail
       go_meet
       rw [HE.out];exact ⟨_,rfl,ap,cp,jg.out,jp.out,ki.out,HB.out⟩
    case rest =>
     obtain ⟨we,yB,ap,cp,jb,jv,jJ,hb⟩:=hcut;subst yB;have jt:Below gm w0 we:=ke.out.trans (hb.below (A3 _) (Nat.le_of_lt jx.out));have jZ:=yg.out we jt;have jr:=Q8 Q kw kg.out ZC lC yo.out ZU (min lU 8) (Nat.min_le_right _ _) bk yr jW;rw [kB.out,kE.out,k1.out] at jr;have kA:=A0 jr;obtain ⟨P,hP⟩:∃ P,mdP k ZU (min lU 8)=P:=⟨_,rfl⟩
     rw [hP] at jb jJ kA;have jC:=A0 jt;have HMBE:=A0 jb;have k7:=A0 jv;have kh:=A0 jJ;have yh:Hid (BH we a M):=jU.out.tq j5.out (Gu _ _ _ _ _ _ _ _ _ _) hb;obtain ⟨m0,m1,m2,m3⟩:=Ax jb;obtain ⟨s0,s1,s2,s3⟩:=Ax jZ;have sf:∀ i,we.frozen? ⟨gr+1,i,none⟩=false:=fun i=>by simp [World.frozen?,jZ]
     obtain ⟨wf,kO,kR,t0,t1,t2,t3⟩:=RN jZ (.slice a k c) (.slice a1 CS.length c1) (.slice ap P.length cp) (.int .i64 bk);have yl:=A0 kO;have yn:=A0 kR;have yf:=A0 jZ;clear jt jZ jr jb jv jJ hb hP kO kR
     go_wp2_with fail
     rw [yl.out];clear m0 m1 m2 m3 s0 s1 s2 s3 sf;refine bodyPost_ret (v:=.agg #[.slice a k c,.slice a1 CS.length c1,.slice ap P.length cp,.int .i64 bk]) (by simp [results,Tryz.results12,go_sem,t0,t1,t2,t3]) rfl ?_;rw [k3.out];exact QB kE.out kB.out kf.out jR.out kA.out yh.out k7.out kh.out yf.out yn.out kG.out jC.out jP.out k2.out jx.out
def exS:Sch:=⟨1,1,exR⟩
def J8:List ByteArray:=[⟨#[67]⟩,⟨#[97]⟩,⟨#[98]⟩]
theorem ST:J8.map bts=exW:=by decide
theorem exV:Fl.validB exS=true:=Fl.valid_of (by decide +kernel)
theorem QC:BU exS=0:=by
 rw [BU,if_pos exV,if_pos (by decide +kernel),if_neg (by decide +kernel),if_pos (by decide +kernel)]
theorem QD:CJ J8:=R5 (by decide) (by decide) (by decide)
theorem Ri:Ii J8 [0,0,0] [] 0:=⟨QD,rfl,by decide,F1.nil _,by decide,by decide,by decide,by decide⟩
def TM (w:World) (e:Ending) (w':World):Prop:=∃ gR gW gC:Nat,e=.returned (.tuple #[.agg #[.int .i64 1,.int .u8 1,.slice (some ⟨gR,0,none⟩) 3 3],.agg #[.slice (some ⟨gW,0,none⟩) 3 3,.slice (some ⟨gC,0,none⟩) 3 3,.slice none 0 0,.int .i64 0]]) ∧
 FR w' exS (some ⟨gR,0,none⟩) 3∧Il w' (some ⟨gW,0,none⟩) (some ⟨gC,0,none⟩) none 3 3 0 J8 [0,0,0] [] 0∧Ext w w'
theorem Mj (w:World):Calls Tryz.prog 32 #[] w (TM w):=by
 go_enter Tryz.func32,Tryz.ntmps32
 go_wp2_with fail
 obtain ⟨wA,hA,jb,a0,a1,a2,a3,zA⟩:=Mh w (.cells #[.int .i64 1,.int .u8 1,.slice (some ⟨w.heap.size+1+1,0,none⟩) 3 3] 33) (.cells #[.slice (some ⟨w.heap.size+1+1+1+1,0,none⟩) 3 3,.slice (some ⟨w.heap.size+1+1+1+1+1,0,none⟩) 3 3,.slice none 0 0,.int .i64 0] 39)
  (.cells #[.int .i64 0,.int .i64 0,.string ⟨#[97]⟩,.string ⟨#[97]⟩,.int .i64 0,.int .i64 0,.int .i64 0,.string ⟨#[98]⟩,.string ⟨#[98]⟩,.int .i64 1,.int .i64 0,.int .i64 0,.string ⟨#[97,98]⟩,.string ⟨#[67]⟩,.int .i64 2] 88) (.cells #[.int .i64 1,.int .u8 1,.slice (some ⟨w.heap.size+1+1,0,none⟩) 3 3] 33)
 obtain ⟨wB,hB,ja,b0,b1,zB⟩:=Eb wA (.cells #[.string ⟨#[67]⟩,.string ⟨#[97]⟩,.string ⟨#[98]⟩] 9) (.cells #[.int .i64 0,.int .i64 0,.int .i64 0] 3);rw [hA,hB];rw [zA] at b0 b1;have hx:Ext w wB:=Ext.trans jb ja;have c0:=(Below.block ja _ (A5.1 a0).1).trans a0;have c1:=(Below.block ja _ (A5.1 a1).1).trans a1;have c2:=(Below.block ja _ (A5.1 a2).1).trans a2;obtain ⟨q0,q1,q2,q3⟩:=Ax c1;obtain ⟨p0,p1,p2⟩:=Ba c0;have jd:AZ Br wB 0 (.slice (some ⟨w.heap.size+1+1,0,none⟩) 3 3) exR:=Dg FD c2 rfl (Nat.zero_le _) rfl (by decide);have jc:AZ CN wB 0 (.slice (some ⟨w.heap.size+1+1+1+1+1,0,none⟩) 3 3) [0,0,0]:=Dg FH b1 rfl (Nat.zero_le _) rfl (by decide);clear hA hB jb ja a0 a1 a2 a3 zA zB c0 c1 c2;refine bodyPost_ret (v:=.tuple #[.agg #[.int .i64 1,.int .u8 1,.slice (some ⟨w.heap.size+1+1,0,none⟩) 3 3],.agg #[.slice (some ⟨w.heap.size+1+1+1+1,0,none⟩) 3 3,.slice (some ⟨w.heap.size+1+1+1+1+1,0,none⟩) 3 3,.slice none 0 0,.int .i64 0]]) (by simp [results,Tryz.results32,go_sem,p0,p1,p2,q0,q1,q2,q3]) rfl ?_;exact ⟨_,_,_,rfl,FR.of_valid exV (by decide) (by decide) (by decide) jd.ruls.1,⟨PZ b0 rfl,A3 _,jc.cnts.1,PrS.nil _ _⟩,hx⟩
theorem QE {w:World} {a:Option Addr} {c:Nat} {L:List Slt} {r:Bool} (h:CE w a L) (hl:L.length≤1000) (hv:validB L=r):∀ W,Ext w W→Calls Tryz.prog 41 #[.slice a L.length c] W fun e w'=>e=.returned (.bool r)∧Ext W w':=fun W hx=>by
 subst hv;exact MT L a c W (h.later hx (A3 _)) (by omega)
section
variable {aR aW aC aL:Option Addr} {cL:Nat} {L:List Slt} {W:World}
theorem Iq (hS:FR W exS aR 3) (hM:Il W aW aC none 3 3 0 J8 [0,0,0] [] 0) (hT:Tab W) (hL:Df W aL cL L) (hv:validB L=true) (h6:L.length≤6) :
  Calls Tryz.prog 14 #[.agg #[.int .i64 1,.int .u8 1,.slice aR 3 3],.agg #[.slice aW 3 3,.slice aC 3 3,.slice none 0 0,.int .i64 0],.slice aL L.length cL] W (SL L.length (Ct exR 1 L exW) W):=by
 rw [← ST];exact lbuild_ok exS aR aW aL 3 3 cL (.slice aC 3 3) (.slice none 0 0) (.int .i64 0) J8 L W hS exV QC hT (fun W' hx=>Gr aW aC none 3 3 0 J8 [0,0,0] [] 0 W' (hM.go hx) Ri) (QE hL.s (by omega) hv) hM.ws QD (by decide) (by decide) hL h6
theorem Oc:Calls Tryz.prog 14 #[.agg #[.int .i64 0,.int .u8 0,.slice none 0 0],.agg #[.slice aW 3 3,.slice aC 3 3,.slice none 0 0,.int .i64 0],.slice none 0 0] W (MW 20 W) :=
 F0 ⟨0,0,[]⟩ none aW none 0 3 0 (.slice aC 3 3) (.slice none 0 0) (.int .i64 0) 3 0 W (.inl rfl) (by decide) (by decide) (by decide) (by decide) (fun h=>by
  have hv:=Ez h;have h2:=@of_decide_eq_true _ (Classical.propDecidable _) hv;exact absurd h2.1 (by decide))
theorem Li:Calls Tryz.prog 40 #[.agg #[.slice none 0 0,.slice none 0 0,.slice none 0 0,.int .i64 0]] W fun e w'=>e=.returned (.bool false)∧Ext W w':=by
 have HD:Hid (DU []=false):=CD fun h=>by have:=h.1;simp at this
 go_enter Tryz.func40,Tryz.ntmps40
 go_wp2_with fail
 refine (vwords_any [] 0 none 0 _ (fun k hk=>absurd hk (Nat.not_lt_zero _)) rfl (by decide)).mono ?_;rintro e w' ⟨rfl,rfl⟩;rw [HD.out]
 go_wp2_with fail
 go_ret;exact ⟨rfl,(Below.refl _ _).alloc (A3 _) _⟩
theorem QF (hS:FR W exS aR 3):Calls Tryz.prog 14 #[.agg #[.int .i64 1,.int .u8 1,.slice aR 3 3],.agg #[.slice none 0 0,.slice none 0 0,.slice none 0 0,.int .i64 0],.slice none 0 0] W (MW 110 W) :=
 KO exS aR none none 3 0 0 (.slice none 0 0) (.slice none 0 0) (.int .i64 0) 0 0 W hS exV QC fun W' _=>Li
theorem RO (hS:FR W exS aR 3) (hM:Il W aW aC none 3 3 0 J8 [0,0,0] [] 0) (hL:CE W aL L) (hl:L.length≤1000) (hv:validB L=false):Calls Tryz.prog 14 #[.agg #[.int .i64 1,.int .u8 1,.slice aR 3 3],.agg #[.slice aW 3 3,.slice aC 3 3,.slice none 0 0,.int .i64 0],.slice aL L.length cL] W (MW 130 W) :=
 KP exS aR aW aL 3 3 cL (.slice aC 3 3) (.slice none 0 0) (.int .i64 0) 3 L.length W hS exV QC (fun W' hx=>Gr aW aC none 3 3 0 J8 [0,0,0] [] 0 W' (hM.go hx) Ri) (QE hL hl hv)
end
def GrV (n:Int) (E:List Edg) (v:Value) (w:World):Prop:=∃ a c,v=.agg #[.int .i64 n,.slice a E.length c]∧CM w a E
theorem Jk (n:Int) (E:List Edg):Bb (GrV n E):=by
 rintro v w w' ⟨a,c,h1,h2⟩ hx;exact ⟨a,c,h1,h2.go hx⟩
theorem QG {n:Int} {E:List Edg} {w w':World} {e:Ending} (h:GrP n E w e w'):∃ v,e=.returned v∧GrV n E v w'∧Ext w w':=by
 obtain ⟨v,rfl,hv,hx⟩:=h;obtain ⟨a,c,ja, -, -⟩:=hv.form;subst ja;exact ⟨_,rfl,⟨a,c,rfl,(AZ.lnks hv).1⟩,hx⟩
def Cf:List Edg:=[(0,1,1,0),(0,2,0,2),(1,2,2,1)]
theorem NS:Jh 2 Cf:=by
 refine ⟨by decide,by decide,by decide,fun i hi _=>⟨?_,fun h0=>?_⟩⟩
 ·have h:∀ e∈Cf,0≤e.1∧e.1<e.2.1∧e.2.1≤2∧0≤e.2.2.1∧e.2.2.1<200∧0≤e.2.2.2∧e.2.2.2≤1000000:=by decide
  exact h _ (AG hi)
 ·have h:Cf.Pairwise fun a b=>a.1<b.1∨a.1=b.1∧(a.2.1<b.2.1∨a.2.1=b.2.1∧a.2.2.1<b.2.2.1):=by decide
  exact List.pairwise_iff_getElem.1 h (i - 1) i (by omega) hi (by omega)
theorem NU (n:Int) (h0:0≤n) (h1:n≤40):Jh n []:=⟨h0,h1,by decide,fun i hi=>absurd hi (Nat.not_lt_zero _)⟩
theorem T5:OY 2 Cf=true:=by decide
theorem T7:OY 0 []=true:=by decide
theorem T8:OY 1 []=false:=by decide
theorem T9:F2 2 Cf=true:=In NS
theorem SU:F2 41 []=false:=CH fun h=>absurd h.2.1 (by decide)
end Go.Proofs.YtpljngaejaehcaaGreatDoor
