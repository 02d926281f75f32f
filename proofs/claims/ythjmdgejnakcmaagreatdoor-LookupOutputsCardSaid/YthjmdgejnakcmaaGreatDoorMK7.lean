/- Texts that the claims share: O3, O4, O5, O6. -/
import Derived.Deep.LoopGhost
import Derived.Laws.IdiomRangeMap
import Derived.Maps.OwnSet
import Derived.Test.YthjmdgejnakcmaaGreatDoorMK6
import Derived.Test.YthjmdgejnakcmaaGreatDoorMF3
set_option maxHeartbeats 6400000
set_option maxRecDepth 100000
set_option linter.unusedVariables false
set_option linter.unusedSimpArgs false
namespace Go.Proofs.YthjmdgejnakcmaaGreatDoor
open Go.RowKit Go.WideShapes Fl
def FT:Cu Stt:=⟨176,85,2,16,.agg #[.int .i64 0,.int .i64 0],fun t=>[.int .i64 (t.1:Int),.int .i64 (t.2:Int)]⟩
theorem Ei:FT.Ok:=⟨Tryz.underlying176,by kernel_rfl,rfl,by decide,fun _=>rfl,fun x u hu=>by
 have h:u=.int .i64 (x.1:Int)∨u=.int .i64 (x.2:Int):=by simpa [FT] using hu
 rcases h with rfl | rfl <;> rfl,by decide⟩
theorem As.sp {w:World} {B:Nat} {a:Option Addr} {n c:Nat} {L:List Stt} (h:As FT w B (.slice a n c) L) {k:Nat} (hk:k<L.length) :
  ∃ b,a=some ⟨b,0,none⟩∧B≤b∧b<w.heap.size∧w.cell? ⟨b,k*2,none⟩=some (.int .i64 (L[k].1:Int))∧w.cell? ⟨b,k*2+1,none⟩=some (.int .i64 (L[k].2:Int)):=by
 rcases h.blk with ⟨_,rfl⟩ | ⟨g,c2,ja,hB,hg,_⟩
 · simp at hk
 ·injection ja with f1 f2 f3;subst f1;refine ⟨g,rfl,hB,hg,?_,?_⟩
  · exact h.cell Ei hk (j:=0) (by decide)
  · exact h.cell Ei hk (j:=1) (by decide)
theorem UT (b len cap k:Nat) (hk:k<len) (w:World) :
  (Instr.indexAt 176 (.slice (some ⟨b,0,none⟩) len cap) (.int .i64 (k:Int))).run Tryz.prog w=.ok (.pointer (some ⟨b,k*2,none⟩)) w:=by
 have h0:(0:Int)≤(k:Int):=by omega
 have h1:(k:Int)<(len:Int):=by omega
 simp [go_sem,h0,h1]
theorem PS (w:World) (n:Nat) (hn:n≤1000000):∃ w',(Instr.makeSlice 176 (.int .i64 0) (.int .i64 (n:Int))).run Tryz.prog w=.ok (.slice (some ⟨w.heap.size,0,none⟩) 0 n) w'∧As FT w' w.heap.size (.slice (some ⟨w.heap.size,0,none⟩) 0 n) []∧Ext w w':=by
 obtain ⟨i0,hi,ja,jb,jc⟩:=info_parts Ei.info;have hb:i0.bytes*n≤64*1000000:=Nat.mul_le_mul (by rw [jc];exact Ei.b) hn;obtain ⟨w',h1,h2,h3⟩:=run_make_own (P:=Tryz.prog) w w.heap.size 176 85 i0 _ 2 Ei.und hi ja jb .i64 .i64 n (by omega) (by unfold maxLen;omega) (A7 _);exact ⟨w',h1,h2,h3.os,h3.tape,h3.output,h3.size,fun k hk=>h3.block k hk (by simp)⟩
theorem Bm {w:World} {g:Nat} {a b c d e f:Value} {t:TypeId} (h:w.heap[g]? = some (.cells #[a,b,c,d,e,f] t (0,0))):w.cell? ⟨g,0,none⟩=some a∧w.cell? ⟨g,1,none⟩=some b∧w.cell? ⟨g,2,none⟩=some c∧w.cell? ⟨g,3,none⟩=some d∧w.cell? ⟨g,4,none⟩=some e∧w.cell? ⟨g,5,none⟩=some f:=by
 refine ⟨?_,?_,?_,?_,?_,?_⟩ <;> (rw [cell_of_row w g _ _ _ (0,0) h];rfl)
structure V1 (R:List Rl) (L:List Slt) (fol:Nat→List UInt8→Option Nat) (i N B D g:Nat) (M:Nat→Ent) (w w':World) (M':Nat→Ent):Prop where
 map:MpG CB w' g (M' i)
 tn:Tn g w w'
 inv:Inv R L fol i M'
 she:∀ t,G3 R L fol i M' t
 bnd:Bnd N i B D M'
 out:∀ j,j≠i→M' j=M j
structure SQ (w:World) (g i:Nat) (M0 M:Nat→Ent) (w1:World):Prop where
 map:MpG CB w1 g (M i)
 tn:Tn g w w1
 out:∀ j,j≠i→M j=M0 j
section
variable {w w1 w2:World} {g i:Nat} {M0 M:Nat→Ent}
theorem SQ.ext (h:SQ w g i M0 M w1) (hx:Ext w1 w2):SQ w g i M0 M w2:=⟨h.map.kept (Below.block hx _ h.map.lt),h.tn.trans (Tn.of hx),h.out⟩
theorem SQ.grown {β:Type} {T2:Cu β} {v:Value} {L:List β} (h:SQ w g i M0 M w1) (ho:As T2 w1 w.heap.size v L) (hg:w1.grownBy w2 v.ownBlock):SQ w g i M0 M w2 :=
 ⟨h.map.kept (hg.block _ h.map.lt fun e=>h.map.not_row ho e.symm),h.tn.grown hg fun q hq=>ho.ge q hq,h.out⟩
theorem SQ.put (h:SQ w g i M0 M w1) {t:Stt} {c:Nat} (hm:MpG CB w2 g (Cv (M i) t c)) (ht:Tn g w1 w2):SQ w g i M0 (Bt M i t c) w2 :=
 ⟨by unfold Bt;rw [if_pos rfl];exact hm,h.tn.trans ht,fun j hj=>by unfold Bt;rw [if_neg hj];exact h.out j hj⟩
end
def Nh (w14:World) (g:Nat) (E:Ent) (t:Stt) (c:Nat) (b:Bool) (W:World):Prop:=match b with | false=>Ext w14 W | true=>MpG CB W g (Cv E t c)∧Tn g w14 W
theorem Nh.kp {w14 W:World} {g:Nat} {E:Ent} {t:Stt} {c:Nat} (hm:MpG CB w14 g E):∀ {b:Bool},Nh w14 g E t c b W→Kc w14 W
 | false,h=>Kc.of h (A7 _)
 | true,h=>h.2.kc hm
theorem UU {R:List Rl} {P X:List UInt8} {i m n:Nat} {r:Rl} (hr:r∈R) (hF:CC r=true) (hz:r.inp.size=0) (hm:r.frm=(m:Int)) {n':Nat} (hn:C1 X n (bts r.out)=some n'):D3 R (CD P) (C1 X) i (m,n) r (r.dst.toNat,n') r.cost.toNat:=by
 have e:bts r.inp=[]:=List.eq_nil_of_length_eq_zero (by rw [BZ];exact hz);exact ⟨hr,hF,hm,0,n',by rw [e,GE],hn,rfl,rfl⟩
theorem MM {R:List Rl} {P X:List UInt8} {i m n:Nat} {r:Rl} (h:r.frm≠(m:Int)∨C1 X n (bts r.out)=none):∀ t' d,¬ D3 R (CD P) (C1 X) i (m,n) r t' d:=fun t' d ⟨_,_,h3,k,n',_,h5,_,_⟩=>by
 rcases h with h | h
 · exact h h3
 · rw [h] at h5;cases h5
theorem settle_any (
          S
           :
            Sch) (
               b
                :
                 Option Addr) (cR go g i mo B0 D:Nat) (o:ByteArray) (P:List UInt8) (M:Nat→Ent) (w:World) (hR:BL w b S.rules) (hRl:S.rules.length≤1000) (hF:Io S.rules) (hO:∀ r∈S.rules,r.out.size≤1000)
  (YC:w.cell? ⟨go,0,none⟩=some (.string o)) (zc:go<w.heap.size) (ho:o.size≤1000) (YG:mo=(o.size+1)*8) (hM:MpG CB w g (M i)) (yc:Inv S.rules (CD P) (C1 (bts o)) i M) (hb:Bnd (o.size+1) i B0 D M) (hD:1000≤D)
  (kb:8*(o.size+1)*(B0+(8*(o.size+1)+1)*D+2)≤900000000000) :
  Calls Tryz.prog 74 #[.agg #[.int .i64 S.modes,.int .u8 S.acc,.slice b S.rules.length cR,.func (.func 41) #[] #[],.func (.func 42) #[] #[.pointer (some ⟨go,0,none⟩)],.int .i64 (mo:Int)],.map (some g)] w fun e w'=>e=.returned (.bool true)∧∃ M',V1 S.rules (CD P) (C1 (bts o)) i (o.size+1) B0 D g M w w' M':=by
 have HR:=A6 hR;have HF:=A6 hF;have HO:=A6 hO;have YZ:=A6 YC;have HM:=A6 hM;have yJ:=A6 yc;have kx:=A6 hb;have Yk:=A6 kb;have yw:=A6 YG;have j2:Hid ((M i).length≤8*(o.size+1)):=hb.len i;have hMl:(M i).length≤8*(o.size+1):=j2.out;have hgl:=hM.lt;clear hR hF hO YC hM yc hb kb YG
 go_enter Tryz.func74,Tryz.ntmps74
 go_upto_region 1 with fail
 obtain ⟨w1,yD⟩:∃ w1,w.alloc (.cells #[.int .i64 S.modes,.int .u8 S.acc,.slice b S.rules.length cR,.func (.func 41) #[] #[],.func (.func 42) #[] #[.pointer (some ⟨go,0,none⟩)],.int .i64 (mo:Int)] 90)=w1:=⟨_,rfl⟩
 rw [yD];have kQ:Hid (Ext w w1):=by show Ext _ _;rw [← yD];exact (Below.refl _ _).alloc (A7 _) _
 have Yz:w1.heap[w.heap.size]? = some (.cells #[.int .i64 S.modes,.int .u8 S.acc,.slice b S.rules.length cR,.func (.func 41) #[] #[],.func (.func 42) #[] #[.pointer (some ⟨go,0,none⟩)],.int .i64 (mo:Int)] 90 (0,0)):=by rw [← yD];exact heap_alloc_new _ _
 have j8:Hid (∀ W,Kc w1 W→W.heap[w.heap.size]? = some (.cells #[.int .i64 S.modes,.int .u8 S.acc,.slice b S.rules.length cR,.func (.func 41) #[] #[],.func (.func 42) #[] #[.pointer (some ⟨go,0,none⟩)],.int .i64 (mo:Int)] 90 (0,0))):=fun W hk=>hk.block _ _ _ _ Yz;clear yD Yz;obtain ⟨gw,zd⟩:∃ gw,w.heap.size=gw:=⟨_,rfl⟩
 rw [zd] at j8 ⊢;have jK:=A6 (HM.out.kept (Below.block kQ.out _ HM.out.lt));have j6:(Builtin.len_ #[91] 3 #[.map (some g)]).run Tryz.prog w1=.ok (.int .i64 ((M i).length:Int)) w1:=jK.out.run_len Bx _;obtain ⟨w2,zg,kf,Yh⟩:=PS w1 (M i).length (by omega);have Y4:=A6 kf;have Yw:=A6 Yh;have Y2:=A6 (jK.out.kept (Below.block Yh _ jK.out.lt));clear kf Yh
 go_wp2_with (at_range;refine D1 Bx Y2.out rfl _ rfl rfl ?_;intro w3 yi Yy YO)
 go_frame;have yO:=A6 yi;have Yi:=A6 Yy;have HS3:=A6 YO;clear yi Yy YO j6 zg
 go_loopg [5] (M i).length (fun gm v5 wr=>∃ (q:List Stt) (rest:List (Stt × Nat)),As FT wr w1.heap.size v5 q∧RgG CB wr g w2.heap.size (M i) rest∧rest.length=gm∧q.length+rest.length≤(M i).length∧rest.Nodup∧(∀ t,t∈q↔∃ c,(t,c)∈M i∧(t,c) ∉ rest)∧Below w1.heap.size w1 wr)
 case atStart =>
  refine ⟨[],M i,Y4.out.later Yi.out (A7 _),yO.out,rfl,by simp,?_,fun t=>?_,Ext.trans Yw.out Yi.out⟩
  · exact (Ai.1 ((EO _).1 (kx.out.keys i))).imp fun zi e=>zi (by rw [e])
  · simp
 case round =>
  obtain ⟨q,rest,jv,Yc,k6,j6,YK,hq,yT⟩:=hrel;obtain ⟨qa,qc,zj, -, -⟩:=jv.form;subst zj;have kG:=A6 jv;have kH:=A6 Yc;have j3:=A6 j6;have Yq:=A6 YK;have HQ:=A6 hq;have yH:=A6 yT;have Yl:=A6 k6;have hz3:=yT.size;have y3:=Yc.lt;clear jv Yc j6 YK hq yT k6
  go_wp2_with (at_next;refine wpList_next_g Bx kH.out rfl _ rfl rfl ?_ ?_)
  ·intro
      h0
   have jW:IE S.rules (CD P) (C1 (bts o)) i (o.size+1) B0 D q 0 M:=IE.start yJ.out kx.out fun t=>by
    rw [HQ.out,h0];constructor
    · rintro ⟨c,h1,_⟩;exact ⟨c,Bd (kx.out.keys i) h1⟩
    · rintro ⟨c,h1⟩;exact ⟨c,C6 h1,List.not_mem_nil⟩
   have yj:SQ w1 g i M M wr:=⟨kH.out.map,Tn.of yH.out,fun _ _=>rfl⟩
   have jn:=A6 jW;have jZ:=A6 yj;obtain ⟨Cm,kU⟩:∃ Cm,B0+(8*(o.size+1)+1)*D=Cm:=⟨_,rfl⟩
   have kg:q.length+pot (o.size+1) Cm (M i)≤999999999999:=by
    have h1:pot (o.size+1) Cm (M i)≤8*(o.size+1)*(Cm+1):=RF (kx.out.keys i) (kx.out.rng i) fun p hp=>by
     have h2:=kx.out.here p hp;have h3:(M i).length*D≤8*(o.size+1)*D:=Nat.mul_le_mul_right D j2.out;rw [← kU,Nat.add_mul (8*(o.size+1)) 1 D];omega
    have h4:=j3.out;have h5:=Yk.out;rw [kU] at h5;have h6:8*(o.size+1)*(Cm+2)=8*(o.size+1)*(Cm+1)+8*(o.size+1):=by rw [show Cm+2=(Cm+1)+1 by omega,Nat.mul_add _ (Cm+1) 1,Nat.mul_one]
    have:=j2.out;omega
   have hCmb:Cm≤900000000000:=by
    have h5:=Yk.out;rw [kU] at h5;have h6:1*(Cm+2)≤8*(o.size+1)*(Cm+2):=Nat.mul_le_mul_right _ (by omega);omega
   have YT:=A6 kU;have jD:=A6 kg;clear h0 jW yj kU kg y3
   go_wp2_with fail
   go_loopg [5] (q.length+pot (o.size+1) Cm (M i)) (fun gm v5 wt=>∃ (q:List Stt) (M':Nat→Ent),As FT wt w1.heap.size v5 q∧SQ w1 g i M M' wt∧IE S.rules (CD P) (C1 (bts o)) i (o.size+1) B0 D q 0 M'∧q.length+pot (o.size+1) Cm (M' i)=gm∧gm≤999999999999)
   case atStart=>exact ⟨q,M,kG.out,jZ.out,jn.out,rfl,jD.out⟩
   case round =>
    clear jn jZ jD kG kH j3 Yq HQ yH Yl;obtain ⟨todo,M2,jv,yj,jW,k6,yg⟩:=hrel;obtain ⟨ta,tc,zk, -, -⟩:=jv.form;subst zk;have yP:=A6 jv;have jZ:=A6 yj;have jn:=A6 jW;have j1:=A6 k6;have jD:=A6 yg;clear jv yj jW k6 yg;by_cases YP:0<todo.length
    ·have Yf
          :
           (0:Int)
                <
                 (todo.length:Int):=by omega
     obtain ⟨bt,tc2,zl⟩:∃ bt c,(Value.slice ta todo.length tc)=.slice (some ⟨bt,0,none⟩) todo.length c:=by
      rcases yP.out.blk with ⟨_,e⟩ | ⟨g9,c,e,_⟩
      · rw [e] at YP;exact absurd YP (Nat.lt_irrefl _)
      · exact ⟨g9,c,e⟩
     injection zl with e1 e2 e3;subst e1;obtain ⟨wl,zn⟩:∃ wl:World,wl=wr:=⟨wr,rfl⟩
     subst zn;have htb2:bt<wl.heap.size:=yP.out.lt _ rfl;have kL:Hid (w1.heap.size≤wl.heap.size):=jZ.out.tn.size
     go_wp2_with fail
     go_loopg [7,32] todo.length (fun gm v7 v32 wr=>∃ (n:Nat) (news:List Stt) (M3:Nat→Ent),v32=.int .i64 (n:Int)∧n≤todo.length∧gm=todo.length - n∧As FT wr wl.heap.size v7 news∧As FT wr w1.heap.size (.slice (some ⟨bt,0,none⟩) todo.length tc) todo∧SQ w1 g i M M3 wr∧IE S.rules (CD P) (C1 (bts o)) i (o.size+1) B0 D (todo ++ news) n M3∧(todo ++ news).length+pot (o.size+1) Cm (M3 i)≤todo.length+pot (o.size+1) Cm (M2 i)∧wl.heap.size≤wr.heap.size)
     case atStart=>exact ⟨0,[],M2,rfl,Nat.zero_le _,rfl,As.nil _ _ _,yP.out,jZ.out,by rw [List.append_nil];exact jn.out,by rw [List.append_nil];exact A7 _,A7 _⟩
     case round =>
      obtain ⟨n,news,M3,rfl,hn,k7,kv,yo,yk,kj,YN,yq⟩:=hrel;obtain ⟨na,nc,zh, -, -⟩:=kv.form;subst zh;have yL:=A6 kv;have kM:=A6 yo;have kn:=A6 yk;have jo:=A6 kj;have yN:=A6 YN;have yI:=A6 k7;have yQ:=A6 yq;clear kv yo yk kj YN k7 yq;have htl:todo.length≤999999999999:=by have:=jD.out;have:=j1.out;omega
      by_cases yz:n<todo.length
      ·have y8
            :
             (n:Int)
                  < (todo.length:Int):=by omega
       obtain ⟨bq,yy,yU,yV,q0,q1⟩:=kM.out.sp yz;obtain rfl:bt=bq:=by injection yy with yy;injection yy
       have zf:n<(todo ++ news).length:=by rw [AF];omega
       have YD:(todo ++ news)[n]=todo[n]:=List.getElem_append_left yz;obtain ⟨ct,kV⟩:=jo.out.qs todo[n] (List.mem_append_left _ (AO yz));have Ye:=jo.out.bnd.rng i _ (C6 kV);have kW:=jo.out.enter zf YD kV;have yX:=jo.out.bnd.here_le kV;obtain ⟨t,ht⟩:∃ t,todo[n]=t:=⟨_,rfl⟩
       rw [ht] at q0 q1 kV Ye kW;obtain ⟨m,nd⟩:=t;simp only at q0 q1 Ye;obtain ⟨hm8,hndN⟩:=Ye;have y5:=UT bt todo.length tc n yz;have YV:=A6 kW;have hct3:ct+D≤Cm:=by
        have h1:=YT.out;rw [Nat.add_mul (8*(o.size+1)) 1 D] at h1;omega
       have ky:Kc w1 wr:=kn.out.tn.kc jK.out;obtain ⟨k0,k1,k2,k3,k4,k5⟩:=Bm (j8.out wr ky);have y4:gw<wr.heap.size:=(A9.1 (j8.out wr ky)).1;clear kV kW yX ht YD yy ky
       go_upto_region 12 with fail
       obtain ⟨w9,yF⟩:∃ w9,wr.alloc (.cells #[.int .i64 (m:Int),.int .i64 (nd:Int)] 85)=w9:=⟨_,rfl⟩
       rw [yF];have kS:Hid (Ext wr w9):=by
        show Ext _ _;rw [← yF];exact (Below.refl _ _).alloc (A7 _) _
       have jm:Hid (w9.heap[wr.heap.size]? = some (.cells #[.int .i64 (m:Int),.int .i64 (nd:Int)] 85 (0,0))):=by
        show _=_;rw [← yF];exact heap_alloc_new _ _
       have kK:=A6 (kn.out.ext kS.out);have jY:Hid ((.slice na news.length nc:Value).ownBlock≠some wr.heap.size):=fun e=>by
        have:=yL.out.lt _ e;omega
       have kD:=A6 (yL.out.later kS.out (A7 _));have kO:=A6 (kM.out.later kS.out (A7 _));obtain ⟨g9,j0⟩:∃ g9,wr.heap.size=g9:=⟨_,rfl⟩
       rw [j0] at jm jY ⊢;clear yF j0 q0 q1 y5 k0 k1 k2 k3 k4 k5 y4 yU yV
       go_loopg [7,40] S.rules.length (fun gm v7 v40 wr=>∃ (k:Nat) (nw:List Stt) (M4:Nat→Ent),v40=.int .i64 (k:Int)∧k≤S.rules.length∧gm=S.rules.length - k∧As FT wr wl.heap.size v7 nw∧As FT wr w1.heap.size (.slice (some ⟨bt,0,none⟩) todo.length tc) todo∧SQ w1 g i M M4 wr∧Ig S.rules (CD P) (C1 (bts o)) i (o.size+1) B0 D (todo ++ nw) n M4 (m,nd) ct k∧(todo ++ nw).length+pot (o.size+1) Cm (M4 i)≤todo.length+pot (o.size+1) Cm (M2 i)∧wr.heap[g9]? = some (.cells #[.int .i64 (m:Int),.int .i64 (nd:Int)] 85 (0,0))∧v7.ownBlock≠some g9∧wl.heap.size≤wr.heap.size)
       case atStart=>exact ⟨0,news,M3,rfl,Nat.zero_le _,rfl,kD.out,kO.out,kK.out,YV.out,yN.out,jm.out,jY.out,AC yQ.out kS.out.size⟩
       case round =>
        clear kK jY kD kO jm kS;obtain ⟨k,nw,M4,rfl,hk,k8,kv,yo,yl,YR,yh,kZ,YI,yr⟩:=hrel;obtain ⟨wa,wc,zm, -, -⟩:=kv.form;subst zm;have kC:=A6 kv;have kN:=A6 yo;have ko:=A6 yl;have j5:=A6 YR;have ju:=A6 yh;have jJ:=A6 k8;have YY:=A6 kZ;have jY:=A6 YI;have kP:=A6 yr;clear kv yo yl YR yh k8 kZ YI yr;by_cases kt:k<S.rules.length
        ·have y7
              :
               (k:Int)<(S.rules.length:Int):=by omega
         have ky:Kc w1 wr:=ko.out.tn.kc jK.out;have y2:=CY.1 (HF.out _ (AO kt));have ye:=HO.out _ (AO kt);obtain ⟨b1,o1,Yx,Y7,r0,r1,r2,r3,r4⟩:=(BL.kp (HR.out.later kQ.out (A7 _)) ky).at kt;have ze:=Bp b b1 o1 S.rules.length cR k Yx kt;have Yd:S.rules[k]? = some S.rules[k]:=AE kt;have yZ:=HF.out _ (AO kt);have jU:S.rules[k]∈S.rules:=AO kt;obtain ⟨r,hr⟩:∃ r,S.rules[k]=r:=⟨_,rfl⟩
         rw [hr] at y2 ye r0 r1 r2 r3 r4 Yd yZ jU;obtain ⟨frm,dst,inp,out,cost⟩:=r;simp only at y2 ye r0 r1 r2 r3 r4;obtain ⟨hf0,hf8,za,zb,hi4,Y8,Y9⟩:=y2;obtain ⟨d0,rfl⟩:∃ d0:Nat,dst=(d0:Int):=⟨dst.toNat,by omega⟩
         obtain ⟨c0,rfl⟩:∃ c0:Nat,cost=(c0:Int):=⟨cost.toNat,by omega⟩
         have kI:=A6 Yd;have YW:=A6 yZ;have Y3:=A6 jU;have yW:c0≤D:=by omega
         have yY:d0<8:=by omega
         clear hr Yd yZ jU Yx ky Y9 Y8 za zb
         go_upto_region 14 with fail
         obtain ⟨w11,j7⟩:∃ w11,wr.alloc (.cells #[.int .i64 frm,.int .i64 (d0:Int),.string inp,.string out,.int .i64 (c0:Int)] 64)=w11:=⟨_,rfl⟩
         rw [j7];have jQ:Hid (Ext wr w11):=by
          show Ext _ _;rw [← j7];exact (Below.refl _ _).alloc (A7 _) _
         have jg:Hid (w11.heap[wr.heap.size]? = some (.cells #[.int .i64 frm,.int .i64 (d0:Int),.string inp,.string out,.int .i64 (c0:Int)] 64 (0,0))):=by
          show _=_;rw [← j7];exact heap_alloc_new _ _
         obtain ⟨g11,kX⟩:∃ g11,wr.heap.size=g11:=⟨_,rfl⟩
         rw [kX] at jg ⊢;have jm:Hid (w11.heap[g9]? = some (.cells #[.int .i64 (m:Int),.int .i64 (nd:Int)] 85 (0,0))):=(Kc.of jQ.out (A7 _)).block _ _ _ _ YY.out;have jk:=A6 (ko.out.ext jQ.out);have jx:=A6 (kC.out.later jQ.out (A7 _));have jz:=A6 (kN.out.later jQ.out (A7 _));have kq:Hid (wl.heap.size≤w11.heap.size):=AC kP.out jQ.out.size;have jw:Hid (∀ W,Ext w11 W→W.heap[gw]? = some (.cells #[.int .i64 S.modes,.int .u8 S.acc,.slice b S.rules.length cR,.func (.func 41) #[] #[],.func (.func 42) #[] #[.pointer (some ⟨go,0,none⟩)],.int .i64 (mo:Int)] 90 (0,0))):=fun W hx=>j8.out W ((jk.out.ext hx).tn.kc jK.out);clear j7 kX r0 r1 r2 r3 r4 ze Y7;by_cases hz:inp.size=0
         ·have yx:Hid (
                  inp.toList=[]):=by
           show _=_;rw [ByteArray.toList_eq];exact List.eq_nil_of_length_eq_zero hz
          by_cases y0:frm=(m:Int)
          ·subst
              y0
           refine B4 (by kernel_rfl) (Vs [vq (.pointer (some ⟨g11,2,none⟩)),vq (.string inp),vq (.bool false),vq (.bool false),vq (.pointer (some ⟨g11,0,none⟩)),vq (.int .i64 (m:Int)),vq (.pointer (some ⟨gw,3,none⟩)),vq (.func (.func 41) #[] #[]),vq (.agg #[.int .i64 (m:Int),.int .i64 (nd:Int)]),vq (.int .i64 (m:Int)),vq (.bool false),vq (.bool false)]) (Xs []) (fun fL=>(fun W=>Ext w11 W) ) [0,1,3,7,15,31,15,79,15,463,1023,2047] 93 12 (by kernel_rfl) rfl ?hV ?hS ?hop ?hfin ?hlast
           case hV =>
            refine BC (Av (by simp only [Aj,List.not_mem_nil,or_false,forall_eq_or_imp,forall_eq];and_intros <;> exact An _)) ?_;exact trivial
           case hS =>
            intro fL hf;show (fun W=>Ext w11 W)  _
            first | exact Ext.refl _ | exact Bh _
           case hop =>
            refine ⟨?_,?_,?_,?_,?_,?_,?_,?_,?_,?c9,?_,?_,trivial⟩
            all_goals first | rw [if_neg (by decide)] | rw [if_pos (by decide)]
            all_goals try intro ac W fL jd jj jG jF jc jb ja ji
            all_goals try have hS:(fun W=>Ext w11 W)  W:=jc
            all_goals try (
             have yt:=hS;obtain ⟨k0,k1,k2,k3,k4,k5⟩:=Bm (jw.out W hS);obtain ⟨z0,z1,z2,z3,z4⟩:=B9 ((Below.block hS g11 (A9.1 jg.out).1).trans jg.out);obtain ⟨x0,x1⟩:=B3 ((Below.block hS g9 (A9.1 jm.out).1).trans jm.out);have YL:=yx.out;clear yt)
            all_goals try have YF:=gdA ac 2 (.pointer (some ⟨gw,0,none⟩)) (ja 2 (by kernel_rfl))
            all_goals try have yb:=gdA ac 9 (.pointer (some ⟨g9,0,none⟩)) (ja 9 (by kernel_rfl))
            all_goals try have jS:=gdA ac 11 (.pointer (some ⟨g11,0,none⟩)) (ja 11 (by kernel_rfl))
            all_goals try (have jb:=DN jb;simp [D8,Aq,vq] at jb)
            all_goals try clear ja jG jF ji
            case c9 =>
             have yR:(fun W=>Ext w11 W)  W:=jc;refine B2 (j:=3) (d:=47) (b:=false) rfl (by kernel_rfl) (by simp only [jb]) rfl (.inr ⟨41,#[.agg #[.int .i64 (m:Int),.int .i64 (nd:Int)]],W,by (clear jd hS jc yR jj;simp [go_sem,Act.eval, *]),?_⟩);refine (KQ m nd W).mono ?_;rintro e w' ⟨rfl,hb⟩;exact ⟨_,rfl,⟨rfl,hb,Ext.trans jc hb⟩⟩
            all_goals try (refine B2 (j:=3) (d:=47) (b:=false) rfl (by kernel_rfl) (by simp only [jb]) rfl (.inl ⟨_,W,?_,rfl,Ext.refl _,jc⟩);clear jd hS jc jj;simp [go_sem,Act.eval, *];done)
            all_goals (refine Ao rfl (.inl ⟨_,W,?_,rfl,Ext.refl _,jc⟩);clear jd hS jc jj;simp [go_sem,Act.eval, *];done)
           case hlast =>
            intro h;exact absurd rfl h
           case hfin
                =>
            intro _ ac W jd jp fL hf jc hv ja;have hS:(fun W=>Ext w11 W)  W:=jc;clear jc;obtain ⟨sx,js,jr⟩:=Aw [44,45,46,47,48,49,50,51,52,53,54,55] (by kernel_rfl) jd jp ja;have e55:sx 55=.bool false:=(js 55).trans (hv 11 (by decide));rw [jr];simp only [List.foldl];rw [e55];clear e55;simp only [Act.put,List.setIfInBounds_toArray,List.set_cons_succ,List.set_cons_zero];clear jr js hv ja jd jp hf;have je:Hid (Ext w11 W):=hS;clear hS;obtain ⟨w12,yp⟩:∃ w12:World,w12=W:=⟨W,rfl⟩
            rw [← yp] at je ⊢;clear yp;obtain ⟨k0,k1,k2,k3,k4,k5⟩:=Bm (jw.out w12 je.out);obtain ⟨z0,z1,z2,z3,z4⟩:=B9 ((Below.block je.out g11 (A9.1 jg.out).1).trans jg.out);obtain ⟨x0,x1⟩:=B3 ((Below.block je.out g9 (A9.1 jm.out).1).trans jm.out);have jT:Kc w1 w12:=(jk.out.ext je.out).tn.kc jK.out;have k9:w1.cell? ⟨go,0,none⟩=some (.string o):=(Below.cell kQ.out (p:=⟨go,0,none⟩) zc).trans YZ.out;have kd:w12.cell? ⟨go,0,none⟩=some (.string o):=jT.cell k9;have Kq:go<w12.heap.size:=by have:=kQ.out.size;have:=jT.size;omega
            have kh:=step_o o go m nd d0 (m:Int) (c0:Int) inp out w12 kd Kq (by omega) (by omega) (by omega);obtain ⟨n2,YH⟩:∃ n2,nd+out.size=n2:=⟨_,rfl⟩
            have Yp:=A6 YH;have Ji:=A6 kh;clear kh jT k9 kd Kq YH
            go_wp2_with fail
            clear k0 k1 k2 k3 k4 k5 z0 z1 z2 z3 z4 x0 x1;refine Ji.out.mono ?_;rintro e w13 ⟨ym,ys⟩;have kR:Hid (Ext w11 w13):=Ext.trans je.out ys;unfold PQ at ym;rw [Yp.out] at ym;clear ys Ji;obtain ⟨fo,y1⟩:∃ fo,C1 (bts o) nd (bts out)=fo:=⟨_,rfl⟩
            rw [y1] at ym;have yu:=A6 y1;obtain ⟨bf,yS⟩:∃ bf,fo.isSome=bf:=⟨_,rfl⟩
            rw [yS] at ym;have Yj:=A6 yS;clear y1 yS;subst ym
            go_upto_region 16 with fail
            obtain ⟨w14,jX⟩:∃ w14,w13.alloc (.cells #[.int .i64 (d0:Int),.int .i64 (n2:Int)] 85)=w14:=⟨_,rfl⟩
            rw [jX];have Jx:Hid (Ext w13 w14):=by
             show Ext _ _;rw [← jX];exact (Below.refl _ _).alloc (A7 _) _
            have jI:Hid (w14.heap[w13.heap.size]? = some (.cells #[.int .i64 (d0:Int),.int .i64 (n2:Int)] 85 (0,0))):=by
             show _=_;rw [← jX];exact heap_alloc_new _ _
            obtain ⟨g14,kY⟩:∃ g14,w13.heap.size=g14:=⟨_,rfl⟩
            rw [kY] at jI ⊢;have jE:Hid (Ext w11 w14):=Ext.trans kR.out Jx.out;have jH:Hid (w14.heap[g11]? = some (.cells #[.int .i64 (m:Int),.int .i64 (d0:Int),.string inp,.string out,.int .i64 (c0:Int)] 64 (0,0))):=(Below.block jE.out g11 (A9.1 jg.out).1).trans jg.out;have jB:Hid (w14.heap[g9]? = some (.cells #[.int .i64 (m:Int),.int .i64 (nd:Int)] 85 (0,0))):=(Below.block jE.out g9 (A9.1 jm.out).1).trans jm.out;have jy:=A6 (jk.out.ext jE.out);have jL:=A6 (jx.out.later jE.out (A7 _));have jP:=A6 (jz.out.later jE.out (A7 _));have kr:Hid (wl.heap.size≤w14.heap.size):=AC kq.out jE.out.size;have yv:Hid ((M4 i).length≤8*(o.size+1)):=j5.out.bnd.len i;clear jX kY Jx kR je jg jm jk jx jz;cases fo with
            | none =>
             obtain rfl:bf=false:=Yj.out.symm;have km:=A6 (j5.out.skip kI.out fun _=>MM (.inr yu.out));refine B4 (by kernel_rfl) (Vs [vq (.bool false),vq (.bool false),vq (undef),vq (undef),vq (undef),vq (undef),vq (undef),vq (undef),vq (undef),vq (undef),vq (undef),vq (.bool false)]) (Xs []) (fun fL=>(fun W=>Ext w14 W) ) [0,1,3,3,3,3,51,3,131,499,1023,2047] 93 12 (by kernel_rfl) rfl ?hV ?hS ?hop ?hfin ?hlast
             case hV =>
              refine BC (Av (by simp only [Aj,List.not_mem_nil,or_false,forall_eq_or_imp,forall_eq];and_intros <;> exact An _)) ?_;exact trivial
             case hS =>
              intro fL hf;show (fun W=>Ext w14 W)  _
              first | exact Ext.refl _ | exact Bh _
             case hop =>
              refine ⟨?_,?_,?_,?_,?_,?_,?_,?_,?_,?_,?_,?_,trivial⟩
              all_goals first | rw [if_neg (by decide)] | rw [if_pos (by decide)]
              all_goals try intro ac W fL jd jj jG jF jc jb ja ji
              all_goals try have hS:(fun W=>Ext w14 W)  W:=jc
              all_goals try (
               have jA:Kc w14 W:=Kc.of jc (A7 _);obtain ⟨z0,z1,z2,z3,z4⟩:=B9 (jA.block _ _ _ _ jH.out);obtain ⟨x0,x1⟩:=B3 (jA.block _ _ _ _ jB.out);obtain ⟨u0,u1⟩:=B3 (jA.block _ _ _ _ jI.out);clear jA)
              all_goals try have YE:=gdA ac 1 (.map (some g)) (ja 1 (by kernel_rfl))
              all_goals try have yb:=gdA ac 9 (.pointer (some ⟨g9,0,none⟩)) (ja 9 (by kernel_rfl))
              all_goals try have jS:=gdA ac 11 (.pointer (some ⟨g11,0,none⟩)) (ja 11 (by kernel_rfl))
              all_goals try have Ku:=gdA ac 12 (.pointer (some ⟨g14,0,none⟩)) (ja 12 (by kernel_rfl))
              all_goals try have ya:=gdA ac 13 (.bool false) (ja 13 (by kernel_rfl))
              all_goals try (have jb:=DN jb;simp [D8,Aq,vq] at jb)
              all_goals try clear ja jG jF ji
              all_goals try exact C2 (j:=1) (d:=65) (b:=false) rfl (by kernel_rfl) (by simp only [jb]) rfl ⟨rfl,jc⟩
              all_goals (refine Ao rfl (.inl ⟨_,W,?_,rfl,Ext.refl _,jc⟩);clear jd hS jc jj;simp [go_sem,Act.eval, *];done)
             case hlast =>
              intro h;exact absurd rfl h
             case hfin =>
              intro _ ac W jd jp fL hf jc hv ja;have hS:(fun W=>Ext w14 W)  W:=jc;clear jc;obtain ⟨sx,js,jr⟩:=Aw [64,65,66,67,68,69,70,71,72,73,74,75] (by kernel_rfl) jd jp ja;have e75:sx 75=.bool false:=(js 75).trans (hv 11 (by decide));rw [jr];simp only [List.foldl];rw [e75];clear e75;simp only [Act.put,List.setIfInBounds_toArray,List.set_cons_succ,List.set_cons_zero];clear jr js hv ja jd jp hf;have je:Hid (Ext w14 W):=hS;clear hS;obtain ⟨w15,jt⟩:∃ w15:World,w15=W:=⟨W,rfl⟩
              rw [← jt] at je ⊢;clear jt;have jf:=A6 (jy.out.ext je.out);have jq:Kc w1 w15:=jf.out.tn.kc jK.out;obtain ⟨k0,k1,k2,k3,k4,k5⟩:=Bm (j8.out w15 jq);have ke:(Builtin.len_ #[91] 3 #[.map (some g)]).run Tryz.prog w15=.ok (.int .i64 (((M4) i).length:Int)) w15:=jf.out.map.run_len Bx _;have yd:¬ (mo:Int)<(((M4) i).length:Int):=(by have h8:=yw.out;have h9:=yv.out;omega)
              clear jq
              go_wp2_with fail
              go_roundg (S.rules.length - (k+1))
              case measure=>have:=jJ.out;omega
              case rel=>exact ⟨k+1,nw,M4,by go_num,by omega,rfl,jL.out.later je.out (A7 _),jP.out.later je.out (A7 _),jf.out,km.out,ju.out,(Kc.of je.out (A7 _)).block _ _ _ _ jB.out,jY.out,AC kr.out je.out.size⟩
            | some n'
                 =>
             obtain rfl:bf=true:=Yj.out.symm;obtain rfl:n'=n2:=by have h1:=ML yu.out;rw [BZ] at h1;have:=Yp.out;omega
             have YJ:n'<o.size+1:=by have h9:=MH (X:=bts o) (n:=nd) (m:=n') (r:=bts out) (by rw [BZ];omega) yu.out;rw [BZ] at h9;omega
             have yn:D3 S.rules (CD P) (C1 (bts o)) i (m,nd) ⟨(m:Int),(d0:Int),inp,out,(c0:Int)⟩ (d0,n') c0:=UU Y3.out YW.out hz rfl yu.out;have Yu:=A6 yn;have kF:Hid (CB.ok (m,nd)):=⟨by show m<1000000;omega,by show nd<1000000;omega⟩
             have kE:Hid (CB.ok (d0,n')):=⟨by show d0<1000000;omega,by show n'<1000000;omega⟩
             have jC:=A6 jy.out.map;have Ym:=A6 j5.out.here;have yE:IntKind.i64.wrap ((ct:Int)+(c0:Int))=(ct:Int)+(c0:Int):=IntWalk.i64_in _ (by omega);have Yv:=A6 yE;clear yn yE;obtain ⟨po,yB⟩:∃ po,look (M4 i) (d0,n')=po:=⟨_,rfl⟩
             by_cases ku:∃ old,po=some old∧old≤ct+c0
             ·obtain ⟨old,rfl,YM⟩:=ku;have Ys:=A6 yB;have Yr:=A6 YM;have km:=A6 (j5.out.same kI.out Yu.out Ys.out Yr.out);clear yB YM;refine B4 (by kernel_rfl) (Vs [vq (.bool true),vq (.bool true),vq (.map (some g)),vq (.agg #[.int .i64 (d0:Int),.int .i64 (n':Int)]),vq (.map (some g)),vq (.agg #[.int .i64 (m:Int),.int .i64 (nd:Int)]),vq (.int .i64 (ct:Int)),vq (.pointer (some ⟨g11,4,none⟩)),vq (.int .i64 (c0:Int)),vq (.int .i64 ((ct:Int)+(c0:Int))),vq (.bool false),vq (.bool false)]) (Xs []) (fun fL=>(fun W=>Ext w14 W) ) [0,1,3,3,3,3,51,3,131,499,1023,2047] 93 12 (by kernel_rfl) rfl ?hV ?hS ?hop ?hfin ?hlast
              case hV =>
               refine BC (Av (by simp only [Aj,List.not_mem_nil,or_false,forall_eq_or_imp,forall_eq];and_intros <;> exact An _)) ?_;exact trivial
              case hS =>
               intro fL hf;show (fun W=>Ext w14 W)  _
               first | exact Ext.refl _ | exact Bh _
              case hop =>
               refine ⟨?_,?_,?_,?_,?_,?_,?c6,?_,?_,?_,?c10,?_,trivial⟩
               all_goals first | rw [if_neg (by decide)] | rw [if_pos (by decide)]
               all_goals try intro ac W fL jd jj jG jF jc jb ja ji
               all_goals try have hS:(fun W=>Ext w14 W)  W:=jc
               all_goals try (
                have jA:Kc w14 W:=Kc.of jc (A7 _);obtain ⟨z0,z1,z2,z3,z4⟩:=B9 (jA.block _ _ _ _ jH.out);obtain ⟨x0,x1⟩:=B3 (jA.block _ _ _ _ jB.out);obtain ⟨u0,u1⟩:=B3 (jA.block _ _ _ _ jI.out);have yE:=Yv.out;clear jA)
               all_goals try have YE:=gdA ac 1 (.map (some g)) (ja 1 (by kernel_rfl))
               all_goals try have yb:=gdA ac 9 (.pointer (some ⟨g9,0,none⟩)) (ja 9 (by kernel_rfl))
               all_goals try have jS:=gdA ac 11 (.pointer (some ⟨g11,0,none⟩)) (ja 11 (by kernel_rfl))
               all_goals try have Ku:=gdA ac 12 (.pointer (some ⟨g14,0,none⟩)) (ja 12 (by kernel_rfl))
               all_goals try have ya:=gdA ac 13 (.bool true) (ja 13 (by kernel_rfl))
               all_goals try (have jb:=DN jb;simp [D8,Aq,vq] at jb)
               all_goals try clear ja jG jF ji
               case c6 =>
                have y6:=PN (jC.out.kept (Below.block hS _ jC.out.lt)) kF.out Ym.out;refine B2 (j:=1) (d:=65) (b:=true) rfl (by kernel_rfl) (by simp only [jb]) rfl (.inl ⟨_,W,?_,rfl,Ext.refl _,jc⟩);clear jd hS jc jj;simp [go_sem,Act.eval, *]
               case c10 =>
                have kw:=KP (c:=ct+c0) (jC.out.kept (Below.block hS _ jC.out.lt)) kE.out (by have:=yv.out;omega) (by omega) Ys.out Yr.out;rw [show ((ct+c0:Nat):Int)=(ct:Int)+(c0:Int) by omega] at kw;refine B2 (j:=1) (d:=65) (b:=true) rfl (by kernel_rfl) (by simp only [jb]) rfl (.inr ⟨75,#[.map (some g),.agg #[.int .i64 (d0:Int),.int .i64 (n':Int)],.int .i64 ((ct:Int)+(c0:Int))],W,by (clear jd hS jc jj kw;simp [go_sem,Act.eval, *]),?_⟩);refine kw.mono ?_;rintro e w' ⟨rfl,hx⟩;exact ⟨_,rfl,⟨rfl,hx,Ext.trans jc hx⟩⟩
               all_goals try (refine B2 (j:=1) (d:=65) (b:=true) rfl (by kernel_rfl) (by simp only [jb]) rfl (.inl ⟨_,W,?_,rfl,Ext.refl _,jc⟩);clear jd hS jc jj;simp [go_sem,Act.eval, *];done)
               all_goals (refine Ao rfl (.inl ⟨_,W,?_,rfl,Ext.refl _,jc⟩);clear jd hS jc jj;simp [go_sem,Act.eval, *];done)
              case hlast =>
               intro h;exact absurd rfl h
              case hfin =>
               intro _ ac W jd jp fL hf jc hv ja;have hS:(fun W=>Ext w14 W)  W:=jc;clear jc;obtain ⟨sx,js,jr⟩:=Aw [64,65,66,67,68,69,70,71,72,73,74,75] (by kernel_rfl) jd jp ja;have e75:sx 75=.bool false:=(js 75).trans (hv 11 (by decide));rw [jr];simp only [List.foldl];rw [e75];clear e75;simp only [Act.put,List.setIfInBounds_toArray,List.set_cons_succ,List.set_cons_zero];clear jr js hv ja jd jp hf;have je:Hid (Ext w14 W):=hS;clear hS;obtain ⟨w15,jt⟩:∃ w15:World,w15=W:=⟨W,rfl⟩
               rw [← jt] at je ⊢;clear jt;have jf:=A6 (jy.out.ext je.out);have jq:Kc w1 w15:=jf.out.tn.kc jK.out;obtain ⟨k0,k1,k2,k3,k4,k5⟩:=Bm (j8.out w15 jq);have ke:(Builtin.len_ #[91] 3 #[.map (some g)]).run Tryz.prog w15=.ok (.int .i64 (((M4) i).length:Int)) w15:=jf.out.map.run_len Bx _;have yd:¬ (mo:Int)<(((M4) i).length:Int):=(by have h8:=yw.out;have h9:=yv.out;omega)
               clear jq
               go_wp2_with fail
               go_roundg (S.rules.length - (k+1))
               case measure=>have:=jJ.out;omega
               case rel=>exact ⟨k+1,nw,M4,by go_num,by omega,rfl,jL.out.later je.out (A7 _),jP.out.later je.out (A7 _),jf.out,km.out,ju.out,(Kc.of je.out (A7 _)).block _ _ _ _ jB.out,jY.out,AC kr.out je.out.size⟩
             ·have yK:Hid (∀ x,look (M4 i) (d0,n')=some x→ct+c0<x):=fun x hx=>by
               rw [yB] at hx;exact Nat.lt_of_not_le fun h9=>ku ⟨x,hx,h9⟩
              have Yt:=A6 (j5.out.put kI.out hz Yu.out YJ yW (by rw [AF];omega) yK.out);clear yB ku;refine B4 (by kernel_rfl) (Vs [vq (.bool true),vq (.bool true),vq (.map (some g)),vq (.agg #[.int .i64 (d0:Int),.int .i64 (n':Int)]),vq (.map (some g)),vq (.agg #[.int .i64 (m:Int),.int .i64 (nd:Int)]),vq (.int .i64 (ct:Int)),vq (.pointer (some ⟨g11,4,none⟩)),vq (.int .i64 (c0:Int)),vq (.int .i64 ((ct:Int)+(c0:Int))),vq (.bool true),vq (.bool true)]) (Xs [Ext,Ext,Ext,Ext,Ext,Ext,Ext,Ext,Ext,Ext,(fun _ _=>True),Ext]) (fun fL=>(Nh w14 g (M4 i) (d0,n') (ct+c0)) (fL 10)) [0,1,3,3,3,3,51,3,131,499,1023,2047] 93 12 (by kernel_rfl) rfl ?hV ?hS ?hop ?hfin ?hlast
              case hV =>
               refine BC (Av (by simp only [Aj,List.not_mem_nil,or_false,forall_eq_or_imp,forall_eq];and_intros <;> exact An _)) ?_;exact ⟨.inl rfl,.inl rfl,.inl rfl,.inl rfl,.inl rfl,.inl rfl,.inl rfl,.inl rfl,.inl rfl,.inl rfl,.inr (BO ⟨fun _ _=>fun _ _ _ h _=>h,fun _ _=>fun _ _ _ h _=>h,fun _ _=>fun _ _ _ h _=>h,fun _ _=>fun _ _ _ h _=>h,fun _ _=>fun _ _ _ h _=>h,fun _ _=>fun _ _ _ h _=>h,fun _ _=>fun _ _ _ h _=>h,fun _ _=>fun _ _ _ h _=>h,fun _ _=>fun _ _ _ h _=>h,fun _ _=>fun _ _ _ h _=>h,fun h=>absurd rfl h,fun _ h=>absurd h (by decide),trivial⟩),.inl rfl,trivial⟩
              case hS =>
               intro fL hf;show (Nh w14 g (M4 i) (d0,n') (ct+c0)) (fL 10) _;rw [hf 10 (by decide)]
               first | exact Ext.refl _ | exact Bh _
              case hop =>
               refine ⟨?_,?_,?_,?_,?_,?_,?c6,?_,?_,?_,?c10,?_,trivial⟩
               all_goals first | rw [if_neg (by decide)] | rw [if_pos (by decide)]
               all_goals try intro ac W fL jd jj jG jF jc jb ja ji
               all_goals try have hS:(Nh w14 g (M4 i) (d0,n') (ct+c0)) (fL 10) W:=jc
               all_goals try (have jR:fL 10=true:=jG 10 (by decide);rw [jR] at hS)
               all_goals try (have jR:fL 10=false:=(by first | exact jj | exact jF 10 (by decide) (by decide));rw [jR] at hS)
               all_goals try (
                have jA:Kc w14 W:=Nh.kp jC.out jc;obtain ⟨z0,z1,z2,z3,z4⟩:=B9 (jA.block _ _ _ _ jH.out);obtain ⟨x0,x1⟩:=B3 (jA.block _ _ _ _ jB.out);obtain ⟨u0,u1⟩:=B3 (jA.block _ _ _ _ jI.out);have yE:=Yv.out;clear jA)
               all_goals try have YE:=gdA ac 1 (.map (some g)) (ja 1 (by kernel_rfl))
               all_goals try have yb:=gdA ac 9 (.pointer (some ⟨g9,0,none⟩)) (ja 9 (by kernel_rfl))
               all_goals try have jS:=gdA ac 11 (.pointer (some ⟨g11,0,none⟩)) (ja 11 (by kernel_rfl))
               all_goals try have Ku:=gdA ac 12 (.pointer (some ⟨g14,0,none⟩)) (ja 12 (by kernel_rfl))
               all_goals try have ya:=gdA ac 13 (.bool true) (ja 13 (by kernel_rfl))
               all_goals try (have jb:=DN jb;simp [D8,Aq,vq] at jb)
               all_goals try clear ja jG jF ji
               case c6 =>
                have y6:=PN (jC.out.kept (Below.block hS _ jC.out.lt)) kF.out Ym.out;refine B2 (j:=1) (d:=65) (b:=true) rfl (by kernel_rfl) (by simp only [jb]) rfl (.inl ⟨_,W,?_,rfl,Ext.refl _,jc⟩);clear jd hS jc jj;simp [go_sem,Act.eval, *]
               case c10 =>
                have kw:=Ii (c:=ct+c0) (jC.out.kept (Below.block hS _ jC.out.lt)) kE.out (by have:=yv.out;omega) (by omega) yK.out;rw [show ((ct+c0:Nat):Int)=(ct:Int)+(c0:Int) by omega] at kw;refine B2 (j:=1) (d:=65) (b:=true) rfl (by kernel_rfl) (by simp only [jb]) rfl (.inr ⟨75,#[.map (some g),.agg #[.int .i64 (d0:Int),.int .i64 (n':Int)],.int .i64 ((ct:Int)+(c0:Int))],W,by (clear jd hS jc jj kw;simp [go_sem,Act.eval, *]),?_⟩);refine kw.mono ?_;rintro e w' ⟨rfl,hm,ht⟩;refine ⟨_,rfl,rfl,trivial,?_⟩;show Nh w14 g (M4 i) (d0,n') (ct+c0) (upd fL 10 10) w';rw [show upd fL 10 10=true from if_pos rfl];exact ⟨hm,(Tn.of hS).trans ht⟩
               all_goals try (refine B2 (j:=1) (d:=65) (b:=true) rfl (by kernel_rfl) (by simp only [jb]) rfl (.inl ⟨_,W,?_,rfl,Ext.refl _,jc⟩);clear jd hS jc jj;simp [go_sem,Act.eval, *];done)
               all_goals (refine Ao rfl (.inl ⟨_,W,?_,rfl,Ext.refl _,jc⟩);clear jd hS jc jj;simp [go_sem,Act.eval, *];done)
              case hlast =>
               intro h;exact absurd rfl h
              case hfin =>
               intro _ ac W jd jp fL hf jc hv ja;have hS:(Nh w14 g (M4 i) (d0,n') (ct+c0)) (fL 10) W:=jc;clear jc;rw [hf 10 (by decide)] at hS;obtain ⟨sx,js,jr⟩:=Aw [64,65,66,67,68,69,70,71,72,73,74,75] (by kernel_rfl) jd jp ja;have e75:sx 75=.bool true:=(js 75).trans (hv 11 (by decide));rw [jr];simp only [List.foldl];rw [e75];clear e75;simp only [Act.put,List.setIfInBounds_toArray,List.set_cons_succ,List.set_cons_zero];clear jr js hv ja jd jp hf;obtain ⟨y9,ki⟩:=hS;obtain ⟨w15,jt⟩:∃ w15:World,w15=W:=⟨W,rfl⟩
               rw [← jt] at y9 ki ⊢;clear jt;have jf:=A6 (jy.out.put y9 ki);have jM:=A6 (Tn.row jL.out jC.out ki);have Js:=A6 (Tn.row jP.out jC.out ki);have j9:Hid (w15.heap[g9]? = some (.cells #[.int .i64 (m:Int),.int .i64 (nd:Int)] 85 (0,0))):=(ki.kc jC.out).block _ _ _ _ jB.out;obtain ⟨u0,u1⟩:=B3 ((ki.kc jC.out).block _ _ _ _ jI.out);have ks:Hid (Ext w15 (w15.alloc (.cells #[.int .i64 (d0:Int),.int .i64 (n':Int)] 85))):=(Below.refl _ _).alloc (A7 _) _;have Ya:=KB (q:=todo ++ nw) (C:=Cm) (j:=i) (m:=d0) (n':=n') (c:=ct+c0) j5.out.bnd (A7 _) yY YJ (by omega) yK.out;rw [if_pos rfl] at Ya;have Y5:=A6 Ya;have Y0:Hid ((todo ++ nw).length≤999999999999):=by have:=ju.out;have:=jD.out;have:=j1.out;show _≤_;omega
               have kk:wl.heap.size≤w15.heap.size:=AC kr.out ki.size;have Yn:Hid (wl.heap.size≤w15.heap.size):=kk;clear y9 ki Ya kk
               go_wp2_with (at_builtin;go_loud (refine B5 (v:=.slice wa nw.length wc) Ei rfl _ _ rfl rfl (jM.out.later ks.out (A7 _)) ⟨w15.heap.size,0,none⟩ 1 [(d0,n')] rfl (BA (heap_alloc_new _ _)) (by have:=Y0.out;rw [AF] at this;simp only [AI];omega) (by have:=Yn.out;simp only [AA];omega) ?_);intro v16 w16 jV jl ka;have yM:=A6 jV;have kl:=A6 jl;have kz:=A6 ka;have jO:Hid (SQ w1 g i M (Bt M4 i (d0,n') (ct+c0)) w16):=(jf.out.ext ks.out).grown ((jM.out.later ks.out (A7 _)).mono kL.out) jl;clear jV jl ka;have jq:Kc w1 w16:=jO.out.tn.kc jK.out;obtain ⟨k0,k1,k2,k3,k4,k5⟩:=Bm (j8.out w16 jq);have ke:(Builtin.len_ #[91] 3 #[.map (some g)]).run Tryz.prog w16=.ok (.int .i64 (((Bt M4 i (d0,n') (ct+c0)) i).length:Int)) w16:=jO.out.map.run_len Bx _;have yd:¬ (mo:Int)<(((Bt M4 i (d0,n') (ct+c0)) i).length:Int):=(by have h8:=yw.out;have h9:=Yt.out.bnd.len i;omega);clear jq)
               go_roundg (S.rules.length - (k+1))
               case measure=>have:=jJ.out;omega
               case rel =>
                have YB:=(Kc.of ks.out (A7 _)).block _ _ _ _ j9.out;refine ⟨k+1,nw ++ [(d0,n')],_,by go_num,by omega,rfl,yM.out,?_,jO.out,by rw [← List.append_assoc];exact Yt.out,?_,?_,?_,AC Yn.out (AC ks.out.size kl.out.size)⟩
                ·refine (Js.out.later ks.out (A7 _)).keep fun q9 yC=>kl.out.block q9 ((Js.out.later ks.out (A7 _)).lt q9 yC) fun e=>?_;have h1:=(jM.out).ge q9 e.symm;injection yC with yC;have h2:bt=q9:=yC;omega
                · have:=Y5.out;have:=ju.out;rw [← List.append_assoc];omega
                · exact (kl.out.block g9 (A9.1 YB).1 fun e=>jY.out e.symm).trans YB
                ·intro e;rcases kz.out with h1 | h1
                 · exact jY.out (h1.symm.trans e)
                 ·rw [h1] at e;injection e with e;have:=(A9.1 j9.out).1;simp only [AA] at e;omega
          ·have YX:Hid (¬ frm=(m:Int)):=y0;have km:=A6 (j5.out.skip kI.out fun _=>MM (.inl y0));refine B4 (by kernel_rfl) (Vs [vq (.pointer (some ⟨g11,2,none⟩)),vq (.string inp),vq (.bool false),vq (.bool false),vq (.pointer (some ⟨g11,0,none⟩)),vq (.int .i64 frm),vq (.pointer (some ⟨gw,3,none⟩)),vq (.func (.func 41) #[] #[]),vq (.agg #[.int .i64 (m:Int),.int .i64 (nd:Int)]),vq (.int .i64 (m:Int)),vq (.bool true),vq (.bool true)]) (Xs []) (fun fL=>(fun W=>Ext w11 W) ) [0,1,3,7,15,31,15,79,15,463,1023,2047] 93 12 (by kernel_rfl) rfl ?hV ?hS ?hop ?hfin ?hlast
           case hV =>
            refine BC (Av (by simp only [Aj,List.not_mem_nil,or_false,forall_eq_or_imp,forall_eq];and_intros <;> exact An _)) ?_;exact trivial
           case hS =>
            intro fL hf;show (fun W=>Ext w11 W)  _
            first | exact Ext.refl _ | exact Bh _
           case hop =>
            refine ⟨?_,?_,?_,?_,?_,?_,?_,?_,?_,?c9,?_,?_,trivial⟩
            all_goals first | rw [if_neg (by decide)] | rw [if_pos (by decide)]
            all_goals try intro ac W fL jd jj jG jF jc jb ja ji
            all_goals try have hS:(fun W=>Ext w11 W)  W:=jc
            all_goals try (
             have yt:=hS;obtain ⟨k0,k1,k2,k3,k4,k5⟩:=Bm (jw.out W hS);obtain ⟨z0,z1,z2,z3,z4⟩:=B9 ((Below.block hS g11 (A9.1 jg.out).1).trans jg.out);obtain ⟨x0,x1⟩:=B3 ((Below.block hS g9 (A9.1 jm.out).1).trans jm.out);have YL:=yx.out;have hfm9:=YX.out;clear yt)
            all_goals try have YF:=gdA ac 2 (.pointer (some ⟨gw,0,none⟩)) (ja 2 (by kernel_rfl))
            all_goals try have yb:=gdA ac 9 (.pointer (some ⟨g9,0,none⟩)) (ja 9 (by kernel_rfl))
            all_goals try have jS:=gdA ac 11 (.pointer (some ⟨g11,0,none⟩)) (ja 11 (by kernel_rfl))
            all_goals try (have jb:=DN jb;simp [D8,Aq,vq] at jb)
            all_goals try clear ja jG jF ji
            case c9 =>
             have yR:(fun W=>Ext w11 W)  W:=jc;refine B2 (j:=3) (d:=47) (b:=false) rfl (by kernel_rfl) (by simp only [jb]) rfl (.inr ⟨41,#[.agg #[.int .i64 (m:Int),.int .i64 (nd:Int)]],W,by (clear jd hS jc yR jj;simp [go_sem,Act.eval, *]),?_⟩);refine (KQ m nd W).mono ?_;rintro e w' ⟨rfl,hb⟩;exact ⟨_,rfl,⟨rfl,hb,Ext.trans jc hb⟩⟩
            all_goals try (refine B2 (j:=3) (d:=47) (b:=false) rfl (by kernel_rfl) (by simp only [jb]) rfl (.inl ⟨_,W,?_,rfl,Ext.refl _,jc⟩);clear jd hS jc jj;simp [go_sem,Act.eval, *];done)
            all_goals (refine Ao rfl (.inl ⟨_,W,?_,rfl,Ext.refl _,jc⟩);clear jd hS jc jj;simp [go_sem,Act.eval, *];done)
           case hlast =>
            intro h;exact absurd rfl h
           case hfin =>
            intro _ ac W jd jp fL hf jc hv ja;have hS:(fun W=>Ext w11 W)  W:=jc;clear jc;obtain ⟨sx,js,jr⟩:=Aw [44,45,46,47,48,49,50,51,52,53,54,55] (by kernel_rfl) jd jp ja;have e55:sx 55=.bool true:=(js 55).trans (hv 11 (by decide));rw [jr];simp only [List.foldl];rw [e55];clear e55;simp only [Act.put,List.setIfInBounds_toArray,List.set_cons_succ,List.set_cons_zero];clear jr js hv ja jd jp hf;have je:Hid (Ext w11 W):=hS;clear hS
            go_wp2_with fail
            go_roundg (S.rules.length - (k+1))
            case measure=>have:=jJ.out;omega
            case rel=>exact ⟨k+1,nw,M4,by go_num,by omega,rfl,jx.out.later je.out (A7 _),jz.out.later je.out (A7 _),jk.out.ext je.out,km.out,ju.out,(Kc.of je.out (A7 _)).block _ _ _ _ jm.out,jY.out,AC kq.out je.out.size⟩
         ·have yx:Hid (¬ inp.toList=[]):=fun e=>hz (by rw [← BZ,bts,← ByteArray.toList_eq,e];rfl);have km:=A6 (j5.out.skip kI.out fun h=>absurd h hz);refine B4 (by kernel_rfl) (Vs [vq (.pointer (some ⟨g11,2,none⟩)),vq (.string inp),vq (.bool true),vq (.bool true),vq (undef),vq (undef),vq (undef),vq (undef),vq (undef),vq (undef),vq (undef),vq (.bool true)]) (Xs []) (fun fL=>(fun W=>Ext w11 W) ) [0,1,3,7,15,31,15,79,15,463,1023,2047] 93 12 (by kernel_rfl) rfl ?hV ?hS ?hop ?hfin ?hlast
          case hV =>
           refine BC (Av (by simp only [Aj,List.not_mem_nil,or_false,forall_eq_or_imp,forall_eq];and_intros <;> exact An _)) ?_;exact trivial
          case hS =>
           intro fL hf;show (fun W=>Ext w11 W)  _
           first | exact Ext.refl _ | exact Bh _
          case hop =>
           refine ⟨?_,?_,?_,?_,?_,?_,?_,?_,?_,?_,?_,?_,trivial⟩
           all_goals first | rw [if_neg (by decide)] | rw [if_pos (by decide)]
           all_goals try intro ac W fL jd jj jG jF jc jb ja ji
           all_goals try have hS:(fun W=>Ext w11 W)  W:=jc
           all_goals try (
            have yt:=hS;obtain ⟨k0,k1,k2,k3,k4,k5⟩:=Bm (jw.out W hS);obtain ⟨z0,z1,z2,z3,z4⟩:=B9 ((Below.block hS g11 (A9.1 jg.out).1).trans jg.out);obtain ⟨x0,x1⟩:=B3 ((Below.block hS g9 (A9.1 jm.out).1).trans jm.out);have YL:=yx.out;clear yt)
           all_goals try have YF:=gdA ac 2 (.pointer (some ⟨gw,0,none⟩)) (ja 2 (by kernel_rfl))
           all_goals try have yb:=gdA ac 9 (.pointer (some ⟨g9,0,none⟩)) (ja 9 (by kernel_rfl))
           all_goals try have jS:=gdA ac 11 (.pointer (some ⟨g11,0,none⟩)) (ja 11 (by kernel_rfl))
           all_goals try (have jb:=DN jb;simp [D8,Aq,vq] at jb)
           all_goals try clear ja jG jF ji
           all_goals try exact C2 (j:=3) (d:=47) (b:=true) rfl (by kernel_rfl) (by simp only [jb]) rfl ⟨rfl,jc⟩
           all_goals (refine Ao rfl (.inl ⟨_,W,?_,rfl,Ext.refl _,jc⟩);clear jd hS jc jj;simp [go_sem,Act.eval, *];done)
          case hlast =>
           intro h;exact absurd rfl h
          case hfin =>
           intro _ ac W jd jp fL hf jc hv ja;have hS:(fun W=>Ext w11 W)  W:=jc;clear jc;obtain ⟨sx,js,jr⟩:=Aw [44,45,46,47,48,49,50,51,52,53,54,55] (by kernel_rfl) jd jp ja;have e55:sx 55=.bool true:=(js 55).trans (hv 11 (by decide));rw [jr];simp only [List.foldl];rw [e55];clear e55;simp only [Act.put,List.setIfInBounds_toArray,List.set_cons_succ,List.set_cons_zero];clear jr js hv ja jd jp hf;have je:Hid (Ext w11 W):=hS;clear hS
           go_wp2_with fail
           go_roundg (S.rules.length - (k+1))
           case measure=>have:=jJ.out;omega
           case rel=>exact ⟨k+1,nw,M4,by go_num,by omega,rfl,jx.out.later je.out (A7 _),jz.out.later je.out (A7 _),jk.out.ext je.out,km.out,ju.out,(Kc.of je.out (A7 _)).block _ _ _ _ jm.out,jY.out,AC kq.out je.out.size⟩
        ·have Y1:=A6 (j5.out.leave (by omega));have y7:¬ (k:Int)<(S.rules.length:Int):=by omega
         go_wp2_with fail
         go_roundg (todo.length - (n+1))
         case measure=>have:=yI.out;omega
         case rel=>exact ⟨n+1,nw,M4,by go_num,by omega,rfl,kC.out,kN.out,ko.out,Y1.out,ju.out,kP.out⟩
      ·obtain rfl:n=todo.length:=by omega
       have y8:¬ (todo.length:Int)<(todo.length:Int):=by omega
       have Y6:=A6 jo.out.round
       go_wp2_with fail
       go_roundg (news.length+pot (o.size+1) Cm (M3 i))
       case measure=>have:=j1.out;have:=yN.out;rw [AF] at this;omega
       case rel=>exact ⟨news,M3,yL.out.mono (kL.out),kn.out,Y6.out,rfl,by have:=j1.out;have:=yN.out;have:=jD.out;rw [AF] at *;omega⟩
    ·have YQ:todo=[]:=List.eq_nil_of_length_eq_zero (by omega);have Yf:¬ (0:Int)<(todo.length:Int):=by omega
     have Yg:=jn.out;rw [YQ] at Yg;have YU:=A6 Yg.done;have Yo:=jZ.out.map;have hll2:(M2 i).length≤8*(o.size+1):=jn.out.bnd.len i;have hmoI:((M2 i).length:Int)≤(mo:Int):=by have:=yw.out;omega
     have hlen2:(Builtin.len_ #[91] 3 #[.map (some g)]).run Tryz.prog wr=.ok (.int .i64 ((M2 i).length:Int)) wr:=Yo.run_len Bx _;obtain ⟨k0,k1,k2,k3,k4,k5⟩:=Bm (j8.out wr (jZ.out.tn.kc jK.out));clear Yg YQ Yo
     go_wp2_with fail
     go_ret;exact ⟨rfl,M2,jZ.out.map,(Tn.of kQ.out).trans jZ.out.tn,jn.out.inv,YU.out,jn.out.bnd,jZ.out.out⟩
  ·intro
      m
       n c w4 hp hrg4 hg4 hs4 hlt4 kW
   dsimp only [CB,EH] at kW ⊢;have HP:=A6 hp;have j4:=A6 hrg4;have HG4':=A6 hg4;have yG:Hid (Below w1.heap.size w1 w4):=by
    show Below _ _ _;exact yH.out.grown hg4 (by omega) fun k hk=>by injection hk with hk;have:=Yw.out.size;omega
   have jN:Hid (As FT w4 w1.heap.size (.slice qa q.length qc) q):=by
    show As _ _ _ _ _;refine kG.out.keep fun g9 j0=>hg4.block g9 (kG.out.lt g9 j0) fun e=>?_;injection e with e;obtain ⟨D9,l9,c9,Yb,_⟩:=kH.out;obtain ⟨es,clock,since,seen,c0,_,_,_,_,hr,_⟩:=Yb;rcases kG.out.2 with ⟨h9,_⟩ | ⟨g',cap,cur,h9,_,kT,_⟩
    · rw [h9] at j0;cases j0
    ·rw [h9] at j0;injection j0 with j0;have e2:g'=w2.heap.size:=j0.trans e;rw [e2,hr] at kT;cases kT
   have YA:((w4.alloc (.cells #[.int .i64 (m:Int),.int .i64 (n:Int)] 85)).alloc (.cells #[.int .i64 (m:Int),.int .i64 (n:Int)] 85)).heap[w4.heap.size+1]? = some (.cells (FT.enc (m,n)).toArray 85 (0,0)):=by
    have h:=heap_alloc_new (w4.alloc (.cells #[.int .i64 (m:Int),.int .i64 (n:Int)] 85)) (.cells #[.int .i64 (m:Int),.int .i64 (n:Int)] 85);rw [AA] at h;exact h
   have YS:=A6 YA;have kA:Hid (Ext w4 ((w4.alloc (.cells #[.int .i64 (m:Int),.int .i64 (n:Int)] 85)).alloc (.cells #[.int .i64 (m:Int),.int .i64 (n:Int)] 85))):=Ext.trans ((Below.refl _ _).alloc (A7 _) _) ((Below.refl _ _).alloc (A7 _) _);have jX:w1.heap.size≤w4.heap.size:=yG.out.size;clear hp hrg4 hg4 YA hlt4
   go_wp2_with (at_builtin;go_loud (refine B5 (v:=.slice qa q.length qc) Ei rfl _ _ rfl rfl (jN.out.later kA.out (A7 _)) ⟨w4.heap.size+1,0,none⟩ 1 [(m,n)] rfl (BA YS.out) (by have:=j3.out;have:=j2.out;simp only [AI];omega) (by simp only [AA];omega) ?_);intro v5 w5 yf jh hat5)
   have kJ:Hid (∀ q9,(Value.slice qa q.length qc).ownBlock=some q9→some g≠some q9∧some w2.heap.size≠some q9):=fun q9 h9=>⟨fun e=>(j4.out.map.kept (kA.out.block _ j4.out.map.lt)).not_row (jN.out.later kA.out (A7 _)) (h9.trans e.symm),fun e=>by
    injection e with e;have h8:=jN.out.lt _ h9;obtain ⟨D9,l9,c9,Yb,_⟩:=j4.out;obtain ⟨es,clock,since,seen,c0,_,_,_,_,hr,_⟩:=Yb;rcases jN.out.2 with ⟨h7,_⟩ | ⟨g',cap,cur,h7,_,kT,_⟩
    · rw [h7] at h9;cases h9
    ·rw [h7] at h9;injection h9 with h9;have e2:g'=w2.heap.size:=h9.trans e.symm;rw [e2,hr] at kT;cases kT⟩
   have kB:Hid ((BU rest ((m,n),c)).length<rest.length):=by
    exact Cp HP.out
   go_roundg (BU rest ((m,n),c)).length
   case measure=>rw [← Yl.out];exact kB.out
   case rel =>
    refine ⟨q ++ [(m,n)],_,yf,?_,rfl,?_,Yq.out.filter _,fun t=>?_,?_⟩
    ·have h1:=j4.out.below kA.out;cases yA:(Value.slice qa q.length qc).ownBlock with
     | none=>rw [yA] at jh;exact h1.kept jh (by simp) (by simp)
     | some q9=>rw [yA] at jh;exact h1.kept jh (kJ.out q9 yA).1 (kJ.out q9 yA).2
    · have:=kB.out;have:=j3.out;rw [AF,AI];omega
    ·rw [Ak,AJ,HQ.out];constructor
     ·rintro (⟨c9,h1,h2⟩ | rfl)
      · exact ⟨c9,h1,fun h3=>h2 (BW.1 h3).1⟩
      · exact ⟨c,kH.out.sub _ HP.out,fun h3=>(BW.1 h3).2 rfl⟩
     ·rintro ⟨c9,h1,h2⟩;by_cases e:(t,c9)=((m,n),c)
      ·injection e with e1 e2;exact .inr e1
      · exact .inl ⟨c9,h1,fun h3=>h2 (BW.2 ⟨h3,e⟩)⟩
    ·have h1:Below w1.heap.size w1 ((w4.alloc (.cells #[.int .i64 (m:Int),.int .i64 (n:Int)] 85)).alloc (.cells #[.int .i64 (m:Int),.int .i64 (n:Int)] 85)):=yG.out.trans (Below.mono kA.out yG.out.size);exact h1.grown jh h1.size fun k hk=>jN.out.ge k hk
open Go.RowKit Go.WideShapes Go.Maps Go.WideMaps Fl
theorem KR (S:Sch) (b:Option Addr) (cR go mo:Nat) (w:World) :
  Calls Tryz.prog 74 #[.agg #[.int .i64 S.modes,.int .u8 S.acc,.slice b S.rules.length cR,.func (.func 41) #[] #[],.func (.func 42) #[] #[.pointer (some ⟨go,0,none⟩)],.int .i64 (mo:Int)],.map none] w fun e w'=>e=.returned (.bool true)∧Ext w w':=by
 go_enter Tryz.func74,Tryz.ntmps74
 go_upto_region 1 with fail
 obtain ⟨w1,jb⟩:∃ w1,w.alloc (.cells #[.int .i64 S.modes,.int .u8 S.acc,.slice b S.rules.length cR,.func (.func 41) #[] #[],.func (.func 42) #[] #[.pointer (some ⟨go,0,none⟩)],.int .i64 (mo:Int)] 90)=w1:=⟨_,rfl⟩
 rw [jb];have jg:Hid (Ext w w1):=by show Ext _ _;rw [← jb];exact (Below.refl _ _).alloc (A7 _) _
 have jc:w1.heap[w.heap.size]? = some (.cells #[.int .i64 S.modes,.int .u8 S.acc,.slice b S.rules.length cR,.func (.func 41) #[] #[],.func (.func 42) #[] #[.pointer (some ⟨go,0,none⟩)],.int .i64 (mo:Int)] 90 (0,0)):=by rw [← jb];exact heap_alloc_new _ _
 clear jb;have hlen:∀ W:World,(Builtin.len_ #[91] 3 #[.map none]).run Tryz.prog W=.ok (.int .i64 0) W:=fun W=>Maps.len_nil Tryz.underlying91 _;obtain ⟨w2,je,ja,jf⟩:=PS w1 0 (by omega);have hmk2:(Instr.makeSlice 176 (.int .i64 0) (.int .i64 0)).run Tryz.prog w1=.ok (.slice (some ⟨w1.heap.size,0,none⟩) 0 0) w2:=je;have hrg:(Instr.range 91 (.map none)).run Tryz.prog w2=.ok (.pointer (some ⟨w2.heap.size,0,none⟩)) (w2.alloc (.mapIter none 0 #[] 0)):=run_range_nilMap w2 _ _ _ Tryz.underlying91;have hnx:∀ ty,(Instr.next (.pointer (some ⟨w2.heap.size,0,none⟩)) false ty).run Tryz.prog (w2.alloc (.mapIter none 0 #[] 0))=.ok (.tuple #[.bool false]) (w2.alloc (.mapIter none 0 #[] 0)):=fun ty=>run_next_nilMap w2 ty 0 0 #[];have jd:Hid (Ext w1 (w2.alloc (.mapIter none 0 #[] 0))):=Ext.trans jf ((Below.refl _ _).alloc (A7 _) _);obtain ⟨k0,k1,k2,k3,k4,k5⟩:=Bm ((Below.block jd.out _ (A9.1 jc).1).trans jc);clear je ja jf jc
 go_wp2_with fail
 go_loopg [5] 0 (fun gm v5 wr=>v5=.slice (some ⟨w1.heap.size,0,none⟩) 0 0∧wr=w2.alloc (.mapIter none 0 #[] 0))
 case atStart=>exact ⟨rfl,rfl⟩
 case round =>
  obtain ⟨rfl,rfl⟩:=hrel
  go_wp2_with fail
  go_loopg [5] 0 (fun gm v5 wr=>v5=.slice (some ⟨w1.heap.size,0,none⟩) 0 0∧wr=w2.alloc (.mapIter none 0 #[] 0))
  case atStart=>exact ⟨rfl,rfl⟩
  case round =>
   obtain ⟨rfl,rfl⟩:=hrel;have hmo:(0:Int)≤(mo:Int):=by omega
   go_wp2_with fail
   go_ret;exact ⟨rfl,Ext.trans jg.out jd.out⟩
theorem Ni (S:Sch) (b:Option Addr) (cR m:Nat) (w:World) (h0:0≤S.acc) (h1:S.acc≤255) (hm:m<8) :
  Calls Tryz.prog 45 #[.agg #[.int .i64 S.modes,.int .u8 S.acc,.slice b S.rules.length cR],.int .i64 (m:Int)] w fun e w'=>e=.returned (.bool (DX S.acc m))∧Ext w w':=by
 have hac:=Sf S.acc m h0 h1
 go_enter Tryz.func45,Tryz.ntmps45
 go_wp2_with fail
 go_ret;exact ⟨rfl,(Below.refl _ _).alloc (A7 _) _⟩
theorem Tf (S:Sch) (b:Option Addr) (cR:Nat) (w:World) (hs:I9 w S b cR) :
  Calls Tryz.prog 39 #[.agg #[.int .i64 S.modes,.int .u8 S.acc,.slice b S.rules.length cR]] w fun e w'=>e=.returned (.bool true)∧Ext w w':=by
 have HS:=A6 hs;have hl:=hs.len;have HA:=A6 hs.acc;have ja:=hs.cap;clear hs
 go_enter Tryz.func39,Tryz.ntmps39
 go_wp2_with fail
 obtain ⟨w1,jb⟩:∃ w1,w.alloc (.cells #[.int .i64 S.modes,.int .u8 S.acc,.slice b S.rules.length cR] 32)=w1:=⟨_,rfl⟩
 rw [jb];have HX:Hid (Ext w w1):=by show Ext _ _;rw [← jb];exact (Below.refl _ _).alloc (A7 _) _
 clear jb;have a0:0≤S.acc:=by have:=HA.out;omega
 have a1:S.acc≤255:=by have:=HA.out;omega
 have h:=Fl.sound_any S b cR w1 (HS.out.rul.later HX.out (A7 _)) a0 a1 (by omega) ja (fun hv=>Oa hv a0 a1);rw [HS.out.sound] at h;clear a0 a1;refine h.mono ?_;rintro e w2 ⟨rfl,hb⟩;have HB:=A6 hb;clear hb
 go_wp2_with fail
 go_ret;exact ⟨rfl,Ext.trans HX.out HB.out⟩
theorem Qg (s:ByteArray) (w:World) (hs:s.size≤40) (hk:FZ s=true) :
  Calls Tryz.prog 40 #[.string s] w fun e w'=>e=.returned (.bool true)∧w=w':=by
 have h:=allSmall_any s w (by omega);rw [hk] at h;have hsI:(s.size:Int)≤40:=by omega
 go_enter Tryz.func40,Tryz.ntmps40
 go_wp2_with (go_at_call 72;refine h.mono ?_;rintro e w' ⟨rfl,rfl⟩)
 go_ret;exact ⟨rfl,rfl⟩
def Nj:Option Nat→DataW Unit
 | none=>.lit (.bool false)
 | some q=>.lit (.int .i64 (q:Int))
def UV:Value→Option (DataW Unit × List MemPlace)
 | .map o=>some (Nj o,[])
 | _=>none
theorem Sg {v:Value} {o:Option Nat} {ps:List MemPlace} (h:UV v=some (Nj o,ps)):v=.map o:=by
 unfold UV at h;split at h
 ·rename_i o';injection h with h;injection h with h1 h2;have:o'=o:=by
   cases o' <;> cases o <;> simp [Nj] at h1 ⊢
   omega
  rw [this]
 · cases h
def Ij {α:Type} [DecidableEq α] (E:List (α × Nat)) (t:α):List (α × Nat):=E.filter fun p=>decide (p.1≠t)
theorem Ej {α:Type} [DecidableEq α]:∀ (E:List (α × Nat)) (t u:α),look (Ij E t) u=if t=u then none else look E u
 | [],t,u=>by simp [Ij,look_nil]
 | p
   :: E,t,u=>by
  have ih:=Ej E t u;unfold Ij at ih ⊢;rw [List.filter_cons];by_cases h:p.1=t
  ·rw [if_neg (by simpa using h),ih,Ba];by_cases h2:t=u
   · rw [if_pos h2,if_pos h2]
   · rw [if_neg h2,if_neg h2,if_neg (fun e=>h2 (h ▸ e))]
  ·rw [if_pos (by simpa using h),Ba,ih,Ba];by_cases h2:p.1=u
   · rw [if_pos h2,if_pos h2,if_neg (fun e=>h (h2.trans e.symm))]
   · rw [if_neg h2,if_neg h2]
theorem Cs.del {α:Type} [DecidableEq α] {E:List (α × Nat)} (h:Cs E) (t:α):Cs (Ij E t):=List.Pairwise.filter _ h
def plc (k:Nat):Lit:=.int .i64 (k:Int)
theorem JK {k:Nat} (hk:k<1000000):keyOf Tryz.prog 3 (.int .i64 (k:Int))=some (plc k):=keyOf_int_mk Tryz.underlying3 (O0 (by omega))
theorem JL {a b:Nat} (h:plc a=plc b):a=b:=by simp [plc] at h;omega
theorem Tg {k:Nat} (hk:k<1000000):WideAt.IsKeyLit (plc k):=(int_keyed Tryz.underlying3).key (JK hk)
structure Oq (D:DataW Unit) (O:List (Nat × Nat)):Prop where
 keys:Cs O
 ok:∀ p∈O,p.1<1000000
 has:∀ k,k<1000000→Maps.has D (plc k)=(look O k).isSome
 at_:∀ k,k<1000000→D.atKey (plc k) (Nj none)=Nj (look O k)
 size:Maps.size D=O.length
def OmG (w:World) (g:Nat) (O:List (Nat × Nat)):Prop:=∃ D:DataW Unit,w.ownsMap Tryz.prog 3 UV g O.length D∧Oq D O
section
variable {w w1:World} {g:Nat} {O:List (Nat × Nat)} {D:DataW Unit}
theorem OmG.new (w:World):OmG (w.alloc (.map #[] 0)) w.heap.size []:=⟨.map [],World.ownsMap_made _ _ _ _,List.Pairwise.nil,fun p hp=>(by cases hp),fun x _=>by simp [Maps.has,look_nil],fun x _=>by simp [DataW.atKey,look_nil],rfl⟩
theorem OmG.kept (h:OmG w g O) (hk:w1.heap[g]? = w.heap[g]?):OmG w1 g O:=by
 obtain ⟨D,⟨es,clock,hb,h1⟩,h2⟩:=h;exact ⟨D,⟨es,clock,hk.trans hb,h1⟩,h2⟩
theorem OmG.obj (h:OmG w g O):∃ es c,w.heap[g]? = some (.map es c):=by
 obtain ⟨D,⟨es,clock,hb,_⟩,_⟩:=h;exact ⟨es,clock,hb⟩
theorem OmG.lt (h:OmG w g O):g<w.heap.size:=by
 obtain ⟨es,c,h⟩:=h.obj;exact (A9.1 h).1
theorem OmG.look (h:OmG w g O) {k:Nat} (hk:k<1000000) :
  (Instr.lookup 148 (.map (some g)) (.int .i64 (k:Int)) false).run Tryz.prog w=.ok (.map (look O k)) w:=by
 obtain ⟨D,h1,h2⟩:=h;obtain ⟨v,ps,ja,hv⟩:=h1.lookup (int_keyed Tryz.underlying3) Tryz.underlying148 (Tryz.zeroValue91 w) (zd:=Nj none) (zp:=[]) rfl (JK hk);rw [h2.at_ k hk] at hv;rw [Sg hv] at ja;exact ja
theorem Oq.put (h:Oq D O) (hD:Tidy D) {k:Nat} (hk:k<1000000) (q:Nat):Oq (D.put (plc k) (Nj (some q))) (Cv O k q):=by
 have hl:=Tg hk;refine ⟨h.keys.put k q,fun p hp=>?_,fun y hy=>?_,fun y hy=>?_,?_⟩
 ·rcases GH hp with rfl | hp
  · exact hk
  · exact h.ok p hp
 ·rw [C7];by_cases e:k=y
  · subst e;rw [has_put_same hD.isMap hl];simp
  · rw [if_neg e,has_put_other (fun e2=>e (JL e2.symm)),h.has y hy]
 ·rw [C7];by_cases e:k=y
  · subst e;rw [atKey_put_same hD.isMap hl];simp
  · rw [if_neg e,atKey_put_other (fun e2=>e (JL e2.symm)),h.at_ y hy]
 · rw [size_put hD,h.has k hk,h.size,GG]
theorem Oq.del (h:Oq D O) (hD:Tidy D) {k:Nat} (hk:k<1000000):Oq (D.del (plc k)) (Ij O k):=by
 refine ⟨h.keys.del k,fun p hp=>h.ok p (Al.1 hp).1,fun y hy=>?_,fun y hy=>?_,?_⟩
 ·rw [Ej];by_cases e:k=y
  · subst e;rw [has_del_same];simp
  · rw [if_neg e,has_del_other (fun e2=>e (JL e2.symm)),h.has y hy]
 ·rw [Ej];by_cases e:k=y
  · subst e;rw [atKey_del_same];simp
  · rw [if_neg e,atKey_del_other (fun e2=>e (JL e2.symm)),h.at_ y hy]
 ·have h1:=size_del hD (k:=plc k);rw [h.has k hk,h.size] at h1;have h2:(Ij O k).length+(if (Go.Proofs.YthjmdgejnakcmaaGreatDoor.look O k).isSome then 1 else 0)=O.length:=by
   clear h1 hD;have ja:=h.keys;clear h
   induction O with
   | nil=>simp [Ij,look_nil]
   | cons p r ih =>
    obtain ⟨h3,h4⟩:=Ah.1 ja;have ih:=ih h4;unfold Ij at ih ⊢;rw [List.filter_cons,Ba];by_cases e:p.1=k
    ·rw [if_neg (by simpa using e),if_pos e];have hn:Go.Proofs.YthjmdgejnakcmaaGreatDoor.look r k=none:=L0.2 fun q hq e2=>h3 q hq (e.trans e2.symm);rw [hn] at ih;simp at ih ⊢;omega
    ·rw [if_pos (by simpa using e),if_neg e,List.length_cons,List.length_cons];omega
  omega
theorem OmG.run_put (h:OmG w g O) {k:Nat} (hk:k<1000000) (q:Nat) (hl:O.length<1000000) :
  ∃ w',(Instr.mapUpdate 148 (.map (some g)) (.int .i64 (k:Int)) (.map (some q))).run Tryz.prog w=.ok () w'∧OmG w' g (Cv O k q)∧Tn g w w':=by
 obtain ⟨D,h1,h2⟩:=h;obtain ⟨w',ja,h3,h4⟩:=h1.update (int_keyed Tryz.underlying3) Tryz.underlying148 (by unfold maxLen;omega) (JK hk) (val:=.map (some q)) (d:=Nj (some q)) (ps:=[]) rfl;have hd:=h2.put (h1.tidy (int_keyed Tryz.underlying3)) hk q;refine ⟨w',ja,⟨_,?_,hd⟩,h4⟩;have:=Gn h3;rw [hd.size] at this;exact this
theorem OmG.run_del (h:OmG w g O) {k:Nat} (hk:k<1000000) (ty:TypeId) :
  ∃ w',(Builtin.delete_ #[148,3] ty #[.map (some g),.int .i64 (k:Int)]).run Tryz.prog w=.ok (.tuple #[]) w'∧OmG w' g (Ij O k)∧Tn g w w':=by
 obtain ⟨D,h1,h2⟩:=h;obtain ⟨w',ja,h3,h4⟩:=h1.drop (int_keyed Tryz.underlying3) Tryz.underlying148 (JK hk) ty;have hd:=h2.del (h1.tidy (int_keyed Tryz.underlying3)) hk;refine ⟨w',ja,⟨_,?_,hd⟩,h4.grown⟩;have:=Gn h3;rw [hd.size] at this;exact this
end
structure E9 (w0:World) (gP i:Nat) (O:List (Nat × Nat)) (M:Nat→Ent) (w:World):Prop where
 om:OmG w gP O
 at_:∀ j,i≤j→∀ q,look O j=some q→MpG CB w q (M j)
 no:∀ j,i≤j→look O j=none→M j=[]
 inj:∀ j j' q,look O j=some q→look O j'=some q→j=j'
 gp:w0.heap.size≤gP
 ge:∀ j q,look O j=some q→w0.heap.size≤q∧q≠gP∧q<w.heap.size
 bl:Below w0.heap.size w0 w
section
variable {w0 w w':World} {gP i:Nat} {O:List (Nat × Nat)} {M M':Nat→Ent}
theorem E9.ext (h:E9 w0 gP i O M w) (hx:Ext w w'):E9 w0 gP i O M w' where
 om:=h.om.kept (Below.block hx _ h.om.lt)
 at_ j hj q hq:=(h.at_ j hj q hq).kept (Below.block hx _ (h.at_ j hj q hq).lt)
 no:=h.no
 inj:=h.inj
 gp:=h.gp
 ge j q hq:=⟨(h.ge j q hq).1,(h.ge j q hq).2.1,AB (h.ge j q hq).2.2 (Below.size hx)⟩
 bl:=h.bl.trans (Below.mono hx h.bl.size)
theorem E9.inner (h:E9 w0 gP i O M w) {j q:Nat} (hj:look O j=some q) (hm:MpG CB w' q (M' j)) (ht:Tn q w w') (ho:∀ k,k≠j→M' k=M k):E9 w0 gP i O M' w' where
 om:=h.om.kept (ht.block _ h.om.lt fun e=>(h.ge j q hj).2.1 (by injection e with e;exact e.symm))
 at_
   k hk p hp:=by
  by_cases e:k=j
  ·subst e;rw [hj] at hp;cases hp;exact hm
  ·rw [ho k e];have h1:=h.at_ k hk p hp;refine h1.kept (ht.block _ h1.lt fun e2=>e (h.inj k j p hp ?_));injection e2 with e2;rw [hj,← e2]
 no k hk hn:=by
  by_cases e:k=j
  · subst e;rw [hj] at hn;cases hn
  · rw [ho k e];exact h.no k hk hn
 inj:=h.inj
 gp:=h.gp
 ge k p hp:=⟨(h.ge k p hp).1,(h.ge k p hp).2.1,AB (h.ge k p hp).2.2 ht.size⟩
 bl:=h.bl.trans (ht.below (h.ge j q hj).1 h.bl.size)
theorem E9.made (h:E9 w0 gP i O M w) {j:Nat} (hj:look O j=none) (ho:OmG w' gP (Cv O j w.heap.size)) (ht:Tn gP (w.alloc (.map #[] 0)) w'):E9 w0 gP i (Cv O j w.heap.size) M w' where
 om:=ho
 at_
   k hk q hq:=by
  have hx:Ext w (w.alloc (.map #[] 0)):=(Below.refl _ _).alloc (A7 _) _;rw [C7] at hq;by_cases e:j=k
  ·rw [if_pos e] at hq;cases hq;subst e;rw [h.no j hk hj];refine (MpG.new CB w).kept (ht.block _ (by simp) fun e=>?_);injection e with e;have:=h.om.lt;omega
  ·rw [if_neg e] at hq;have h1:=(h.at_ k hk q hq).kept (Below.block hx _ (h.at_ k hk q hq).lt);exact h1.kept (ht.block _ h1.lt fun e2=>(h.ge k q hq).2.1 (by injection e2))
 no k hk hn:=by
  rw [C7] at hn;split at hn
  · cases hn
  · exact h.no k hk hn
 inj
   k k' q hk ja:=by
  rw [C7] at hk ja;split at hk
  ·cases hk;split at ja
   · rename_i e1 e2;exact e1.symm.trans e2
   · exact absurd (h.ge k' _ ja).2.2 (Nat.lt_irrefl _)
  ·split at ja
   · cases ja;exact absurd (h.ge k _ hk).2.2 (Nat.lt_irrefl _)
   · exact h.inj k k' q hk ja
 gp:=h.gp
 ge k q hq:=by
  have hs:w.heap.size<w'.heap.size:=by have:=ht.size;simp only [AA] at this;omega
  rw [C7] at hq;split at hq
  ·cases hq;exact ⟨h.bl.size,fun e=>by have:=h.om.lt;omega,hs⟩
  · have:=h.ge k q hq;exact ⟨this.1,this.2.1,by omega⟩
 bl:=(h.bl.alloc h.bl.size _).trans (ht.below h.gp (by have:=h.bl.size;simp only [AA];omega))
theorem E9.next (h:E9 w0 gP i O M w) (ho:OmG w' gP (Ij O i)) (ht:Tn gP w w'):E9 w0 gP (i+1) (Ij O i) (nextM i M) w' where
 om:=ho
 at_
   k hk q hq:=by
  rw [Ej] at hq;split at hq
  · cases hq
  ·have h1:=h.at_ k (by omega) q hq;have e:nextM i M k=M k:=if_pos (by omega);rw [e];exact h1.kept (ht.block _ h1.lt fun e2=>(h.ge k q hq).2.1 (by injection e2))
 no k hk hn:=by
  have e:nextM i M k=M k:=if_pos (by omega);rw [e];rw [Ej,if_neg (by omega)] at hn;exact h.no k (by omega) hn
 inj
   k k' q hk ja:=by
  rw [Ej] at hk ja;split at hk
  · cases hk
  ·split at ja
   · cases ja
   · exact h.inj k k' q hk ja
 gp:=h.gp
 ge k q hq:=by
  rw [Ej] at hq;split at hq
  · cases hq
  · have:=h.ge k q hq;exact ⟨this.1,this.2.1,AB this.2.2 ht.size⟩
 bl:=h.bl.trans (ht.below h.gp h.bl.size)
end
end Go.Proofs.YthjmdgejnakcmaaGreatDoor
