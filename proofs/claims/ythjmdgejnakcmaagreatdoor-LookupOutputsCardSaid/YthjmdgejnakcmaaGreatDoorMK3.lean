/- Texts that the claims share: K6, K8. -/
import Derived.Deep.LoopGhost
import Derived.Laws.BitsAllLaws
import Derived.Test.YthjmdgejnakcmaaGreatDoorMK2
set_option maxHeartbeats 6400000
set_option maxRecDepth 100000
set_option linter.unusedVariables false
set_option linter.unusedSimpArgs false
namespace Go.Proofs.YthjmdgejnakcmaaGreatDoor
open Go.RowKit Go.WideShapes Fl
theorem QS {R:List Rl} {L:List Slt} {i m C:Nat} {s:Rl} (hF:Io R) (hB:Cq C L) (h:s∈By R L i m):s.frm=(m:Int)∧0≤s.dst∧s.dst<8∧s.inp.size≤4∧0≤s.cost∧s.cost≤1000+4*(C:Int)∧∃ r∈R,s.out=r.out:=by
 obtain ⟨h1,h2⟩:=Al.1 h;obtain ⟨r,k,hr,hk,rfl⟩:=JY.1 h1;have hf:=CY.1 (hF r hr);have hc:=letsC_le (hB.drop i) hk;rw [BZ] at hc;have hc2:r.inp.size*C≤4*C:=Nat.mul_le_mul_right C hf.2.2.2.2.1;refine ⟨of_decide_eq_true h2,hf.2.2.1,hf.2.2.2.1,hf.2.2.2.2.1,?_,?_,r,hr,rfl⟩
 · show 0≤r.cost+(k:Int);omega
 · show r.cost+(k:Int)≤_;omega
theorem B3 {w:World} {g:Nat} {a b:Int} {t:TypeId} (h:w.heap[g]? = some (.cells #[.int .i64 a,.int .i64 b] t (0,0))):w.cell? ⟨g,0,none⟩=some (.int .i64 a)∧w.cell? ⟨g,1,none⟩=some (.int .i64 b):=by
 refine ⟨?_,?_⟩ <;> (rw [cell_of_row w g _ _ _ (0,0) h];rfl)
structure UD (R:List Rl) (L:List Slt) (T:List Bn) (i B0 D B:Nat) (gm:Nat→Nat) (M:Nat→Ent) (w w':World) (M':Nat→Ent):Prop where
 vx:VX w B gm i M' w'
 inv:Inv R L (folT T) i M'
 shut:∀ t,Shut R L (folT T) i M' t
 bnd:Bnd T.length i B0 D M'
 out:∀ j,¬ (i≤j∧j<i+5)→M' j=M j
structure VQ (w2:World) (B:Nat) (gm:Nat→Nat) (i:Nat) (M0 M:Nat→Ent) (q:List Stt) (v:Value) (w:World):Prop where
 vx:VX w2 B gm i M w
 own:As Gy w w2.heap.size v q
 out:∀ j,¬ (i≤j∧j<i+5)→M j=M0 j
theorem VQ.ext {w2 w w':World} {B i:Nat} {gm:Nat→Nat} {M0 M:Nat→Ent} {q:List Stt} {v:Value} (h:VQ w2 B gm i M0 M q v w) (hx:Ext w w') (hB:B≤w2.heap.size):VQ w2 B gm i M0 M q v w' :=
 ⟨h.vx.ext hx hB,h.own.later hx (A7 _),h.out⟩
def GW (w14:World) (g:Nat) (t:Stt) (E:Ent) (c:Nat) (b:Bool) (W:World):Prop:=match b with | false=>Ext w14 W | true=>Eu w14 W g t E c
theorem GW.kp {w14 W:World} {g:Nat} {t:Stt} {E:Ent} {c:Nat} (hm:MpG CA w14 g E):∀ {b:Bool},GW w14 g t E c b W→Kc w14 W
 | false,h=>Kc.of h (A7 _)
 | true,h=>Eu.kp h hm
section
variable {w w':World} {gx:Nat} {acc:Int} {aR:Option Addr} {nR cR:Nat} {aT:Option Addr} {nT cT:Nat} {aL:Option Addr} {nL cL:Nat} {gm:Nat→Nat}
theorem svisit_any (
          R
           :
            List Rl) (L:List Slt) (T:List Bn) (C i B0 D B:Nat) (M:Nat→Ent) (hx:SX w gx acc aR nR cR aT nT cT aL nL cL gm) (hR:BL w aR R) (YE:nR=R.length) (YC:nR≤1000) (hF:Io R) (hO:∀ r∈R,r.out.size≤1000000)
  (hL:Dc w aL L) (hn:nL=L.length) (hnl:nL≤100000) (hi:i≤L.length) (y6:Cq C L) (hC:C≤1000000) (hT:Dz w aT T) (YF:nT=T.length) (hTl:nT≤100000) (y9:SJ T)
  (hG:UC B gm) (y7:B≤w.heap.size) (hm:∀ j,i≤j→j<i+5→MpG CA w (gm (j % 5)) (M j)) (kU:Inv R L (folT T) i M) (hb:Bnd T.length i B0 D M) (hD:1000+4*C≤D) (Jx:8*T.length*(B0+(8*T.length+1)*D+2)≤900000000000) (hT0:0<T.length) :
  Calls Tryz.prog 33 #[.pointer (some ⟨gx,0,none⟩),.int .i64 (i:Int)] w fun e w'=>e=.returned (.tuple #[])∧∃ M',UD R L T i B0 D B gm M w w' M':=by
 subst hn YE YF;have HX:=A6 hx;have HR:=A6 hR;have HF:=A6 hF;have HO:=A6 hO;have HL:=A6 hL;have yP:=A6 y6;have HT:=A6 hT;have yW:=A6 y9;have HG:=A6 hG;have HM:=A6 hm;have ye:=A6 kU;have kd:=A6 hb;have yR:=A6 Jx;have hgx:=hx.lt;clear hx hR hF hO hL y6 hT y9 hG hm kU hb Jx;have jQ:=steps_any R L C i HX.out HR.out rfl YC HF.out HL.out rfl (by omega) hi yP.out hC;have kj:=A6 jQ;clear jQ
 go_enter Tryz.func33,Tryz.ntmps33
 go_wp2_with fail
 refine kj.out.mono ?_;rintro e w1 ⟨⟨va,vc,he,kr⟩,k7⟩;obtain ⟨F,yn⟩:∃ F,By R L i=F:=⟨_,rfl⟩
 rw [yn] at he kr;obtain rfl:e=.returned (.agg #[.slice (va 0) (F 0).length (vc 0),.slice (va 1) (F 1).length (vc 1),.slice (va 2) (F 2).length (vc 2),.slice (va 3) (F 3).length (vc 3),.slice (va 4) (F 4).length (vc 4),.slice (va 5) (F 5).length (vc 5),.slice (va 6) (F 6).length (vc 6),.slice (va 7) (F 7).length (vc 7)]):=he;have yT:=A6 yn;clear yn;have Yy:=A6 kr;have yM:=A6 k7;clear kr k7
 go_upto_region 1 with fail
 obtain ⟨g4,ka⟩:∃ g4,w1.heap.size=g4:=⟨_,rfl⟩
 obtain ⟨w2,k2⟩:∃ w2,w1.alloc (.cells #[.slice (va 0) (F 0).length (vc 0),.slice (va 1) (F 1).length (vc 1),.slice (va 2) (F 2).length (vc 2),.slice (va 3) (F 3).length (vc 3),.slice (va 4) (F 4).length (vc 4),.slice (va 5) (F 5).length (vc 5),.slice (va 6) (F 6).length (vc 6),.slice (va 7) (F 7).length (vc 7)] 125)=w2:=⟨_,rfl⟩
 rw [k2,ka];have yV:Hid (w2.heap[g4]? = some (.cells (st8 (slV va vc F)) 125 (0,0))):=by
  show _=_;rw [← k2,← ka];exact heap_alloc_new _ _
 have kJ:Hid (Below w1.heap.size w1 w2):=by
  show Below _ _ _;rw [← k2];exact (Below.refl _ _).alloc (A7 _) _
 have k3:Hid (Below w.heap.size w w2):=yM.out.trans (kJ.out.mono yM.out.size);have k4:Hid (Kc w w2):=Kc.of k3.out (A7 _);have yl:Hid (∀ m,m<8→BL w2 (va m) (F m)):=fun m hm=>BL.later (Yy.out m hm) kJ.out (A7 _);have yY:Hid (∀ j,i≤j→j<i+5→MpG CA w2 (gm (j % 5)) (M j)):=fun j h1 h2=>(HM.out j h1 h2).kept (k3.out.block _ (HM.out j h1 h2).lt);have jU:B≤w2.heap.size:=AC y7 k3.out.size;obtain ⟨jh,k8⟩:∃ jh,i % 5=jh:=⟨_,rfl⟩
 have Yu:=A6 k8;have yE:=yY.out i (A7 _) (by omega);rw [k8] at yE;have Yw:=A6 yE;have Yc:=Fi i jh (by omega) k8 (HX.out.kp k4.out);have Yo:=A6 Yc;have kf:Hid ((M i).length≤8*T.length):=kd.out.len i;clear ka k2 k8 yE Yc
 go_wp2_with fail
 refine Yo.out.mono ?_;rintro e w2' ⟨rfl,rfl⟩
 go_wp2_with (at_range;refine D1 Ct Yw.out rfl _ rfl rfl ?_;intro w3 k0 Yd Yn)
 go_frame;have yk:=A6 k0;have Yp:=A6 Yd;have HS3:=A6 Yn;clear k0 Yd Yn
 go_loopg [6] (M i).length (fun g v6 wr=>∃ (q:List Stt) (rest:List (Stt × Nat)),As Gy wr w2.heap.size v6 q∧RgG CA wr (gm jh) w2.heap.size (M i) rest∧rest.length=g∧q.length+rest.length≤(M i).length∧rest.Nodup∧(∀ t,t∈q↔∃ c,(t,c)∈M i∧(t,c) ∉ rest)∧Below w2.heap.size w2 wr)
 case atStart =>
  refine ⟨[],M i,As.nil _ _ _,yk.out,rfl,by simp,?_,fun t=>?_,Yp.out⟩
  · exact (Ai.1 ((EO _).1 (kd.out.keys i))).imp fun YG e=>YG (by rw [e])
  · simp
 case round =>
  obtain ⟨q,rest,kq,Ym,kb,kV,Yj,hq,yp⟩:=hrel;obtain ⟨qa,qc,YH, -, -⟩:=kq.form;subst YH;have k6:=A6 kq;have yj:=A6 Ym;have kg:=A6 kV;have Yx:=A6 Yj;have HQ:=A6 hq;have yO:=A6 yp;have Yt:=A6 kb;have hz3:=yp.size;clear kq Ym kV Yj hq yp kb
  go_wp2_with (at_next;refine wpList_next_g Ct yj.out rfl _ rfl rfl ?_ ?_)
  ·intro
      h0
   have jS:Vis R L (folT T) i T.length B0 D q 0 M:=DT.start ye.out kd.out fun t=>by
    rw [HQ.out,h0];constructor
    · rintro ⟨c,h1,_⟩;exact ⟨c,Bd (kd.out.keys i) h1⟩
    · rintro ⟨c,h1⟩;exact ⟨c,C6 h1,List.not_mem_nil⟩
   have jV:VQ w2 B gm i M M q (.slice qa q.length qc) wr:=⟨(VX.refl yY.out).ext yO.out jU,k6.out,fun _ _=>rfl⟩
   have jl:=A6 jS;have jG:=A6 jV;obtain ⟨Cm,kL⟩:∃ Cm,B0+(8*T.length+1)*D=Cm:=⟨_,rfl⟩
   have kc:q.length+pot T.length Cm (M i)≤999999999999:=by
    have h1:pot T.length Cm (M i)≤8*T.length*(Cm+1):=RF (kd.out.keys i) (kd.out.rng i) fun p hp=>by
     have h2:=kd.out.here p hp;have h3:(M i).length*D≤8*T.length*D:=Nat.mul_le_mul_right D kf.out;rw [← kL,Nat.add_mul];omega
    have h4:=kg.out;have h5:=yR.out;rw [kL] at h5;have h6:8*T.length*(Cm+2)=8*T.length*(Cm+1)+8*T.length:=by rw [show Cm+2=(Cm+1)+1 by omega,Nat.mul_add,Nat.mul_one]
    have:=kf.out;omega
   have hCmb:Cm≤900000000000:=by
    have h5:=yR.out;rw [kL] at h5;have h6:1*(Cm+2)≤8*T.length*(Cm+2):=Nat.mul_le_mul_right _ (by omega);omega
   have Yr:=A6 kL;have jF:=A6 kc;clear h0 jS jV kL kc
   go_wp2_with fail
   go_loopg [6,8] (q.length+pot T.length Cm (M i)) (fun g v6 v8 wr=>∃ (n:Nat) (q:List Stt) (M':Nat→Ent),v8=.int .i64 (n:Int)∧n≤q.length∧VQ w2 B gm i M M' q v6 wr∧Vis R L (folT T) i T.length B0 D q n M'∧(q.length - n)+pot T.length Cm (M' i)=g∧q.length+pot T.length Cm (M' i)≤999999999999)
   case atStart=>exact ⟨0,q,M,rfl,Nat.zero_le _,jG.out,jl.out,rfl,jF.out⟩
   case round =>
    clear jG jl jF;obtain ⟨n,q2,M2,rfl,hn,jV,jS,kb,kZ⟩:=hrel;obtain ⟨qa2,qc2,yG, -, -⟩:=jV.own.form;subst yG;have jG:=A6 jV;have jl:=A6 jS;have yd:=A6 kb;have jF:=A6 kZ;clear jV jS kb kZ;have hnb:n≤999999999999:=by have:=jF.out;omega
    by_cases kv:n<q2.length
    ·obtain ⟨
         bq,
           hbq,hbq1,hbq2,q0,q1⟩:=jG.out.own.stt kv
     subst hbq;obtain ⟨ct,kN⟩:=jl.out.qs q2[n] (AO kv);have yK:=jl.out.bnd.rng i _ (C6 kN);have kP:=jl.out.enter kv rfl kN;have yr:=jl.out.bnd.here_le kN;obtain ⟨t,ht⟩:∃ t,q2[n]=t:=⟨_,rfl⟩
     rw [ht] at q0 q1 kN yK kP;obtain ⟨m,nd⟩:=t;simp only at q0 q1 yK;obtain ⟨Yh,kW⟩:=yK;have yA:=TU bq q2.length qc2 n kv;have Ys:=A6 kP;have j4:wr.cell? ⟨g4,m,none⟩=some (.slice (va m) (F m).length (vc m)):=jG.out.vx.kp.cell (by rw [cell_of_row w2 g4 _ _ _ (0,0) yV.out,MD _ Yh];rfl);have yv:g4<wr.heap.size:=AB (A9.1 yV.out).1 jG.out.vx.kp.size;have hm8I:(m:Int)<8:=by omega
     have hm0I:(0:Int)≤(m:Int):=by omega
     have YB:(F m).length≤1000:=by
      have:=KA (R:=R) (L:=L) (i:=i) (m:=m);rw [yT.out] at this;omega
     have hct3:ct+D≤Cm:=by
      have h1:=Yr.out;rw [Nat.add_mul] at h1;omega
     obtain ⟨Fm,yo⟩:∃ Fm,F m=Fm:=⟨_,rfl⟩
     have kr:=yl.out m Yh;rw [yo] at j4 YB kr;have yZ:=A6 kr;have yU:Hid (By R L i m=Fm):=by show _=_;rw [yT.out,yo]
     obtain ⟨am,Yb⟩:∃ am,va m=am:=⟨_,rfl⟩
     obtain ⟨cm,Yg⟩:∃ cm,vc m=cm:=⟨_,rfl⟩
     rw [Yb] at j4 yZ;rw [Yg] at j4;have HQT:=A6 ht;clear kN kP yr ht yo Yb Yg kr
     go_upto_region 12 with fail
     obtain ⟨w9,yb⟩:∃ w9,wr.alloc (.cells #[.int .i64 (m:Int),.int .i64 (nd:Int)] 124)=w9:=⟨_,rfl⟩
     rw [yb];have YA:Hid (Ext wr w9):=by
      show Ext _ _;rw [← yb];exact (Below.refl _ _).alloc (A7 _) _
     have yQ:Hid (w9.heap[wr.heap.size]? = some (.cells #[.int .i64 (m:Int),.int .i64 (nd:Int)] 124 (0,0))):=by
      show _=_;rw [← yb];exact heap_alloc_new _ _
     have ym:=A6 (jG.out.ext YA.out jU);have jT:Hid ((.slice (some ⟨bq,0,none⟩) q2.length qc2:Value).ownBlock≠some wr.heap.size):=fun e=>by
      have:=jG.out.own.lt _ e;omega
     obtain ⟨g9,kS⟩:∃ g9,wr.heap.size=g9:=⟨_,rfl⟩
     rw [kS] at yQ jT ⊢;clear yb kS q0 q1 yA j4 yv hbq1 hbq2
     go_loopg [6,46] Fm.length (fun g v6 v46 wr=>∃ (k:Nat) (q3:List Stt) (M3:Nat→Ent),v46=.int .i64 (k:Int)∧k≤Fm.length∧g=Fm.length - k∧VQ w2 B gm i M M3 q3 v6 wr∧DT R L (folT T) i T.length B0 D q3 n M3 (m,nd) ct (Fm.take k)∧q3.length+pot T.length Cm (M3 i)≤q2.length+pot T.length Cm (M2 i)∧n<q3.length∧wr.heap[g9]? = some (.cells #[.int .i64 (m:Int),.int .i64 (nd:Int)] 124 (0,0))∧v6.ownBlock≠some g9)
     case atStart=>exact ⟨0,q2,M2,rfl,Nat.zero_le _,rfl,ym.out,Ys.out,A7 _,kv,yQ.out,jT.out⟩
     case round =>
      obtain ⟨k,q3,M3,rfl,hk,kb,jV,kw,Yk,kn,kS,Yi⟩:=hrel;obtain ⟨qa3,qc3,yH, -, -⟩:=jV.own.form;subst yH;have jm:=A6 jV;have jL:=A6 kw;have jZ:=A6 Yk;have jE:=A6 kb;have kD:=A6 kS;have jT:=A6 Yi;clear jV kw Yk kb kS Yi;by_cases k9:k<Fm.length
      ·have ya:Fm[k]∈By R L i m:=by rw [yU.out];exact AO k9
       obtain ⟨yu,ys,yt,kT,Ye,yq,r,Yl,yJ⟩:=QS HF.out yP.out ya;have ko:Fm[k].out.size≤1000000:=by rw [yJ];exact HO.out r Yl
       obtain ⟨b1,o1,Ya,k7,r0,r1,r2,r3,r4⟩:=(BL.kp yZ.out jm.out.vx.kp).at k9;have YD:=Bp am b1 o1 Fm.length cm k Ya k9;have yL:Fm.take (k+1)=Fm.take k ++ [Fm[k]]:=AZ k9;obtain ⟨s,hs⟩:∃ s,Fm[k]=s:=⟨_,rfl⟩
       rw [hs] at ya yu ys yt kT Ye yq yJ ko r0 r1 r2 r3 r4 yL;obtain ⟨frm,dst,inp,out,cost⟩:=s;simp only at yu ys yt kT Ye yq ko r0 r1 r2 r3 r4;obtain ⟨d0,rfl⟩:∃ d0:Nat,dst=(d0:Int):=⟨dst.toNat,by omega⟩
       obtain ⟨c0,rfl⟩:∃ c0:Nat,cost=(c0:Int):=⟨cost.toNat,by omega⟩
       have y5:=A6 ya;have ku:=A6 yL;have kO:d0<8:=by omega
       have kM:c0≤D:=by omega
       clear ya yu ys yt yJ Ya hs yL Yl yq
       go_upto_region 14 with fail
       obtain ⟨w11,j7⟩:∃ w11,wr.alloc (.cells #[.int .i64 frm,.int .i64 (d0:Int),.string inp,.string out,.int .i64 (c0:Int)] 64)=w11:=⟨_,rfl⟩
       rw [j7];have j1:Hid (Ext wr w11):=by
        show Ext _ _;rw [← j7];exact (Below.refl _ _).alloc (A7 _) _
       have jD:Hid (w11.heap[wr.heap.size]? = some (.cells #[.int .i64 frm,.int .i64 (d0:Int),.string inp,.string out,.int .i64 (c0:Int)] 64 (0,0))):=by
        show _=_;rw [← j7];exact heap_alloc_new _ _
       obtain ⟨g11,kQ⟩:∃ g11,wr.heap.size=g11:=⟨_,rfl⟩
       rw [kQ] at jD ⊢;have yX:Hid (Kc w w11):=(k4.out.trans jm.out.vx.kp).trans (Kc.of j1.out (A7 _));obtain ⟨y0,y1,y2,y3,y4⟩:=B9 jD.out;have yc:Hid (w11.heap[g9]? = some (.cells #[.int .i64 (m:Int),.int .i64 (nd:Int)] 124 (0,0))):=(Kc.of j1.out (A7 _)).block _ _ _ _ kD.out;obtain ⟨x0,x1⟩:=B3 yc.out;have kk:=follow_any T nd out (HX.out.kp yX.out) (HT.out.kp yX.out) rfl (by omega) kW ko yW.out;obtain ⟨lf,yC⟩:∃ lf,folT T nd (bts out)=lf:=⟨_,rfl⟩
       have kh:=A6 yC;rw [yC] at kk;have kB:=A6 kk;clear j7 kQ kk yC r0 r1 r2 r3 r4 YD k7;cases lf with
       | none =>
        go_wp2_with fail
        refine kB.out.mono ?_;rintro e w12 ⟨he,jx⟩;obtain rfl:e=_:=he;have ke:Hid (Ext wr w12):=Ext.trans j1.out jx;obtain ⟨z0,z1,z2,z3,z4⟩:=B9 ((jx.block g11 (A9.1 jD.out).1).trans jD.out);have yS:Hid (∀ o,Ext wr (w12.alloc o)):=fun o=>Ext.trans ke.out ((Below.refl _ _).alloc (A7 _) _);clear jx x0 x1 y0 y1 y2 y3 y4
        go_wp2_with fail
        go_roundg (Fm.length - (k+1))
        case measure=>have:=jE.out;omega
        case rel=>exact ⟨k+1,q3,M3,by go_num,by omega,rfl,jm.out.ext (yS.out _) jU,by rw [ku.out];exact jL.out.skip kh.out,jZ.out,kn,(Kc.of (yS.out _) (A7 _)).block _ _ _ _ kD.out,jT.out⟩
       | some n2
            =>
        have Kq:n2<T.length:=PG yW.out kW kh.out
        go_wp2_with fail
        refine kB.out.mono ?_;rintro e w12 ⟨he,jx⟩;obtain rfl:e=_:=he;have ke:Hid (Ext wr w12):=Ext.trans j1.out jx;have jH:Hid (w12.heap[g11]? = some (.cells #[.int .i64 frm,.int .i64 (d0:Int),.string inp,.string out,.int .i64 (c0:Int)] 64 (0,0))):=(jx.block g11 (A9.1 jD.out).1).trans jD.out;obtain ⟨z0,z1,z2,z3,z4⟩:=B9 jH.out;clear jx x0 x1 y0 y1 y2 y3 y4
        go_upto_region 16 with fail
        obtain ⟨w14,j8⟩:∃ w14,w12.alloc (.cells #[.int .i64 (d0:Int),.int .i64 (n2:Int)] 124)=w14:=⟨_,rfl⟩
        rw [j8];have Ji:Hid (Ext w12 w14):=by
         show Ext _ _;rw [← j8];exact (Below.refl _ _).alloc (A7 _) _
        have jt:Hid (w14.heap[w12.heap.size]? = some (.cells #[.int .i64 (d0:Int),.int .i64 (n2:Int)] 124 (0,0))):=by
         show _=_;rw [← j8];exact heap_alloc_new _ _
        obtain ⟨g14,kR⟩:∃ g14,w12.heap.size=g14:=⟨_,rfl⟩
        rw [kR] at jt ⊢;have jI:Hid (Ext wr w14):=Ext.trans ke.out Ji.out;have jW:Hid (Kc w w14):=(k4.out.trans jm.out.vx.kp).trans (Kc.of jI.out (A7 _));have jq:Hid (w14.heap[g11]? = some (.cells #[.int .i64 frm,.int .i64 (d0:Int),.string inp,.string out,.int .i64 (c0:Int)] 64 (0,0))):=(Below.block Ji.out g11 (A9.1 jH.out).1).trans jH.out;have jr:Hid (w14.heap[g9]? = some (.cells #[.int .i64 (m:Int),.int .i64 (nd:Int)] 124 (0,0))):=(Kc.of jI.out (A7 _)).block _ _ _ _ kD.out;have jf:=A6 (jm.out.ext jI.out jU);have kE:=A6 jL.out.here;obtain ⟨jn,yB⟩:∃ jn,(i+inp.size) % 5=jn:=⟨_,rfl⟩
        have kt:=A6 yB;have yF:=jf.out.vx.maps (i+inp.size) (by omega) (by omega);have yD:=jf.out.vx.maps i (A7 _) (by omega);rw [yB] at yF;rw [Yu.out] at yD;have ju:=A6 yF;have j9:=A6 yD;have k5:Hid ((M3 (i+inp.size)).length<1000000):=by show _<_;have:=jL.out.bnd.len (i+inp.size);omega
        have jY:Hid (CA.ok (m,nd)):=⟨by show m<1000000;omega,by show nd<1000000;omega⟩
        have jX:Hid (CA.ok (d0,n2)):=⟨by show d0<1000000;omega,by show n2<1000000;omega⟩
        obtain ⟨z0',z1',z2',z3',z4'⟩:=B9 jq.out;obtain ⟨x0',x1'⟩:=B3 jr.out;obtain ⟨u0',u1'⟩:=B3 jt.out;clear j8 kR yB yF yD z0 z1 z2 z3 z4;have hw1:IntKind.i64.wrap ((i:Int)+(inp.size:Int))=(i:Int)+(inp.size:Int):=IntWalk.i64_in _ (by omega);have k2:IntKind.i64.wrap ((ct:Int)+(c0:Int))=(ct:Int)+(c0:Int):=IntWalk.i64_in _ (by omega);have j2:=TT d0 n2 m nd;by_cases hz:inp.size=0
        ·have YI:(
               (inp.size:Int) == 0)=true:=by rw [hz];rfl
         by_cases hs:(d0,n2)=(m,nd)
         ·have kI:Hid (DT R L (folT T) i T.length B0 D q3 n M3 (m,nd) ct (Fm.take k ++ [⟨frm,(d0:Int),inp,out,(c0:Int)⟩])):=jL.out.same (n':=n2) (old:=ct) kh.out (by show look (M3 (i+inp.size)) (d0,n2)=_;rw [hz,hs];exact kE.out) (Nat.le_add_right _ _);have k1:decide ((d0,n2)=(m,nd))=true:=decide_eq_true hs;rw [k1] at j2;clear k1 hz hs
          go_wp2_with fail
          go_roundg (Fm.length - (k+1))
          case measure=>have:=jE.out;omega
          case rel=>exact ⟨k+1,q3,M3,by go_num,by omega,rfl,jf.out,by rw [ku.out];exact kI.out,jZ.out,kn,jr.out,jT.out⟩
         ·have k1:decide ((d0,n2)=(m,nd))=false:=decide_eq_false hs;rw [k1] at j2;have HZ:=A6 hz;have yf:Hid (inp.size=0→(d0,n2)≠(m,nd)):=fun _=>hs;clear k1 hz hs
          go_wp2_with fail
          clear j2 x0' x1' u0' u1' z0' z1' z2' z3' z4';obtain ⟨po,j6⟩:∃ po,look (M3 (i+inp.size)) (d0,n2)=po:=⟨_,rfl⟩
          by_cases jy:∃ old,po=some old∧old≤ct+c0
          ·obtain ⟨old,rfl,kX⟩:=jy;have kG:=A6 j6;have kF:=A6 kX;have kI:Hid (DT R L (folT T) i T.length B0 D q3 n M3 (m,nd) ct (Fm.take k ++ [⟨frm,(d0:Int),inp,out,(c0:Int)⟩])):=jL.out.same (n':=n2) (old:=old) kh.out kG.out kF.out;clear j6 kX;refine B4 (by kernel_rfl) (Vs [vq (.pointer (some ⟨gx,0,none⟩)),vq (.int .i64 (i:Int)),vq (.pointer (some ⟨g11,2,none⟩)),vq (.string inp),vq (.int .i64 (inp.size:Int)),vq (.int .i64 ((i:Int)+(inp.size:Int))),vq (.agg #[.int .i64 (d0:Int),.int .i64 (n2:Int)]),vq (.map (some (gm jh))),vq (.agg #[.int .i64 (m:Int),.int .i64 (nd:Int)]),vq (.int .i64 (ct:Int)),vq (.pointer (some ⟨g11,4,none⟩)),vq (.int .i64 (c0:Int)),vq (.int .i64 ((ct:Int)+(c0:Int))),vq (.bool false),vq (.bool false),vq (undef),vq (undef),vq (undef),vq (undef),vq (.bool false)]) (Xs []) (fun fL=>(fun W=>Ext w14 W) ) [0,0,0,4,12,30,0,0,0,384,0,1024,3968,8191,16383,32767,65535,131071,262143,524287] 101 20 (by kernel_rfl) rfl ?hV ?hS ?hop ?hfin ?hlast
           case hV =>
            refine BC (Av (by simp only [Aj,List.not_mem_nil,or_false,forall_eq_or_imp,forall_eq];and_intros <;> exact An _)) ?_;exact trivial
           case hS =>
            intro fL hf;show (fun W=>Ext w14 W)  _
            first | exact Ext.refl _ | exact Bh _
           case hop =>
            refine ⟨?_,?_,?_,?_,?_,?_,?_,?_,?_,?c9,?_,?_,?_,?c13,?_,?_,?_,?_,?_,?_,trivial⟩
            all_goals first | rw [if_neg (by decide)] | rw [if_pos (by decide)]
            all_goals try intro ac W fL je jo j5 j3 jb jd ja jz
            all_goals try have hS:(fun W=>Ext w14 W)  W:=jb
            all_goals try (
             have jp:Kc w14 W:=Kc.of jb (A7 _);obtain ⟨z0,z1,z2,z3,z4⟩:=B9 (jp.block _ _ _ _ jq.out);obtain ⟨x0,x1⟩:=B3 (jp.block _ _ _ _ jr.out);obtain ⟨u0,u1⟩:=B3 (jp.block _ _ _ _ jt.out);clear jp)
            all_goals try have yw:=gdA ac 0 (.pointer (some ⟨gx,0,none⟩)) (ja 0 (by kernel_rfl))
            all_goals try have yx:=gdA ac 1 (.int .i64 (i:Int)) (ja 1 (by kernel_rfl))
            all_goals try have yy:=gdA ac 5 (.map (some (gm jh))) (ja 5 (by kernel_rfl))
            all_goals try have yz:=gdA ac 9 (.pointer (some ⟨g9,0,none⟩)) (ja 9 (by kernel_rfl))
            all_goals try have kl:=gdA ac 11 (.pointer (some ⟨g11,0,none⟩)) (ja 11 (by kernel_rfl))
            all_goals try have km:=gdA ac 14 (.pointer (some ⟨g14,0,none⟩)) (ja 14 (by kernel_rfl))
            all_goals try (have jd:=DN jd;simp [D8,Aq,vq] at jd)
            all_goals try clear ja j5 j3 jz
            case c9 =>
             have jw:(fun W=>Ext w14 W)  W:=jb;have jj:=(j9.out.kept (Below.block hS _ j9.out.lt)).look Ct (x:=(m,nd)) jY.out;rw [kE.out] at jj;simp only [CA,EH,Option.getD] at jj;refine Ao rfl (.inl ⟨_,W,?_,rfl,Ext.refl _,jw⟩);clear je hS jb jw jo;simp [go_sem,Act.eval, *]
            case c13 =>
             have jw:(fun W=>Ext w14 W)  W:=jb;have jc:=RI (i+inp.size) jn d0 n2 (ct+c0) (M3 (i+inp.size)) (by omega) kt.out ((HX.out.kp jW.out).kp (Kc.of hS (A7 _))) (ju.out.kept (Below.block hS _ ju.out.lt)) jX.out k5.out (by omega) old kG.out kF.out;rw [show ((i+inp.size:Nat):Int)=(i:Int)+(inp.size:Int) by omega,show ((ct+c0:Nat):Int)=(ct:Int)+(c0:Int) by omega] at jc;refine Ao rfl (.inr ⟨64,#[.pointer (some ⟨gx,0,none⟩),.int .i64 ((i:Int)+(inp.size:Int)),.agg #[.int .i64 (d0:Int),.int .i64 (n2:Int)],.int .i64 ((ct:Int)+(c0:Int))],W,by (clear je hS jb jw jo jc;simp [go_sem,Act.eval, *]),?_⟩);refine jc.mono ?_;rintro e w' ⟨rfl,hp⟩;exact ⟨_,rfl,⟨rfl,hp,Ext.trans jb hp⟩⟩
            all_goals try exact C2 (j:=14) (d:=90) (b:=false) rfl (by kernel_rfl) (by simp only [jd]) rfl ⟨rfl,jb⟩
            all_goals (refine Ao rfl (.inl ⟨_,W,?_,rfl,Ext.refl _,jb⟩);clear je hS jb jo;simp [go_sem,Act.eval, *];done)
           case hlast =>
            intro h;exact absurd rfl h
           case hfin =>
            intro _ ac W je jM fL hf jb hv ja;have hS:(fun W=>Ext w14 W)  W:=jb;clear jb;obtain ⟨sx,jR,jP⟩:=Aw [76,77,78,79,80,81,82,83,84,85,86,87,88,89,90,91,92,93,94,95] (by kernel_rfl) je jM ja;have e95:sx 95=.bool false:=(jR 95).trans (hv 19 (by decide));rw [jP];simp only [List.foldl];rw [e95];clear e95;simp only [Act.put,List.setIfInBounds_toArray,List.set_cons_succ,List.set_cons_zero];clear jP jR hv ja je jM hf;have kz:Hid (Ext wr W):=Ext.trans jI.out hS;clear hS
            go_wp2_with fail
            go_roundg (Fm.length - (k+1))
            case measure=>have:=jE.out;omega
            case rel=>exact ⟨k+1,q3,M3,by go_num,by omega,rfl,jm.out.ext kz.out jU,by rw [ku.out];exact kI.out,jZ.out,kn,(Kc.of kz.out (A7 _)).block _ _ _ _ kD.out,jT.out⟩
          ·have ki:Hid (∀ x,look (M3 (i+inp.size)) (d0,n2)=some x→ct+c0<x):=fun x hx=>by
            rw [j6] at hx;exact Nat.lt_of_not_le fun h9=>jy ⟨x,hx,h9⟩
           have jc:DT R L (folT T) i T.length B0 D (if inp.size=0 then q3 ++ [(d0,n2)] else q3) n (Bt M3 (i+inp.size) (d0,n2) (ct+c0)) (m,nd) ct (Fm.take k ++ [⟨frm,(d0:Int),inp,out,(c0:Int)⟩]):=jL.out.put (m:=d0) y5.out HF.out kh.out Kq kM rfl kn ki.out yf.out;have jO:=KB (q:=q3) (C:=Cm) (j:=i+inp.size) (c:=ct+c0) jL.out.bnd (by omega) kO Kq (by omega) ki.out;rw [if_pos HZ.out] at jc;rw [if_pos (by have:=HZ.out;omega)] at jO;rw [Nat.add_comm] at jO;rw [Nat.add_comm (pot T.length Cm (M3 i))] at jO;have yi:=A6 jc;have yh:=A6 jO;clear j6 jy jc jO;refine B4 (by kernel_rfl) (Vs [vq (.pointer (some ⟨gx,0,none⟩)),vq (.int .i64 (i:Int)),vq (.pointer (some ⟨g11,2,none⟩)),vq (.string inp),vq (.int .i64 (inp.size:Int)),vq (.int .i64 ((i:Int)+(inp.size:Int))),vq (.agg #[.int .i64 (d0:Int),.int .i64 (n2:Int)]),vq (.map (some (gm jh))),vq (.agg #[.int .i64 (m:Int),.int .i64 (nd:Int)]),vq (.int .i64 (ct:Int)),vq (.pointer (some ⟨g11,4,none⟩)),vq (.int .i64 (c0:Int)),vq (.int .i64 ((ct:Int)+(c0:Int))),vq (.bool true),vq (.bool true),vq (.pointer (some ⟨g11,2,none⟩)),vq (.string inp),vq (.int .i64 (inp.size:Int)),vq (.bool true),vq (.bool true)]) (Xs [Ext,Ext,Ext,Ext,Ext,Ext,Ext,Ext,Ext,Ext,Ext,Ext,Ext,(fun _ _=>True),Ext,Ext,Ext,Ext,Ext,Ext]) (fun fL=>(GW w14 (gm jn) (d0,n2) (M3 (i+inp.size)) (ct+c0)) (fL 13)) [0,0,0,4,12,30,0,0,0,384,0,1024,3968,8191,16383,32767,65535,131071,262143,524287] 101 20 (by kernel_rfl) rfl ?hV ?hS ?hop ?hfin ?hlast
           case hV =>
            refine BC (Av (by simp only [Aj,List.not_mem_nil,or_false,forall_eq_or_imp,forall_eq];and_intros <;> exact An _)) ?_;exact ⟨.inl rfl,.inl rfl,.inl rfl,.inl rfl,.inl rfl,.inl rfl,.inl rfl,.inl rfl,.inl rfl,.inl rfl,.inl rfl,.inl rfl,.inl rfl,.inr (BO ⟨fun _ _=>fun _ _ _ h _=>h,fun _ _=>fun _ _ _ h _=>h,fun _ _=>fun _ _ _ h _=>h,fun _ _=>fun _ _ _ h _=>h,fun _ _=>fun _ _ _ h _=>h,fun _ _=>fun _ _ _ h _=>h,fun _ _=>fun _ _ _ h _=>h,fun _ _=>fun _ _ _ h _=>h,fun _ _=>fun _ _ _ h _=>h,fun _ _=>fun _ _ _ h _=>h,fun _ _=>fun _ _ _ h _=>h,fun _ _=>fun _ _ _ h _=>h,fun _ _=>fun _ _ _ h _=>h,fun h=>absurd rfl h,fun _ h=>absurd h (by decide),fun _ h=>absurd h (by decide),fun _ h=>absurd h (by decide),fun _ h=>absurd h (by decide),fun _ h=>absurd h (by decide),fun _ h=>absurd h (by decide),trivial⟩),.inl rfl,.inl rfl,.inl rfl,.inl rfl,.inl rfl,.inl rfl,trivial⟩
           case hS =>
            intro fL hf;show (GW w14 (gm jn) (d0,n2) (M3 (i+inp.size)) (ct+c0)) (fL 13) _;rw [hf 13 (by decide)]
            first | exact Ext.refl _ | exact Bh _
           case hop =>
            refine ⟨?_,?_,?_,?_,?_,?_,?_,?_,?_,?c9,?_,?_,?_,?c13,?_,?_,?_,?_,?_,?_,trivial⟩
            all_goals first | rw [if_neg (by decide)] | rw [if_pos (by decide)]
            all_goals try intro ac W fL je jo j5 j3 jb jd ja jz
            all_goals try have hS:(GW w14 (gm jn) (d0,n2) (M3 (i+inp.size)) (ct+c0)) (fL 13) W:=jb
            all_goals try (have jg:fL 13=true:=j5 13 (by decide);rw [jg] at hS)
            all_goals try (have jg:fL 13=false:=(by first | exact jo | exact j3 13 (by decide) (by decide));rw [jg] at hS)
            all_goals try (
             have jp:Kc w14 W:=GW.kp ju.out jb;obtain ⟨z0,z1,z2,z3,z4⟩:=B9 (jp.block _ _ _ _ jq.out);obtain ⟨x0,x1⟩:=B3 (jp.block _ _ _ _ jr.out);obtain ⟨u0,u1⟩:=B3 (jp.block _ _ _ _ jt.out);clear jp)
            all_goals try have yw:=gdA ac 0 (.pointer (some ⟨gx,0,none⟩)) (ja 0 (by kernel_rfl))
            all_goals try have yx:=gdA ac 1 (.int .i64 (i:Int)) (ja 1 (by kernel_rfl))
            all_goals try have yy:=gdA ac 5 (.map (some (gm jh))) (ja 5 (by kernel_rfl))
            all_goals try have yz:=gdA ac 9 (.pointer (some ⟨g9,0,none⟩)) (ja 9 (by kernel_rfl))
            all_goals try have kl:=gdA ac 11 (.pointer (some ⟨g11,0,none⟩)) (ja 11 (by kernel_rfl))
            all_goals try have km:=gdA ac 14 (.pointer (some ⟨g14,0,none⟩)) (ja 14 (by kernel_rfl))
            all_goals try (have jd:=DN jd;simp [D8,Aq,vq] at jd)
            all_goals try clear ja j5 j3 jz
            case c9 =>
             have jw:(GW w14 (gm jn) (d0,n2) (M3 (i+inp.size)) (ct+c0)) ((upd fL 9) 13) W:=jb;have jj:=(j9.out.kept (Below.block hS _ j9.out.lt)).look Ct (x:=(m,nd)) jY.out;rw [kE.out] at jj;simp only [CA,EH,Option.getD] at jj;refine Ao rfl (.inl ⟨_,W,?_,rfl,Ext.refl _,jw⟩);clear je hS jb jw jo;simp [go_sem,Act.eval, *]
            case c13 =>
             have jc:=P5 (i+inp.size) jn d0 n2 (ct+c0) (M3 (i+inp.size)) (by omega) kt.out ((HX.out.kp jW.out).kp (Kc.of hS (A7 _))) (ju.out.kept (Below.block hS _ ju.out.lt)) jX.out k5.out (by omega) ki.out;rw [show ((i+inp.size:Nat):Int)=(i:Int)+(inp.size:Int) by omega,show ((ct+c0:Nat):Int)=(ct:Int)+(c0:Int) by omega] at jc;refine Ao rfl (.inr ⟨64,#[.pointer (some ⟨gx,0,none⟩),.int .i64 ((i:Int)+(inp.size:Int)),.agg #[.int .i64 (d0:Int),.int .i64 (n2:Int)],.int .i64 ((ct:Int)+(c0:Int))],W,by (clear je hS jb jo jc;simp [go_sem,Act.eval, *]),?_⟩);refine jc.mono ?_;rintro e w' ⟨rfl,hp⟩;refine ⟨_,rfl,rfl,trivial,?_⟩;show GW w14 (gm jn) (d0,n2) (M3 (i+inp.size)) (ct+c0) (upd fL 13 13) w';rw [show upd fL 13 13=true from if_pos rfl];exact Eu.of_ext hS hp
            all_goals try (refine B2 (j:=14) (d:=90) (b:=true) rfl (by kernel_rfl) (by simp only [jd]) rfl (.inl ⟨_,W,?_,rfl,Ext.refl _,jb⟩);clear je hS jb jo;simp [go_sem,Act.eval, *];done)
            all_goals (refine Ao rfl (.inl ⟨_,W,?_,rfl,Ext.refl _,jb⟩);clear je hS jb jo;simp [go_sem,Act.eval, *];done)
           case hlast =>
            intro h;exact absurd rfl h
           case hfin =>
            intro _ ac W je jM fL hf jb hv ja;have hS:(GW w14 (gm jn) (d0,n2) (M3 (i+inp.size)) (ct+c0)) (fL 13) W:=jb;clear jb;rw [hf 13 (by decide)] at hS;obtain ⟨sx,jR,jP⟩:=Aw [76,77,78,79,80,81,82,83,84,85,86,87,88,89,90,91,92,93,94,95] (by kernel_rfl) je jM ja;have e95:sx 95=.bool true:=(jR 95).trans (hv 19 (by decide));rw [jP];simp only [List.foldl];rw [e95];clear e95;simp only [Act.put,List.setIfInBounds_toArray,List.set_cons_succ,List.set_cons_zero];clear jP jR hv ja je jM hf;have js:VX w2 B gm i (Bt M3 (i+inp.size) (d0,n2) (ct+c0)) W:=jf.out.vx.put HG.out (by omega) (by omega) (by rw [kt.out];exact hS) jU;have jk:=jf.out.own.put_keep ju.out hS;have jJ:Hid (W.heap[g9]? = some (.cells #[.int .i64 (m:Int),.int .i64 (nd:Int)] 124 (0,0))):=(Eu.kp hS ju.out).block _ _ _ _ jr.out;have jB:=A6 js;have jA:=A6 jk;have jv:Hid (∀ j,¬ (i≤j∧j<i+5)→Bt M3 (i+inp.size) (d0,n2) (ct+c0) j=M j):=fun j hj=>by
             unfold Bt;rw [if_neg (by omega)];exact jm.out.out j hj
            obtain ⟨u0,u1⟩:=B3 ((Eu.kp hS ju.out).block _ _ _ _ jt.out);clear hS js jk
            go_wp2_with (at_builtin;go_loud (refine B5 (v:=.slice qa3 q3.length qc3) GN rfl _ _ rfl rfl (jA.out.later ((Below.refl _ _).alloc (A7 _) _) (A7 _)) ⟨W.heap.size,0,none⟩ 1 [(d0,n2)] rfl (BA (heap_alloc_new _ _)) (by have:=jZ.out;have:=jF.out;simp only [AI];omega) (by have:=jB.out.kp.size;simp only [AA];omega) ?_);intro v16 w16 jN jC Js;have yg:=A6 jN;have kC:=A6 jC;have kx:=A6 Js;clear jN jC Js)
            go_roundg (Fm.length - (k+1))
            case measure=>have:=jE.out;omega
            case rel =>
             have ks:Ext W (W.alloc (.cells #[.int .i64 (d0:Int),.int .i64 (n2:Int)] 124)):=(Below.refl _ _).alloc (A7 _) _;exact ⟨k+1,q3 ++ [(d0,n2)],_,by go_num,by omega,rfl,⟨(jB.out.ext ks jU).grown (jA.out.later ks (A7 _)) kC.out jU,yg.out,jv.out⟩,by rw [ku.out];exact yi.out,AC yh.out jZ.out,by rw [AF];omega,(kC.out.block g9 (by have:=(A9.1 jJ.out).1;simp only [AA];omega) fun e=>jT.out e.symm).trans ((Kc.of ks (A7 _)).block _ _ _ _ jJ.out),fun e=>by
              rcases kx.out with h1 | h1
              · exact jT.out (h1.symm.trans e)
              ·rw [h1] at e;injection e with e;have:=(A9.1 jJ.out).1;simp only [AA] at e;omega⟩
        ·have YI:((inp.size:Int) == 0)=false:=by simpa using hz
         have HZ:=A6 hz;have yf:Hid (inp.size=0→(d0,n2)≠(m,nd)):=fun h=>absurd h HZ.out;clear hz
         go_wp2_with fail
         clear j2 x0' x1' u0' u1' z0' z1' z2' z3' z4';obtain ⟨po,j6⟩:∃ po,look (M3 (i+inp.size)) (d0,n2)=po:=⟨_,rfl⟩
         by_cases jy:∃ old,po=some old∧old≤ct+c0
         ·obtain ⟨old,rfl,kX⟩:=jy;have kG:=A6 j6;have kF:=A6 kX;have kI:Hid (DT R L (folT T) i T.length B0 D q3 n M3 (m,nd) ct (Fm.take k ++ [⟨frm,(d0:Int),inp,out,(c0:Int)⟩])):=jL.out.same (n':=n2) (old:=old) kh.out kG.out kF.out;clear j6 kX;refine B4 (by kernel_rfl) (Vs [vq (.pointer (some ⟨gx,0,none⟩)),vq (.int .i64 (i:Int)),vq (.pointer (some ⟨g11,2,none⟩)),vq (.string inp),vq (.int .i64 (inp.size:Int)),vq (.int .i64 ((i:Int)+(inp.size:Int))),vq (.agg #[.int .i64 (d0:Int),.int .i64 (n2:Int)]),vq (.map (some (gm jh))),vq (.agg #[.int .i64 (m:Int),.int .i64 (nd:Int)]),vq (.int .i64 (ct:Int)),vq (.pointer (some ⟨g11,4,none⟩)),vq (.int .i64 (c0:Int)),vq (.int .i64 ((ct:Int)+(c0:Int))),vq (.bool false),vq (.bool false),vq (undef),vq (undef),vq (undef),vq (undef),vq (.bool false)]) (Xs []) (fun fL=>(fun W=>Ext w14 W) ) [0,0,0,4,12,30,0,0,0,384,0,1024,3968,8191,16383,32767,65535,131071,262143,524287] 101 20 (by kernel_rfl) rfl ?hV ?hS ?hop ?hfin ?hlast
          case hV =>
           refine BC (Av (by simp only [Aj,List.not_mem_nil,or_false,forall_eq_or_imp,forall_eq];and_intros <;> exact An _)) ?_;exact trivial
          case hS =>
           intro fL hf;show (fun W=>Ext w14 W)  _
           first | exact Ext.refl _ | exact Bh _
          case hop =>
           refine ⟨?_,?_,?_,?_,?_,?_,?_,?_,?_,?c9,?_,?_,?_,?c13,?_,?_,?_,?_,?_,?_,trivial⟩
           all_goals first | rw [if_neg (by decide)] | rw [if_pos (by decide)]
           all_goals try intro ac W fL je jo j5 j3 jb jd ja jz
           all_goals try have hS:(fun W=>Ext w14 W)  W:=jb
           all_goals try (
            have jp:Kc w14 W:=Kc.of jb (A7 _);obtain ⟨z0,z1,z2,z3,z4⟩:=B9 (jp.block _ _ _ _ jq.out);obtain ⟨x0,x1⟩:=B3 (jp.block _ _ _ _ jr.out);obtain ⟨u0,u1⟩:=B3 (jp.block _ _ _ _ jt.out);clear jp)
           all_goals try have yw:=gdA ac 0 (.pointer (some ⟨gx,0,none⟩)) (ja 0 (by kernel_rfl))
           all_goals try have yx:=gdA ac 1 (.int .i64 (i:Int)) (ja 1 (by kernel_rfl))
           all_goals try have yy:=gdA ac 5 (.map (some (gm jh))) (ja 5 (by kernel_rfl))
           all_goals try have yz:=gdA ac 9 (.pointer (some ⟨g9,0,none⟩)) (ja 9 (by kernel_rfl))
           all_goals try have kl:=gdA ac 11 (.pointer (some ⟨g11,0,none⟩)) (ja 11 (by kernel_rfl))
           all_goals try have km:=gdA ac 14 (.pointer (some ⟨g14,0,none⟩)) (ja 14 (by kernel_rfl))
           all_goals try (have jd:=DN jd;simp [D8,Aq,vq] at jd)
           all_goals try clear ja j5 j3 jz
           case c9 =>
            have jw:(fun W=>Ext w14 W)  W:=jb;have jj:=(j9.out.kept (Below.block hS _ j9.out.lt)).look Ct (x:=(m,nd)) jY.out;rw [kE.out] at jj;simp only [CA,EH,Option.getD] at jj;refine Ao rfl (.inl ⟨_,W,?_,rfl,Ext.refl _,jw⟩);clear je hS jb jw jo;simp [go_sem,Act.eval, *]
           case c13 =>
            have jw:(fun W=>Ext w14 W)  W:=jb;have jc:=RI (i+inp.size) jn d0 n2 (ct+c0) (M3 (i+inp.size)) (by omega) kt.out ((HX.out.kp jW.out).kp (Kc.of hS (A7 _))) (ju.out.kept (Below.block hS _ ju.out.lt)) jX.out k5.out (by omega) old kG.out kF.out;rw [show ((i+inp.size:Nat):Int)=(i:Int)+(inp.size:Int) by omega,show ((ct+c0:Nat):Int)=(ct:Int)+(c0:Int) by omega] at jc;refine Ao rfl (.inr ⟨64,#[.pointer (some ⟨gx,0,none⟩),.int .i64 ((i:Int)+(inp.size:Int)),.agg #[.int .i64 (d0:Int),.int .i64 (n2:Int)],.int .i64 ((ct:Int)+(c0:Int))],W,by (clear je hS jb jw jo jc;simp [go_sem,Act.eval, *]),?_⟩);refine jc.mono ?_;rintro e w' ⟨rfl,hp⟩;exact ⟨_,rfl,⟨rfl,hp,Ext.trans jb hp⟩⟩
           all_goals try exact C2 (j:=14) (d:=90) (b:=false) rfl (by kernel_rfl) (by simp only [jd]) rfl ⟨rfl,jb⟩
           all_goals (refine Ao rfl (.inl ⟨_,W,?_,rfl,Ext.refl _,jb⟩);clear je hS jb jo;simp [go_sem,Act.eval, *];done)
          case hlast =>
           intro h;exact absurd rfl h
          case hfin =>
           intro _ ac W je jM fL hf jb hv ja;have hS:(fun W=>Ext w14 W)  W:=jb;clear jb;obtain ⟨sx,jR,jP⟩:=Aw [76,77,78,79,80,81,82,83,84,85,86,87,88,89,90,91,92,93,94,95] (by kernel_rfl) je jM ja;have e95:sx 95=.bool false:=(jR 95).trans (hv 19 (by decide));rw [jP];simp only [List.foldl];rw [e95];clear e95;simp only [Act.put,List.setIfInBounds_toArray,List.set_cons_succ,List.set_cons_zero];clear jP jR hv ja je jM hf;have kz:Hid (Ext wr W):=Ext.trans jI.out hS;clear hS
           go_wp2_with fail
           go_roundg (Fm.length - (k+1))
           case measure=>have:=jE.out;omega
           case rel=>exact ⟨k+1,q3,M3,by go_num,by omega,rfl,jm.out.ext kz.out jU,by rw [ku.out];exact kI.out,jZ.out,kn,(Kc.of kz.out (A7 _)).block _ _ _ _ kD.out,jT.out⟩
         ·have ki:Hid (∀ x,look (M3 (i+inp.size)) (d0,n2)=some x→ct+c0<x):=fun x hx=>by
           rw [j6] at hx;exact Nat.lt_of_not_le fun h9=>jy ⟨x,hx,h9⟩
          have jc:DT R L (folT T) i T.length B0 D (if inp.size=0 then q3 ++ [(d0,n2)] else q3) n (Bt M3 (i+inp.size) (d0,n2) (ct+c0)) (m,nd) ct (Fm.take k ++ [⟨frm,(d0:Int),inp,out,(c0:Int)⟩]):=jL.out.put (m:=d0) y5.out HF.out kh.out Kq kM rfl kn ki.out yf.out;have jO:=KB (q:=q3) (C:=Cm) (j:=i+inp.size) (c:=ct+c0) jL.out.bnd (by omega) kO Kq (by omega) ki.out;rw [if_neg HZ.out] at jc;rw [if_neg (by have:=HZ.out;omega)] at jO;rw [Nat.add_comm] at jO;rw [Nat.add_comm (pot T.length Cm (M3 i))] at jO;have yi:=A6 jc;have yh:=A6 jO;clear j6 jy jc jO;refine B4 (by kernel_rfl) (Vs [vq (.pointer (some ⟨gx,0,none⟩)),vq (.int .i64 (i:Int)),vq (.pointer (some ⟨g11,2,none⟩)),vq (.string inp),vq (.int .i64 (inp.size:Int)),vq (.int .i64 ((i:Int)+(inp.size:Int))),vq (.agg #[.int .i64 (d0:Int),.int .i64 (n2:Int)]),vq (.map (some (gm jh))),vq (.agg #[.int .i64 (m:Int),.int .i64 (nd:Int)]),vq (.int .i64 (ct:Int)),vq (.pointer (some ⟨g11,4,none⟩)),vq (.int .i64 (c0:Int)),vq (.int .i64 ((ct:Int)+(c0:Int))),vq (.bool true),vq (.bool true),vq (.pointer (some ⟨g11,2,none⟩)),vq (.string inp),vq (.int .i64 (inp.size:Int)),vq (.bool false),vq (.bool false)]) (Xs [Ext,Ext,Ext,Ext,Ext,Ext,Ext,Ext,Ext,Ext,Ext,Ext,Ext,(fun _ _=>True),Ext,Ext,Ext,Ext,Ext,Ext]) (fun fL=>(GW w14 (gm jn) (d0,n2) (M3 (i+inp.size)) (ct+c0)) (fL 13)) [0,0,0,4,12,30,0,0,0,384,0,1024,3968,8191,16383,32767,65535,131071,262143,524287] 101 20 (by kernel_rfl) rfl ?hV ?hS ?hop ?hfin ?hlast
          case hV =>
           refine BC (Av (by simp only [Aj,List.not_mem_nil,or_false,forall_eq_or_imp,forall_eq];and_intros <;> exact An _)) ?_;exact ⟨.inl rfl,.inl rfl,.inl rfl,.inl rfl,.inl rfl,.inl rfl,.inl rfl,.inl rfl,.inl rfl,.inl rfl,.inl rfl,.inl rfl,.inl rfl,.inr (BO ⟨fun _ _=>fun _ _ _ h _=>h,fun _ _=>fun _ _ _ h _=>h,fun _ _=>fun _ _ _ h _=>h,fun _ _=>fun _ _ _ h _=>h,fun _ _=>fun _ _ _ h _=>h,fun _ _=>fun _ _ _ h _=>h,fun _ _=>fun _ _ _ h _=>h,fun _ _=>fun _ _ _ h _=>h,fun _ _=>fun _ _ _ h _=>h,fun _ _=>fun _ _ _ h _=>h,fun _ _=>fun _ _ _ h _=>h,fun _ _=>fun _ _ _ h _=>h,fun _ _=>fun _ _ _ h _=>h,fun h=>absurd rfl h,fun _ h=>absurd h (by decide),fun _ h=>absurd h (by decide),fun _ h=>absurd h (by decide),fun _ h=>absurd h (by decide),fun _ h=>absurd h (by decide),fun _ h=>absurd h (by decide),trivial⟩),.inl rfl,.inl rfl,.inl rfl,.inl rfl,.inl rfl,.inl rfl,trivial⟩
          case hS =>
           intro fL hf;show (GW w14 (gm jn) (d0,n2) (M3 (i+inp.size)) (ct+c0)) (fL 13) _;rw [hf 13 (by decide)]
           first | exact Ext.refl _ | exact Bh _
          case hop =>
           refine ⟨?_,?_,?_,?_,?_,?_,?_,?_,?_,?c9,?_,?_,?_,?c13,?_,?_,?_,?_,?_,?_,trivial⟩
           all_goals first | rw [if_neg (by decide)] | rw [if_pos (by decide)]
           all_goals try intro ac W fL je jo j5 j3 jb jd ja jz
           all_goals try have hS:(GW w14 (gm jn) (d0,n2) (M3 (i+inp.size)) (ct+c0)) (fL 13) W:=jb
           all_goals try (have jg:fL 13=true:=j5 13 (by decide);rw [jg] at hS)
           all_goals try (have jg:fL 13=false:=(by first | exact jo | exact j3 13 (by decide) (by decide));rw [jg] at hS)
           all_goals try (
            have jp:Kc w14 W:=GW.kp ju.out jb;obtain ⟨z0,z1,z2,z3,z4⟩:=B9 (jp.block _ _ _ _ jq.out);obtain ⟨x0,x1⟩:=B3 (jp.block _ _ _ _ jr.out);obtain ⟨u0,u1⟩:=B3 (jp.block _ _ _ _ jt.out);clear jp)
           all_goals try have yw:=gdA ac 0 (.pointer (some ⟨gx,0,none⟩)) (ja 0 (by kernel_rfl))
           all_goals try have yx:=gdA ac 1 (.int .i64 (i:Int)) (ja 1 (by kernel_rfl))
           all_goals try have yy:=gdA ac 5 (.map (some (gm jh))) (ja 5 (by kernel_rfl))
           all_goals try have yz:=gdA ac 9 (.pointer (some ⟨g9,0,none⟩)) (ja 9 (by kernel_rfl))
           all_goals try have kl:=gdA ac 11 (.pointer (some ⟨g11,0,none⟩)) (ja 11 (by kernel_rfl))
           all_goals try have km:=gdA ac 14 (.pointer (some ⟨g14,0,none⟩)) (ja 14 (by kernel_rfl))
           all_goals try (have jd:=DN jd;simp [D8,Aq,vq] at jd)
           all_goals try clear ja j5 j3 jz
           case c9 =>
            have jw:(GW w14 (gm jn) (d0,n2) (M3 (i+inp.size)) (ct+c0)) ((upd fL 9) 13) W:=jb;have jj:=(j9.out.kept (Below.block hS _ j9.out.lt)).look Ct (x:=(m,nd)) jY.out;rw [kE.out] at jj;simp only [CA,EH,Option.getD] at jj;refine Ao rfl (.inl ⟨_,W,?_,rfl,Ext.refl _,jw⟩);clear je hS jb jw jo;simp [go_sem,Act.eval, *]
           case c13 =>
            have jc:=P5 (i+inp.size) jn d0 n2 (ct+c0) (M3 (i+inp.size)) (by omega) kt.out ((HX.out.kp jW.out).kp (Kc.of hS (A7 _))) (ju.out.kept (Below.block hS _ ju.out.lt)) jX.out k5.out (by omega) ki.out;rw [show ((i+inp.size:Nat):Int)=(i:Int)+(inp.size:Int) by omega,show ((ct+c0:Nat):Int)=(ct:Int)+(c0:Int) by omega] at jc;refine Ao rfl (.inr ⟨64,#[.pointer (some ⟨gx,0,none⟩),.int .i64 ((i:Int)+(inp.size:Int)),.agg #[.int .i64 (d0:Int),.int .i64 (n2:Int)],.int .i64 ((ct:Int)+(c0:Int))],W,by (clear je hS jb jo jc;simp [go_sem,Act.eval, *]),?_⟩);refine jc.mono ?_;rintro e w' ⟨rfl,hp⟩;refine ⟨_,rfl,rfl,trivial,?_⟩;show GW w14 (gm jn) (d0,n2) (M3 (i+inp.size)) (ct+c0) (upd fL 13 13) w';rw [show upd fL 13 13=true from if_pos rfl];exact Eu.of_ext hS hp
           all_goals try (refine B2 (j:=14) (d:=90) (b:=true) rfl (by kernel_rfl) (by simp only [jd]) rfl (.inl ⟨_,W,?_,rfl,Ext.refl _,jb⟩);clear je hS jb jo;simp [go_sem,Act.eval, *];done)
           all_goals (refine Ao rfl (.inl ⟨_,W,?_,rfl,Ext.refl _,jb⟩);clear je hS jb jo;simp [go_sem,Act.eval, *];done)
          case hlast =>
           intro h;exact absurd rfl h
          case hfin =>
           intro _ ac W je jM fL hf jb hv ja;have hS:(GW w14 (gm jn) (d0,n2) (M3 (i+inp.size)) (ct+c0)) (fL 13) W:=jb;clear jb;rw [hf 13 (by decide)] at hS;obtain ⟨sx,jR,jP⟩:=Aw [76,77,78,79,80,81,82,83,84,85,86,87,88,89,90,91,92,93,94,95] (by kernel_rfl) je jM ja;have e95:sx 95=.bool false:=(jR 95).trans (hv 19 (by decide));rw [jP];simp only [List.foldl];rw [e95];clear e95;simp only [Act.put,List.setIfInBounds_toArray,List.set_cons_succ,List.set_cons_zero];clear jP jR hv ja je jM hf;have js:VX w2 B gm i (Bt M3 (i+inp.size) (d0,n2) (ct+c0)) W:=jf.out.vx.put HG.out (by omega) (by omega) (by rw [kt.out];exact hS) jU;have jk:=jf.out.own.put_keep ju.out hS;have jJ:Hid (W.heap[g9]? = some (.cells #[.int .i64 (m:Int),.int .i64 (nd:Int)] 124 (0,0))):=(Eu.kp hS ju.out).block _ _ _ _ jr.out;have jB:=A6 js;have jA:=A6 jk;have jv:Hid (∀ j,¬ (i≤j∧j<i+5)→Bt M3 (i+inp.size) (d0,n2) (ct+c0) j=M j):=fun j hj=>by
            unfold Bt;rw [if_neg (by omega)];exact jm.out.out j hj
           clear hS js jk
           go_wp2_with fail
           go_roundg (Fm.length - (k+1))
           case measure=>have:=jE.out;omega
           case rel=>exact ⟨k+1,q3,_,by go_num,by omega,rfl,⟨jB.out,jA.out,jv.out⟩,by rw [ku.out];exact yi.out,AC yh.out jZ.out,kn,jJ.out,jT.out⟩
      ·have y8:Fm.take k=Fm:=AM (by omega);have kw:=jL.out;rw [y8,← yU.out] at kw;have Yv:=A6 kw.leave;clear kw y8
       go_wp2_with fail
       go_roundg ((q3.length - (n+1))+pot T.length Cm (M3 i))
       case measure=>have:=yd.out;have:=jZ.out;omega
       case rel=>exact ⟨n+1,q3,M3,by go_num,by omega,jm.out,Yv.out,rfl,by have:=jZ.out;have:=jF.out;omega⟩
    ·have Yz:=A6 (jl.out.done kv)
     go_wp2_with fail
     refine bodyPost_end (results_none rfl _ _ _) rfl ?_;exact ⟨rfl,M2,⟨jG.out.vx.maps,k4.out.trans jG.out.vx.kp,(k3.out.mono y7).trans jG.out.vx.bl⟩,jl.out.inv,Yz.out,jl.out.bnd,jG.out.out⟩
  ·intro
      m
       n c w4 hp hrg4 ka hs4 hlt4 kP
   dsimp only [CA,EH] at kP ⊢;have HP:=A6 hp;have j0:=A6 hrg4;have HG4':=A6 ka;have yN:Hid (Below w2.heap.size w2 w4):=by
    show Below _ _ _;exact yO.out.grown ka (by omega) fun k hk=>by injection hk with hk;omega
   have jK:Hid (As Gy w4 w2.heap.size (.slice qa q.length qc) q):=by
    show As _ _ _ _ _;refine k6.out.keep fun g hg=>ka.block g (k6.out.lt g hg) fun e=>?_;injection e with e;obtain ⟨D9,l9,c9,yI,_⟩:=yj.out;obtain ⟨es,clock,since,seen,c0,_,_,_,_,hr,_⟩:=yI;rcases k6.out.2 with ⟨h9,_⟩ | ⟨g',cap,cur,h9,_,kK,_⟩
    · rw [h9] at hg;cases hg
    ·rw [h9] at hg;injection hg with hg;have e2:g'=w2.heap.size:=hg.trans e;rw [e2,hr] at kK;cases kK
   have Yf:((w4.alloc (.cells #[.int .i64 (m:Int),.int .i64 (n:Int)] 124)).alloc (.cells #[.int .i64 (m:Int),.int .i64 (n:Int)] 124)).heap[w4.heap.size+1]? = some (.cells (Gy.enc (m,n)).toArray 124 (0,0)):=by
    have h:=heap_alloc_new (w4.alloc (.cells #[.int .i64 (m:Int),.int .i64 (n:Int)] 124)) (.cells #[.int .i64 (m:Int),.int .i64 (n:Int)] 124);rw [AA] at h;exact h
   have Yq:=A6 Yf;have ky:Hid (Ext w4 ((w4.alloc (.cells #[.int .i64 (m:Int),.int .i64 (n:Int)] 124)).alloc (.cells #[.int .i64 (m:Int),.int .i64 (n:Int)] 124))):=Ext.trans ((Below.refl _ _).alloc (A7 _) _) ((Below.refl _ _).alloc (A7 _) _);clear hp hrg4 ka Yf hlt4
   go_wp2_with (at_builtin;go_loud (refine B5 (v:=.slice qa q.length qc) GN rfl _ _ rfl rfl (jK.out.later ky.out (A7 _)) ⟨w4.heap.size+1,0,none⟩ 1 [(m,n)] rfl (BA Yq.out) (by have:=kg.out;have:=kf.out;simp only [AI];omega) (by simp only [AA];omega) ?_);intro v5 w5 kY ji hat5)
   have kH:Hid (∀ q9,(Value.slice qa q.length qc).ownBlock=some q9→some (gm jh)≠some q9∧some w2.heap.size≠some q9):=fun q9 h9=>⟨fun e=>(j0.out.map.kept (ky.out.block _ j0.out.map.lt)).not_row (jK.out.later ky.out (A7 _)) (h9.trans e.symm),fun e=>by
    injection e with e;have h8:=jK.out.lt _ h9;obtain ⟨D9,l9,c9,yI,_⟩:=j0.out;obtain ⟨es,clock,since,seen,c0,_,_,_,_,hr,_⟩:=yI;rcases jK.out.2 with ⟨h7,_⟩ | ⟨g',cap,cur,h7,_,kK,_⟩
    · rw [h7] at h9;cases h9
    ·rw [h7] at h9;injection h9 with h9;have e2:g'=w2.heap.size:=h9.trans e.symm;rw [e2,hr] at kK;cases kK⟩
   have kA:Hid ((BU rest ((m,n),c)).length<rest.length):=by
    exact Cp HP.out
   go_roundg (BU rest ((m,n),c)).length
   case measure=>rw [← Yt.out];exact kA.out
   case rel =>
    refine ⟨q ++ [(m,n)],_,kY,?_,rfl,?_,Yx.out.filter _,fun t=>?_,?_⟩
    ·have h1:=j0.out.below ky.out;cases Ku:(Value.slice qa q.length qc).ownBlock with
     | none=>rw [Ku] at ji;exact h1.kept ji (by simp) (by simp)
     | some q9=>rw [Ku] at ji;exact h1.kept ji (kH.out q9 Ku).1 (kH.out q9 Ku).2
    · have:=kA.out;have:=kg.out;rw [AF,AI];omega
    ·rw [Ak,AJ,HQ.out];constructor
     ·rintro (⟨c9,h1,h2⟩ | rfl)
      · exact ⟨c9,h1,fun h3=>h2 (BW.1 h3).1⟩
      · exact ⟨c,yj.out.sub _ HP.out,fun h3=>(BW.1 h3).2 rfl⟩
     ·rintro ⟨c9,h1,h2⟩;by_cases e:(t,c9)=((m,n),c)
      ·injection e with e1 e2;exact .inr e1
      · exact .inl ⟨c9,h1,fun h3=>h2 (BW.2 ⟨h3,e⟩)⟩
    ·have h1:Below w2.heap.size w2 ((w4.alloc (.cells #[.int .i64 (m:Int),.int .i64 (n:Int)] 124)).alloc (.cells #[.int .i64 (m:Int),.int .i64 (n:Int)] 124)):=yN.out.trans (Below.mono ky.out yN.out.size);exact h1.grown ji h1.size fun k hk=>jK.out.ge k hk
end
def Cn (T:List Bn) (n:Nat):Int:=match T[n]? with | none=>-1 | some b=>b.word
def Lst (T:List Bn) (acc:Int) (P:List (Stt × Nat)) (k c:Nat):Prop:=CT (fun d=>∃ t,(t,d)∈P∧Cn T t.2=(k:Int)∧DX acc t.1=true) c
structure Fv (T:List Bn) (acc:Int) (P:List (Stt × Nat)) (E:List (Nat × Nat)):Prop where
 keys:Cs E
 iff:∀ k c,look E k=some c↔Lst T acc P k c
section
variable {T:List Bn} {acc:Int} {P:List (Stt × Nat)} {E:List (Nat × Nat)} {t:Stt} {c k:Nat}
theorem Fv.nil (T:List Bn) (acc:Int):Fv T acc [] []:=⟨List.Pairwise.nil,fun k c=>⟨fun h=>(by cases h),fun h=>(by obtain ⟨t,h1,_⟩:=h.1;cases h1)⟩⟩
theorem Fv.skip (h:Fv T acc P E) (hn:¬ (∃ k:Nat,Cn T t.2=(k:Int)∧DX acc t.1=true)):Fv T acc ((t,c) :: P) E :=
 ⟨h.keys,fun k d=>by
  rw [h.iff];have e:∀ d,(∃ u,(u,d)∈(t,c) :: P∧Cn T u.2=(k:Int)∧DX acc u.1=true)↔∃ u,(u,d)∈P∧Cn T u.2=(k:Int)∧DX acc u.1=true:=fun d=>by
   constructor
   ·rintro ⟨u,h1,h2⟩;rcases Aj.1 h1 with e | h1
    ·injection e with e1 e2;subst e1;exact absurd ⟨k,h2⟩ hn
    · exact ⟨u,h1,h2⟩
   · rintro ⟨u,h1,h2⟩;exact ⟨u,List.mem_cons_of_mem _ h1,h2⟩
  exact ⟨fun h9=>h9.congr fun d=>(e d).symm,fun h9=>h9.congr e⟩⟩
theorem Fv.hit (h:Fv T acc P E) (hw:Cn T t.2=(k:Int)) (ha:DX acc t.1=true) {E':List (Nat × Nat)} (hk:Cs E') {b:Nat}
  (h1:∀ j,j≠k→look E' j=look E j) (h2:look E' k=some b) (h3:b≤c) (h4:∀ d,look E k=some d→b≤d) (h5:b=c∨look E k=some b):Fv T acc ((t,c) :: P) E' :=
 ⟨hk,fun j d=>by
  have e:∀ d,(∃ u,(u,d)∈(t,c) :: P∧Cn T u.2=(j:Int)∧DX acc u.1=true)↔(j=k∧d=c)∨∃ u,(u,d)∈P∧Cn T u.2=(j:Int)∧DX acc u.1=true:=fun d=>by
   constructor
   ·rintro ⟨u,h6,h7,h8⟩;rcases Aj.1 h6 with e | h6
    ·injection e with e1 e2;subst e1;refine .inl ⟨?_,e2⟩;rw [hw] at h7;omega
    · exact .inr ⟨u,h6,h7,h8⟩
   ·rintro (⟨rfl,rfl⟩ | ⟨u,h6,h7⟩)
    · exact ⟨t,AD,hw,ha⟩
    · exact ⟨u,List.mem_cons_of_mem _ h6,h7⟩
  by_cases hj:j=k
  ·subst
      hj
   have hl:Lst T acc ((t,c) :: P) j b:=by
    refine ⟨(e b).2 ?_,fun d hd=>?_⟩
    ·rcases h5 with h5 | h5
     · exact .inl ⟨rfl,h5⟩
     · exact .inr ((h.iff j b).1 h5).1
    ·rcases (e d).1 hd with ⟨_,rfl⟩ | h9
     · exact h3
     ·obtain ⟨b2,ja⟩:=RB (p:=fun d=>∃ u,(u,d)∈P∧Cn T u.2=(j:Int)∧DX acc u.1=true) ⟨d,h9⟩;exact AC (h4 b2 ((h.iff j b2).2 ja)) (ja.2 d h9)
   rw [h2];exact ⟨fun h9=>by injection h9 with h9;rw [← h9];exact hl,fun h9=>by rw [hl.uniq h9]⟩
  ·rw [h1 j hj,h.iff];have e2:∀ d,(∃ u,(u,d)∈(t,c) :: P∧Cn T u.2=(j:Int)∧DX acc u.1=true)↔∃ u,(u,d)∈P∧Cn T u.2=(j:Int)∧DX acc u.1=true:=fun d=>by
    rw [e d];exact ⟨fun h9=>h9.resolve_left fun h8=>hj h8.1,.inr⟩
   exact ⟨fun h9=>h9.congr fun d=>(e2 d).symm,fun h9=>h9.congr e2⟩⟩
theorem Fv.put (h:Fv T acc P E) (hw:Cn T t.2=(k:Int)) (ha:DX acc t.1=true) (ja:∀ d,look E k=some d→c<d):Fv T acc ((t,c) :: P) (Cv E k c) :=
 h.hit hw ha (h.keys.put k c) (fun j hj=>by rw [C7,if_neg fun e=>hj e.symm]) (by rw [C7,if_pos rfl]) (A7 _) (fun d hd=>Nat.le_of_lt (ja d hd)) (.inl rfl)
theorem Fv.same (h:Fv T acc P E) (hw:Cn T t.2=(k:Int)) (ha:DX acc t.1=true) {old:Nat} (ho:look E k=some old) (ja:old≤c):Fv T acc ((t,c) :: P) E :=
 h.hit hw ha h.keys (fun _ _=>rfl) ho ja (fun d hd=>by rw [ho] at hd;injection hd with hd;omega) (.inr ho)
end
structure UE (T:List Bn) (acc:Int) (P:List (Stt × Nat)) (l:List (Nat × Nat)):Prop where
 sorted:l.Pairwise fun a b=>a.1<b.1
 mem:∀ k c,(k,c)∈l↔Lst T acc P k c
theorem UF {T:List Bn} {acc:Int} {P P':List (Stt × Nat)} {E:List (Nat × Nat)} {ks:List Nat} (h:Fv T acc P E) (hP:∀ p,p∈P↔p∈P') (hs:ks.Pairwise (·<·)) (hm:∀ k,k∈ks↔(look E k).isSome=true) :
  UE T acc P' (ks.map fun k=>(k,(look E k).getD 0)) where
 sorted:=by rw [Ai];exact hs
 mem
   k c:=by
  rw [AP];have e:∀ d,(∃ u,(u,d)∈P∧Cn T u.2=(k:Int)∧DX acc u.1=true)↔∃ u,(u,d)∈P'∧Cn T u.2=(k:Int)∧DX acc u.1=true:=fun d =>
   ⟨fun ⟨u,h1,h2⟩=>⟨u,(hP _).1 h1,h2⟩,fun ⟨u,h1,h2⟩=>⟨u,(hP _).2 h1,h2⟩⟩
  constructor
  ·rintro ⟨j,hj,e9⟩;injection e9 with e1 e2;subst e1;obtain ⟨d,hd⟩:=Option.isSome_iff_exists.1 ((hm j).1 hj);rw [hd] at e2;simp only [Option.getD_some] at e2;subst e2;exact ((h.iff j d).1 hd).congr e
  ·intro hl;have h1:=(h.iff k c).2 (hl.congr fun d=>(e d).symm);exact ⟨k,(hm k).2 (by rw [h1];rfl),by rw [h1];rfl⟩
theorem TY (A:Int) (m:Nat) (h0:0≤A) (hA:A≤255):(bits .and .u8 (A / 2 ^ m) 1 == 0)=!DX A m:=by
 obtain ⟨n,rfl⟩:=Int.eq_ofNat_of_zero_le h0;have hd:((n:Int) / 2 ^ m)=((n / 2 ^ m:Nat):Int):=by simp
 have ja:n / 2 ^ m<256:=Nat.lt_of_le_of_lt (Nat.div_le_self _ _) (by omega);have h1:bits .and .u8 (((n / 2 ^ m:Nat):Int)) ((1:Nat):Int)=((n / 2 ^ m &&& 1:Nat):Int):=u8_and_nat _ _ ja (by omega);unfold DX;rw [hd,show (1:Int)=((1:Nat):Int) from rfl,h1,Nat.and_one_is_mod,Bool.eq_iff_iff];simp only [beq_iff_eq,Bool.not_eq_true',beq_eq_false_iff_ne,ne_eq];omega
def DR:Cu (Nat × Nat):=⟨48,59,2,16,.agg #[.int .i64 0,.int .i64 0],fun t=>[.int .i64 (t.1:Int),.int .i64 (t.2:Int)]⟩
theorem GO:DR.Ok:=⟨Tryz.underlying48,by kernel_rfl,rfl,by decide,fun _=>rfl,fun x u hu=>by
 have h:u=.int .i64 (x.1:Int)∨u=.int .i64 (x.2:Int):=by simpa [DR] using hu
 rcases h with rfl | rfl <;> rfl,by decide⟩
def Um (T:List Bn):Prop:=∀ b∈T,b.word<1000000
def UG (T:List Bn) (acc:Int) (E:Ent) (B:Nat) (e:Ending) (w':World):Prop:=∃ v l,e=.returned v∧As DR w' B v l∧UE T acc E l
structure FQ (w0:World) (T:List Bn) (acc:Int) (E:Ent) (gmj gl r:Nat) (P rest:List (Stt × Nat)) (E2:List (Nat × Nat)) (w:World):Prop where
 rg:RgG CA w gmj r E rest
 low:MpG GT w gl E2
 lea:Fv T acc P E2
 all:∀ p,p∈E↔p∈P∨p∈rest
 bl:Below w0.heap.size w0 w
 glt:w0.heap.size≤gl
 rge:w0.heap.size≤r
 ne:r≠gl
 len:E2.length+rest.length≤E.length
section
variable {w w':World} {gx:Nat} {acc:Int} {aR:Option Addr} {nR cR:Nat} {aT:Option Addr} {nT cT:Nat} {aL:Option Addr} {nL cL:Nat} {gm:Nat→Nat}
theorem found_any
         (T:List Bn) (i j:Nat) (E:Ent) (hi:i≤1000000) (hj:i % 5=j) (hx:SX w gx acc aR nR cR aT nT cT aL nL cL gm) (hT:Dz w aT T) (jE:nT=T.length) (hTl:nT≤100000) (kh:Um T) (hM:MpG CA w (gm j) E) (jA:Lh T.length E) (kC:0≤acc) (jY:acc≤255) :
  Calls Tryz.prog 34 #[.pointer (some ⟨gx,0,none⟩),.int .i64 (i:Int)] w fun e w'=>UG T acc E w.heap.size e w'∧Below w.heap.size w w':=by
 subst jE;have HX:=A6 hx;have HT:=A6 hT;have kA:=A6 kh;have HM:=A6 hM;have ky:=A6 jA;have HJ:=A6 hj;have hgx:=hx.lt;obtain ⟨c0,c1,c2,c3⟩:=hx.cells;have jH:=A6 c0;have jI:=A6 c2;have hEl:=Ho hM.keys jA;have kE:=@run_makeMap Tryz.prog;clear hx hT kh hM jA hj c0 c1 c2 c3;have j9:Hid (Ext w (w.alloc (.map #[] 0))):=(Below.refl _ _).alloc (A7 _) _;have kn:=A6 (Fi i j hi HJ.out (HX.out.kp (Kc.of j9.out (A7 _))));have kt:=A6 (HM.out.kept (Below.block j9.out _ HM.out.lt));have ke:=A6 (MpG.new GT w)
 go_enter Tryz.func34,Tryz.ntmps34
 go_wp2_with fail
 refine kn.out.mono ?_;rintro e w1' ⟨rfl,rfl⟩
 go_wp2_with (at_range;refine D1 Ct kt.out rfl _ rfl rfl ?_;intro w3 jU Ji kG)
 go_frame;have HZ:Hid ((w.alloc (.map #[] 0)).heap.size=w.heap.size+1):=by show _=_;simp
 have kd:Hid (FQ w T acc E (gm j) w.heap.size (w.heap.size+1) [] E [] w3):=⟨by rw [← HZ.out];exact jU,ke.out.kept (Ji.block _ ke.out.lt),Fv.nil _ _,fun p=>by simp,Below.trans j9.out (Ji.mono (by rw [HZ.out];omega)),A7 _,Nat.le_succ _,by omega,by simp⟩
 clear jU Ji kG kE;simp only [AA]
 go_loopg [8] E.length (fun g v8 wr=>∃ (P rest:List (Stt × Nat)) (E2:List (Nat × Nat)),FQ w T acc E (gm j) w.heap.size (w.heap.size+1) P rest E2 wr∧rest.length=g)
 case atStart=>exact ⟨[],E,[],kd.out,rfl⟩
 case round =>
  clear kd;obtain ⟨P,rest,E2,jZ,jS⟩:=hrel;have HQ:=A6 jZ;have jN:=A6 jS;have hz3:=jZ.bl.size;have kF:=jZ.rg.lt;clear jZ jS
  go_wp2_with (at_next;refine wpList_next_g Ct HQ.out.rg rfl _ rfl rfl ?_ ?_)
  ·intro
      h0
   have ko:=A6 (fun ks=>UF (P':=E) (ks:=ks) HQ.out.lea (fun p=>by rw [HQ.out.all p,h0];simp));have kB:E2.length≤1000000:=by have:=HQ.out.len;omega
   have kz:=A6 (sorted_any HQ.out.low kB);clear h0
   go_wp2_with fail
   refine (MF _ _).mono ?_;rintro e w7 ⟨rfl,rfl⟩
   go_wp2_with fail
   refine kz.out.mono ?_;rintro e w8 ⟨⟨v,ks,rfl,jt,kb,jD⟩,jK⟩;obtain ⟨a8,c8,kH,hkc8, -⟩:=jt.form;subst kH;have kv:=A6 jt;have HB8:=A6 jK;have kx:=A6 kb;have kf:=A6 jD;have jv:=A6 (HQ.out.low.kept (jK.block _ HQ.out.low.lt));have jy:Hid (Below w.heap.size w w8):=HQ.out.bl.trans (jK.mono HQ.out.bl.size);have hkl:ks.length≤1000000:=by
    have h1:=nodup_bound 1000000 ks (kb.imp fun h=>Nat.ne_of_lt h) fun x hx=>by
     obtain ⟨d,hd⟩:=Option.isSome_iff_exists.1 ((jD x).1 hx);exact (HQ.out.low.okk _ (C6 hd)).1
    exact h1
   clear jt jK kb jD
   go_wp2_with fail
   go_loopg [11,66] ks.length (fun g v11 v66 wr=>∃ k:Nat,v66=.int .i64 (k:Int)∧k≤ks.length∧g=ks.length - k∧As DR wr w8.heap.size v11 ((ks.take k).map fun x=>(x,(look E2 x).getD 0))∧Below w8.heap.size w8 wr)
   case atStart=>exact ⟨0,rfl,Nat.zero_le _,rfl,As.nil _ _ _,Below.refl _ _⟩
   case round =>
    obtain ⟨k,rfl,hk,jS,jF,ki⟩:=hrel;obtain ⟨a11,c11,kc,Js, -⟩:=jF.form;subst kc;have HO:=A6 jF;have jx:=A6 ki;have j3:=A6 jS;clear jF ki jS;obtain ⟨Lk,jX⟩:∃ Lk,(ks.take k).map (fun x=>(x,(look E2 x).getD 0))=Lk:=⟨_,rfl⟩
    have kg:Lk.length=k:=by rw [← jX,AW,AV];omega
    rw [jX] at HO Js ⊢;have ju:=A6 jX;have kr:=A6 kg;clear jX kg;by_cases j0:k<ks.length
    ·obtain ⟨b8,jK,hB8,hs8,q0⟩:=(kv.out.later jx.out (A7 _)).ints j0;subst jK;have hi8:=F4 b8 ks.length c8 k j0;have jC:MpG GT wr w.heap.size E2:=jv.out.kept (jx.out.block _ jv.out.lt);have km:=(kf.out ks[k]).1 (AO j0);obtain ⟨d,hd⟩:=Option.isSome_iff_exists.1 km;have jW:=(jC.okk _ (C6 hd)).1;have jL:=jC.look FE jW;rw [hd] at jL;simp only [GT,Option.getD_some] at jL;have kl:ks.take (k+1)=ks.take k ++ [ks[k]]:=AZ j0;have HN:Hid ((ks.take (k+1)).map (fun x=>(x,(look E2 x).getD 0))=Lk ++ [(ks[k],d)]):=by
      show _=_;rw [kl,List.map_append,ju.out];simp [hd]
     obtain ⟨x,hx⟩:∃ x,ks[k]=x:=⟨_,rfl⟩
     rw [hx] at q0 jL HN;clear km hd jW kl hx jC
     go_wp2_with (at_builtin;go_loud (refine B5 (v:=.slice a11 Lk.length c11) GO rfl _ _ rfl rfl (HO.out.later ((Below.refl _ _).alloc (A7 _) _) (A7 _)) ⟨wr.heap.size,0,none⟩ 1 [(x,d)] rfl (BA (heap_alloc_new _ _)) (by have:=kr.out;simp only [AI];omega) (by have:=jx.out.size;simp only [AA];omega) ?_);intro v16 w16 js jn jQ;have j6:=A6 js;have j2:=A6 jn;clear js jn jQ)
     go_roundg (ks.length - (k+1))
     case measure=>have:=j3.out;omega
     case rel=>exact ⟨k+1,by go_num,by omega,rfl,by rw [HN.out];exact j6.out,(jx.out.trans (((Below.refl _ _).alloc (A7 _) _).mono jx.out.size)).grown j2.out (by have:=jx.out.size;simp only [AA];omega) fun q hq=>HO.out.ge q hq⟩
    ·have jP:ks.take k=ks:=AM (by omega);have ku:=A6 (ko.out ks kx.out kf.out);have kq:Hid (Lk=ks.map fun x=>(x,(look E2 x).getD 0)):=by show _=_;rw [← ju.out,jP]
     clear jP
     go_wp2_with fail
     go_ret;exact ⟨⟨_,Lk,rfl,HO.out.mono jy.out.size,by rw [kq.out];exact ku.out⟩,jy.out.trans (jx.out.mono jy.out.size)⟩
  ·intro
      m
       n
        c
         w4 hp hrg4 hg4 hs4 hlt4 hen
   dsimp only [CA,EH] at hen ⊢;have HP:=A6 hp;have jq:=A6 hrg4;have jb:Hid (MpG GT w4 w.heap.size E2):=HQ.out.low.kept (hg4.block _ HQ.out.low.lt fun e=>by injection e with e;omega);have jM:Hid (Below w.heap.size w w4):=by
    show Below _ _ _;exact HQ.out.bl.grown hg4 (by omega) fun k hk=>by injection hk with hk;omega
   have ka:=HQ.out.rg.sub _ hp;obtain ⟨jT,jE⟩:=ky.out _ ka;simp only at jT jE;have kj:c≤1152921504606846976:=(HM.out.okk _ ka).2;have jm:Hid (E2.length+1≤E.length∧E2.length+1+(BU rest ((m,n),c)).length≤E.length):=by
    have h1:=Cp hp;have h2:=HQ.out.len;exact ⟨by omega,by omega⟩
   clear hp hrg4 hg4 hlt4 ka kF
   go_upto_region 5 with fail
   obtain ⟨w5,j1⟩:∃ w5,w4.alloc (.cells #[.int .i64 (m:Int),.int .i64 (n:Int)] 124)=w5:=⟨_,rfl⟩
   rw [j1];have jl:Hid (Ext w4 w5):=by
    show Ext _ _;rw [← j1];exact (Below.refl _ _).alloc (A7 _) _
   have jz:Hid (w5.heap[w4.heap.size]? = some (.cells #[.int .i64 (m:Int),.int .i64 (n:Int)] 124 (0,0))):=by
    show _=_;rw [← j1];exact heap_alloc_new _ _
   have jg:Hid (Below w.heap.size w w5):=jM.out.trans (Below.mono jl.out jM.out.size);have jo:Hid (Kc w w5):=Kc.of jg.out (A7 _);obtain ⟨g6,kk⟩:∃ g6,w4.heap.size=g6:=⟨_,rfl⟩
   rw [kk] at jz ⊢;obtain ⟨b1,o1,jY,hb1,q0, -⟩:=(HT.out.kp jo.out).at jE;have hi1:=K7 aT b1 o1 T.length cT n jY jE;have kI:=kA.out _ (AO jE);have j8:Hid (Cn T n=T[n].word):=by show Cn T n=_;unfold Cn;rw [AE jE]
   obtain ⟨wd,jV⟩:∃ wd,T[n].word=wd:=⟨_,rfl⟩
   rw [jV] at q0 kI j8;have jJ:=A6 q0;clear j1 kk jY jV q0;refine B6 (by kernel_rfl) (Vs [vq (.pointer (some ⟨gx,0,none⟩)),vq (.pointer (some ⟨gx,0,none⟩)),vq (.pointer (some ⟨gx,2,none⟩)),vq (.slice aT T.length cT),vq (.pointer (some ⟨g6,1,none⟩)),vq (.int .i64 (n:Int)),vq (.pointer (some ⟨b1,o1+n*2,none⟩)),vq (.pointer (some ⟨b1,o1+n*2,none⟩)),vq (.int .i64 wd),vq (.int .i64 wd)]) (fun W=>Ext w5 W) 80 (by kernel_rfl) rfl ?hVx ?hSx ?hS (BN ?hop) ?hfin
   case hop =>
    refine ⟨?_,?_,?_,?_,?_,?_,?_,?_,?_,?_,trivial⟩
    all_goals
     intro A W jf hS je ja;have jc:Kc w5 W:=Kc.of hS (A7 _);obtain ⟨x0,x1⟩:=B3 (jc.block _ _ _ _ jz.out);have c0:=jc.cell (jo.out.cell jH.out);have c2:=jc.cell (jo.out.cell jI.out);have q0:=jc.cell jJ.out;clear jc;have h0:A.tmps.getD 0 undef=.pointer (some ⟨gx,0,none⟩):=ja 0 (by kernel_rfl);have h6:A.tmps.getD 6 undef=.pointer (some ⟨g6,0,none⟩):=ja 6 (by kernel_rfl);clear ja;simp [Aq,Region.binds,Vs,vq] at je
    all_goals first
     | (refine Ao rfl (.inl ⟨_,W,?_,rfl,Ext.refl _⟩);clear jf hS;simp [go_sem,Act.eval, *];done)
   case hVx=>exact Av (by simp only [Aj,List.not_mem_nil,or_false,forall_eq_or_imp,forall_eq];and_intros <;> exact An _)
   case hSx=>exact fun W W' h hx=>Ext.trans h hx
   case hS=>exact Ext.refl _
   case hfin
        =>
    intro A W jf jj hS hv ja;obtain ⟨x,hx,hA⟩:=Aw [24,25,26,27,28,29,30,31,32,8] (by kernel_rfl) jf jj ja;have e8:x 8=.int .i64 wd:=(hx 8).trans (hv 9 (by decide));rw [hA];simp only [List.foldl];rw [e8];clear e8;simp only [Act.put,List.setIfInBounds_toArray,List.set_cons_succ,List.set_cons_zero];clear hA hx hv ja jf jj;have jh:Hid (Ext w5 W):=hS;clear hS;have jp:Hid (∀ p,p∈E↔p∈((m,n),c) :: P∨p∈BU rest ((m,n),c)):=fun p=>by
     rw [HQ.out.all,Aj,BW];constructor
     ·rintro (h1 | h1)
      · exact .inl (.inr h1)
      ·by_cases e:p=((m,n),c)
       · exact .inl (.inl e)
       · exact .inr ⟨h1,e⟩
     ·rintro ((rfl | h1) | h1)
      · exact .inr HP.out
      · exact .inl h1
      · exact .inr h1.1
    go_wp2_with fail
    have hm0I:(0:Int)≤(m:Int):=by omega
    have hm8I:(m:Int)<8:=by omega
    by_cases hneg:wd<0
    ·have j5:Hid (¬ ∃ k:Nat,Cn T (m,n).2=(k:Int)∧DX acc (m,n).1=true):=by
      rintro ⟨k,h1,_⟩;have h2:Cn T n=(k:Int):=h1;rw [j8.out] at h2;omega
     refine B6 (by kernel_rfl) (Vs [vq (.int .i64 wd),vq (.bool true),vq (.bool true),vq (undef),vq (undef),vq (undef),vq (undef),vq (undef),vq (undef),vq (undef),vq (undef),vq (undef),vq (.bool true)]) (fun W=>Ext w5 W) 80 (by kernel_rfl) rfl ?hVx ?hSx ?hS (BN ?hop) ?hfin
     case hop =>
      refine ⟨?_,?_,?_,?_,?_,?_,?_,?_,?_,?_,?_,?_,?_,trivial⟩
      all_goals
       intro A W jf hS je ja;have jc:Kc w5 W:=Kc.of hS (A7 _);obtain ⟨x0,x1⟩:=B3 (jc.block _ _ _ _ jz.out);have c0:=jc.cell (jo.out.cell jH.out);have c2:=jc.cell (jo.out.cell jI.out);have q0:=jc.cell jJ.out;clear jc;have h0:A.tmps.getD 0 undef=.pointer (some ⟨gx,0,none⟩):=ja 0 (by kernel_rfl);have h6:A.tmps.getD 6 undef=.pointer (some ⟨g6,0,none⟩):=ja 6 (by kernel_rfl);have h8:A.tmps.getD 8 undef=.int .i64 wd:=ja 8 (by kernel_rfl);clear ja;simp [Aq,Region.binds,Vs,vq] at je
      all_goals first
       | (refine Ao rfl (.inl ⟨_,W,?_,rfl,Ext.refl _⟩);clear jf hS;simp [go_sem,Act.eval, *];done)
       | exact C2 (j:=2) (d:=35) (b:=true) rfl (by kernel_rfl) (by simp only [je]) rfl rfl
     case hVx=>exact Av (by simp only [Aj,List.not_mem_nil,or_false,forall_eq_or_imp,forall_eq];and_intros <;> exact An _)
     case hSx=>exact fun W W' h hx=>Ext.trans h hx
     case hS=>exact jh.out
     case hfin =>
      intro A W jf jj hS hv ja;obtain ⟨x,hx,hA⟩:=Aw [33,34,35,36,37,38,39,40,41,42,43,44,45] (by kernel_rfl) jf jj ja;have e45:x 45=.bool true:=(hx 45).trans (hv 12 (by decide));rw [hA];simp only [List.foldl];rw [e45];clear e45;simp only [Act.put,List.setIfInBounds_toArray,List.set_cons_succ,List.set_cons_zero];clear hA hx hv ja jf jj;have jh:Hid (Ext w5 W):=hS;clear hS
      go_wp2_with fail
      go_roundg (BU rest ((m,n),c)).length
      case measure=>have:=jN.out;have:=Cp HP.out;omega
      case rel =>
       exact ⟨((m,n),c) :: P,_,E2,⟨(jq.out.below jl.out).below jh.out,(jb.out.kept (Below.block jl.out _ jb.out.lt)).kept (Below.block jh.out _ (jb.out.kept (Below.block jl.out _ jb.out.lt)).lt),HQ.out.lea.skip j5.out,jp.out,jg.out.trans (Below.mono jh.out jg.out.size),HQ.out.glt,HQ.out.rge,HQ.out.ne,by have:=jm.out.2;omega⟩,rfl⟩
    ·obtain ⟨
         k,rfl⟩:∃ k:Nat,wd=(k:Int):=⟨wd.toNat,by omega⟩
     have jr:k<1000000:=by omega
     have j7:Hid (Cn T (m,n).2=(k:Int)):=j8.out;have jB:=TY acc m kC jY;obtain ⟨ab,jO⟩:∃ ab,DX acc m=ab:=⟨_,rfl⟩
     rw [jO] at jB;cases ab with
     | false =>
      have j5:Hid (¬ ∃ k:Nat,Cn T (m,n).2=(k:Int)∧DX acc (m,n).1=true):=by
       rintro ⟨k,_,h2⟩;have h3:DX acc m=true:=h2;rw [jO] at h3;cases h3
      clear jO;simp only [Bool.not_false] at jB;refine B6 (by kernel_rfl) (Vs [vq (.int .i64 (k:Int)),vq (.bool false),vq (.bool false),vq (.pointer (some ⟨gx,0,none⟩)),vq (.pointer (some ⟨gx,0,none⟩)),vq (.pointer (some ⟨gx,0,none⟩)),vq (.int .u8 acc),vq (.pointer (some ⟨g6,0,none⟩)),vq (.int .i64 (m:Int)),vq (.int .u8 (acc / 2 ^ m)),vq (.int .u8 (bits .and .u8 (acc / 2 ^ m) 1)),vq (.bool true),vq (.bool true)]) (fun W=>Ext w5 W) 80 (by kernel_rfl) rfl ?hVx ?hSx ?hS (BN ?hop) ?hfin
      case hop =>
       refine ⟨?_,?_,?_,?_,?_,?_,?_,?_,?_,?_,?_,?_,?_,trivial⟩
       all_goals
        intro A W jf hS je ja;have jc:Kc w5 W:=Kc.of hS (A7 _);obtain ⟨x0,x1⟩:=B3 (jc.block _ _ _ _ jz.out);have c0:=jc.cell (jo.out.cell jH.out);have c2:=jc.cell (jo.out.cell jI.out);have q0:=jc.cell jJ.out;clear jc;have h0:A.tmps.getD 0 undef=.pointer (some ⟨gx,0,none⟩):=ja 0 (by kernel_rfl);have h6:A.tmps.getD 6 undef=.pointer (some ⟨g6,0,none⟩):=ja 6 (by kernel_rfl);have h8:A.tmps.getD 8 undef=.int .i64 (k:Int):=ja 8 (by kernel_rfl);clear ja;simp [Aq,Region.binds,Vs,vq] at je
       all_goals first
        | (refine Ao rfl (.inl ⟨_,W,?_,rfl,Ext.refl _⟩);clear jf hS;simp [go_sem,Act.eval, *];done)
        | (refine B2 (j:=2) (d:=35) (b:=false) rfl (by kernel_rfl) (by simp only [je]) rfl (.inl ⟨_,W,?_,rfl,Ext.refl _⟩);clear jf hS;simp [go_sem,Act.eval, *];done)
      case hVx=>exact Av (by simp only [Aj,List.not_mem_nil,or_false,forall_eq_or_imp,forall_eq];and_intros <;> exact An _)
      case hSx=>exact fun W W' h hx=>Ext.trans h hx
      case hS=>exact jh.out
      case hfin =>
       intro A W jf jj hS hv ja;obtain ⟨x,hx,hA⟩:=Aw [33,34,35,36,37,38,39,40,41,42,43,44,45] (by kernel_rfl) jf jj ja;have e45:x 45=.bool true:=(hx 45).trans (hv 12 (by decide));rw [hA];simp only [List.foldl];rw [e45];clear e45;simp only [Act.put,List.setIfInBounds_toArray,List.set_cons_succ,List.set_cons_zero];clear hA hx hv ja jf jj;have jh:Hid (Ext w5 W):=hS;clear hS
       go_wp2_with fail
       go_roundg (BU rest ((m,n),c)).length
       case measure=>have:=jN.out;have:=Cp HP.out;omega
       case rel =>
        exact ⟨((m,n),c) :: P,_,E2,⟨(jq.out.below jl.out).below jh.out,(jb.out.kept (Below.block jl.out _ jb.out.lt)).kept (Below.block jh.out _ (jb.out.kept (Below.block jl.out _ jb.out.lt)).lt),HQ.out.lea.skip j5.out,jp.out,jg.out.trans (Below.mono jh.out jg.out.size),HQ.out.glt,HQ.out.rge,HQ.out.ne,by have:=jm.out.2;omega⟩,rfl⟩
     | true =>
      have jw:Hid (DX acc (m,n).1=true):=jO;clear jO;simp only [Bool.not_true] at jB;obtain ⟨lk,jL⟩:∃ lk,look E2 k=lk:=⟨_,rfl⟩
      have ju:=A6 jL;clear jL;cases lk with
      | none =>
       have j4:Hid (∀ d,look E2 k=some d→c<d):=fun d hd=>by rw [ju.out] at hd;cases hd
       refine B6 (by kernel_rfl) (Vs [vq (.int .i64 (k:Int)),vq (.bool false),vq (.bool false),vq (.pointer (some ⟨gx,0,none⟩)),vq (.pointer (some ⟨gx,0,none⟩)),vq (.pointer (some ⟨gx,0,none⟩)),vq (.int .u8 acc),vq (.pointer (some ⟨g6,0,none⟩)),vq (.int .i64 (m:Int)),vq (.int .u8 (acc / 2 ^ m)),vq (.int .u8 (bits .and .u8 (acc / 2 ^ m) 1)),vq (.bool false),vq (.bool false)]) (fun W=>Ext w5 W) 80 (by kernel_rfl) rfl ?hVx ?hSx ?hS (BN ?hop) ?hfin
       case hop =>
        refine ⟨?_,?_,?_,?_,?_,?_,?_,?_,?_,?_,?_,?_,?_,trivial⟩
        all_goals
         intro A W jf hS je ja;have jc:Kc w5 W:=Kc.of hS (A7 _);obtain ⟨x0,x1⟩:=B3 (jc.block _ _ _ _ jz.out);have c0:=jc.cell (jo.out.cell jH.out);have c2:=jc.cell (jo.out.cell jI.out);have q0:=jc.cell jJ.out;clear jc;have h0:A.tmps.getD 0 undef=.pointer (some ⟨gx,0,none⟩):=ja 0 (by kernel_rfl);have h6:A.tmps.getD 6 undef=.pointer (some ⟨g6,0,none⟩):=ja 6 (by kernel_rfl);have h8:A.tmps.getD 8 undef=.int .i64 (k:Int):=ja 8 (by kernel_rfl);clear ja;simp [Aq,Region.binds,Vs,vq] at je
        all_goals first
         | (refine Ao rfl (.inl ⟨_,W,?_,rfl,Ext.refl _⟩);clear jf hS;simp [go_sem,Act.eval, *];done)
         | (refine B2 (j:=2) (d:=35) (b:=false) rfl (by kernel_rfl) (by simp only [je]) rfl (.inl ⟨_,W,?_,rfl,Ext.refl _⟩);clear jf hS;simp [go_sem,Act.eval, *];done)
       case hVx=>exact Av (by simp only [Aj,List.not_mem_nil,or_false,forall_eq_or_imp,forall_eq];and_intros <;> exact An _)
       case hSx=>exact fun W W' h hx=>Ext.trans h hx
       case hS=>exact jh.out
       case hfin =>
        intro A W jf jj hS hv ja;obtain ⟨x,hx,hA⟩:=Aw [33,34,35,36,37,38,39,40,41,42,43,44,45] (by kernel_rfl) jf jj ja;have e45:x 45=.bool false:=(hx 45).trans (hv 12 (by decide));rw [hA];simp only [List.foldl];rw [e45];clear e45;simp only [Act.put,List.setIfInBounds_toArray,List.set_cons_succ,List.set_cons_zero];clear hA hx hv ja jf jj;have jh:Hid (Ext w5 W):=hS;clear hS;have jd:MpG GT W w.heap.size E2:=(jb.out.kept (Below.block jl.out _ jb.out.lt)).kept (Below.block jh.out _ (jb.out.kept (Below.block jl.out _ jb.out.lt)).lt);have jk:=jd.look_ok FE (x:=k) jr;rw [ju.out] at jk;simp only [GT,Option.getD,Option.isSome] at jk;have ji:=A6 jd;clear jd
        go_wp2_with (at_mapUpdate;go_loud (refine EG FE ji.out (x:=k) (c:=c) jr kj (by have:=jm.out.1;omega) rfl _ _ _ rfl rfl rfl rfl ?_);intro w8 jT jR)
        go_roundg (BU rest ((m,n),c)).length
        case measure=>have:=jN.out;have:=Cp HP.out;omega
        case rel =>
         have jG:=((jq.out.below jl.out).below jh.out).kept jR (fun e=>by
          injection e with e;have:=HM.out.lt;omega) (fun e=>by injection e with e;omega)
         exact ⟨((m,n),c) :: P,_,Cv E2 k c,⟨jG,jT,HQ.out.lea.put j7.out jw.out j4.out,jp.out,(jg.out.trans (Below.mono jh.out jg.out.size)).grown jR (by have:=jg.out.size;have:=Below.size jh.out;omega) (fun q hq=>by injection hq with hq;omega),HQ.out.glt,HQ.out.rge,HQ.out.ne,by
          have h1:=jm.out.2;have h2:=GG E2 k c;split at h2 <;> omega⟩,rfl⟩
      | some old =>
       by_cases Jx:old≤c
       ·have kw:=A6 Jx;have kD:¬ (c:Int)<(old:Int):=by omega
        clear Jx;refine B6 (by kernel_rfl) (Vs [vq (.int .i64 (k:Int)),vq (.bool false),vq (.bool false),vq (.pointer (some ⟨gx,0,none⟩)),vq (.pointer (some ⟨gx,0,none⟩)),vq (.pointer (some ⟨gx,0,none⟩)),vq (.int .u8 acc),vq (.pointer (some ⟨g6,0,none⟩)),vq (.int .i64 (m:Int)),vq (.int .u8 (acc / 2 ^ m)),vq (.int .u8 (bits .and .u8 (acc / 2 ^ m) 1)),vq (.bool false),vq (.bool false)]) (fun W=>Ext w5 W) 80 (by kernel_rfl) rfl ?hVx ?hSx ?hS (BN ?hop) ?hfin
        case hop =>
         refine ⟨?_,?_,?_,?_,?_,?_,?_,?_,?_,?_,?_,?_,?_,trivial⟩
         all_goals
          intro A W jf hS je ja;have jc:Kc w5 W:=Kc.of hS (A7 _);obtain ⟨x0,x1⟩:=B3 (jc.block _ _ _ _ jz.out);have c0:=jc.cell (jo.out.cell jH.out);have c2:=jc.cell (jo.out.cell jI.out);have q0:=jc.cell jJ.out;clear jc;have h0:A.tmps.getD 0 undef=.pointer (some ⟨gx,0,none⟩):=ja 0 (by kernel_rfl);have h6:A.tmps.getD 6 undef=.pointer (some ⟨g6,0,none⟩):=ja 6 (by kernel_rfl);have h8:A.tmps.getD 8 undef=.int .i64 (k:Int):=ja 8 (by kernel_rfl);clear ja;simp [Aq,Region.binds,Vs,vq] at je
         all_goals first
          | (refine Ao rfl (.inl ⟨_,W,?_,rfl,Ext.refl _⟩);clear jf hS;simp [go_sem,Act.eval, *];done)
          | (refine B2 (j:=2) (d:=35) (b:=false) rfl (by kernel_rfl) (by simp only [je]) rfl (.inl ⟨_,W,?_,rfl,Ext.refl _⟩);clear jf hS;simp [go_sem,Act.eval, *];done)
        case hVx=>exact Av (by simp only [Aj,List.not_mem_nil,or_false,forall_eq_or_imp,forall_eq];and_intros <;> exact An _)
        case hSx=>exact fun W W' h hx=>Ext.trans h hx
        case hS=>exact jh.out
        case hfin =>
         intro A W jf jj hS hv ja;obtain ⟨x,hx,hA⟩:=Aw [33,34,35,36,37,38,39,40,41,42,43,44,45] (by kernel_rfl) jf jj ja;have e45:x 45=.bool false:=(hx 45).trans (hv 12 (by decide));rw [hA];simp only [List.foldl];rw [e45];clear e45;simp only [Act.put,List.setIfInBounds_toArray,List.set_cons_succ,List.set_cons_zero];clear hA hx hv ja jf jj;have jh:Hid (Ext w5 W):=hS;clear hS;have jd:MpG GT W w.heap.size E2:=(jb.out.kept (Below.block jl.out _ jb.out.lt)).kept (Below.block jh.out _ (jb.out.kept (Below.block jl.out _ jb.out.lt)).lt);have jk:=jd.look_ok FE (x:=k) jr;rw [ju.out] at jk;simp only [GT,Option.getD,Option.isSome] at jk;have ji:=A6 jd;clear jd
         go_wp2_with fail
         go_roundg (BU rest ((m,n),c)).length
         case measure=>have:=jN.out;have:=Cp HP.out;omega
         case rel =>
          exact ⟨((m,n),c) :: P,_,E2,⟨(jq.out.below jl.out).below jh.out,ji.out,HQ.out.lea.same j7.out jw.out ju.out kw.out,jp.out,jg.out.trans (Below.mono jh.out jg.out.size),HQ.out.glt,HQ.out.rge,HQ.out.ne,by have:=jm.out.2;omega⟩,rfl⟩
       ·have kD:(c:Int)<(old:Int):=by omega
        have j4:Hid (∀ d,look E2 k=some d→c<d):=fun d hd=>by rw [ju.out] at hd;injection hd with hd;omega
        clear Jx;refine B6 (by kernel_rfl) (Vs [vq (.int .i64 (k:Int)),vq (.bool false),vq (.bool false),vq (.pointer (some ⟨gx,0,none⟩)),vq (.pointer (some ⟨gx,0,none⟩)),vq (.pointer (some ⟨gx,0,none⟩)),vq (.int .u8 acc),vq (.pointer (some ⟨g6,0,none⟩)),vq (.int .i64 (m:Int)),vq (.int .u8 (acc / 2 ^ m)),vq (.int .u8 (bits .and .u8 (acc / 2 ^ m) 1)),vq (.bool false),vq (.bool false)]) (fun W=>Ext w5 W) 80 (by kernel_rfl) rfl ?hVx ?hSx ?hS (BN ?hop) ?hfin
        case hop =>
         refine ⟨?_,?_,?_,?_,?_,?_,?_,?_,?_,?_,?_,?_,?_,trivial⟩
         all_goals
          intro A W jf hS je ja;have jc:Kc w5 W:=Kc.of hS (A7 _);obtain ⟨x0,x1⟩:=B3 (jc.block _ _ _ _ jz.out);have c0:=jc.cell (jo.out.cell jH.out);have c2:=jc.cell (jo.out.cell jI.out);have q0:=jc.cell jJ.out;clear jc;have h0:A.tmps.getD 0 undef=.pointer (some ⟨gx,0,none⟩):=ja 0 (by kernel_rfl);have h6:A.tmps.getD 6 undef=.pointer (some ⟨g6,0,none⟩):=ja 6 (by kernel_rfl);have h8:A.tmps.getD 8 undef=.int .i64 (k:Int):=ja 8 (by kernel_rfl);clear ja;simp [Aq,Region.binds,Vs,vq] at je
         all_goals first
          | (refine Ao rfl (.inl ⟨_,W,?_,rfl,Ext.refl _⟩);clear jf hS;simp [go_sem,Act.eval, *];done)
          | (refine B2 (j:=2) (d:=35) (b:=false) rfl (by kernel_rfl) (by simp only [je]) rfl (.inl ⟨_,W,?_,rfl,Ext.refl _⟩);clear jf hS;simp [go_sem,Act.eval, *];done)
        case hVx=>exact Av (by simp only [Aj,List.not_mem_nil,or_false,forall_eq_or_imp,forall_eq];and_intros <;> exact An _)
        case hSx=>exact fun W W' h hx=>Ext.trans h hx
        case hS=>exact jh.out
        case hfin =>
         intro A W jf jj hS hv ja;obtain ⟨x,hx,hA⟩:=Aw [33,34,35,36,37,38,39,40,41,42,43,44,45] (by kernel_rfl) jf jj ja;have e45:x 45=.bool false:=(hx 45).trans (hv 12 (by decide));rw [hA];simp only [List.foldl];rw [e45];clear e45;simp only [Act.put,List.setIfInBounds_toArray,List.set_cons_succ,List.set_cons_zero];clear hA hx hv ja jf jj;have jh:Hid (Ext w5 W):=hS;clear hS;have jd:MpG GT W w.heap.size E2:=(jb.out.kept (Below.block jl.out _ jb.out.lt)).kept (Below.block jh.out _ (jb.out.kept (Below.block jl.out _ jb.out.lt)).lt);have jk:=jd.look_ok FE (x:=k) jr;rw [ju.out] at jk;simp only [GT,Option.getD,Option.isSome] at jk;have ji:=A6 jd;clear jd
         go_wp2_with (at_mapUpdate;go_loud (refine EG FE ji.out (x:=k) (c:=c) jr kj (by have:=jm.out.1;omega) rfl _ _ _ rfl rfl rfl rfl ?_);intro w8 jT jR)
         go_roundg (BU rest ((m,n),c)).length
         case measure=>have:=jN.out;have:=Cp HP.out;omega
         case rel =>
          have jG:=((jq.out.below jl.out).below jh.out).kept jR (fun e=>by
           injection e with e;have:=HM.out.lt;omega) (fun e=>by injection e with e;omega)
          exact ⟨((m,n),c) :: P,_,Cv E2 k c,⟨jG,jT,HQ.out.lea.put j7.out jw.out j4.out,jp.out,(jg.out.trans (Below.mono jh.out jg.out.size)).grown jR (by have:=jg.out.size;have:=Below.size jh.out;omega) (fun q hq=>by injection hq with hq;omega),HQ.out.glt,HQ.out.rge,HQ.out.ne,by
           have h1:=jm.out.2;have h2:=GG E2 k c;split at h2 <;> omega⟩,rfl⟩
end
end Go.Proofs.YthjmdgejnakcmaaGreatDoor
