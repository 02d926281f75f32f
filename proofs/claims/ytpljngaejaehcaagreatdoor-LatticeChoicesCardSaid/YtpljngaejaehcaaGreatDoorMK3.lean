/- Texts that the claims share: K6, K8. -/
import Derived.Deep.LoopGhost
import Derived.Laws.BitsAllLaws
import Derived.Test.YtpljngaejaehcaaGreatDoorMK2
set_option maxHeartbeats 6400000
set_option maxRecDepth 100000
set_option linter.unusedVariables false
set_option linter.unusedSimpArgs false
namespace Go.Proofs.YtpljngaejaehcaaGreatDoor
open Go.RowKit Go.WideShapes Fl
theorem O1 {R:List Rl} {L:List Slt} {i m C:Nat} {s:Rl} (hF:JP R) (hB:Bp C L) (h:s∈BL R L i m):s.frm=(m:Int)∧0≤s.dst∧s.dst<8∧s.inp.size≤4∧0≤s.cost∧s.cost≤1000+4*(C:Int)∧∃ r∈R,s.out=r.out:=by
 obtain ⟨h1,h2⟩:=AU.1 h;obtain ⟨r,k,hr,hk,rfl⟩:=I4.1 h1;have hf:=CQ.1 (hF r hr);have hc:=letsC_le (hB.drop i) hk;rw [CX] at hc;have hc2:r.inp.size*C≤4*C:=Nat.mul_le_mul_right C hf.2.2.2.2.1;refine ⟨of_decide_eq_true h2,hf.2.2.1,hf.2.2.2.1,hf.2.2.2.2.1,?_,?_,r,hr,rfl⟩
 · show 0≤r.cost+(k:Int);omega
 · show r.cost+(k:Int)≤_;omega
theorem B5 {w:World} {g:Nat} {a b:Int} {t:TypeId} (h:w.heap[g]? = some (.cells #[.int .i64 a,.int .i64 b] t (0,0))):w.cell? ⟨g,0,none⟩=some (.int .i64 a)∧w.cell? ⟨g,1,none⟩=some (.int .i64 b):=by
 refine ⟨?_,?_⟩ <;> (rw [cell_of_row w g _ _ _ (0,0) h];rfl)
structure Rw (R:List Rl) (L:List Slt) (T:List Bn) (i B0 D B:Nat) (gm:Nat→Nat) (M:Nat→Ent) (w w':World) (M':Nat→Ent):Prop where
 vx:VX w B gm i M' w'
 inv:Inv R L (folT T) i M'
 shut:∀ t,Shut R L (folT T) i M' t
 bnd:Bnd T.length i B0 D M'
 out:∀ j,¬ (i≤j∧j<i+5)→M' j=M j
structure VQ (w2:World) (B:Nat) (gm:Nat→Nat) (i:Nat) (M0 M:Nat→Ent) (q:List Stt) (v:Value) (w:World):Prop where
 vx:VX w2 B gm i M w
 own:AZ Fk w w2.heap.size v q
 out:∀ j,¬ (i≤j∧j<i+5)→M j=M0 j
theorem VQ.ext {w2 w w':World} {B i:Nat} {gm:Nat→Nat} {M0 M:Nat→Ent} {q:List Stt} {v:Value} (h:VQ w2 B gm i M0 M q v w) (hx:Ext w w') (hB:B≤w2.heap.size):VQ w2 B gm i M0 M q v w' :=
 ⟨h.vx.ext hx hB,h.own.later hx (A3 _),h.out⟩
def FN (w14:World) (g:Nat) (t:Stt) (E:Ent) (c:Nat) (b:Bool) (W:World):Prop:=match b with | false=>Ext w14 W | true=>Dz w14 W g t E c
theorem FN.kp {w14 W:World} {g:Nat} {t:Stt} {E:Ent} {c:Nat} (hm:MpG BY w14 g E):∀ {b:Bool},FN w14 g t E c b W→Kc w14 W
 | false,h=>Kc.of h (A3 _)
 | true,h=>Dz.kp h hm
section
variable {w w':World} {gx:Nat} {acc:Int} {aR:Option Addr} {nR cR:Nat} {aT:Option Addr} {nT cT:Nat} {aL:Option Addr} {nL cL:Nat} {gm:Nat→Nat}
theorem svisit_any (
          R
           :
            List Rl) (L:List Slt) (T:List Bn) (C i B0 D B:Nat) (M:Nat→Ent) (hx:SX w gx acc aR nR cR aT nT cT aL nL cL gm) (hR:BG w aR R) (YI:nR=R.length) (YG:nR≤1000) (hF:JP R) (hO:∀ r∈R,r.out.size≤1000000)
  (hL:CE w aL L) (hn:nL=L.length) (hnl:nL≤100000) (hi:i≤L.length) (Ya:Bp C L) (hC:C≤1000000) (hT:D6 w aT T) (YJ:nT=T.length) (hTl:nT≤100000) (Yd:PD T)
  (hG:Rv B gm) (Yb:B≤w.heap.size) (hm:∀ j,i≤j→j<i+5→MpG BY w (gm (j % 5)) (M j)) (kW:Inv R L (folT T) i M) (hb:Bnd T.length i B0 D M) (hD:1000+4*C≤D) (kb:8*T.length*(B0+(8*T.length+1)*D+2)≤900000000000) (hT0:0<T.length) :
  Calls Tryz.prog 79 #[.pointer (some ⟨gx,0,none⟩),.int .i64 (i:Int)] w fun e w'=>e=.returned (.tuple #[])∧∃ M',Rw R L T i B0 D B gm M w w' M':=by
 subst hn YI YJ;have HX:=A0 hx;have HR:=A0 hR;have HF:=A0 hF;have HO:=A0 hO;have HL:=A0 hL;have yT:=A0 Ya;have HT:=A0 hT;have y5:=A0 Yd;have HG:=A0 hG;have HM:=A0 hm;have yi:=A0 kW;have kf:=A0 hb;have yV:=A0 kb;have hgx:=hx.lt;clear hx hR hF hO hL Ya hT Yd hG hm kW hb kb;have jQ:=steps_any R L C i HX.out HR.out rfl YG HF.out HL.out rfl (by omega) hi yT.out hC;have kl:=A0 jQ;clear jQ
 go_enter Tryz.func79,Tryz.ntmps79
 go_wp2_with fail
 refine kl.out.mono ?_;rintro e w1 ⟨⟨va,vc,he,kt⟩,k9⟩;obtain ⟨F,yr⟩:∃ F,BL R L i=F:=⟨_,rfl⟩
 rw [yr] at he kt;obtain rfl:e=.returned (.agg #[.slice (va 0) (F 0).length (vc 0),.slice (va 1) (F 1).length (vc 1),.slice (va 2) (F 2).length (vc 2),.slice (va 3) (F 3).length (vc 3),.slice (va 4) (F 4).length (vc 4),.slice (va 5) (F 5).length (vc 5),.slice (va 6) (F 6).length (vc 6),.slice (va 7) (F 7).length (vc 7)]):=he;have yX:=A0 yr;clear yr;have YC:=A0 kt;have yQ:=A0 k9;clear kt k9
 go_upto_region 1 with fail
 obtain ⟨g4,kc⟩:∃ g4,w1.heap.size=g4:=⟨_,rfl⟩
 obtain ⟨w2,k4⟩:∃ w2,w1.alloc (.cells #[.slice (va 0) (F 0).length (vc 0),.slice (va 1) (F 1).length (vc 1),.slice (va 2) (F 2).length (vc 2),.slice (va 3) (F 3).length (vc 3),.slice (va 4) (F 4).length (vc 4),.slice (va 5) (F 5).length (vc 5),.slice (va 6) (F 6).length (vc 6),.slice (va 7) (F 7).length (vc 7)] 184)=w2:=⟨_,rfl⟩
 rw [k4,kc];have yZ:Hid (w2.heap[g4]? = some (.cells (st8 (slV va vc F)) 184 (0,0))):=by
  show _=_;rw [← k4,← kc];exact heap_alloc_new _ _
 have kL:Hid (Below w1.heap.size w1 w2):=by
  show Below _ _ _;rw [← k4];exact (Below.refl _ _).alloc (A3 _) _
 have k5:Hid (Below w.heap.size w w2):=yQ.out.trans (kL.out.mono yQ.out.size);have k6:Hid (Kc w w2):=Kc.of k5.out (A3 _);have yp:Hid (∀ m,m<8→BG w2 (va m) (F m)):=fun m hm=>BG.later (YC.out m hm) kL.out (A3 _);have y7:Hid (∀ j,i≤j→j<i+5→MpG BY w2 (gm (j % 5)) (M j)):=fun j h1 h2=>(HM.out j h1 h2).kept (k5.out.block _ (HM.out j h1 h2).lt);have jU:B≤w2.heap.size:=A8 Yb k5.out.size;obtain ⟨jh,ya⟩:∃ jh,i % 5=jh:=⟨_,rfl⟩
 have Yy:=A0 ya;have yI:=y7.out i (A3 _) (by omega);rw [ya] at yI;have YA:=A0 yI;have Yg:=Es i jh (by omega) ya (HX.out.kp k6.out);have Ys:=A0 Yg;have kh:Hid ((M i).length≤8*T.length):=kf.out.len i;clear kc k4 ya yI Yg
 go_wp2_with fail
 refine Ys.out.mono ?_;rintro e w2' ⟨rfl,rfl⟩
 go_wp2_with (at_range;refine Er C0 YA.out rfl _ rfl rfl ?_;intro w3 k2 Yh Yr)
 go_frame;have yo:=A0 k2;have Yt:=A0 Yh;have HS3:=A0 Yr;clear k2 Yh Yr
 go_loopg [6] (M i).length (fun g v6 wr=>∃ (q:List Stt) (rest:List (Stt × Nat)),AZ Fk wr w2.heap.size v6 q∧RgG BY wr (gm jh) w2.heap.size (M i) rest∧rest.length=g∧q.length+rest.length≤(M i).length∧rest.Nodup∧(∀ t,t∈q↔∃ c,(t,c)∈M i∧(t,c) ∉ rest)∧Below w2.heap.size w2 wr)
 case atStart =>
  refine ⟨[],M i,AZ.nil _ _ _,yo.out,rfl,by simp,?_,fun t=>?_,Yt.out⟩
  · exact (AR.1 ((Gg _).1 (kf.out.keys i))).imp fun YK e=>YK (by rw [e])
  · simp
 case round =>
  obtain ⟨q,rest,ks,Yq,kd,kX,Yn,hq,yt⟩:=hrel;obtain ⟨qa,qc,YL, -, -⟩:=ks.form;subst YL;have k8:=A0 ks;have yn:=A0 Yq;have ki:=A0 kX;have YB:=A0 Yn;have HQ:=A0 hq;have yS:=A0 yt;have Yx:=A0 kd;have hz3:=yt.size;clear ks Yq kX Yn hq yt kd
  go_wp2_with (at_next;refine wpList_next_g C0 yn.out rfl _ rfl rfl ?_ ?_)
  ·intro
      h0
   have jS:Vis R L (folT T) i T.length B0 D q 0 M:=CR.start yi.out kf.out fun t=>by
    rw [HQ.out,h0];constructor
    · rintro ⟨c,h1,_⟩;exact ⟨c,BM (kf.out.keys i) h1⟩
    · rintro ⟨c,h1⟩;exact ⟨c,C1 h1,List.not_mem_nil⟩
   have jV:VQ w2 B gm i M M q (.slice qa q.length qc) wr:=⟨(VX.refl y7.out).ext yS.out jU,k8.out,fun _ _=>rfl⟩
   have jl:=A0 jS;have jG:=A0 jV;obtain ⟨Cm,kN⟩:∃ Cm,B0+(8*T.length+1)*D=Cm:=⟨_,rfl⟩
   have ke:q.length+pot T.length Cm (M i)≤999999999999:=by
    have h1:pot T.length Cm (M i)≤8*T.length*(Cm+1):=Rs (kf.out.keys i) (kf.out.rng i) fun p hp=>by
     have h2:=kf.out.here p hp;have h3:(M i).length*D≤8*T.length*D:=Nat.mul_le_mul_right D kh.out;rw [← kN,Nat.add_mul];omega
    have h4:=ki.out;have h5:=yV.out;rw [kN] at h5;have h6:8*T.length*(Cm+2)=8*T.length*(Cm+1)+8*T.length:=by rw [show Cm+2=(Cm+1)+1 by omega,Nat.mul_add,Nat.mul_one]
    have:=kh.out;omega
   have hCmb:Cm≤900000000000:=by
    have h5:=yV.out;rw [kN] at h5;have h6:1*(Cm+2)≤8*T.length*(Cm+2):=Nat.mul_le_mul_right _ (by omega);omega
   have Yv:=A0 kN;have jF:=A0 ke;clear h0 jS jV kN ke
   go_wp2_with fail
   go_loopg [6,8] (q.length+pot T.length Cm (M i)) (fun g v6 v8 wr=>∃ (n:Nat) (q:List Stt) (M':Nat→Ent),v8=.int .i64 (n:Int)∧n≤q.length∧VQ w2 B gm i M M' q v6 wr∧Vis R L (folT T) i T.length B0 D q n M'∧(q.length - n)+pot T.length Cm (M' i)=g∧q.length+pot T.length Cm (M' i)≤999999999999)
   case atStart=>exact ⟨0,q,M,rfl,Nat.zero_le _,jG.out,jl.out,rfl,jF.out⟩
   case round =>
    clear jG jl jF;obtain ⟨n,q2,M2,rfl,hn,jV,jS,kd,k1⟩:=hrel;obtain ⟨qa2,qc2,yK, -, -⟩:=jV.own.form;subst yK;have jG:=A0 jV;have jl:=A0 jS;have yh:=A0 kd;have jF:=A0 k1;clear jV jS kd k1;have hnb:n≤999999999999:=by have:=jF.out;omega
    by_cases kx:n<q2.length
    ·obtain ⟨
         bq,
           hbq,hbq1,hbq2,q0,q1⟩:=jG.out.own.stt kx
     subst hbq;obtain ⟨ct,kP⟩:=jl.out.qs q2[n] (AG kx);have yO:=jl.out.bnd.rng i _ (C1 kP);have kR:=jl.out.enter kx rfl kP;have yv:=jl.out.bnd.here_le kP;obtain ⟨t,ht⟩:∃ t,q2[n]=t:=⟨_,rfl⟩
     rw [ht] at q0 q1 kP yO kR;obtain ⟨m,nd⟩:=t;simp only at q0 q1 yO;obtain ⟨Yl,kY⟩:=yO;have yE:=Qi bq q2.length qc2 n kx;have Yw:=A0 kR;have j4:wr.cell? ⟨g4,m,none⟩=some (.slice (va m) (F m).length (vc m)):=jG.out.vx.kp.cell (by rw [cell_of_row w2 g4 _ _ _ (0,0) yZ.out,K4 _ Yl];rfl);have yz:g4<wr.heap.size:=A7 (A5.1 yZ.out).1 jG.out.vx.kp.size;have hm8I:(m:Int)<8:=by omega
     have hm0I:(0:Int)≤(m:Int):=by omega
     have YF:(F m).length≤1000:=by
      have:=I7 (R:=R) (L:=L) (i:=i) (m:=m);rw [yX.out] at this;omega
     have hct3:ct+D≤Cm:=by
      have h1:=Yv.out;rw [Nat.add_mul] at h1;omega
     obtain ⟨Fm,ys⟩:∃ Fm,F m=Fm:=⟨_,rfl⟩
     have kt:=yp.out m Yl;rw [ys] at j4 YF kt;have y8:=A0 kt;have yY:Hid (BL R L i m=Fm):=by show _=_;rw [yX.out,ys]
     obtain ⟨am,Yf⟩:∃ am,va m=am:=⟨_,rfl⟩
     obtain ⟨cm,Yk⟩:∃ cm,vc m=cm:=⟨_,rfl⟩
     rw [Yf] at j4 y8;rw [Yk] at j4;have HQT:=A0 ht;clear kP kR yv ht ys Yf Yk kt
     go_upto_region 12 with fail
     obtain ⟨w9,yf⟩:∃ w9,wr.alloc (.cells #[.int .i64 (m:Int),.int .i64 (nd:Int)] 183)=w9:=⟨_,rfl⟩
     rw [yf];have YE:Hid (Ext wr w9):=by
      show Ext _ _;rw [← yf];exact (Below.refl _ _).alloc (A3 _) _
     have yU:Hid (w9.heap[wr.heap.size]? = some (.cells #[.int .i64 (m:Int),.int .i64 (nd:Int)] 183 (0,0))):=by
      show _=_;rw [← yf];exact heap_alloc_new _ _
     have yq:=A0 (jG.out.ext YE.out jU);have jT:Hid ((.slice (some ⟨bq,0,none⟩) q2.length qc2:Value).ownBlock≠some wr.heap.size):=fun e=>by
      have:=jG.out.own.lt _ e;omega
     obtain ⟨g9,kU⟩:∃ g9,wr.heap.size=g9:=⟨_,rfl⟩
     rw [kU] at yU jT ⊢;clear yf kU q0 q1 yE j4 yz hbq1 hbq2
     go_loopg [6,46] Fm.length (fun g v6 v46 wr=>∃ (k:Nat) (q3:List Stt) (M3:Nat→Ent),v46=.int .i64 (k:Int)∧k≤Fm.length∧g=Fm.length - k∧VQ w2 B gm i M M3 q3 v6 wr∧CR R L (folT T) i T.length B0 D q3 n M3 (m,nd) ct (Fm.take k)∧q3.length+pot T.length Cm (M3 i)≤q2.length+pot T.length Cm (M2 i)∧n<q3.length∧wr.heap[g9]? = some (.cells #[.int .i64 (m:Int),.int .i64 (nd:Int)] 183 (0,0))∧v6.ownBlock≠some g9)
     case atStart=>exact ⟨0,q2,M2,rfl,Nat.zero_le _,rfl,yq.out,Yw.out,A3 _,kx,yU.out,jT.out⟩
     case round =>
      obtain ⟨k,q3,M3,rfl,hk,kd,jV,ky,Yo,kq,kU,Ym⟩:=hrel;obtain ⟨qa3,qc3,yL, -, -⟩:=jV.own.form;subst yL;have jm:=A0 jV;have jL:=A0 ky;have jZ:=A0 Yo;have jE:=A0 kd;have kF:=A0 kU;have jT:=A0 Ym;clear jV ky Yo kd kU Ym;by_cases yb:k<Fm.length
      ·have ye:Fm[k]∈BL R L i m:=by rw [yY.out];exact AG yb
       obtain ⟨yy,yw,yx,kV,Yi,yu,r,Yp,yN⟩:=O1 HF.out yT.out ye;have kr:Fm[k].out.size≤1000000:=by rw [yN];exact HO.out r Yp
       obtain ⟨b1,o1,Ye,k9,r0,r1,r2,r3,r4⟩:=(BG.kp y8.out jm.out.vx.kp).at yb;have YH:=Bx am b1 o1 Fm.length cm k Ye yb;have yP:Fm.take (k+1)=Fm.take k ++ [Fm[k]]:=AN yb;obtain ⟨s,hs⟩:∃ s,Fm[k]=s:=⟨_,rfl⟩
       rw [hs] at ye yy yw yx kV Yi yu yN kr r0 r1 r2 r3 r4 yP;obtain ⟨frm,dst,inp,out,cost⟩:=s;simp only at yy yw yx kV Yi yu kr r0 r1 r2 r3 r4;obtain ⟨d0,rfl⟩:∃ d0:Nat,dst=(d0:Int):=⟨dst.toNat,by omega⟩
       obtain ⟨c0,rfl⟩:∃ c0:Nat,cost=(c0:Int):=⟨cost.toNat,by omega⟩
       have y9:=A0 ye;have kw:=A0 yP;have kQ:d0<8:=by omega
       have kO:c0≤D:=by omega
       clear ye yy yw yx yN Ye hs yP Yp yu
       go_upto_region 14 with fail
       obtain ⟨w11,j7⟩:∃ w11,wr.alloc (.cells #[.int .i64 frm,.int .i64 (d0:Int),.string inp,.string out,.int .i64 (c0:Int)] 88)=w11:=⟨_,rfl⟩
       rw [j7];have j1:Hid (Ext wr w11):=by
        show Ext _ _;rw [← j7];exact (Below.refl _ _).alloc (A3 _) _
       have jD:Hid (w11.heap[wr.heap.size]? = some (.cells #[.int .i64 frm,.int .i64 (d0:Int),.string inp,.string out,.int .i64 (c0:Int)] 88 (0,0))):=by
        show _=_;rw [← j7];exact heap_alloc_new _ _
       obtain ⟨g11,kS⟩:∃ g11,wr.heap.size=g11:=⟨_,rfl⟩
       rw [kS] at jD ⊢;have y6:Hid (Kc w w11):=(k6.out.trans jm.out.vx.kp).trans (Kc.of j1.out (A3 _));obtain ⟨y0,y1,y2,y3,y4⟩:=BP jD.out;have yg:Hid (w11.heap[g9]? = some (.cells #[.int .i64 (m:Int),.int .i64 (nd:Int)] 183 (0,0))):=(Kc.of j1.out (A3 _)).block _ _ _ _ kF.out;obtain ⟨x0,x1⟩:=B5 yg.out;have km:=follow_any T nd out (HX.out.kp y6.out) (HT.out.kp y6.out) rfl (by omega) kY kr y5.out;obtain ⟨lf,yG⟩:∃ lf,folT T nd (bts out)=lf:=⟨_,rfl⟩
       have kj:=A0 yG;rw [yG] at km;have kD:=A0 km;clear j7 kS km yG r0 r1 r2 r3 r4 YH k9;cases lf with
       | none =>
        go_wp2_with fail
        refine kD.out.mono ?_;rintro e w12 ⟨he,jx⟩;obtain rfl:e=_:=he;have kg:Hid (Ext wr w12):=Ext.trans j1.out jx;obtain ⟨z0,z1,z2,z3,z4⟩:=BP ((jx.block g11 (A5.1 jD.out).1).trans jD.out);have yW:Hid (∀ o,Ext wr (w12.alloc o)):=fun o=>Ext.trans kg.out ((Below.refl _ _).alloc (A3 _) _);clear jx x0 x1 y0 y1 y2 y3 y4
        go_wp2_with fail
        go_roundg (Fm.length - (k+1))
        case measure=>have:=jE.out;omega
        case rel=>exact ⟨k+1,q3,M3,by go_num,by omega,rfl,jm.out.ext (yW.out _) jU,by rw [kw.out];exact jL.out.skip kj.out,jZ.out,kq,(Kc.of (yW.out _) (A3 _)).block _ _ _ _ kF.out,jT.out⟩
       | some n2
            =>
        have yc:n2<T.length:=N9 y5.out kY kj.out
        go_wp2_with fail
        refine kD.out.mono ?_;rintro e w12 ⟨he,jx⟩;obtain rfl:e=_:=he;have kg:Hid (Ext wr w12):=Ext.trans j1.out jx;have jH:Hid (w12.heap[g11]? = some (.cells #[.int .i64 frm,.int .i64 (d0:Int),.string inp,.string out,.int .i64 (c0:Int)] 88 (0,0))):=(jx.block g11 (A5.1 jD.out).1).trans jD.out;obtain ⟨z0,z1,z2,z3,z4⟩:=BP jH.out;clear jx x0 x1 y0 y1 y2 y3 y4
        go_upto_region 16 with fail
        obtain ⟨w14,j8⟩:∃ w14,w12.alloc (.cells #[.int .i64 (d0:Int),.int .i64 (n2:Int)] 183)=w14:=⟨_,rfl⟩
        rw [j8];have Jx:Hid (Ext w12 w14):=by
         show Ext _ _;rw [← j8];exact (Below.refl _ _).alloc (A3 _) _
        have jt:Hid (w14.heap[w12.heap.size]? = some (.cells #[.int .i64 (d0:Int),.int .i64 (n2:Int)] 183 (0,0))):=by
         show _=_;rw [← j8];exact heap_alloc_new _ _
        obtain ⟨g14,kT⟩:∃ g14,w12.heap.size=g14:=⟨_,rfl⟩
        rw [kT] at jt ⊢;have jI:Hid (Ext wr w14):=Ext.trans kg.out Jx.out;have jW:Hid (Kc w w14):=(k6.out.trans jm.out.vx.kp).trans (Kc.of jI.out (A3 _));have jq:Hid (w14.heap[g11]? = some (.cells #[.int .i64 frm,.int .i64 (d0:Int),.string inp,.string out,.int .i64 (c0:Int)] 88 (0,0))):=(Below.block Jx.out g11 (A5.1 jH.out).1).trans jH.out;have jr:Hid (w14.heap[g9]? = some (.cells #[.int .i64 (m:Int),.int .i64 (nd:Int)] 183 (0,0))):=(Kc.of jI.out (A3 _)).block _ _ _ _ kF.out;have jf:=A0 (jm.out.ext jI.out jU);have kG:=A0 jL.out.here;obtain ⟨jn,yF⟩:∃ jn,(i+inp.size) % 5=jn:=⟨_,rfl⟩
        have kv:=A0 yF;have yJ:=jf.out.vx.maps (i+inp.size) (by omega) (by omega);have yH:=jf.out.vx.maps i (A3 _) (by omega);rw [yF] at yJ;rw [Yy.out] at yH;have ju:=A0 yJ;have j9:=A0 yH;have k7:Hid ((M3 (i+inp.size)).length<1000000):=by show _<_;have:=jL.out.bnd.len (i+inp.size);omega
        have jY:Hid (BY.ok (m,nd)):=⟨by show m<1000000;omega,by show nd<1000000;omega⟩
        have jX:Hid (BY.ok (d0,n2)):=⟨by show d0<1000000;omega,by show n2<1000000;omega⟩
        obtain ⟨z0',z1',z2',z3',z4'⟩:=BP jq.out;obtain ⟨x0',x1'⟩:=B5 jr.out;obtain ⟨u0',u1'⟩:=B5 jt.out;clear j8 kT yF yJ yH z0 z1 z2 z3 z4;have hw1:IntKind.i64.wrap ((i:Int)+(inp.size:Int))=(i:Int)+(inp.size:Int):=IntWalk.i64_in _ (by omega);have k4:IntKind.i64.wrap ((ct:Int)+(c0:Int))=(ct:Int)+(c0:Int):=IntWalk.i64_in _ (by omega);have j2:=Qh d0 n2 m nd;by_cases hz:inp.size=0
        ·have YM:(
               (inp.size:Int) == 0)=true:=by rw [hz];rfl
         by_cases hs:(d0,n2)=(m,nd)
         ·have kK:Hid (CR R L (folT T) i T.length B0 D q3 n M3 (m,nd) ct (Fm.take k ++ [⟨frm,(d0:Int),inp,out,(c0:Int)⟩])):=jL.out.same (n':=n2) (old:=ct) kj.out (by show look (M3 (i+inp.size)) (d0,n2)=_;rw [hz,hs];exact kG.out) (Nat.le_add_right _ _);have k3:decide ((d0,n2)=(m,nd))=true:=decide_eq_true hs;rw [k3] at j2;clear k3 hz hs
          go_wp2_with fail
          go_roundg (Fm.length - (k+1))
          case measure=>have:=jE.out;omega
          case rel=>exact ⟨k+1,q3,M3,by go_num,by omega,rfl,jf.out,by rw [kw.out];exact kK.out,jZ.out,kq,jr.out,jT.out⟩
         ·have k3:decide ((d0,n2)=(m,nd))=false:=decide_eq_false hs;rw [k3] at j2;have HZ:=A0 hz;have yj:Hid (inp.size=0→(d0,n2)≠(m,nd)):=fun _=>hs;clear k3 hz hs
          go_wp2_with fail
          clear j2 x0' x1' u0' u1' z0' z1' z2' z3' z4';obtain ⟨po,j6⟩:∃ po,look (M3 (i+inp.size)) (d0,n2)=po:=⟨_,rfl⟩
          by_cases jy:∃ old,po=some old∧old≤ct+c0
          ·obtain ⟨old,rfl,kZ⟩:=jy;have kI:=A0 j6;have kH:=A0 kZ;have kK:Hid (CR R L (folT T) i T.length B0 D q3 n M3 (m,nd) ct (Fm.take k ++ [⟨frm,(d0:Int),inp,out,(c0:Int)⟩])):=jL.out.same (n':=n2) (old:=old) kj.out kI.out kH.out;clear j6 kZ;refine An (by kernel_rfl) (Vs [vq (.pointer (some ⟨gx,0,none⟩)),vq (.int .i64 (i:Int)),vq (.pointer (some ⟨g11,2,none⟩)),vq (.string inp),vq (.int .i64 (inp.size:Int)),vq (.int .i64 ((i:Int)+(inp.size:Int))),vq (.agg #[.int .i64 (d0:Int),.int .i64 (n2:Int)]),vq (.map (some (gm jh))),vq (.agg #[.int .i64 (m:Int),.int .i64 (nd:Int)]),vq (.int .i64 (ct:Int)),vq (.pointer (some ⟨g11,4,none⟩)),vq (.int .i64 (c0:Int)),vq (.int .i64 ((ct:Int)+(c0:Int))),vq (.bool false),vq (.bool false),vq (undef),vq (undef),vq (undef),vq (undef),vq (.bool false)]) (Xs []) (fun fL=>(fun W=>Ext w14 W) ) [0,0,0,4,12,30,0,0,0,384,0,1024,3968,8191,16383,32767,65535,131071,262143,524287] 101 20 (by kernel_rfl) rfl ?hV ?hS ?hop ?hfin ?hlast
           case hV =>
            refine Az (Af (by simp only [AS,List.not_mem_nil,or_false,forall_eq_or_imp,forall_eq];and_intros <;> exact AW _)) ?_;exact trivial
           case hS =>
            intro fL hf;show (fun W=>Ext w14 W)  _
            first | exact Ext.refl _ | exact B8 _
           case hop =>
            refine ⟨?_,?_,?_,?_,?_,?_,?_,?_,?_,?c9,?_,?_,?_,?c13,?_,?_,?_,?_,?_,?_,trivial⟩
            all_goals first | rw [if_neg (by decide)] | rw [if_pos (by decide)]
            all_goals try intro ac W fL je jo j5 j3 jb jd ja jz
            all_goals try have hS:(fun W=>Ext w14 W)  W:=jb
            all_goals try (
             have jp:Kc w14 W:=Kc.of jb (A3 _);obtain ⟨z0,z1,z2,z3,z4⟩:=BP (jp.block _ _ _ _ jq.out);obtain ⟨x0,x1⟩:=B5 (jp.block _ _ _ _ jr.out);obtain ⟨u0,u1⟩:=B5 (jp.block _ _ _ _ jt.out);clear jp)
            all_goals try have yA:=gdA ac 0 (.pointer (some ⟨gx,0,none⟩)) (ja 0 (by kernel_rfl))
            all_goals try have yB:=gdA ac 1 (.int .i64 (i:Int)) (ja 1 (by kernel_rfl))
            all_goals try have yC:=gdA ac 5 (.map (some (gm jh))) (ja 5 (by kernel_rfl))
            all_goals try have yD:=gdA ac 9 (.pointer (some ⟨g9,0,none⟩)) (ja 9 (by kernel_rfl))
            all_goals try have kn:=gdA ac 11 (.pointer (some ⟨g11,0,none⟩)) (ja 11 (by kernel_rfl))
            all_goals try have ko:=gdA ac 14 (.pointer (some ⟨g14,0,none⟩)) (ja 14 (by kernel_rfl))
            all_goals try (have jd:=DJ jd;simp [Cg,AY,vq] at jd)
            all_goals try clear ja j5 j3 jz
            case c9 =>
             have jw:(fun W=>Ext w14 W)  W:=jb;have jj:=(j9.out.kept (Below.block hS _ j9.out.lt)).look C0 (x:=(m,nd)) jY.out;rw [kG.out] at jj;simp only [BY,FL,Option.getD] at jj;refine AX rfl (.inl ⟨_,W,?_,rfl,Ext.refl _,jw⟩);clear je hS jb jw jo;simp [go_sem,Act.eval, *]
            case c13 =>
             have jw:(fun W=>Ext w14 W)  W:=jb;have jc:=PC (i+inp.size) jn d0 n2 (ct+c0) (M3 (i+inp.size)) (by omega) kv.out ((HX.out.kp jW.out).kp (Kc.of hS (A3 _))) (ju.out.kept (Below.block hS _ ju.out.lt)) jX.out k7.out (by omega) old kI.out kH.out;rw [show ((i+inp.size:Nat):Int)=(i:Int)+(inp.size:Int) by omega,show ((ct+c0:Nat):Int)=(ct:Int)+(c0:Int) by omega] at jc;refine AX rfl (.inr ⟨106,#[.pointer (some ⟨gx,0,none⟩),.int .i64 ((i:Int)+(inp.size:Int)),.agg #[.int .i64 (d0:Int),.int .i64 (n2:Int)],.int .i64 ((ct:Int)+(c0:Int))],W,by (clear je hS jb jw jo jc;simp [go_sem,Act.eval, *]),?_⟩);refine jc.mono ?_;rintro e w' ⟨rfl,hp⟩;exact ⟨_,rfl,⟨rfl,hp,Ext.trans jb hp⟩⟩
            all_goals try exact DM (j:=14) (d:=90) (b:=false) rfl (by kernel_rfl) (by simp only [jd]) rfl ⟨rfl,jb⟩
            all_goals (refine AX rfl (.inl ⟨_,W,?_,rfl,Ext.refl _,jb⟩);clear je hS jb jo;simp [go_sem,Act.eval, *];done)
           case hlast =>
            intro h;exact absurd rfl h
           case hfin =>
            intro _ ac W je jM fL hf jb hv ja;have hS:(fun W=>Ext w14 W)  W:=jb;clear jb;obtain ⟨sx,jR,jP⟩:=Ag [76,77,78,79,80,81,82,83,84,85,86,87,88,89,90,91,92,93,94,95] (by kernel_rfl) je jM ja;have e95:sx 95=.bool false:=(jR 95).trans (hv 19 (by decide));rw [jP];simp only [List.foldl];rw [e95];clear e95;simp only [Act.put,List.setIfInBounds_toArray,List.set_cons_succ,List.set_cons_zero];clear jP jR hv ja je jM hf;have kB:Hid (Ext wr W):=Ext.trans jI.out hS;clear hS
            go_wp2_with fail
            go_roundg (Fm.length - (k+1))
            case measure=>have:=jE.out;omega
            case rel=>exact ⟨k+1,q3,M3,by go_num,by omega,rfl,jm.out.ext kB.out jU,by rw [kw.out];exact kK.out,jZ.out,kq,(Kc.of kB.out (A3 _)).block _ _ _ _ kF.out,jT.out⟩
          ·have kk:Hid (∀ x,look (M3 (i+inp.size)) (d0,n2)=some x→ct+c0<x):=fun x hx=>by
            rw [j6] at hx;exact Nat.lt_of_not_le fun h9=>jy ⟨x,hx,h9⟩
           have jc:CR R L (folT T) i T.length B0 D (if inp.size=0 then q3 ++ [(d0,n2)] else q3) n (DE M3 (i+inp.size) (d0,n2) (ct+c0)) (m,nd) ct (Fm.take k ++ [⟨frm,(d0:Int),inp,out,(c0:Int)⟩]):=jL.out.put (m:=d0) y9.out HF.out kj.out yc kO rfl kq kk.out yj.out;have jO:=LD (q:=q3) (C:=Cm) (j:=i+inp.size) (c:=ct+c0) jL.out.bnd (by omega) kQ yc (by omega) kk.out;rw [if_pos HZ.out] at jc;rw [if_pos (by have:=HZ.out;omega)] at jO;rw [Nat.add_comm] at jO;rw [Nat.add_comm (pot T.length Cm (M3 i))] at jO;have ym:=A0 jc;have yl:=A0 jO;clear j6 jy jc jO;refine An (by kernel_rfl) (Vs [vq (.pointer (some ⟨gx,0,none⟩)),vq (.int .i64 (i:Int)),vq (.pointer (some ⟨g11,2,none⟩)),vq (.string inp),vq (.int .i64 (inp.size:Int)),vq (.int .i64 ((i:Int)+(inp.size:Int))),vq (.agg #[.int .i64 (d0:Int),.int .i64 (n2:Int)]),vq (.map (some (gm jh))),vq (.agg #[.int .i64 (m:Int),.int .i64 (nd:Int)]),vq (.int .i64 (ct:Int)),vq (.pointer (some ⟨g11,4,none⟩)),vq (.int .i64 (c0:Int)),vq (.int .i64 ((ct:Int)+(c0:Int))),vq (.bool true),vq (.bool true),vq (.pointer (some ⟨g11,2,none⟩)),vq (.string inp),vq (.int .i64 (inp.size:Int)),vq (.bool true),vq (.bool true)]) (Xs [Ext,Ext,Ext,Ext,Ext,Ext,Ext,Ext,Ext,Ext,Ext,Ext,Ext,(fun _ _=>True),Ext,Ext,Ext,Ext,Ext,Ext]) (fun fL=>(FN w14 (gm jn) (d0,n2) (M3 (i+inp.size)) (ct+c0)) (fL 13)) [0,0,0,4,12,30,0,0,0,384,0,1024,3968,8191,16383,32767,65535,131071,262143,524287] 101 20 (by kernel_rfl) rfl ?hV ?hS ?hop ?hfin ?hlast
           case hV =>
            refine Az (Af (by simp only [AS,List.not_mem_nil,or_false,forall_eq_or_imp,forall_eq];and_intros <;> exact AW _)) ?_;exact ⟨.inl rfl,.inl rfl,.inl rfl,.inl rfl,.inl rfl,.inl rfl,.inl rfl,.inl rfl,.inl rfl,.inl rfl,.inl rfl,.inl rfl,.inl rfl,.inr (Aw ⟨fun _ _=>fun _ _ _ h _=>h,fun _ _=>fun _ _ _ h _=>h,fun _ _=>fun _ _ _ h _=>h,fun _ _=>fun _ _ _ h _=>h,fun _ _=>fun _ _ _ h _=>h,fun _ _=>fun _ _ _ h _=>h,fun _ _=>fun _ _ _ h _=>h,fun _ _=>fun _ _ _ h _=>h,fun _ _=>fun _ _ _ h _=>h,fun _ _=>fun _ _ _ h _=>h,fun _ _=>fun _ _ _ h _=>h,fun _ _=>fun _ _ _ h _=>h,fun _ _=>fun _ _ _ h _=>h,fun h=>absurd rfl h,fun _ h=>absurd h (by decide),fun _ h=>absurd h (by decide),fun _ h=>absurd h (by decide),fun _ h=>absurd h (by decide),fun _ h=>absurd h (by decide),fun _ h=>absurd h (by decide),trivial⟩),.inl rfl,.inl rfl,.inl rfl,.inl rfl,.inl rfl,.inl rfl,trivial⟩
           case hS =>
            intro fL hf;show (FN w14 (gm jn) (d0,n2) (M3 (i+inp.size)) (ct+c0)) (fL 13) _;rw [hf 13 (by decide)]
            first | exact Ext.refl _ | exact B8 _
           case hop =>
            refine ⟨?_,?_,?_,?_,?_,?_,?_,?_,?_,?c9,?_,?_,?_,?c13,?_,?_,?_,?_,?_,?_,trivial⟩
            all_goals first | rw [if_neg (by decide)] | rw [if_pos (by decide)]
            all_goals try intro ac W fL je jo j5 j3 jb jd ja jz
            all_goals try have hS:(FN w14 (gm jn) (d0,n2) (M3 (i+inp.size)) (ct+c0)) (fL 13) W:=jb
            all_goals try (have jg:fL 13=true:=j5 13 (by decide);rw [jg] at hS)
            all_goals try (have jg:fL 13=false:=(by first | exact jo | exact j3 13 (by decide) (by decide));rw [jg] at hS)
            all_goals try (
             have jp:Kc w14 W:=FN.kp ju.out jb;obtain ⟨z0,z1,z2,z3,z4⟩:=BP (jp.block _ _ _ _ jq.out);obtain ⟨x0,x1⟩:=B5 (jp.block _ _ _ _ jr.out);obtain ⟨u0,u1⟩:=B5 (jp.block _ _ _ _ jt.out);clear jp)
            all_goals try have yA:=gdA ac 0 (.pointer (some ⟨gx,0,none⟩)) (ja 0 (by kernel_rfl))
            all_goals try have yB:=gdA ac 1 (.int .i64 (i:Int)) (ja 1 (by kernel_rfl))
            all_goals try have yC:=gdA ac 5 (.map (some (gm jh))) (ja 5 (by kernel_rfl))
            all_goals try have yD:=gdA ac 9 (.pointer (some ⟨g9,0,none⟩)) (ja 9 (by kernel_rfl))
            all_goals try have kn:=gdA ac 11 (.pointer (some ⟨g11,0,none⟩)) (ja 11 (by kernel_rfl))
            all_goals try have ko:=gdA ac 14 (.pointer (some ⟨g14,0,none⟩)) (ja 14 (by kernel_rfl))
            all_goals try (have jd:=DJ jd;simp [Cg,AY,vq] at jd)
            all_goals try clear ja j5 j3 jz
            case c9 =>
             have jw:(FN w14 (gm jn) (d0,n2) (M3 (i+inp.size)) (ct+c0)) ((upd fL 9) 13) W:=jb;have jj:=(j9.out.kept (Below.block hS _ j9.out.lt)).look C0 (x:=(m,nd)) jY.out;rw [kG.out] at jj;simp only [BY,FL,Option.getD] at jj;refine AX rfl (.inl ⟨_,W,?_,rfl,Ext.refl _,jw⟩);clear je hS jb jw jo;simp [go_sem,Act.eval, *]
            case c13 =>
             have jc:=N7 (i+inp.size) jn d0 n2 (ct+c0) (M3 (i+inp.size)) (by omega) kv.out ((HX.out.kp jW.out).kp (Kc.of hS (A3 _))) (ju.out.kept (Below.block hS _ ju.out.lt)) jX.out k7.out (by omega) kk.out;rw [show ((i+inp.size:Nat):Int)=(i:Int)+(inp.size:Int) by omega,show ((ct+c0:Nat):Int)=(ct:Int)+(c0:Int) by omega] at jc;refine AX rfl (.inr ⟨106,#[.pointer (some ⟨gx,0,none⟩),.int .i64 ((i:Int)+(inp.size:Int)),.agg #[.int .i64 (d0:Int),.int .i64 (n2:Int)],.int .i64 ((ct:Int)+(c0:Int))],W,by (clear je hS jb jo jc;simp [go_sem,Act.eval, *]),?_⟩);refine jc.mono ?_;rintro e w' ⟨rfl,hp⟩;refine ⟨_,rfl,rfl,trivial,?_⟩;show FN w14 (gm jn) (d0,n2) (M3 (i+inp.size)) (ct+c0) (upd fL 13 13) w';rw [show upd fL 13 13=true from if_pos rfl];exact Dz.of_ext hS hp
            all_goals try (refine Al (j:=14) (d:=90) (b:=true) rfl (by kernel_rfl) (by simp only [jd]) rfl (.inl ⟨_,W,?_,rfl,Ext.refl _,jb⟩);clear je hS jb jo;simp [go_sem,Act.eval, *];done)
            all_goals (refine AX rfl (.inl ⟨_,W,?_,rfl,Ext.refl _,jb⟩);clear je hS jb jo;simp [go_sem,Act.eval, *];done)
           case hlast =>
            intro h;exact absurd rfl h
           case hfin =>
            intro _ ac W je jM fL hf jb hv ja;have hS:(FN w14 (gm jn) (d0,n2) (M3 (i+inp.size)) (ct+c0)) (fL 13) W:=jb;clear jb;rw [hf 13 (by decide)] at hS;obtain ⟨sx,jR,jP⟩:=Ag [76,77,78,79,80,81,82,83,84,85,86,87,88,89,90,91,92,93,94,95] (by kernel_rfl) je jM ja;have e95:sx 95=.bool true:=(jR 95).trans (hv 19 (by decide));rw [jP];simp only [List.foldl];rw [e95];clear e95;simp only [Act.put,List.setIfInBounds_toArray,List.set_cons_succ,List.set_cons_zero];clear jP jR hv ja je jM hf;have js:VX w2 B gm i (DE M3 (i+inp.size) (d0,n2) (ct+c0)) W:=jf.out.vx.put HG.out (by omega) (by omega) (by rw [kv.out];exact hS) jU;have jk:=jf.out.own.put_keep ju.out hS;have jJ:Hid (W.heap[g9]? = some (.cells #[.int .i64 (m:Int),.int .i64 (nd:Int)] 183 (0,0))):=(Dz.kp hS ju.out).block _ _ _ _ jr.out;have jB:=A0 js;have jA:=A0 jk;have jv:Hid (∀ j,¬ (i≤j∧j<i+5)→DE M3 (i+inp.size) (d0,n2) (ct+c0) j=M j):=fun j hj=>by
             unfold DE;rw [if_neg (by omega)];exact jm.out.out j hj
            obtain ⟨u0,u1⟩:=B5 ((Dz.kp hS ju.out).block _ _ _ _ jt.out);clear hS js jk
            go_wp2_with (at_builtin;go_loud (refine Ac (v:=.slice qa3 q3.length qc3) FE rfl _ _ rfl rfl (jA.out.later ((Below.refl _ _).alloc (A3 _) _) (A3 _)) ⟨W.heap.size,0,none⟩ 1 [(d0,n2)] rfl (Ae (heap_alloc_new _ _)) (by have:=jZ.out;have:=jF.out;simp only [AC];omega) (by have:=jB.out.kp.size;simp only [A6];omega) ?_);intro v16 w16 jN jC ka;have yk:=A0 jN;have kE:=A0 jC;have kz:=A0 ka;clear jN jC ka)
            go_roundg (Fm.length - (k+1))
            case measure=>have:=jE.out;omega
            case rel =>
             have ku:Ext W (W.alloc (.cells #[.int .i64 (d0:Int),.int .i64 (n2:Int)] 183)):=(Below.refl _ _).alloc (A3 _) _;exact ⟨k+1,q3 ++ [(d0,n2)],_,by go_num,by omega,rfl,⟨(jB.out.ext ku jU).grown (jA.out.later ku (A3 _)) kE.out jU,yk.out,jv.out⟩,by rw [kw.out];exact ym.out,A8 yl.out jZ.out,by rw [AB];omega,(kE.out.block g9 (by have:=(A5.1 jJ.out).1;simp only [A6];omega) fun e=>jT.out e.symm).trans ((Kc.of ku (A3 _)).block _ _ _ _ jJ.out),fun e=>by
              rcases kz.out with h1 | h1
              · exact jT.out (h1.symm.trans e)
              ·rw [h1] at e;injection e with e;have:=(A5.1 jJ.out).1;simp only [A6] at e;omega⟩
        ·have YM:((inp.size:Int) == 0)=false:=by simpa using hz
         have HZ:=A0 hz;have yj:Hid (inp.size=0→(d0,n2)≠(m,nd)):=fun h=>absurd h HZ.out;clear hz
         go_wp2_with fail
         clear j2 x0' x1' u0' u1' z0' z1' z2' z3' z4';obtain ⟨po,j6⟩:∃ po,look (M3 (i+inp.size)) (d0,n2)=po:=⟨_,rfl⟩
         by_cases jy:∃ old,po=some old∧old≤ct+c0
         ·obtain ⟨old,rfl,kZ⟩:=jy;have kI:=A0 j6;have kH:=A0 kZ;have kK:Hid (CR R L (folT T) i T.length B0 D q3 n M3 (m,nd) ct (Fm.take k ++ [⟨frm,(d0:Int),inp,out,(c0:Int)⟩])):=jL.out.same (n':=n2) (old:=old) kj.out kI.out kH.out;clear j6 kZ;refine An (by kernel_rfl) (Vs [vq (.pointer (some ⟨gx,0,none⟩)),vq (.int .i64 (i:Int)),vq (.pointer (some ⟨g11,2,none⟩)),vq (.string inp),vq (.int .i64 (inp.size:Int)),vq (.int .i64 ((i:Int)+(inp.size:Int))),vq (.agg #[.int .i64 (d0:Int),.int .i64 (n2:Int)]),vq (.map (some (gm jh))),vq (.agg #[.int .i64 (m:Int),.int .i64 (nd:Int)]),vq (.int .i64 (ct:Int)),vq (.pointer (some ⟨g11,4,none⟩)),vq (.int .i64 (c0:Int)),vq (.int .i64 ((ct:Int)+(c0:Int))),vq (.bool false),vq (.bool false),vq (undef),vq (undef),vq (undef),vq (undef),vq (.bool false)]) (Xs []) (fun fL=>(fun W=>Ext w14 W) ) [0,0,0,4,12,30,0,0,0,384,0,1024,3968,8191,16383,32767,65535,131071,262143,524287] 101 20 (by kernel_rfl) rfl ?hV ?hS ?hop ?hfin ?hlast
          case hV =>
           refine Az (Af (by simp only [AS,List.not_mem_nil,or_false,forall_eq_or_imp,forall_eq];and_intros <;> exact AW _)) ?_;exact trivial
          case hS =>
           intro fL hf;show (fun W=>Ext w14 W)  _
           first | exact Ext.refl _ | exact B8 _
          case hop =>
           refine ⟨?_,?_,?_,?_,?_,?_,?_,?_,?_,?c9,?_,?_,?_,?c13,?_,?_,?_,?_,?_,?_,trivial⟩
           all_goals first | rw [if_neg (by decide)] | rw [if_pos (by decide)]
           all_goals try intro ac W fL je jo j5 j3 jb jd ja jz
           all_goals try have hS:(fun W=>Ext w14 W)  W:=jb
           all_goals try (
            have jp:Kc w14 W:=Kc.of jb (A3 _);obtain ⟨z0,z1,z2,z3,z4⟩:=BP (jp.block _ _ _ _ jq.out);obtain ⟨x0,x1⟩:=B5 (jp.block _ _ _ _ jr.out);obtain ⟨u0,u1⟩:=B5 (jp.block _ _ _ _ jt.out);clear jp)
           all_goals try have yA:=gdA ac 0 (.pointer (some ⟨gx,0,none⟩)) (ja 0 (by kernel_rfl))
           all_goals try have yB:=gdA ac 1 (.int .i64 (i:Int)) (ja 1 (by kernel_rfl))
           all_goals try have yC:=gdA ac 5 (.map (some (gm jh))) (ja 5 (by kernel_rfl))
           all_goals try have yD:=gdA ac 9 (.pointer (some ⟨g9,0,none⟩)) (ja 9 (by kernel_rfl))
           all_goals try have kn:=gdA ac 11 (.pointer (some ⟨g11,0,none⟩)) (ja 11 (by kernel_rfl))
           all_goals try have ko:=gdA ac 14 (.pointer (some ⟨g14,0,none⟩)) (ja 14 (by kernel_rfl))
           all_goals try (have jd:=DJ jd;simp [Cg,AY,vq] at jd)
           all_goals try clear ja j5 j3 jz
           case c9 =>
            have jw:(fun W=>Ext w14 W)  W:=jb;have jj:=(j9.out.kept (Below.block hS _ j9.out.lt)).look C0 (x:=(m,nd)) jY.out;rw [kG.out] at jj;simp only [BY,FL,Option.getD] at jj;refine AX rfl (.inl ⟨_,W,?_,rfl,Ext.refl _,jw⟩);clear je hS jb jw jo;simp [go_sem,Act.eval, *]
           case c13 =>
            have jw:(fun W=>Ext w14 W)  W:=jb;have jc:=PC (i+inp.size) jn d0 n2 (ct+c0) (M3 (i+inp.size)) (by omega) kv.out ((HX.out.kp jW.out).kp (Kc.of hS (A3 _))) (ju.out.kept (Below.block hS _ ju.out.lt)) jX.out k7.out (by omega) old kI.out kH.out;rw [show ((i+inp.size:Nat):Int)=(i:Int)+(inp.size:Int) by omega,show ((ct+c0:Nat):Int)=(ct:Int)+(c0:Int) by omega] at jc;refine AX rfl (.inr ⟨106,#[.pointer (some ⟨gx,0,none⟩),.int .i64 ((i:Int)+(inp.size:Int)),.agg #[.int .i64 (d0:Int),.int .i64 (n2:Int)],.int .i64 ((ct:Int)+(c0:Int))],W,by (clear je hS jb jw jo jc;simp [go_sem,Act.eval, *]),?_⟩);refine jc.mono ?_;rintro e w' ⟨rfl,hp⟩;exact ⟨_,rfl,⟨rfl,hp,Ext.trans jb hp⟩⟩
           all_goals try exact DM (j:=14) (d:=90) (b:=false) rfl (by kernel_rfl) (by simp only [jd]) rfl ⟨rfl,jb⟩
           all_goals (refine AX rfl (.inl ⟨_,W,?_,rfl,Ext.refl _,jb⟩);clear je hS jb jo;simp [go_sem,Act.eval, *];done)
          case hlast =>
           intro h;exact absurd rfl h
          case hfin =>
           intro _ ac W je jM fL hf jb hv ja;have hS:(fun W=>Ext w14 W)  W:=jb;clear jb;obtain ⟨sx,jR,jP⟩:=Ag [76,77,78,79,80,81,82,83,84,85,86,87,88,89,90,91,92,93,94,95] (by kernel_rfl) je jM ja;have e95:sx 95=.bool false:=(jR 95).trans (hv 19 (by decide));rw [jP];simp only [List.foldl];rw [e95];clear e95;simp only [Act.put,List.setIfInBounds_toArray,List.set_cons_succ,List.set_cons_zero];clear jP jR hv ja je jM hf;have kB:Hid (Ext wr W):=Ext.trans jI.out hS;clear hS
           go_wp2_with fail
           go_roundg (Fm.length - (k+1))
           case measure=>have:=jE.out;omega
           case rel=>exact ⟨k+1,q3,M3,by go_num,by omega,rfl,jm.out.ext kB.out jU,by rw [kw.out];exact kK.out,jZ.out,kq,(Kc.of kB.out (A3 _)).block _ _ _ _ kF.out,jT.out⟩
         ·have kk:Hid (∀ x,look (M3 (i+inp.size)) (d0,n2)=some x→ct+c0<x):=fun x hx=>by
           rw [j6] at hx;exact Nat.lt_of_not_le fun h9=>jy ⟨x,hx,h9⟩
          have jc:CR R L (folT T) i T.length B0 D (if inp.size=0 then q3 ++ [(d0,n2)] else q3) n (DE M3 (i+inp.size) (d0,n2) (ct+c0)) (m,nd) ct (Fm.take k ++ [⟨frm,(d0:Int),inp,out,(c0:Int)⟩]):=jL.out.put (m:=d0) y9.out HF.out kj.out yc kO rfl kq kk.out yj.out;have jO:=LD (q:=q3) (C:=Cm) (j:=i+inp.size) (c:=ct+c0) jL.out.bnd (by omega) kQ yc (by omega) kk.out;rw [if_neg HZ.out] at jc;rw [if_neg (by have:=HZ.out;omega)] at jO;rw [Nat.add_comm] at jO;rw [Nat.add_comm (pot T.length Cm (M3 i))] at jO;have ym:=A0 jc;have yl:=A0 jO;clear j6 jy jc jO;refine An (by kernel_rfl) (Vs [vq (.pointer (some ⟨gx,0,none⟩)),vq (.int .i64 (i:Int)),vq (.pointer (some ⟨g11,2,none⟩)),vq (.string inp),vq (.int .i64 (inp.size:Int)),vq (.int .i64 ((i:Int)+(inp.size:Int))),vq (.agg #[.int .i64 (d0:Int),.int .i64 (n2:Int)]),vq (.map (some (gm jh))),vq (.agg #[.int .i64 (m:Int),.int .i64 (nd:Int)]),vq (.int .i64 (ct:Int)),vq (.pointer (some ⟨g11,4,none⟩)),vq (.int .i64 (c0:Int)),vq (.int .i64 ((ct:Int)+(c0:Int))),vq (.bool true),vq (.bool true),vq (.pointer (some ⟨g11,2,none⟩)),vq (.string inp),vq (.int .i64 (inp.size:Int)),vq (.bool false),vq (.bool false)]) (Xs [Ext,Ext,Ext,Ext,Ext,Ext,Ext,Ext,Ext,Ext,Ext,Ext,Ext,(fun _ _=>True),Ext,Ext,Ext,Ext,Ext,Ext]) (fun fL=>(FN w14 (gm jn) (d0,n2) (M3 (i+inp.size)) (ct+c0)) (fL 13)) [0,0,0,4,12,30,0,0,0,384,0,1024,3968,8191,16383,32767,65535,131071,262143,524287] 101 20 (by kernel_rfl) rfl ?hV ?hS ?hop ?hfin ?hlast
          case hV =>
           refine Az (Af (by simp only [AS,List.not_mem_nil,or_false,forall_eq_or_imp,forall_eq];and_intros <;> exact AW _)) ?_;exact ⟨.inl rfl,.inl rfl,.inl rfl,.inl rfl,.inl rfl,.inl rfl,.inl rfl,.inl rfl,.inl rfl,.inl rfl,.inl rfl,.inl rfl,.inl rfl,.inr (Aw ⟨fun _ _=>fun _ _ _ h _=>h,fun _ _=>fun _ _ _ h _=>h,fun _ _=>fun _ _ _ h _=>h,fun _ _=>fun _ _ _ h _=>h,fun _ _=>fun _ _ _ h _=>h,fun _ _=>fun _ _ _ h _=>h,fun _ _=>fun _ _ _ h _=>h,fun _ _=>fun _ _ _ h _=>h,fun _ _=>fun _ _ _ h _=>h,fun _ _=>fun _ _ _ h _=>h,fun _ _=>fun _ _ _ h _=>h,fun _ _=>fun _ _ _ h _=>h,fun _ _=>fun _ _ _ h _=>h,fun h=>absurd rfl h,fun _ h=>absurd h (by decide),fun _ h=>absurd h (by decide),fun _ h=>absurd h (by decide),fun _ h=>absurd h (by decide),fun _ h=>absurd h (by decide),fun _ h=>absurd h (by decide),trivial⟩),.inl rfl,.inl rfl,.inl rfl,.inl rfl,.inl rfl,.inl rfl,trivial⟩
          case hS =>
           intro fL hf;show (FN w14 (gm jn) (d0,n2) (M3 (i+inp.size)) (ct+c0)) (fL 13) _;rw [hf 13 (by decide)]
           first | exact Ext.refl _ | exact B8 _
          case hop =>
           refine ⟨?_,?_,?_,?_,?_,?_,?_,?_,?_,?c9,?_,?_,?_,?c13,?_,?_,?_,?_,?_,?_,trivial⟩
           all_goals first | rw [if_neg (by decide)] | rw [if_pos (by decide)]
           all_goals try intro ac W fL je jo j5 j3 jb jd ja jz
           all_goals try have hS:(FN w14 (gm jn) (d0,n2) (M3 (i+inp.size)) (ct+c0)) (fL 13) W:=jb
           all_goals try (have jg:fL 13=true:=j5 13 (by decide);rw [jg] at hS)
           all_goals try (have jg:fL 13=false:=(by first | exact jo | exact j3 13 (by decide) (by decide));rw [jg] at hS)
           all_goals try (
            have jp:Kc w14 W:=FN.kp ju.out jb;obtain ⟨z0,z1,z2,z3,z4⟩:=BP (jp.block _ _ _ _ jq.out);obtain ⟨x0,x1⟩:=B5 (jp.block _ _ _ _ jr.out);obtain ⟨u0,u1⟩:=B5 (jp.block _ _ _ _ jt.out);clear jp)
           all_goals try have yA:=gdA ac 0 (.pointer (some ⟨gx,0,none⟩)) (ja 0 (by kernel_rfl))
           all_goals try have yB:=gdA ac 1 (.int .i64 (i:Int)) (ja 1 (by kernel_rfl))
           all_goals try have yC:=gdA ac 5 (.map (some (gm jh))) (ja 5 (by kernel_rfl))
           all_goals try have yD:=gdA ac 9 (.pointer (some ⟨g9,0,none⟩)) (ja 9 (by kernel_rfl))
           all_goals try have kn:=gdA ac 11 (.pointer (some ⟨g11,0,none⟩)) (ja 11 (by kernel_rfl))
           all_goals try have ko:=gdA ac 14 (.pointer (some ⟨g14,0,none⟩)) (ja 14 (by kernel_rfl))
           all_goals try (have jd:=DJ jd;simp [Cg,AY,vq] at jd)
           all_goals try clear ja j5 j3 jz
           case c9 =>
            have jw:(FN w14 (gm jn) (d0,n2) (M3 (i+inp.size)) (ct+c0)) ((upd fL 9) 13) W:=jb;have jj:=(j9.out.kept (Below.block hS _ j9.out.lt)).look C0 (x:=(m,nd)) jY.out;rw [kG.out] at jj;simp only [BY,FL,Option.getD] at jj;refine AX rfl (.inl ⟨_,W,?_,rfl,Ext.refl _,jw⟩);clear je hS jb jw jo;simp [go_sem,Act.eval, *]
           case c13 =>
            have jc:=N7 (i+inp.size) jn d0 n2 (ct+c0) (M3 (i+inp.size)) (by omega) kv.out ((HX.out.kp jW.out).kp (Kc.of hS (A3 _))) (ju.out.kept (Below.block hS _ ju.out.lt)) jX.out k7.out (by omega) kk.out;rw [show ((i+inp.size:Nat):Int)=(i:Int)+(inp.size:Int) by omega,show ((ct+c0:Nat):Int)=(ct:Int)+(c0:Int) by omega] at jc;refine AX rfl (.inr ⟨106,#[.pointer (some ⟨gx,0,none⟩),.int .i64 ((i:Int)+(inp.size:Int)),.agg #[.int .i64 (d0:Int),.int .i64 (n2:Int)],.int .i64 ((ct:Int)+(c0:Int))],W,by (clear je hS jb jo jc;simp [go_sem,Act.eval, *]),?_⟩);refine jc.mono ?_;rintro e w' ⟨rfl,hp⟩;refine ⟨_,rfl,rfl,trivial,?_⟩;show FN w14 (gm jn) (d0,n2) (M3 (i+inp.size)) (ct+c0) (upd fL 13 13) w';rw [show upd fL 13 13=true from if_pos rfl];exact Dz.of_ext hS hp
           all_goals try (refine Al (j:=14) (d:=90) (b:=true) rfl (by kernel_rfl) (by simp only [jd]) rfl (.inl ⟨_,W,?_,rfl,Ext.refl _,jb⟩);clear je hS jb jo;simp [go_sem,Act.eval, *];done)
           all_goals (refine AX rfl (.inl ⟨_,W,?_,rfl,Ext.refl _,jb⟩);clear je hS jb jo;simp [go_sem,Act.eval, *];done)
          case hlast =>
           intro h;exact absurd rfl h
          case hfin =>
           intro _ ac W je jM fL hf jb hv ja;have hS:(FN w14 (gm jn) (d0,n2) (M3 (i+inp.size)) (ct+c0)) (fL 13) W:=jb;clear jb;rw [hf 13 (by decide)] at hS;obtain ⟨sx,jR,jP⟩:=Ag [76,77,78,79,80,81,82,83,84,85,86,87,88,89,90,91,92,93,94,95] (by kernel_rfl) je jM ja;have e95:sx 95=.bool false:=(jR 95).trans (hv 19 (by decide));rw [jP];simp only [List.foldl];rw [e95];clear e95;simp only [Act.put,List.setIfInBounds_toArray,List.set_cons_succ,List.set_cons_zero];clear jP jR hv ja je jM hf;have js:VX w2 B gm i (DE M3 (i+inp.size) (d0,n2) (ct+c0)) W:=jf.out.vx.put HG.out (by omega) (by omega) (by rw [kv.out];exact hS) jU;have jk:=jf.out.own.put_keep ju.out hS;have jJ:Hid (W.heap[g9]? = some (.cells #[.int .i64 (m:Int),.int .i64 (nd:Int)] 183 (0,0))):=(Dz.kp hS ju.out).block _ _ _ _ jr.out;have jB:=A0 js;have jA:=A0 jk;have jv:Hid (∀ j,¬ (i≤j∧j<i+5)→DE M3 (i+inp.size) (d0,n2) (ct+c0) j=M j):=fun j hj=>by
            unfold DE;rw [if_neg (by omega)];exact jm.out.out j hj
           clear hS js jk
           go_wp2_with fail
           go_roundg (Fm.length - (k+1))
           case measure=>have:=jE.out;omega
           case rel=>exact ⟨k+1,q3,_,by go_num,by omega,rfl,⟨jB.out,jA.out,jv.out⟩,by rw [kw.out];exact ym.out,A8 yl.out jZ.out,kq,jJ.out,jT.out⟩
      ·have Yc:Fm.take k=Fm:=AF (by omega);have ky:=jL.out;rw [Yc,← yY.out] at ky;have Yz:=A0 ky.leave;clear ky Yc
       go_wp2_with fail
       go_roundg ((q3.length - (n+1))+pot T.length Cm (M3 i))
       case measure=>have:=yh.out;have:=jZ.out;omega
       case rel=>exact ⟨n+1,q3,M3,by go_num,by omega,jm.out,Yz.out,rfl,by have:=jZ.out;have:=jF.out;omega⟩
    ·have YD:=A0 (jl.out.done kx)
     go_wp2_with fail
     refine bodyPost_end (results_none rfl _ _ _) rfl ?_;exact ⟨rfl,M2,⟨jG.out.vx.maps,k6.out.trans jG.out.vx.kp,(k5.out.mono Yb).trans jG.out.vx.bl⟩,jl.out.inv,YD.out,jl.out.bnd,jG.out.out⟩
  ·intro
      m
       n c w4 hp hrg4 kc hs4 hlt4 kR
   dsimp only [BY,FL] at kR ⊢;have HP:=A0 hp;have j0:=A0 hrg4;have HG4':=A0 kc;have yR:Hid (Below w2.heap.size w2 w4):=by
    show Below _ _ _;exact yS.out.grown kc (by omega) fun k hk=>by injection hk with hk;omega
   have jK:Hid (AZ Fk w4 w2.heap.size (.slice qa q.length qc) q):=by
    show AZ _ _ _ _ _;refine k8.out.keep fun g hg=>kc.block g (k8.out.lt g hg) fun e=>?_;injection e with e;obtain ⟨D9,l9,c9,yM,_⟩:=yn.out;obtain ⟨es,clock,since,seen,c0,_,_,_,_,hr,_⟩:=yM;rcases k8.out.2 with ⟨h9,_⟩ | ⟨g',cap,cur,h9,_,kM,_⟩
    · rw [h9] at hg;cases hg
    ·rw [h9] at hg;injection hg with hg;have e2:g'=w2.heap.size:=hg.trans e;rw [e2,hr] at kM;cases kM
   have Yj:((w4.alloc (.cells #[.int .i64 (m:Int),.int .i64 (n:Int)] 183)).alloc (.cells #[.int .i64 (m:Int),.int .i64 (n:Int)] 183)).heap[w4.heap.size+1]? = some (.cells (Fk.enc (m,n)).toArray 183 (0,0)):=by
    have h:=heap_alloc_new (w4.alloc (.cells #[.int .i64 (m:Int),.int .i64 (n:Int)] 183)) (.cells #[.int .i64 (m:Int),.int .i64 (n:Int)] 183);rw [A6] at h;exact h
   have Yu:=A0 Yj;have kA:Hid (Ext w4 ((w4.alloc (.cells #[.int .i64 (m:Int),.int .i64 (n:Int)] 183)).alloc (.cells #[.int .i64 (m:Int),.int .i64 (n:Int)] 183))):=Ext.trans ((Below.refl _ _).alloc (A3 _) _) ((Below.refl _ _).alloc (A3 _) _);clear hp hrg4 kc Yj hlt4
   go_wp2_with (at_builtin;go_loud (refine Ac (v:=.slice qa q.length qc) FE rfl _ _ rfl rfl (jK.out.later kA.out (A3 _)) ⟨w4.heap.size+1,0,none⟩ 1 [(m,n)] rfl (Ae Yu.out) (by have:=ki.out;have:=kh.out;simp only [AC];omega) (by simp only [A6];omega) ?_);intro v5 w5 k0 ji hat5)
   have kJ:Hid (∀ q9,(Value.slice qa q.length qc).ownBlock=some q9→some (gm jh)≠some q9∧some w2.heap.size≠some q9):=fun q9 h9=>⟨fun e=>(j0.out.map.kept (kA.out.block _ j0.out.map.lt)).not_row (jK.out.later kA.out (A3 _)) (h9.trans e.symm),fun e=>by
    injection e with e;have h8:=jK.out.lt _ h9;obtain ⟨D9,l9,c9,yM,_⟩:=j0.out;obtain ⟨es,clock,since,seen,c0,_,_,_,_,hr,_⟩:=yM;rcases jK.out.2 with ⟨h7,_⟩ | ⟨g',cap,cur,h7,_,kM,_⟩
    · rw [h7] at h9;cases h9
    ·rw [h7] at h9;injection h9 with h9;have e2:g'=w2.heap.size:=h9.trans e.symm;rw [e2,hr] at kM;cases kM⟩
   have kC:Hid ((Cq rest ((m,n),c)).length<rest.length):=by
    exact Cr HP.out
   go_roundg (Cq rest ((m,n),c)).length
   case measure=>rw [← Yx.out];exact kC.out
   case rel =>
    refine ⟨q ++ [(m,n)],_,k0,?_,rfl,?_,YB.out.filter _,fun t=>?_,?_⟩
    ·have h1:=j0.out.below kA.out;cases yd:(Value.slice qa q.length qc).ownBlock with
     | none=>rw [yd] at ji;exact h1.kept ji (by simp) (by simp)
     | some q9=>rw [yd] at ji;exact h1.kept ji (kJ.out q9 yd).1 (kJ.out q9 yd).2
    · have:=kC.out;have:=ki.out;rw [AB,AC];omega
    ·rw [AT,AD,HQ.out];constructor
     ·rintro (⟨c9,h1,h2⟩ | rfl)
      · exact ⟨c9,h1,fun h3=>h2 (CK.1 h3).1⟩
      · exact ⟨c,yn.out.sub _ HP.out,fun h3=>(CK.1 h3).2 rfl⟩
     ·rintro ⟨c9,h1,h2⟩;by_cases e:(t,c9)=((m,n),c)
      ·injection e with e1 e2;exact .inr e1
      · exact .inl ⟨c9,h1,fun h3=>h2 (CK.2 ⟨h3,e⟩)⟩
    ·have h1:Below w2.heap.size w2 ((w4.alloc (.cells #[.int .i64 (m:Int),.int .i64 (n:Int)] 183)).alloc (.cells #[.int .i64 (m:Int),.int .i64 (n:Int)] 183)):=yR.out.trans (Below.mono kA.out yR.out.size);exact h1.grown ji h1.size fun k hk=>jK.out.ge k hk
end
def Bs (T:List Bn) (n:Nat):Int:=match T[n]? with | none=>-1 | some b=>b.word
def Lst (T:List Bn) (acc:Int) (P:List (Stt × Nat)) (k c:Nat):Prop:=D3 (fun d=>∃ t,(t,d)∈P∧Bs T t.2=(k:Int)∧DK acc t.1=true) c
structure Eu (T:List Bn) (acc:Int) (P:List (Stt × Nat)) (E:List (Nat × Nat)):Prop where
 keys:D4 E
 iff:∀ k c,look E k=some c↔Lst T acc P k c
section
variable {T:List Bn} {acc:Int} {P:List (Stt × Nat)} {E:List (Nat × Nat)} {t:Stt} {c k:Nat}
theorem Eu.nil (T:List Bn) (acc:Int):Eu T acc [] []:=⟨List.Pairwise.nil,fun k c=>⟨fun h=>(by cases h),fun h=>(by obtain ⟨t,h1,_⟩:=h.1;cases h1)⟩⟩
theorem Eu.skip (h:Eu T acc P E) (hn:¬ (∃ k:Nat,Bs T t.2=(k:Int)∧DK acc t.1=true)):Eu T acc ((t,c) :: P) E :=
 ⟨h.keys,fun k d=>by
  rw [h.iff];have e:∀ d,(∃ u,(u,d)∈(t,c) :: P∧Bs T u.2=(k:Int)∧DK acc u.1=true)↔∃ u,(u,d)∈P∧Bs T u.2=(k:Int)∧DK acc u.1=true:=fun d=>by
   constructor
   ·rintro ⟨u,h1,h2⟩;rcases AS.1 h1 with e | h1
    ·injection e with e1 e2;subst e1;exact absurd ⟨k,h2⟩ hn
    · exact ⟨u,h1,h2⟩
   · rintro ⟨u,h1,h2⟩;exact ⟨u,List.mem_cons_of_mem _ h1,h2⟩
  exact ⟨fun h9=>h9.congr fun d=>(e d).symm,fun h9=>h9.congr e⟩⟩
theorem Eu.hit (h:Eu T acc P E) (hw:Bs T t.2=(k:Int)) (ha:DK acc t.1=true) {E':List (Nat × Nat)} (hk:D4 E') {b:Nat}
  (h1:∀ j,j≠k→look E' j=look E j) (h2:look E' k=some b) (h3:b≤c) (h4:∀ d,look E k=some d→b≤d) (h5:b=c∨look E k=some b):Eu T acc ((t,c) :: P) E' :=
 ⟨hk,fun j d=>by
  have e:∀ d,(∃ u,(u,d)∈(t,c) :: P∧Bs T u.2=(j:Int)∧DK acc u.1=true)↔(j=k∧d=c)∨∃ u,(u,d)∈P∧Bs T u.2=(j:Int)∧DK acc u.1=true:=fun d=>by
   constructor
   ·rintro ⟨u,h6,h7,h8⟩;rcases AS.1 h6 with e | h6
    ·injection e with e1 e2;subst e1;refine .inl ⟨?_,e2⟩;rw [hw] at h7;omega
    · exact .inr ⟨u,h6,h7,h8⟩
   ·rintro (⟨rfl,rfl⟩ | ⟨u,h6,h7⟩)
    · exact ⟨t,A9,hw,ha⟩
    · exact ⟨u,List.mem_cons_of_mem _ h6,h7⟩
  by_cases hj:j=k
  ·subst
      hj
   have hl:Lst T acc ((t,c) :: P) j b:=by
    refine ⟨(e b).2 ?_,fun d hd=>?_⟩
    ·rcases h5 with h5 | h5
     · exact .inl ⟨rfl,h5⟩
     · exact .inr ((h.iff j b).1 h5).1
    ·rcases (e d).1 hd with ⟨_,rfl⟩ | h9
     · exact h3
     ·obtain ⟨b2,ja⟩:=L7 (p:=fun d=>∃ u,(u,d)∈P∧Bs T u.2=(j:Int)∧DK acc u.1=true) ⟨d,h9⟩;exact A8 (h4 b2 ((h.iff j b2).2 ja)) (ja.2 d h9)
   rw [h2];exact ⟨fun h9=>by injection h9 with h9;rw [← h9];exact hl,fun h9=>by rw [hl.uniq h9]⟩
  ·rw [h1 j hj,h.iff];have e2:∀ d,(∃ u,(u,d)∈(t,c) :: P∧Bs T u.2=(j:Int)∧DK acc u.1=true)↔∃ u,(u,d)∈P∧Bs T u.2=(j:Int)∧DK acc u.1=true:=fun d=>by
    rw [e d];exact ⟨fun h9=>h9.resolve_left fun h8=>hj h8.1,.inr⟩
   exact ⟨fun h9=>h9.congr fun d=>(e2 d).symm,fun h9=>h9.congr e2⟩⟩
theorem Eu.put (h:Eu T acc P E) (hw:Bs T t.2=(k:Int)) (ha:DK acc t.1=true) (ja:∀ d,look E k=some d→c<d):Eu T acc ((t,c) :: P) (D5 E k c) :=
 h.hit hw ha (h.keys.put k c) (fun j hj=>by rw [DZ,if_neg fun e=>hj e.symm]) (by rw [DZ,if_pos rfl]) (A3 _) (fun d hd=>Nat.le_of_lt (ja d hd)) (.inl rfl)
theorem Eu.same (h:Eu T acc P E) (hw:Bs T t.2=(k:Int)) (ha:DK acc t.1=true) {old:Nat} (ho:look E k=some old) (ja:old≤c):Eu T acc ((t,c) :: P) E :=
 h.hit hw ha h.keys (fun _ _=>rfl) ho ja (fun d hd=>by rw [ho] at hd;injection hd with hd;omega) (.inr ho)
end
structure Rx (T:List Bn) (acc:Int) (P:List (Stt × Nat)) (l:List (Nat × Nat)):Prop where
 sorted:l.Pairwise fun a b=>a.1<b.1
 mem:∀ k c,(k,c)∈l↔Lst T acc P k c
theorem Ry {T:List Bn} {acc:Int} {P P':List (Stt × Nat)} {E:List (Nat × Nat)} {ks:List Nat} (h:Eu T acc P E) (hP:∀ p,p∈P↔p∈P') (hs:ks.Pairwise (·<·)) (hm:∀ k,k∈ks↔(look E k).isSome=true) :
  Rx T acc P' (ks.map fun k=>(k,(look E k).getD 0)) where
 sorted:=by rw [AR];exact hs
 mem
   k c:=by
  rw [AH];have e:∀ d,(∃ u,(u,d)∈P∧Bs T u.2=(k:Int)∧DK acc u.1=true)↔∃ u,(u,d)∈P'∧Bs T u.2=(k:Int)∧DK acc u.1=true:=fun d =>
   ⟨fun ⟨u,h1,h2⟩=>⟨u,(hP _).1 h1,h2⟩,fun ⟨u,h1,h2⟩=>⟨u,(hP _).2 h1,h2⟩⟩
  constructor
  ·rintro ⟨j,hj,e9⟩;injection e9 with e1 e2;subst e1;obtain ⟨d,hd⟩:=Option.isSome_iff_exists.1 ((hm j).1 hj);rw [hd] at e2;simp only [Option.getD_some] at e2;subst e2;exact ((h.iff j d).1 hd).congr e
  ·intro hl;have h1:=(h.iff k c).2 (hl.congr fun d=>(e d).symm);exact ⟨k,(hm k).2 (by rw [h1];rfl),by rw [h1];rfl⟩
theorem Qk (A:Int) (m:Nat) (h0:0≤A) (hA:A≤255):(bits .and .u8 (A / 2 ^ m) 1 == 0)=!DK A m:=by
 obtain ⟨n,rfl⟩:=Int.eq_ofNat_of_zero_le h0;have hd:((n:Int) / 2 ^ m)=((n / 2 ^ m:Nat):Int):=by simp
 have ja:n / 2 ^ m<256:=Nat.lt_of_le_of_lt (Nat.div_le_self _ _) (by omega);have h1:bits .and .u8 (((n / 2 ^ m:Nat):Int)) ((1:Nat):Int)=((n / 2 ^ m &&& 1:Nat):Int):=u8_and_nat _ _ ja (by omega);unfold DK;rw [hd,show (1:Int)=((1:Nat):Int) from rfl,h1,Nat.and_one_is_mod,Bool.eq_iff_iff];simp only [beq_iff_eq,Bool.not_eq_true',beq_eq_false_iff_ne,ne_eq];omega
def C2:BQ (Nat × Nat):=⟨72,75,2,16,.agg #[.int .i64 0,.int .i64 0],fun t=>[.int .i64 (t.1:Int),.int .i64 (t.2:Int)]⟩
theorem Gi:C2.Ok:=⟨Tryz.underlying72,by kernel_rfl,rfl,by decide,fun _=>rfl,fun x u hu=>by
 have h:u=.int .i64 (x.1:Int)∨u=.int .i64 (x.2:Int):=by simpa [C2] using hu
 rcases h with rfl | rfl <;> rfl,by decide⟩
def Sr (T:List Bn):Prop:=∀ b∈T,b.word<1000000
def Rz (T:List Bn) (acc:Int) (E:Ent) (B:Nat) (e:Ending) (w':World):Prop:=∃ v l,e=.returned v∧AZ C2 w' B v l∧Rx T acc E l
structure FQ (w0:World) (T:List Bn) (acc:Int) (E:Ent) (gmj gl r:Nat) (P rest:List (Stt × Nat)) (E2:List (Nat × Nat)) (w:World):Prop where
 rg:RgG BY w gmj r E rest
 low:MpG FM w gl E2
 lea:Eu T acc P E2
 all:∀ p,p∈E↔p∈P∨p∈rest
 bl:Below w0.heap.size w0 w
 glt:w0.heap.size≤gl
 rge:w0.heap.size≤r
 ne:r≠gl
 len:E2.length+rest.length≤E.length
section
variable {w w':World} {gx:Nat} {acc:Int} {aR:Option Addr} {nR cR:Nat} {aT:Option Addr} {nT cT:Nat} {aL:Option Addr} {nL cL:Nat} {gm:Nat→Nat}
theorem found_any
         (T:List Bn) (i j:Nat) (E:Ent) (hi:i≤1000000) (hj:i % 5=j) (hx:SX w gx acc aR nR cR aT nT cT aL nL cL gm) (hT:D6 w aT T) (jE:nT=T.length) (hTl:nT≤100000) (kj:Sr T) (hM:MpG BY w (gm j) E) (jA:L8 T.length E) (kE:0≤acc) (jY:acc≤255) :
  Calls Tryz.prog 80 #[.pointer (some ⟨gx,0,none⟩),.int .i64 (i:Int)] w fun e w'=>Rz T acc E w.heap.size e w'∧Below w.heap.size w w':=by
 subst jE;have HX:=A0 hx;have HT:=A0 hT;have kC:=A0 kj;have HM:=A0 hM;have kA:=A0 jA;have HJ:=A0 hj;have hgx:=hx.lt;obtain ⟨c0,c1,c2,c3⟩:=hx.cells;have jH:=A0 c0;have jI:=A0 c2;have hEl:=GA hM.keys jA;have kG:=@run_makeMap Tryz.prog;clear hx hT kj hM jA hj c0 c1 c2 c3;have j9:Hid (Ext w (w.alloc (.map #[] 0))):=(Below.refl _ _).alloc (A3 _) _;have kq:=A0 (Es i j hi HJ.out (HX.out.kp (Kc.of j9.out (A3 _))));have kv:=A0 (HM.out.kept (Below.block j9.out _ HM.out.lt));have kg:=A0 (MpG.new FM w)
 go_enter Tryz.func80,Tryz.ntmps80
 go_wp2_with fail
 refine kq.out.mono ?_;rintro e w1' ⟨rfl,rfl⟩
 go_wp2_with (at_range;refine Er C0 kv.out rfl _ rfl rfl ?_;intro w3 jU Jx kI)
 go_frame;have HZ:Hid ((w.alloc (.map #[] 0)).heap.size=w.heap.size+1):=by show _=_;simp
 have kf:Hid (FQ w T acc E (gm j) w.heap.size (w.heap.size+1) [] E [] w3):=⟨by rw [← HZ.out];exact jU,kg.out.kept (Jx.block _ kg.out.lt),Eu.nil _ _,fun p=>by simp,Below.trans j9.out (Jx.mono (by rw [HZ.out];omega)),A3 _,Nat.le_succ _,by omega,by simp⟩
 clear jU Jx kI kG;simp only [A6]
 go_loopg [8] E.length (fun g v8 wr=>∃ (P rest:List (Stt × Nat)) (E2:List (Nat × Nat)),FQ w T acc E (gm j) w.heap.size (w.heap.size+1) P rest E2 wr∧rest.length=g)
 case atStart=>exact ⟨[],E,[],kf.out,rfl⟩
 case round =>
  clear kf;obtain ⟨P,rest,E2,jZ,jS⟩:=hrel;have HQ:=A0 jZ;have jN:=A0 jS;have hz3:=jZ.bl.size;have kH:=jZ.rg.lt;clear jZ jS
  go_wp2_with (at_next;refine wpList_next_g C0 HQ.out.rg rfl _ rfl rfl ?_ ?_)
  ·intro
      h0
   have kr:=A0 (fun ks=>Ry (P':=E) (ks:=ks) HQ.out.lea (fun p=>by rw [HQ.out.all p,h0];simp));have kD:E2.length≤1000000:=by have:=HQ.out.len;omega
   have kB:=A0 (sorted_any HQ.out.low kD);clear h0
   go_wp2_with fail
   refine (K6 _ _).mono ?_;rintro e w7 ⟨rfl,rfl⟩
   go_wp2_with fail
   refine kB.out.mono ?_;rintro e w8 ⟨⟨v,ks,rfl,jt,kd,jD⟩,jK⟩;obtain ⟨a8,c8,kJ,hkc8, -⟩:=jt.form;subst kJ;have kx:=A0 jt;have HB8:=A0 jK;have kz:=A0 kd;have kh:=A0 jD;have jv:=A0 (HQ.out.low.kept (jK.block _ HQ.out.low.lt));have jy:Hid (Below w.heap.size w w8):=HQ.out.bl.trans (jK.mono HQ.out.bl.size);have hkl:ks.length≤1000000:=by
    have h1:=nodup_bound 1000000 ks (kd.imp fun h=>Nat.ne_of_lt h) fun x hx=>by
     obtain ⟨d,hd⟩:=Option.isSome_iff_exists.1 ((jD x).1 hx);exact (HQ.out.low.okk _ (C1 hd)).1
    exact h1
   clear jt jK kd jD
   go_wp2_with fail
   go_loopg [11,66] ks.length (fun g v11 v66 wr=>∃ k:Nat,v66=.int .i64 (k:Int)∧k≤ks.length∧g=ks.length - k∧AZ C2 wr w8.heap.size v11 ((ks.take k).map fun x=>(x,(look E2 x).getD 0))∧Below w8.heap.size w8 wr)
   case atStart=>exact ⟨0,rfl,Nat.zero_le _,rfl,AZ.nil _ _ _,Below.refl _ _⟩
   case round =>
    obtain ⟨k,rfl,hk,jS,jF,kk⟩:=hrel;obtain ⟨a11,c11,ke,ka, -⟩:=jF.form;subst ke;have HO:=A0 jF;have jx:=A0 kk;have j3:=A0 jS;clear jF kk jS;obtain ⟨Lk,jX⟩:∃ Lk,(ks.take k).map (fun x=>(x,(look E2 x).getD 0))=Lk:=⟨_,rfl⟩
    have ki:Lk.length=k:=by rw [← jX,AM,AK];omega
    rw [jX] at HO ka ⊢;have ju:=A0 jX;have ku:=A0 ki;clear jX ki;by_cases j0:k<ks.length
    ·obtain ⟨b8,jK,hB8,hs8,q0⟩:=(kx.out.later jx.out (A3 _)).ints j0;subst jK;have hi8:=idx_ints b8 ks.length c8 k j0;have jC:MpG FM wr w.heap.size E2:=jv.out.kept (jx.out.block _ jv.out.lt);have ko:=(kh.out ks[k]).1 (AG j0);obtain ⟨d,hd⟩:=Option.isSome_iff_exists.1 ko;have jW:=(jC.okk _ (C1 hd)).1;have jL:=jC.look ES jW;rw [hd] at jL;simp only [FM,Option.getD_some] at jL;have kn:ks.take (k+1)=ks.take k ++ [ks[k]]:=AN j0;have HN:Hid ((ks.take (k+1)).map (fun x=>(x,(look E2 x).getD 0))=Lk ++ [(ks[k],d)]):=by
      show _=_;rw [kn,List.map_append,ju.out];simp [hd]
     obtain ⟨x,hx⟩:∃ x,ks[k]=x:=⟨_,rfl⟩
     rw [hx] at q0 jL HN;clear ko hd jW kn hx jC
     go_wp2_with (at_builtin;go_loud (refine Ac (v:=.slice a11 Lk.length c11) Gi rfl _ _ rfl rfl (HO.out.later ((Below.refl _ _).alloc (A3 _) _) (A3 _)) ⟨wr.heap.size,0,none⟩ 1 [(x,d)] rfl (Ae (heap_alloc_new _ _)) (by have:=ku.out;simp only [AC];omega) (by have:=jx.out.size;simp only [A6];omega) ?_);intro v16 w16 js jn jQ;have j6:=A0 js;have j2:=A0 jn;clear js jn jQ)
     go_roundg (ks.length - (k+1))
     case measure=>have:=j3.out;omega
     case rel=>exact ⟨k+1,by go_num,by omega,rfl,by rw [HN.out];exact j6.out,(jx.out.trans (((Below.refl _ _).alloc (A3 _) _).mono jx.out.size)).grown j2.out (by have:=jx.out.size;simp only [A6];omega) fun q hq=>HO.out.ge q hq⟩
    ·have jP:ks.take k=ks:=AF (by omega);have kw:=A0 (kr.out ks kz.out kh.out);have kt:Hid (Lk=ks.map fun x=>(x,(look E2 x).getD 0)):=by show _=_;rw [← ju.out,jP]
     clear jP
     go_wp2_with fail
     go_ret;exact ⟨⟨_,Lk,rfl,HO.out.mono jy.out.size,by rw [kt.out];exact kw.out⟩,jy.out.trans (jx.out.mono jy.out.size)⟩
  ·intro
      m
       n
        c
         w4 hp hrg4 hg4 hs4 hlt4 hen
   dsimp only [BY,FL] at hen ⊢;have HP:=A0 hp;have jq:=A0 hrg4;have jb:Hid (MpG FM w4 w.heap.size E2):=HQ.out.low.kept (hg4.block _ HQ.out.low.lt fun e=>by injection e with e;omega);have jM:Hid (Below w.heap.size w w4):=by
    show Below _ _ _;exact HQ.out.bl.grown hg4 (by omega) fun k hk=>by injection hk with hk;omega
   have kc:=HQ.out.rg.sub _ hp;obtain ⟨jT,jE⟩:=kA.out _ kc;simp only at jT jE;have kl:c≤1152921504606846976:=(HM.out.okk _ kc).2;have jm:Hid (E2.length+1≤E.length∧E2.length+1+(Cq rest ((m,n),c)).length≤E.length):=by
    have h1:=Cr hp;have h2:=HQ.out.len;exact ⟨by omega,by omega⟩
   clear hp hrg4 hg4 hlt4 kc kH
   go_upto_region 5 with fail
   obtain ⟨w5,j1⟩:∃ w5,w4.alloc (.cells #[.int .i64 (m:Int),.int .i64 (n:Int)] 183)=w5:=⟨_,rfl⟩
   rw [j1];have jl:Hid (Ext w4 w5):=by
    show Ext _ _;rw [← j1];exact (Below.refl _ _).alloc (A3 _) _
   have jz:Hid (w5.heap[w4.heap.size]? = some (.cells #[.int .i64 (m:Int),.int .i64 (n:Int)] 183 (0,0))):=by
    show _=_;rw [← j1];exact heap_alloc_new _ _
   have jg:Hid (Below w.heap.size w w5):=jM.out.trans (Below.mono jl.out jM.out.size);have jo:Hid (Kc w w5):=Kc.of jg.out (A3 _);obtain ⟨g6,km⟩:∃ g6,w4.heap.size=g6:=⟨_,rfl⟩
   rw [km] at jz ⊢;obtain ⟨b1,o1,jY,hb1,q0, -⟩:=(HT.out.kp jo.out).at jE;have hi1:=I6 aT b1 o1 T.length cT n jY jE;have kK:=kC.out _ (AG jE);have j8:Hid (Bs T n=T[n].word):=by show Bs T n=_;unfold Bs;rw [AA jE]
   obtain ⟨wd,jV⟩:∃ wd,T[n].word=wd:=⟨_,rfl⟩
   rw [jV] at q0 kK j8;have jJ:=A0 q0;clear j1 km jY jV q0;refine Am (by kernel_rfl) (Vs [vq (.pointer (some ⟨gx,0,none⟩)),vq (.pointer (some ⟨gx,0,none⟩)),vq (.pointer (some ⟨gx,2,none⟩)),vq (.slice aT T.length cT),vq (.pointer (some ⟨g6,1,none⟩)),vq (.int .i64 (n:Int)),vq (.pointer (some ⟨b1,o1+n*2,none⟩)),vq (.pointer (some ⟨b1,o1+n*2,none⟩)),vq (.int .i64 wd),vq (.int .i64 wd)]) (fun W=>Ext w5 W) 80 (by kernel_rfl) rfl ?hVx ?hSx ?hS (Ay ?hop) ?hfin
   case hop =>
    refine ⟨?_,?_,?_,?_,?_,?_,?_,?_,?_,?_,trivial⟩
    all_goals
     intro A W jf hS je ja;have jc:Kc w5 W:=Kc.of hS (A3 _);obtain ⟨x0,x1⟩:=B5 (jc.block _ _ _ _ jz.out);have c0:=jc.cell (jo.out.cell jH.out);have c2:=jc.cell (jo.out.cell jI.out);have q0:=jc.cell jJ.out;clear jc;have h0:A.tmps.getD 0 undef=.pointer (some ⟨gx,0,none⟩):=ja 0 (by kernel_rfl);have h6:A.tmps.getD 6 undef=.pointer (some ⟨g6,0,none⟩):=ja 6 (by kernel_rfl);clear ja;simp [AY,Region.binds,Vs,vq] at je
    all_goals first
     | (refine AX rfl (.inl ⟨_,W,?_,rfl,Ext.refl _⟩);clear jf hS;simp [go_sem,Act.eval, *];done)
   case hVx=>exact Af (by simp only [AS,List.not_mem_nil,or_false,forall_eq_or_imp,forall_eq];and_intros <;> exact AW _)
   case hSx=>exact fun W W' h hx=>Ext.trans h hx
   case hS=>exact Ext.refl _
   case hfin
        =>
    intro A W jf jj hS hv ja;obtain ⟨x,hx,hA⟩:=Ag [24,25,26,27,28,29,30,31,32,8] (by kernel_rfl) jf jj ja;have e8:x 8=.int .i64 wd:=(hx 8).trans (hv 9 (by decide));rw [hA];simp only [List.foldl];rw [e8];clear e8;simp only [Act.put,List.setIfInBounds_toArray,List.set_cons_succ,List.set_cons_zero];clear hA hx hv ja jf jj;have jh:Hid (Ext w5 W):=hS;clear hS;have jp:Hid (∀ p,p∈E↔p∈((m,n),c) :: P∨p∈Cq rest ((m,n),c)):=fun p=>by
     rw [HQ.out.all,AS,CK];constructor
     ·rintro (h1 | h1)
      · exact .inl (.inr h1)
      ·by_cases e:p=((m,n),c)
       · exact .inl (.inl e)
       · exact .inr ⟨h1,e⟩
     ·rintro ((rfl | h1) | h1)
      · exact .inr HP.out
      · exact .inl h1
      · exact .inr h1.1
    go_wp2_with fail
    have hm0I:(0:Int)≤(m:Int):=by omega
    have hm8I:(m:Int)<8:=by omega
    by_cases hneg:wd<0
    ·have j5:Hid (¬ ∃ k:Nat,Bs T (m,n).2=(k:Int)∧DK acc (m,n).1=true):=by
      rintro ⟨k,h1,_⟩;have h2:Bs T n=(k:Int):=h1;rw [j8.out] at h2;omega
     refine Am (by kernel_rfl) (Vs [vq (.int .i64 wd),vq (.bool true),vq (.bool true),vq (undef),vq (undef),vq (undef),vq (undef),vq (undef),vq (undef),vq (undef),vq (undef),vq (undef),vq (.bool true)]) (fun W=>Ext w5 W) 80 (by kernel_rfl) rfl ?hVx ?hSx ?hS (Ay ?hop) ?hfin
     case hop =>
      refine ⟨?_,?_,?_,?_,?_,?_,?_,?_,?_,?_,?_,?_,?_,trivial⟩
      all_goals
       intro A W jf hS je ja;have jc:Kc w5 W:=Kc.of hS (A3 _);obtain ⟨x0,x1⟩:=B5 (jc.block _ _ _ _ jz.out);have c0:=jc.cell (jo.out.cell jH.out);have c2:=jc.cell (jo.out.cell jI.out);have q0:=jc.cell jJ.out;clear jc;have h0:A.tmps.getD 0 undef=.pointer (some ⟨gx,0,none⟩):=ja 0 (by kernel_rfl);have h6:A.tmps.getD 6 undef=.pointer (some ⟨g6,0,none⟩):=ja 6 (by kernel_rfl);have h8:A.tmps.getD 8 undef=.int .i64 wd:=ja 8 (by kernel_rfl);clear ja;simp [AY,Region.binds,Vs,vq] at je
      all_goals first
       | (refine AX rfl (.inl ⟨_,W,?_,rfl,Ext.refl _⟩);clear jf hS;simp [go_sem,Act.eval, *];done)
       | exact DM (j:=2) (d:=35) (b:=true) rfl (by kernel_rfl) (by simp only [je]) rfl rfl
     case hVx=>exact Af (by simp only [AS,List.not_mem_nil,or_false,forall_eq_or_imp,forall_eq];and_intros <;> exact AW _)
     case hSx=>exact fun W W' h hx=>Ext.trans h hx
     case hS=>exact jh.out
     case hfin =>
      intro A W jf jj hS hv ja;obtain ⟨x,hx,hA⟩:=Ag [33,34,35,36,37,38,39,40,41,42,43,44,45] (by kernel_rfl) jf jj ja;have e45:x 45=.bool true:=(hx 45).trans (hv 12 (by decide));rw [hA];simp only [List.foldl];rw [e45];clear e45;simp only [Act.put,List.setIfInBounds_toArray,List.set_cons_succ,List.set_cons_zero];clear hA hx hv ja jf jj;have jh:Hid (Ext w5 W):=hS;clear hS
      go_wp2_with fail
      go_roundg (Cq rest ((m,n),c)).length
      case measure=>have:=jN.out;have:=Cr HP.out;omega
      case rel =>
       exact ⟨((m,n),c) :: P,_,E2,⟨(jq.out.below jl.out).below jh.out,(jb.out.kept (Below.block jl.out _ jb.out.lt)).kept (Below.block jh.out _ (jb.out.kept (Below.block jl.out _ jb.out.lt)).lt),HQ.out.lea.skip j5.out,jp.out,jg.out.trans (Below.mono jh.out jg.out.size),HQ.out.glt,HQ.out.rge,HQ.out.ne,by have:=jm.out.2;omega⟩,rfl⟩
    ·obtain ⟨
         k,rfl⟩:∃ k:Nat,wd=(k:Int):=⟨wd.toNat,by omega⟩
     have jr:k<1000000:=by omega
     have j7:Hid (Bs T (m,n).2=(k:Int)):=j8.out;have jB:=Qk acc m kE jY;obtain ⟨ab,jO⟩:∃ ab,DK acc m=ab:=⟨_,rfl⟩
     rw [jO] at jB;cases ab with
     | false =>
      have j5:Hid (¬ ∃ k:Nat,Bs T (m,n).2=(k:Int)∧DK acc (m,n).1=true):=by
       rintro ⟨k,_,h2⟩;have h3:DK acc m=true:=h2;rw [jO] at h3;cases h3
      clear jO;simp only [Bool.not_false] at jB;refine Am (by kernel_rfl) (Vs [vq (.int .i64 (k:Int)),vq (.bool false),vq (.bool false),vq (.pointer (some ⟨gx,0,none⟩)),vq (.pointer (some ⟨gx,0,none⟩)),vq (.pointer (some ⟨gx,0,none⟩)),vq (.int .u8 acc),vq (.pointer (some ⟨g6,0,none⟩)),vq (.int .i64 (m:Int)),vq (.int .u8 (acc / 2 ^ m)),vq (.int .u8 (bits .and .u8 (acc / 2 ^ m) 1)),vq (.bool true),vq (.bool true)]) (fun W=>Ext w5 W) 80 (by kernel_rfl) rfl ?hVx ?hSx ?hS (Ay ?hop) ?hfin
      case hop =>
       refine ⟨?_,?_,?_,?_,?_,?_,?_,?_,?_,?_,?_,?_,?_,trivial⟩
       all_goals
        intro A W jf hS je ja;have jc:Kc w5 W:=Kc.of hS (A3 _);obtain ⟨x0,x1⟩:=B5 (jc.block _ _ _ _ jz.out);have c0:=jc.cell (jo.out.cell jH.out);have c2:=jc.cell (jo.out.cell jI.out);have q0:=jc.cell jJ.out;clear jc;have h0:A.tmps.getD 0 undef=.pointer (some ⟨gx,0,none⟩):=ja 0 (by kernel_rfl);have h6:A.tmps.getD 6 undef=.pointer (some ⟨g6,0,none⟩):=ja 6 (by kernel_rfl);have h8:A.tmps.getD 8 undef=.int .i64 (k:Int):=ja 8 (by kernel_rfl);clear ja;simp [AY,Region.binds,Vs,vq] at je
       all_goals first
        | (refine AX rfl (.inl ⟨_,W,?_,rfl,Ext.refl _⟩);clear jf hS;simp [go_sem,Act.eval, *];done)
        | (refine Al (j:=2) (d:=35) (b:=false) rfl (by kernel_rfl) (by simp only [je]) rfl (.inl ⟨_,W,?_,rfl,Ext.refl _⟩);clear jf hS;simp [go_sem,Act.eval, *];done)
      case hVx=>exact Af (by simp only [AS,List.not_mem_nil,or_false,forall_eq_or_imp,forall_eq];and_intros <;> exact AW _)
      case hSx=>exact fun W W' h hx=>Ext.trans h hx
      case hS=>exact jh.out
      case hfin =>
       intro A W jf jj hS hv ja;obtain ⟨x,hx,hA⟩:=Ag [33,34,35,36,37,38,39,40,41,42,43,44,45] (by kernel_rfl) jf jj ja;have e45:x 45=.bool true:=(hx 45).trans (hv 12 (by decide));rw [hA];simp only [List.foldl];rw [e45];clear e45;simp only [Act.put,List.setIfInBounds_toArray,List.set_cons_succ,List.set_cons_zero];clear hA hx hv ja jf jj;have jh:Hid (Ext w5 W):=hS;clear hS
       go_wp2_with fail
       go_roundg (Cq rest ((m,n),c)).length
       case measure=>have:=jN.out;have:=Cr HP.out;omega
       case rel =>
        exact ⟨((m,n),c) :: P,_,E2,⟨(jq.out.below jl.out).below jh.out,(jb.out.kept (Below.block jl.out _ jb.out.lt)).kept (Below.block jh.out _ (jb.out.kept (Below.block jl.out _ jb.out.lt)).lt),HQ.out.lea.skip j5.out,jp.out,jg.out.trans (Below.mono jh.out jg.out.size),HQ.out.glt,HQ.out.rge,HQ.out.ne,by have:=jm.out.2;omega⟩,rfl⟩
     | true =>
      have jw:Hid (DK acc (m,n).1=true):=jO;clear jO;simp only [Bool.not_true] at jB;obtain ⟨lk,jL⟩:∃ lk,look E2 k=lk:=⟨_,rfl⟩
      have ju:=A0 jL;clear jL;cases lk with
      | none =>
       have j4:Hid (∀ d,look E2 k=some d→c<d):=fun d hd=>by rw [ju.out] at hd;cases hd
       refine Am (by kernel_rfl) (Vs [vq (.int .i64 (k:Int)),vq (.bool false),vq (.bool false),vq (.pointer (some ⟨gx,0,none⟩)),vq (.pointer (some ⟨gx,0,none⟩)),vq (.pointer (some ⟨gx,0,none⟩)),vq (.int .u8 acc),vq (.pointer (some ⟨g6,0,none⟩)),vq (.int .i64 (m:Int)),vq (.int .u8 (acc / 2 ^ m)),vq (.int .u8 (bits .and .u8 (acc / 2 ^ m) 1)),vq (.bool false),vq (.bool false)]) (fun W=>Ext w5 W) 80 (by kernel_rfl) rfl ?hVx ?hSx ?hS (Ay ?hop) ?hfin
       case hop =>
        refine ⟨?_,?_,?_,?_,?_,?_,?_,?_,?_,?_,?_,?_,?_,trivial⟩
        all_goals
         intro A W jf hS je ja;have jc:Kc w5 W:=Kc.of hS (A3 _);obtain ⟨x0,x1⟩:=B5 (jc.block _ _ _ _ jz.out);have c0:=jc.cell (jo.out.cell jH.out);have c2:=jc.cell (jo.out.cell jI.out);have q0:=jc.cell jJ.out;clear jc;have h0:A.tmps.getD 0 undef=.pointer (some ⟨gx,0,none⟩):=ja 0 (by kernel_rfl);have h6:A.tmps.getD 6 undef=.pointer (some ⟨g6,0,none⟩):=ja 6 (by kernel_rfl);have h8:A.tmps.getD 8 undef=.int .i64 (k:Int):=ja 8 (by kernel_rfl);clear ja;simp [AY,Region.binds,Vs,vq] at je
        all_goals first
         | (refine AX rfl (.inl ⟨_,W,?_,rfl,Ext.refl _⟩);clear jf hS;simp [go_sem,Act.eval, *];done)
         | (refine Al (j:=2) (d:=35) (b:=false) rfl (by kernel_rfl) (by simp only [je]) rfl (.inl ⟨_,W,?_,rfl,Ext.refl _⟩);clear jf hS;simp [go_sem,Act.eval, *];done)
       case hVx=>exact Af (by simp only [AS,List.not_mem_nil,or_false,forall_eq_or_imp,forall_eq];and_intros <;> exact AW _)
       case hSx=>exact fun W W' h hx=>Ext.trans h hx
       case hS=>exact jh.out
       case hfin =>
        intro A W jf jj hS hv ja;obtain ⟨x,hx,hA⟩:=Ag [33,34,35,36,37,38,39,40,41,42,43,44,45] (by kernel_rfl) jf jj ja;have e45:x 45=.bool false:=(hx 45).trans (hv 12 (by decide));rw [hA];simp only [List.foldl];rw [e45];clear e45;simp only [Act.put,List.setIfInBounds_toArray,List.set_cons_succ,List.set_cons_zero];clear hA hx hv ja jf jj;have jh:Hid (Ext w5 W):=hS;clear hS;have jd:MpG FM W w.heap.size E2:=(jb.out.kept (Below.block jl.out _ jb.out.lt)).kept (Below.block jh.out _ (jb.out.kept (Below.block jl.out _ jb.out.lt)).lt);have jk:=jd.look_ok ES (x:=k) jr;rw [ju.out] at jk;simp only [FM,Option.getD,Option.isSome] at jk;have ji:=A0 jd;clear jd
        go_wp2_with (at_mapUpdate;go_loud (refine GB ES ji.out (x:=k) (c:=c) jr kl (by have:=jm.out.1;omega) rfl _ _ _ rfl rfl rfl rfl ?_);intro w8 jT jR)
        go_roundg (Cq rest ((m,n),c)).length
        case measure=>have:=jN.out;have:=Cr HP.out;omega
        case rel =>
         have jG:=((jq.out.below jl.out).below jh.out).kept jR (fun e=>by
          injection e with e;have:=HM.out.lt;omega) (fun e=>by injection e with e;omega)
         exact ⟨((m,n),c) :: P,_,D5 E2 k c,⟨jG,jT,HQ.out.lea.put j7.out jw.out j4.out,jp.out,(jg.out.trans (Below.mono jh.out jg.out.size)).grown jR (by have:=jg.out.size;have:=Below.size jh.out;omega) (fun q hq=>by injection hq with hq;omega),HQ.out.glt,HQ.out.rge,HQ.out.ne,by
          have h1:=jm.out.2;have h2:=G9 E2 k c;split at h2 <;> omega⟩,rfl⟩
      | some old =>
       by_cases kb:old≤c
       ·have ky:=A0 kb;have kF:¬ (c:Int)<(old:Int):=by omega
        clear kb;refine Am (by kernel_rfl) (Vs [vq (.int .i64 (k:Int)),vq (.bool false),vq (.bool false),vq (.pointer (some ⟨gx,0,none⟩)),vq (.pointer (some ⟨gx,0,none⟩)),vq (.pointer (some ⟨gx,0,none⟩)),vq (.int .u8 acc),vq (.pointer (some ⟨g6,0,none⟩)),vq (.int .i64 (m:Int)),vq (.int .u8 (acc / 2 ^ m)),vq (.int .u8 (bits .and .u8 (acc / 2 ^ m) 1)),vq (.bool false),vq (.bool false)]) (fun W=>Ext w5 W) 80 (by kernel_rfl) rfl ?hVx ?hSx ?hS (Ay ?hop) ?hfin
        case hop =>
         refine ⟨?_,?_,?_,?_,?_,?_,?_,?_,?_,?_,?_,?_,?_,trivial⟩
         all_goals
          intro A W jf hS je ja;have jc:Kc w5 W:=Kc.of hS (A3 _);obtain ⟨x0,x1⟩:=B5 (jc.block _ _ _ _ jz.out);have c0:=jc.cell (jo.out.cell jH.out);have c2:=jc.cell (jo.out.cell jI.out);have q0:=jc.cell jJ.out;clear jc;have h0:A.tmps.getD 0 undef=.pointer (some ⟨gx,0,none⟩):=ja 0 (by kernel_rfl);have h6:A.tmps.getD 6 undef=.pointer (some ⟨g6,0,none⟩):=ja 6 (by kernel_rfl);have h8:A.tmps.getD 8 undef=.int .i64 (k:Int):=ja 8 (by kernel_rfl);clear ja;simp [AY,Region.binds,Vs,vq] at je
         all_goals first
          | (refine AX rfl (.inl ⟨_,W,?_,rfl,Ext.refl _⟩);clear jf hS;simp [go_sem,Act.eval, *];done)
          | (refine Al (j:=2) (d:=35) (b:=false) rfl (by kernel_rfl) (by simp only [je]) rfl (.inl ⟨_,W,?_,rfl,Ext.refl _⟩);clear jf hS;simp [go_sem,Act.eval, *];done)
        case hVx=>exact Af (by simp only [AS,List.not_mem_nil,or_false,forall_eq_or_imp,forall_eq];and_intros <;> exact AW _)
        case hSx=>exact fun W W' h hx=>Ext.trans h hx
        case hS=>exact jh.out
        case hfin =>
         intro A W jf jj hS hv ja;obtain ⟨x,hx,hA⟩:=Ag [33,34,35,36,37,38,39,40,41,42,43,44,45] (by kernel_rfl) jf jj ja;have e45:x 45=.bool false:=(hx 45).trans (hv 12 (by decide));rw [hA];simp only [List.foldl];rw [e45];clear e45;simp only [Act.put,List.setIfInBounds_toArray,List.set_cons_succ,List.set_cons_zero];clear hA hx hv ja jf jj;have jh:Hid (Ext w5 W):=hS;clear hS;have jd:MpG FM W w.heap.size E2:=(jb.out.kept (Below.block jl.out _ jb.out.lt)).kept (Below.block jh.out _ (jb.out.kept (Below.block jl.out _ jb.out.lt)).lt);have jk:=jd.look_ok ES (x:=k) jr;rw [ju.out] at jk;simp only [FM,Option.getD,Option.isSome] at jk;have ji:=A0 jd;clear jd
         go_wp2_with fail
         go_roundg (Cq rest ((m,n),c)).length
         case measure=>have:=jN.out;have:=Cr HP.out;omega
         case rel =>
          exact ⟨((m,n),c) :: P,_,E2,⟨(jq.out.below jl.out).below jh.out,ji.out,HQ.out.lea.same j7.out jw.out ju.out ky.out,jp.out,jg.out.trans (Below.mono jh.out jg.out.size),HQ.out.glt,HQ.out.rge,HQ.out.ne,by have:=jm.out.2;omega⟩,rfl⟩
       ·have kF:(c:Int)<(old:Int):=by omega
        have j4:Hid (∀ d,look E2 k=some d→c<d):=fun d hd=>by rw [ju.out] at hd;injection hd with hd;omega
        clear kb;refine Am (by kernel_rfl) (Vs [vq (.int .i64 (k:Int)),vq (.bool false),vq (.bool false),vq (.pointer (some ⟨gx,0,none⟩)),vq (.pointer (some ⟨gx,0,none⟩)),vq (.pointer (some ⟨gx,0,none⟩)),vq (.int .u8 acc),vq (.pointer (some ⟨g6,0,none⟩)),vq (.int .i64 (m:Int)),vq (.int .u8 (acc / 2 ^ m)),vq (.int .u8 (bits .and .u8 (acc / 2 ^ m) 1)),vq (.bool false),vq (.bool false)]) (fun W=>Ext w5 W) 80 (by kernel_rfl) rfl ?hVx ?hSx ?hS (Ay ?hop) ?hfin
        case hop =>
         refine ⟨?_,?_,?_,?_,?_,?_,?_,?_,?_,?_,?_,?_,?_,trivial⟩
         all_goals
          intro A W jf hS je ja;have jc:Kc w5 W:=Kc.of hS (A3 _);obtain ⟨x0,x1⟩:=B5 (jc.block _ _ _ _ jz.out);have c0:=jc.cell (jo.out.cell jH.out);have c2:=jc.cell (jo.out.cell jI.out);have q0:=jc.cell jJ.out;clear jc;have h0:A.tmps.getD 0 undef=.pointer (some ⟨gx,0,none⟩):=ja 0 (by kernel_rfl);have h6:A.tmps.getD 6 undef=.pointer (some ⟨g6,0,none⟩):=ja 6 (by kernel_rfl);have h8:A.tmps.getD 8 undef=.int .i64 (k:Int):=ja 8 (by kernel_rfl);clear ja;simp [AY,Region.binds,Vs,vq] at je
         all_goals first
          | (refine AX rfl (.inl ⟨_,W,?_,rfl,Ext.refl _⟩);clear jf hS;simp [go_sem,Act.eval, *];done)
          | (refine Al (j:=2) (d:=35) (b:=false) rfl (by kernel_rfl) (by simp only [je]) rfl (.inl ⟨_,W,?_,rfl,Ext.refl _⟩);clear jf hS;simp [go_sem,Act.eval, *];done)
        case hVx=>exact Af (by simp only [AS,List.not_mem_nil,or_false,forall_eq_or_imp,forall_eq];and_intros <;> exact AW _)
        case hSx=>exact fun W W' h hx=>Ext.trans h hx
        case hS=>exact jh.out
        case hfin =>
         intro A W jf jj hS hv ja;obtain ⟨x,hx,hA⟩:=Ag [33,34,35,36,37,38,39,40,41,42,43,44,45] (by kernel_rfl) jf jj ja;have e45:x 45=.bool false:=(hx 45).trans (hv 12 (by decide));rw [hA];simp only [List.foldl];rw [e45];clear e45;simp only [Act.put,List.setIfInBounds_toArray,List.set_cons_succ,List.set_cons_zero];clear hA hx hv ja jf jj;have jh:Hid (Ext w5 W):=hS;clear hS;have jd:MpG FM W w.heap.size E2:=(jb.out.kept (Below.block jl.out _ jb.out.lt)).kept (Below.block jh.out _ (jb.out.kept (Below.block jl.out _ jb.out.lt)).lt);have jk:=jd.look_ok ES (x:=k) jr;rw [ju.out] at jk;simp only [FM,Option.getD,Option.isSome] at jk;have ji:=A0 jd;clear jd
         go_wp2_with (at_mapUpdate;go_loud (refine GB ES ji.out (x:=k) (c:=c) jr kl (by have:=jm.out.1;omega) rfl _ _ _ rfl rfl rfl rfl ?_);intro w8 jT jR)
         go_roundg (Cq rest ((m,n),c)).length
         case measure=>have:=jN.out;have:=Cr HP.out;omega
         case rel =>
          have jG:=((jq.out.below jl.out).below jh.out).kept jR (fun e=>by
           injection e with e;have:=HM.out.lt;omega) (fun e=>by injection e with e;omega)
          exact ⟨((m,n),c) :: P,_,D5 E2 k c,⟨jG,jT,HQ.out.lea.put j7.out jw.out j4.out,jp.out,(jg.out.trans (Below.mono jh.out jg.out.size)).grown jR (by have:=jg.out.size;have:=Below.size jh.out;omega) (fun q hq=>by injection hq with hq;omega),HQ.out.glt,HQ.out.rge,HQ.out.ne,by
           have h1:=jm.out.2;have h2:=G9 E2 k c;split at h2 <;> omega⟩,rfl⟩
end
end Go.Proofs.YtpljngaejaehcaaGreatDoor
