/- Texts that the claims share: MW. -/
import Derived.Test.YtpljngaejaehcaaGreatDoorMK10
set_option maxHeartbeats 25600000
set_option maxRecDepth 100000
set_option linter.unusedVariables false
set_option linter.unusedSimpArgs false
namespace Go.Proofs.YtpljngaejaehcaaGreatDoor
open Go.RowKit Go.WideShapes Fl
theorem latticeWords_view (x:Jf) (y:Gu) (z:Lj) (w:World) (hx:Pu w x) (hy:NS w y) (hz:NR w z) (hT:Tab w) :
  Calls Tryz.prog 8 #[x.val,y.val,z.val] w fun e w'=>e=.returned (.bool true)∧Ext w w':=by
 obtain ⟨rM,rA,ra,rl,rc,rQ⟩:=x;obtain ⟨⟨wa,wl,wc,wQ⟩,⟨ca,cl,cc0,cZ⟩,⟨ua,ul,uc,uZ⟩,bB⟩:=y;obtain ⟨la,ll,lc,lZ⟩:=z;obtain ⟨Yu,Yv,Yq,Yr,ka⟩:=hx;obtain ⟨⟨y9,YR⟩,⟨yF,Yz⟩,⟨yV,YQ⟩,Ys,Yt⟩:=hy;obtain ⟨yO,kF⟩:=hz;simp only at Yu Yv Yq Yr ka y9 YR yF Yz yV YQ Ys Yt yO kF;have zg:=A0 ka;have zl:=A0 y9;have YZ:=A0 yF;have zj:=A0 yV;have Y9:=A0 yO;have HT:=A0 hT;clear ka y9 yF yV yO hT;simp only [Jf.val,Gu.val,Lj.val]
 go_enter Tryz.func8,Tryz.ntmps8
 go_upto_region 1 with fail
 obtain ⟨w2,k3,YT,b1,b2,zG⟩:=F2 w (.cells #[.int .u8 rM,.int .u8 rA,.slice ra rl rc] 24) (.cells #[.slice wa wl wc,.slice ca cl cc0,.slice ua ul uc,.int .u8 bB] 29);rw [k3];obtain ⟨gx,YE⟩:∃ gx,w.heap.size=gx:=⟨_,rfl⟩
 rw [YE] at b1 b2 ⊢;obtain ⟨gy,YF⟩:∃ gy,gx+1=gy:=⟨_,rfl⟩
 rw [YF] at b2 ⊢;have Ym:=A0 YT;have ye:=A0 (Al b1);have yf:=A0 (Al b2);clear k3 YT b1 b2 zG YE YF
 go_wp2_with fail
 refine (Md w2 (HT.out.go Ym.out)).mono ?_;rintro e w3 ⟨rfl,jk⟩;have kf:Hid (Ext w w3):=Ext.trans Ym.out jk;have YX:Hid (∀ W,Ext w3 W→W.heap[gx]? = some (.cells #[.int .u8 rM,.int .u8 rA,.slice ra rl rc] 24 (0,0))):=fun W hx=>ye.out W (Ext.trans jk hx);have YY:Hid (∀ W,Ext w3 W→W.heap[gy]? = some (.cells #[.slice wa wl wc,.slice ca cl cc0,.slice ua ul uc,.int .u8 bB] 29 (0,0))):=fun W hx=>yf.out W (Ext.trans jk hx);clear jk
 go_upto_region 2 with fail
 refine EK (by kernel_rfl) (Vs [vq (.agg #[.int .u8 rM,.int .u8 rA,.slice ra rl rc]),RX,vq (.agg #[.slice wa wl wc,.slice ca cl cc0,.slice ua ul uc,.int .u8 bB]),MdV (mdW wQ (min wl 6)),vq (.slice la ll lc),SlV (s3s lZ (min ll 5)),SQ w3.heap.size (.int .i64 0) (.int .u8 0) (.slice none 0 0) 33,Mg w3.heap.size]) (Xs []) (fun fL=>(fun W=>Ext w3 W) ) [0,1,0,7,0,31,0,0] 147 8 11 (by kernel_rfl) rfl ?hV ?hS ?hop ?hlast ?hlate
 case hV =>
  refine Ax (Ag (by simp only [AT,List.not_mem_nil,or_false,forall_eq_or_imp,forall_eq];exact ⟨AX _,Mf,AX _,Ob _,AX _,Oc _,MK _ _ _ _ _,Fy _⟩)) ?_;exact trivial
 case hS =>
  intro fL hf;show (fun W=>Ext w3 W)  _
  first | exact Ext.refl _ | exact B4 _
 case hop =>
  refine ⟨?_,?c1,?_,?c3,?_,?c5,?c6,?c7,trivial⟩
  all_goals first | rw [if_neg (by decide)] | rw [if_pos (by decide)]
  all_goals refine Hq _ _ _ _ _ _ _ ?_
  all_goals try intro ac W fL jd ji jU jR jb jc ja jr
  all_goals try have hS:(fun W=>Ext w3 W)  W:=jb
  all_goals try (
   have jk:Ext w3 W:=hS;obtain ⟨x0,x1,x2⟩:=cells3 (YX.out W jk);obtain ⟨y0,y1,y2,y3⟩:=Ap (YY.out W jk))
  all_goals try have hh3:=gdA ac 3 (.pointer (some ⟨gx,0,none⟩)) (ja 3 (by kernel_rfl))
  all_goals try have hh4:=gdA ac 4 (.pointer (some ⟨gy,0,none⟩)) (ja 4 (by kernel_rfl))
  all_goals try have hh2:=gdA ac 2 (.slice la ll lc) (ja 2 (by kernel_rfl))
  all_goals try (have jc:=Ce jc;simp [CT,AZ,vq] at jc)
  all_goals try clear ja jU jR jr
  case c1 =>
   refine AY rfl (.inr ⟨11,#[.agg #[.int .u8 rM,.int .u8 rA,.slice ra rl rc]],W,by (clear jd hS jb ji jk;simp [go_sem,Act.eval, *]),?_⟩);refine (made2_any rM rA ra rl rc rQ W Yu Yv Yq Yr (zg.out.later (Ext.trans kf.out jk) (A3 _))).mono ?_;rintro e w' hp;obtain ⟨v,rfl,hv,hx⟩:=RY hp;exact ⟨_,rfl,hv,hx,Ext.trans jb hx⟩
  case c3 =>
   refine AY rfl (.inr ⟨12,#[.agg #[.slice wa wl wc,.slice ca cl cc0,.slice ua ul uc,.int .u8 bB]],W,by (clear jd hS jb ji jk;simp [go_sem,Act.eval, *]),?_⟩);refine (made11_any wQ wa ca ua wl wc cl cc0 ul uc cZ uZ bB W (zl.out.later (Ext.trans kf.out jk) (A3 _)) YR (YZ.out.later (Ext.trans kf.out jk) (A3 _)) Yz (FJ zj.out (Ext.trans kf.out jk) (A3 _)) YQ Ys Yt).mono ?_;rintro e w' hp;obtain ⟨v,rfl,hv,hx⟩:=Sl hp;exact ⟨_,rfl,hv,hx,Ext.trans jb hx⟩
  case c5 =>
   refine AY rfl (.inr ⟨13,#[.slice la ll lc,.int .i64 5],W,by (clear jd hS jb ji jk;simp [go_sem,Act.eval, *]),?_⟩);refine (slots14_any lZ la ll lc 5 W (FJ Y9.out (Ext.trans kf.out jk) (A3 _)) kF (by decide)).mono ?_;rintro e w' ⟨v,rfl,hv,kZ,hx⟩;exact ⟨_,rfl,⟨hv.mono (Nat.zero_le _),kZ⟩,hx,Ext.trans jb hx⟩
  case c6 =>
   refine AY rfl (.inl ⟨.pointer (some ⟨W.heap.size,0,none⟩),W.alloc (.cells #[.int .i64 0,.int .u8 0,.slice none 0 0] 33),?_,⟨W.heap.size,rfl,heap_alloc_new _ _,Below.size jk⟩,(Below.refl _ _).alloc (A3 _) _,Ext.trans jb ((Below.refl _ _).alloc (A3 _) _)⟩);clear jd hS jb ji jk x0 x1 x2 y0 y1 y2 y3;simp [go_sem,Act.eval]
  case c7 =>
   refine AY rfl (.inl ⟨.pointer (some ⟨W.heap.size,0,none⟩),W.alloc (.cells #[.slice none 0 0,.slice none 0 0,.slice none 0 0,.int .i64 0] 39),?_,⟨W.heap.size,rfl,heap_alloc_new _ _,Below.size jk⟩,(Below.refl _ _).alloc (A3 _) _,Ext.trans jb ((Below.refl _ _).alloc (A3 _) _)⟩);clear jd hS jb ji jk x0 x1 x2 y0 y1 y2 y3;simp [go_sem,Act.eval]
  all_goals (refine AY rfl (.inl ⟨_,W,?_,rfl,Ext.refl _,jb⟩);clear jd hS jb ji;simp [go_sem,Act.eval, *];done)
 case hlate =>
  intro h;exact absurd h (by decide)
 case hlast =>
  intro ac W jd jE fL hf jb hv ja;have hS:(fun W=>Ext w3 W)  W:=jb;clear jb;have h8:SQ w3.heap.size (.int .i64 0) (.int .u8 0) (.slice none 0 0) 33 (ac.tmps.getD 8 undef) W:=hv 6 (by decide);have h9:Mg w3.heap.size (ac.tmps.getD 9 undef) W:=hv 7 (by decide);have zs:RX (ac.tmps.getD 26 undef) W:=hv 1 (by decide);have zt:MdV (mdW wQ (min wl 6)) (ac.tmps.getD 28 undef) W:=hv 3 (by decide);have zu:SlV (s3s lZ (min ll 5)) (ac.tmps.getD 30 undef) W:=hv 5 (by decide);obtain ⟨g8,e8,yI,k8⟩:=h8;obtain ⟨g9,e9,YA,k9⟩:=h9;obtain ⟨S,bS,cS,e20,hm1,hm2,Yx,kY,kL,yE⟩:=zs;obtain ⟨aw,am,ap,cw,cm,cp,cs,ps,bk,e22,yP,yQ,YJ⟩:=zt;obtain ⟨kM,kZ⟩:=zu;obtain ⟨L,gL,cL,e24,zC,k1,YO,YI⟩:=Ma kM (A8 (Nat.min_le_right _ _) (by decide)) kZ;rw [e24] at kM;obtain ⟨Ws,kX⟩:∃ Ws,mdW wQ (min wl 6)=Ws:=⟨_,rfl⟩
  have jn:Hid (2≤Ws.length∧Ws.length≤8):=by show _∧_;have:=Ea wQ (min wl 6);rw [kX] at this;have:=Nat.min_le_right wl 6;omega
  have zk:Hid (∀ x∈Ws,x.size≤3):=by show ∀ x∈Ws,_;rw [← kX];exact fun x hx=>(MZ wQ _ x hx).2
  rw [kX] at e22 yP yQ;have hlnn:L.length≤5:=by rw [YI];exact Nat.min_le_right _ _
  obtain ⟨w1,jl,kD,wz,ki,yD,YU⟩:=RZ (L:=L) (v:=.slice (some ⟨gL,0,none⟩) L.length cL) (cS:=cS) hS yI YA k8 k9 kL yP YJ YO;show Ef _ _ _ 3 8 _ _;unfold Ef;refine Ex rfl rfl rfl rfl (Ac e8) (Ac e20) yI (by kernel_rfl) ?_;rw [jl];unfold Ef;refine Dh rfl rfl rfl rfl (Ac e9) (Ac (e22.trans (by rfl))) kD (by kernel_rfl) ?_;rw [ki];unfold Ef;refine Lg rfl rfl rfl rfl (Ac e24) ?_;unfold Ef;obtain ⟨sx,jH,jG⟩:=Ah [25,26,27,28,29,30,8,9,10] (by kernel_rfl) jd jE ja;have f8:sx 8=.pointer (some ⟨g8,0,none⟩):=(jH 8).trans e8;have f9:sx 9=.pointer (some ⟨g9,0,none⟩):=(jH 9).trans e9;have jg:=A0 yD;have zp:=A0 YU;have kV:=A0 k1;have yk:=A0 yQ;have yr:=A0 (Dj.of yD.slt (by omega) k1.bnd k1.dis).1;have zz:=jn.out;clear hS yI YA k8 k9 kL yP YJ kM YO kZ yD YU k1 yQ zC jl ki kD YI kX e20 e22 e24 zz;rw [jG];simp only [List.foldl];simp only [Act.put,List.setIfInBounds_toArray,List.set_cons_succ,List.set_cons_zero];clear jG jH hv ja jd jE hf;rw [f8,f9];clear f8 f9 e8 e9;have kT:=A0 Yx;have jJ:=A0 yE;have ky:Hid (Ext w wz):=Ext.trans kf.out zp.out;have jK:Hid (Ws.length≤10):=by show _≤_;have:=jn.out;omega
  have ko:Hid (L.length≤6):=by show _≤_;omega
  clear Yx;obtain ⟨s0,s1,s2⟩:=BM (jg.out.go (Ext.refl _)).b8;obtain ⟨t0,t1,t2,t3⟩:=Ap (jg.out.go (Ext.refl _)).b9;by_cases k2:BQ S=0
  ·have kr :=
         A0 k2
   clear k2
   go_wp2_with fail
   clear s0 s1 s2 t0 t1 t2 t3;refine (Rc jg.out kr.out kT.out jJ.out yk.out jK.out (HT.out.go ky.out) yr.out kV.out ko.out).mono ?_;obtain ⟨E,hE⟩:∃ E,DD S.rules S.acc L (Ws.map bts)=E:=⟨_,rfl⟩
   have ze:Hid (GX (L.length:Int) E):=by show GX _ _;rw [← hE];exact Sn ko.out (fun s hs x hx=>kV.out.cst s hs x hx) jK.out zk.out
   have kl:Hid (E.length≤210):=by show _≤_;rw [← hE];exact Ra ko.out jK.out
   have Yg:=A0 hE;rw [hE];rintro e w5 ⟨v5,rfl,yY,kS⟩;obtain ⟨a5,c5,y5, -, -⟩:=yY.form;subst y5;have yg:=A0 (Aa.edgs yY).1;have yx:=A0 kS;clear yY kS hE
   go_upto_region 4 with fail
   obtain ⟨w4,kh⟩:∃ w4,w5.alloc (.cells #[.int .i64 (L.length:Int),.slice a5 E.length c5] 45)=w4:=⟨_,rfl⟩
   rw [kh];have Ya:Ext w5 w4:=by rw [← kh];exact (Below.refl _ _).alloc (A3 _) _
   have b1:w4.heap[w5.heap.size]? = some (.cells #[.int .i64 (L.length:Int),.slice a5 E.length c5] 45 (0,0)):=by rw [← kh];exact heap_alloc_new _ _
   obtain ⟨g11,kC⟩:∃ g11,w5.heap.size=g11:=⟨_,rfl⟩
   rw [kC] at b1 ⊢;have jY:=A0 (Al b1);have Yf:=A0 (yg.out.go Ya);have kv:Hid (Ext wz w4):=Ext.trans yx.out Ya;clear kh Ya b1 kC;obtain ⟨bw,ow,yB, -, -⟩:=jg.out.mod.ws 0 (by have:=jn.out;omega);subst yB;have yu:Hid (∀ W,Ext wz W→BK W (some ⟨bw,ow,none⟩) Ws):=fun W hx=>(jg.out.go hx).mod.ws;obtain ⟨s0,s1,s2⟩:=BM (jg.out.go kv.out).b8;obtain ⟨t0,t1,t2,t3⟩:=Ap (jg.out.go kv.out).b9
   go_upto_region 7 with fail
   clear s0 s1 s2 t0 t1 t2 t3
   go_cut [14] (fun v14 wx=>∃ wy:World,wy=wx∧∃ (g14:Nat) (az:Option Addr) (cz:Nat),v14=.pointer (some ⟨g14,0,none⟩)∧wy.heap[g14]? = some (.cells #[.slice (some ⟨bw,ow,none⟩) Ws.length cw,.slice az Ws.length cz,.slice none 0 0,.int .i64 0] 39 (0,0))∧Aa Ay wy 0 (.slice az Ws.length cz) (List.replicate Ws.length 0)∧Ext w4 wy)
   case first =>
    refine EK (by kernel_rfl) (Vs [vq (.pointer (some ⟨g9,0,none⟩)),vq (.slice (some ⟨bw,ow,none⟩) Ws.length cw),vq (.int .i64 (Ws.length:Int)),NzV 0 Ws.length,MzV 0 (some ⟨bw,ow,none⟩) Ws.length cw Ws.length,Mg w4.heap.size]) (Xs []) (fun fL=>(fun W=>Ext w4 W) ) [0,1,0,4,15,0] 147 6 7 (by kernel_rfl) rfl ?hV ?hS ?hop ?hlast ?hlate
    case hV =>
     refine Ax (Ag (by simp only [AT,List.not_mem_nil,or_false,forall_eq_or_imp,forall_eq];exact ⟨AX _,AX _,AX _,Jn _ _,Og _ _ _ _ _,Fy _⟩)) ?_;exact trivial
    case hS =>
     intro fL hf;show (fun W=>Ext w4 W)  _
     first | exact Ext.refl _ | exact B4 _
    case hop =>
     refine ⟨?_,?_,?_,?c3,?c4,?c5,trivial⟩
     all_goals first | rw [if_neg (by decide)] | rw [if_pos (by decide)]
     all_goals refine Hq _ _ _ _ _ _ _ ?_
     all_goals try intro ac W fL jd ji jU jR jb jc ja jr
     all_goals try have hS:(fun W=>Ext w4 W)  W:=jb
     all_goals try (
      have js:Ext wz W:=Ext.trans kv.out hS;obtain ⟨s0,s1,s2⟩:=BM (jg.out.go js).b8;obtain ⟨t0,t1,t2,t3⟩:=Ap (jg.out.go js).b9)
     all_goals try have YG:=gdA ac 9 (.pointer (some ⟨g9,0,none⟩)) (ja 9 (by kernel_rfl))
     all_goals try have yJ:=gdA ac 13 (.int .i64 (Ws.length:Int)) (ja 13 (by kernel_rfl))
     all_goals try have d51:(NzV 0 Ws.length) (ac.tmps.getD 51 undef) W:=jc 3 (by decide)
     all_goals try (have jc:=Ce jc;simp [CT,AZ,vq] at jc)
     all_goals try clear ja jU jR jr
     case c3 =>
      obtain ⟨w',yT,ho,hx⟩:=Jm W Ws.length (by have:=jn.out;omega);refine AY rfl (.inl ⟨_,w',?_,⟨_,_,rfl,ho.mono (Nat.zero_le _)⟩,hx,Ext.trans jb hx⟩);clear ho hx;clear jd hS jb ji js s0 s1 s2 t0 t1 t2 t3;simp [go_sem,Act.eval, *]
     case c4 =>
      have kz:NzV 0 Ws.length (ac.tmps.getD 51 undef) W:=d51;rw [A4] at kz;obtain ⟨a8,c8,e8,kJ⟩:=kz;have yo:=A0 kJ;clear kJ;refine AY rfl (.inl ⟨.agg #[.slice (some ⟨bw,ow,none⟩) Ws.length cw,.slice a8 Ws.length c8,.slice none 0 0,.int .i64 0],W,?_,⟨a8,c8,rfl,yo.out⟩,Ext.refl _,jb⟩);clear jd hS jb ji js s0 s1 s2 t0 t1 t2 t3;simp [go_sem,Act.eval, *]
     case c5 =>
      refine AY rfl (.inl ⟨.pointer (some ⟨W.heap.size,0,none⟩),W.alloc (.cells #[.slice none 0 0,.slice none 0 0,.slice none 0 0,.int .i64 0] 39),?_,⟨W.heap.size,rfl,heap_alloc_new _ _,Below.size hS⟩,(Below.refl _ _).alloc (A3 _) _,Ext.trans jb ((Below.refl _ _).alloc (A3 _) _)⟩);clear jd hS jb ji js s0 s1 s2 t0 t1 t2 t3;simp [go_sem,Act.eval]
     all_goals (refine AY rfl (.inl ⟨_,W,?_,rfl,Ext.refl _,jb⟩);clear jd hS jb ji;simp [go_sem,Act.eval, *];done)
    case hlate =>
     intro h;exact absurd h (by decide)
    case hlast =>
     intro ac W jd jE fL hf jb hv ja;have hS:(fun W=>Ext w4 W)  W:=jb;clear jb;have zq:Mg w4.heap.size (ac.tmps.getD 14 undef) W:=hv 5 (by decide);have zv:MzV 0 (some ⟨bw,ow,none⟩) Ws.length cw Ws.length (ac.tmps.getD 52 undef) W:=hv 4 (by decide);obtain ⟨g14,e14,jq,k14⟩:=zq;obtain ⟨az,cz,e52,jx⟩:=zv;obtain ⟨wy,jI,jS,kg,jO⟩:=NQ (a1:=some ⟨bw,ow,none⟩) (n1:=Ws.length) (c1:=cw) (a2:=az) (n2:=Ws.length) (c2:=cz) hS jq k14;have kK:=Tq.row jx jq (by decide) kg;show Ef _ _ _ 1 6 _ _;unfold Ef;refine Dh rfl rfl rfl rfl (Ac e14) (Ac e52) jq (by kernel_rfl) ?_;rw [jI];unfold Ef;obtain ⟨sx,jH,jG⟩:=Ah [48,49,50,51,52,14] (by kernel_rfl) jd jE ja;have f14:sx 14=.pointer (some ⟨g14,0,none⟩):=(jH 14).trans e14;have jZ:=A0 jS;have j1:=A0 kK;have yy:=A0 jO;clear hS jq k14 jx jS jO jI e52 kg kK;rw [jG];simp only [List.foldl];simp only [Act.put,List.setIfInBounds_toArray,List.set_cons_succ,List.set_cons_zero];clear jG jH hv ja jd jE hf;rw [f14];clear f14 e14
     go_wp2_with fail
     go_meet
     exact ⟨_,rfl,g14,az,cz,rfl,jZ.out,j1.out,yy.out⟩
   case rest
        =>
    obtain ⟨w7,jI,g14,az,cz,yW,jq,jx,jO⟩:=hcut;subst jI yW;have jZ:=A0 (Al jq);have j1:=A0 jx;have kx:Hid (Ext wz w7):=Ext.trans kv.out jO;have yw:=A0 jO;clear jq jx jO;have zA:(Ws.length:Int)≠0:=by have:=jn.out;omega
    have YH:(ll:Int).tmod (Ws.length:Int)=((ll % Ws.length:Nat):Int):=Int.ofNat_tmod ll Ws.length;obtain ⟨k,hk⟩:∃ k,ll % Ws.length=k:=⟨_,rfl⟩
    have HK:Hid (k<Ws.length):=by show _<_;rw [← hk];exact Nat.mod_lt _ (by have:=jn.out;omega)
    rw [hk] at YH;clear hk
    go_upto_region 9 with fail
    clear YH zA;obtain ⟨n1,YK⟩:∃ n1,Ws.length - 1=n1:=⟨_,rfl⟩
    have jl:RowKit.wrap64 ((Ws.length:Int) - 1)=(n1:Int):=by have:=jn.out;unfold RowKit.wrap64;omega
    have k3:IntKind.i64.wrap ((Ws.length:Int) - 1)=(n1:Int):=by have:=jn.out;rw [IntWalk.i64_in _ (by omega)];omega
    have ym:=A0 YK;clear YK;have ys:Hid ((Ws.take k).length=k):=by show _=_;have:=HK.out;rw [AK];omega
    have Ye:Hid ((Ws.drop (k+1)).length=Ws.length - (k+1)):=List.length_drop;have y8:=jg.out.mod.wc;have yM:=HK.out;have zi:=A0 (fun W=>Ek ⟨bw,ow,none⟩ Ws.length cw k (Nat.le_of_lt yM) y8 W);obtain ⟨oJ,YN,yU⟩:=DB bw ow Ws.length cw (k+1) yM y8;rw [show ((k+1:Nat):Int)=(k:Int)+1 from rfl,← Ye.out] at yU;have zd:=A0 YN;have zh:=A0 yU;have Y3:Hid (Ws.take k ++ Ws.drop (k+1)=Ws.eraseIdx k):=(List.eraseIdx_eq_take_drop_succ ..).symm;clear y8 yM YN yU
    go_cut [16] (fun v16 wx=>∃ wy:World,wy=wx∧∃ (g16:Nat) (a1:Option Addr) (c1:Nat) (a2:Option Addr) (c2:Nat),v16=.pointer (some ⟨g16,0,none⟩)∧wy.heap[g16]? = some (.cells #[.slice a1 (Ws.take k).length c1,.slice a2 n1 c2,.slice none 0 0,.int .i64 0] 39 (0,0))∧Aa BG wy w7.heap.size (.slice a1 (Ws.take k).length c1) (Ws.take k)∧Aa Ay wy w7.heap.size (.slice a2 n1 c2) (List.replicate n1 0)∧Ext w7 wy∧w7.heap.size≤g16)
    case first =>
     refine EK (by kernel_rfl) (Vs [EmV w7.heap.size,vq (.pointer (some ⟨g9,0,none⟩)),vq (.slice (some ⟨bw,ow,none⟩) Ws.length cw),vq (.int .i64 (k:Int)),vq (.slice (some ⟨bw,ow,none⟩) k cw),WdV w7.heap.size (Ws.take k),vq (.int .i64 (Ws.length:Int)),vq (.int .i64 (n1:Int)),NzV w7.heap.size n1,MwV w7.heap.size (Ws.take k) n1,Mg w7.heap.size]) (Xs []) (fun fL=>(fun W=>Ext w7 W) ) [0,0,2,0,14,31,0,64,192,511,0] 147 11 12 (by kernel_rfl) rfl ?hV ?hS ?hop ?hlast ?hlate
     case hV =>
      refine Ax (Ag (by simp only [AT,List.not_mem_nil,or_false,forall_eq_or_imp,forall_eq];exact ⟨Oh _,AX _,AX _,AX _,AX _,Oi _ _,AX _,AX _,Jn _ _,Oj _ _ _,Fy _⟩)) ?_;exact trivial
     case hS =>
      intro fL hf;show (fun W=>Ext w7 W)  _
      first | exact Ext.refl _ | exact B4 _
     case hop =>
      refine ⟨?c0,?_,?_,?_,?c4,?c5,?_,?c7,?c8,?c9,?c10,trivial⟩
      all_goals first | rw [if_neg (by decide)] | rw [if_pos (by decide)]
      all_goals refine Hq _ _ _ _ _ _ _ ?_
      all_goals try intro ac W fL jd ji jU jR jb jc ja jr
      all_goals try have hS:(fun W=>Ext w7 W)  W:=jb
      all_goals try (
       have js:Ext wz W:=Ext.trans kx.out hS;obtain ⟨s0,s1,s2⟩:=BM (jg.out.go js).b8;obtain ⟨t0,t1,t2,t3⟩:=Ap (jg.out.go js).b9)
      all_goals try have YG:=gdA ac 9 (.pointer (some ⟨g9,0,none⟩)) (ja 9 (by kernel_rfl))
      all_goals try have yJ:=gdA ac 13 (.int .i64 (Ws.length:Int)) (ja 13 (by kernel_rfl))
      all_goals try have yK:=gdA ac 15 (.int .i64 (k:Int)) (ja 15 (by kernel_rfl))
      all_goals try have d57:(EmV w7.heap.size) (ac.tmps.getD 57 undef) W:=jc 0 (by decide)
      all_goals try (have d61:ac.tmps.getD 61 undef=.slice (some ⟨bw,ow,none⟩) k cw:=jc 4 (by decide);have dd61:=d61;rw [A4] at dd61)
      all_goals try have d62:(WdV w7.heap.size (Ws.take k)) (ac.tmps.getD 62 undef) W:=jc 5 (by decide)
      all_goals try have d65:(NzV w7.heap.size n1) (ac.tmps.getD 65 undef) W:=jc 8 (by decide)
      all_goals try (have jc:=Ce jc;simp [CT,AZ,vq] at jc)
      all_goals try clear ja jU jR jr
      case c0 =>
       refine AY rfl (.inl ⟨.slice (some ⟨W.heap.size,0,none⟩) 0 0,W.alloc (.cells #[] 9),?_,⟨_,rfl,heap_alloc_new _ _,Below.size hS⟩,(Below.refl _ _).alloc (A3 _) _,Ext.trans jb ((Below.refl _ _).alloc (A3 _) _)⟩);clear jd hS jb ji js s0 s1 s2 t0 t1 t2 t3;simp [go_sem,Act.eval, *]
      case c4 =>
       have kM:=zi.out W;refine AY rfl (.inl ⟨_,W,?_,rfl,Ext.refl _,jb⟩);clear jd hS jb ji js s0 s1 s2 t0 t1 t2 t3;simp [go_sem,Act.eval, *]
      case c5 =>
       obtain ⟨g62,e62,yH,yz⟩:=d57;refine AY rfl ((Ka C8 (.tmp 57) (.tmp 61) rfl (Ac e62) yH (some ⟨bw,ow,none⟩) k cw (Ws.take k) ys.out.symm (Ac d61) (fun _=>⟨_,rfl,Jo ((yu.out W js).take1 k)⟩) (by rw [ys.out];have:=HK.out;have:=jn.out;omega)).mono ?_);rintro va w' ⟨ho, -,hx⟩;obtain ⟨a8,c8,zD, -, -⟩:=ho.form;subst zD;exact ⟨⟨a8,c8,rfl,ho.mono yz⟩,hx,Ext.trans jb hx⟩
      case c7 =>
       refine AY rfl (.inl ⟨_,W,?_,rfl,Ext.refl _,jb⟩);clear jd hS jb ji js s0 s1 s2 t0 t1 t2 t3;simp [go_sem,Act.eval, *]
      case c8 =>
       obtain ⟨w',yT,ho,hx⟩:=Jm W n1 (by have:=jn.out;have:=ym.out;omega);refine AY rfl (.inl ⟨_,w',?_,⟨_,_,rfl,ho.mono (Below.size hS)⟩,hx,Ext.trans jb hx⟩);clear ho hx;clear jd hS jb ji js s0 s1 s2 t0 t1 t2 t3;simp [go_sem,Act.eval, *]
      case c9 =>
       have kz:WdV w7.heap.size (Ws.take k) (ac.tmps.getD 62 undef) W:=d62;have Yp:NzV w7.heap.size n1 (ac.tmps.getD 65 undef) W:=d65;rw [A4] at kz Yp;obtain ⟨a8,c8,e8,kJ⟩:=kz;obtain ⟨a9,c9,e9,YM⟩:=Yp;have yo:=A0 kJ;have zc:=A0 YM;clear kJ YM;refine AY rfl (.inl ⟨.agg #[.slice a8 (Ws.take k).length c8,.slice a9 n1 c9,.slice none 0 0,.int .i64 0],W,?_,⟨a8,c8,a9,c9,rfl,yo.out,zc.out⟩,Ext.refl _,jb⟩);clear jd hS jb ji js s0 s1 s2 t0 t1 t2 t3;simp [go_sem,Act.eval, *]
      case c10 =>
       refine AY rfl (.inl ⟨.pointer (some ⟨W.heap.size,0,none⟩),W.alloc (.cells #[.slice none 0 0,.slice none 0 0,.slice none 0 0,.int .i64 0] 39),?_,⟨W.heap.size,rfl,heap_alloc_new _ _,Below.size hS⟩,(Below.refl _ _).alloc (A3 _) _,Ext.trans jb ((Below.refl _ _).alloc (A3 _) _)⟩);clear jd hS jb ji js s0 s1 s2 t0 t1 t2 t3;simp [go_sem,Act.eval]
      all_goals (refine AY rfl (.inl ⟨_,W,?_,rfl,Ext.refl _,jb⟩);clear jd hS jb ji;simp [go_sem,Act.eval, *];done)
     case hlate =>
      intro h;exact absurd h (by decide)
     case hlast =>
      intro ac W jd jE fL hf jb hv ja;have hS:(fun W=>Ext w7 W)  W:=jb;clear jb;have zr:Mg w7.heap.size (ac.tmps.getD 16 undef) W:=hv 10 (by decide);have zw:MwV w7.heap.size (Ws.take k) n1 (ac.tmps.getD 66 undef) W:=hv 9 (by decide);obtain ⟨g16,e16,je,k16⟩:=zr;obtain ⟨a1,c1,a2,c2,e66,jF,jV⟩:=zw;obtain ⟨wy,jI,jT,kg,jO⟩:=NQ (a1:=a1) (n1:=(Ws.take k).length) (c1:=c1) (a2:=a2) (n2:=n1) (c2:=c2) hS je k16;have kH:=Tq.row jF je (by decide) kg;have kI:=Tq.row jV je (by decide) kg;show Ef _ _ _ 1 11 _ _;unfold Ef;refine Dh rfl rfl rfl rfl (Ac e16) (Ac e66) je (by kernel_rfl) ?_;rw [jI];unfold Ef;obtain ⟨sx,jH,jG⟩:=Ah [57,58,59,60,61,62,63,64,65,66,16] (by kernel_rfl) jd jE ja;have f16:sx 16=.pointer (some ⟨g16,0,none⟩):=(jH 16).trans e16;have jm:=A0 jT;have kU:=A0 kH;have yn:=A0 kI;have yy:=A0 jO;have j0:=A0 k16;clear hS je k16 jF jV jT jO jI e66 kg kH kI;rw [jG];simp only [List.foldl];simp only [Act.put,List.setIfInBounds_toArray,List.set_cons_succ,List.set_cons_zero];clear jG jH hv ja jd jE hf;rw [f16];clear f16 e16
      go_wp2_with fail
      go_meet
      exact ⟨_,rfl,g16,a1,c1,a2,c2,rfl,jm.out,kU.out,yn.out,yy.out,j0.out⟩
    case rest
         =>
     obtain ⟨w9,jI,g16,a1,c1,a2,c2,yX,je,jF,jV,jN,kE⟩:=hcut;subst jI yX;have kY:g9<w9.heap.size:=(A5.1 (jg.out.go (Ext.trans kx.out jN)).b9).1;have yN:g9<w7.heap.size:=(A5.1 (jg.out.go kx.out).b9).1;have Y8:=A0 kY;have zb:Hid ((Value.slice a1 (Ws.take k).length c1).ownBlock≠some g9):=fun e=>by have:=jF.ge _ e;omega
     have kn:Hid (g16<w9.heap.size):=(A5.1 je).1;have kp:Hid ((Value.slice a1 (Ws.take k).length c1).ownBlock≠some g16):=fun e=>by
      obtain ⟨cs1,e1⟩:=Av jF e;rw [e1] at je;injection je with je;injection je with _ je;exact absurd je (by decide)
     have jm:=A0 je;have kU:=A0 jF;have yn:=A0 jV;have j2:=A0 jN;have j0:=A0 kE;have Yn:Hid (Ext wz w9):=Ext.trans kx.out jN;clear kY yN je jF jV jN kE jl k3;have zF:RowKit.wrap64 ((k:Int)+1)=(k:Int)+1:=by have:=jn.out;have:=HK.out;unfold RowKit.wrap64;omega
     have kh:IntKind.i64.wrap ((k:Int)+1)=(k:Int)+1:=by have:=jn.out;have:=HK.out;rw [IntWalk.i64_in _ (by omega)]
     go_upto_region 10 with fail
     go_cut [] (fun wx=>∃ wy:World,wy=wx∧∃ (a1:Option Addr) (c1:Nat),wy.heap[g16]? = some (.cells #[.slice a1 (Ws.eraseIdx k).length c1,.slice a2 n1 c2,.slice none 0 0,.int .i64 0] 39 (0,0))∧Aa BG wy w7.heap.size (.slice a1 (Ws.eraseIdx k).length c1) (Ws.eraseIdx k)∧Aa Ay wy w7.heap.size (.slice a2 n1 c2) (List.replicate n1 0)∧Below w7.heap.size w9 wy)
     case first =>
      refine An (by kernel_rfl) (Vs [vq (.pointer (some ⟨g16,0,none⟩)),vq (.slice a1 (Ws.take k).length c1),vq (.pointer (some ⟨g9,0,none⟩)),vq (.slice (some ⟨bw,ow,none⟩) Ws.length cw),vq (.int .i64 (k:Int)),vq (.int .i64 ((k:Int)+1)),vq (.slice (some ⟨bw,oJ,none⟩) (Ws.drop (k+1)).length (cw - (k+1))),Be BG (w9) (w7.heap.size) (.slice a1 (Ws.take k).length c1) (Ws.take k ++ Ws.drop (k+1)),vq (.pointer (some ⟨g16,0,none⟩))]) (Xs [Ext,Ext,Ext,Ext,Ext,Ext,Ext,(fun w w'=>w.grownBy w' (.slice a1 (Ws.take k).length c1:Value).ownBlock),Ext]) (fun fL=>(ApT (w9) (.slice a1 (Ws.take k).length c1)) (fL 7)) [0,1,0,4,0,16,60,127,0] 147 9 (by kernel_rfl) rfl ?hV ?hS ?hop ?hfin ?hlast
      case hV =>
       refine Ax (Ag (by simp only [AT,List.not_mem_nil,or_false,forall_eq_or_imp,forall_eq];exact ⟨AX _,AX _,AX _,AX _,AX _,AX _,AX _,Ba,AX _⟩)) ?_;exact ⟨.inl rfl,.inl rfl,.inl rfl,.inl rfl,.inl rfl,.inl rfl,.inl rfl,.inr (Aw ⟨fun _ _=>fun _ _ _ h _=>h,fun _ _=>fun _ _ _ h _=>h,fun _ _=>fun _ _ _ h _=>h,fun _ _=>fun _ _ _ h _=>h,fun _ _=>fun _ _ _ h _=>h,fun _ _=>fun _ _ _ h _=>h,fun _ _=>fun _ _ _ h _=>h,fun h=>absurd rfl h,fun _ _=>fun _ _ _ h _=>h,trivial⟩),.inl rfl,trivial⟩
      case hS =>
       intro fL hf;show (ApT (w9) (.slice a1 (Ws.take k).length c1)) (fL 7) _;rw [hf 7 (by decide)]
       first | exact Ext.refl _ | exact B4 _
      case hop =>
       refine ⟨?_,?_,?_,?_,?_,?_,?c6,?c7,?_,?_,trivial⟩
       all_goals first | rw [if_neg (by decide)] | rw [if_pos (by decide)]
       all_goals try exact True.intro
       all_goals try intro ac W fL jd ji jU jR jb jc ja jr
       all_goals try have hS:(ApT (w9) (.slice a1 (Ws.take k).length c1)) (fL 7) W:=jb
       all_goals try (have j5:fL 7=true:=jU 7 (by decide);rw [j5] at hS)
       all_goals try (have j5:fL 7=false:=(by first | exact ji | exact jR 7 (by decide) (by decide));rw [j5] at hS)
       all_goals try (
        obtain ⟨t0,t1,t2,t3⟩:=Ap ((ApT.old jb g9 Y8.out zb.out).trans (jg.out.go Yn.out).b9);obtain ⟨x0,x1,x2,x3⟩:=Ap ((ApT.old jb g16 kn.out kp.out).trans jm.out))
       all_goals try have YG:=gdA ac 9 (.pointer (some ⟨g9,0,none⟩)) (ja 9 (by kernel_rfl))
       all_goals try have yK:=gdA ac 15 (.int .i64 (k:Int)) (ja 15 (by kernel_rfl))
       all_goals try have hh16:=gdA ac 16 (.pointer (some ⟨g16,0,none⟩)) (ja 16 (by kernel_rfl))
       all_goals try (have d68:ac.tmps.getD 68 undef=.slice a1 (Ws.take k).length c1:=jc 1 (by decide);have dd68:=d68;rw [A4] at dd68)
       all_goals try (have d73:ac.tmps.getD 73 undef=.slice (some ⟨bw,oJ,none⟩) (Ws.drop (k+1)).length (cw - (k+1)):=jc 6 (by decide);have dd73:=d73;rw [A4] at dd73)
       all_goals try (have jc:=Ce jc;simp [CT,AZ,vq] at jc)
       all_goals try clear ja jU jR jr
       case c6 =>
        have Yw:(ApT (w9) (.slice a1 (Ws.take k).length c1)) ((upd fL 6) 7) W:=jb;have kM:=zh.out W;refine AY rfl (.inl ⟨_,W,?_,rfl,Ext.refl _,(show (ApT (w9) (.slice a1 (Ws.take k).length c1)) ((upd fL 6) 7) _ by
         rw [show upd fL 6 7=fL 7 from if_neg (by decide)];exact Yw)⟩)
        clear jd hS jb Yw ji t0 t1 t2 t3 x0 x1 x2 x3;simp [go_sem,Act.eval, *]
       case c7 =>
        refine AY rfl ((B3 C8 (.tmp 68) (.tmp 73) rfl (Ac d68) ((kU.out).later hS (A3 _)) ⟨bw,oJ,none⟩ (cw - (k+1)) (Ws.drop (k+1)) (Ac d73) (Jo ((yu.out W (Ext.trans Yn.out hS)).drop1 zd.out)) (by rw [ys.out,Ye.out];have:=HK.out;have:=jn.out;omega) (A8 (Below.size j2.out) (Below.size hS))).mono ?_);rintro va w' ⟨ho,YD,zx⟩;have kA:=Be.mades hS ho YD zx;refine ⟨kA,YD,?_⟩;show ApT (w9) (.slice a1 (Ws.take k).length c1) (upd fL 7 7) w';rw [show upd fL 7 7=true from if_pos rfl];exact kA.old
       all_goals (refine AY rfl (.inl ⟨_,W,?_,rfl,Ext.refl _,jb⟩);clear jd hS jb ji;simp [go_sem,Act.eval, *];done)
      case hfin =>
       intro h;exact absurd h (by decide)
      case hlast =>
       intro _ ac W jd jE fL hf jb hv ja;have hS:(ApT (w9) (.slice a1 (Ws.take k).length c1)) (fL 7) W:=jb;clear jb;rw [hf 7 (by decide)] at hS;have YP:ac.tmps.getD 75 undef=.pointer (some ⟨g16,0,none⟩):=hv 8 (by decide);have jC:Be BG (w9) (w7.heap.size) (.slice a1 (Ws.take k).length c1) (Ws.take k ++ Ws.drop (k+1)) (ac.tmps.getD 74 undef) W:=hv 7 (by decide);obtain ⟨ya,yc,Yc, -, -⟩:=jC.own.form;rw [Yc] at jC;have j4:=(jC.block g16 kn.out kp.out).trans jm.out;refine BL rfl rfl rfl rfl (Ac YP) (Ac Yc) (by simp [World.frozen?,j4]) (by rw [cell_of_row W _ _ _ _ (0,0) j4];rfl) (by kernel_rfl) ?_;clear j4;obtain ⟨wz,ki⟩:∃ wz,W.setCell ⟨g16,0,none⟩ (.slice ya (Ws.take k ++ Ws.drop (k+1)).length yc)=wz:=⟨_,rfl⟩
       rw [ki];have YV:=A0 jC;have zm:=A0 ki;clear hS jC YP ki;obtain ⟨sx,jH,jG⟩:=Ah [67,68,69,70,71,72,73,74,75] (by kernel_rfl) jd jE ja;clear Yc;rw [jG];simp only [List.foldl];simp only [Act.put,List.setIfInBounds_toArray,List.set_cons_succ,List.set_cons_zero];clear jG jH hv ja jd jE hf;obtain ⟨w1,jl,jL,jF,jV,jX⟩:=Re YV.out kU.out yn.out jm.out (Below.size j2.out);rw [zm.out] at jl;subst jl;rw [Y3.out] at jL jF;have Y7:=A0 jL;have yp:=A0 jF;have zf:=A0 jV;have zo:=A0 (jX j0.out);clear jL jF jV jX
       go_wp2_with fail
       go_meet
       exact ⟨_,rfl,ya,yc,Y7.out,yp.out,zf.out,zo.out⟩
     case rest
          =>
      clear zF kh;obtain ⟨w10,jI,a3,c3,j6,yR,YL,kO⟩:=hcut;subst jI;obtain ⟨X,hX⟩:∃ X,Ws.eraseIdx k=X:=⟨_,rfl⟩
      have Yo:Hid (n1=X.length):=by show _=_;rw [← hX,List.length_eraseIdx,if_pos HK.out];exact ym.out.symm
      have Y0:Hid (Bz X):=by show Bz X;rw [← hX];exact Of yk.out.dict jn.out.1 k HK.out
      have za:Hid (DD S.rules S.acc L (X.map bts)=Bl k E):=by show _=_;rw [← hX,QR HK.out,Yg.out]
      rw [hX] at j6 yR;clear hX;have ju:Hid (Ext w7 w10):=Below.trans j2.out kO;have jo:Hid (Ext wz w10):=Ext.trans kx.out ju.out;have kw:Hid (Ext w4 w10):=Ext.trans yw.out ju.out;have jm:=A0 (Al j6);have yp:=A0 yR;have yq:=A0 YL;clear j6 yR YL kO;obtain ⟨s0,s1,s2⟩:=BM (jg.out.go jo.out).b8;obtain ⟨t0,t1,t2,t3⟩:=Ap (jg.out.go jo.out).b9;obtain ⟨y0,y1,y2,y3⟩:=Ap (jZ.out w10 ju.out)
      go_wp2_with fail
      clear s0 s1 s2 t0 t1 t2 t3 y0 y1 y2 y3;refine (Li (jg.out.go jo.out) kr.out kT.out jJ.out (yu.out w10 jo.out) jg.out.mod.wc yk.out.dict (j1.out.later ju.out (A3 _)) rfl jK.out (HT.out.go (Ext.trans ky.out jo.out)) (yr.out.go jo.out) kV.out ko.out).mono ?_;rw [Yg.out];rintro e w11 ⟨v6,rfl,yZ,kP⟩;obtain ⟨a6,c6,y6, -, -⟩:=yZ.form;subst y6;have kj:=A0 (Aa.edgs yZ).1;have ks:=A0 kP;clear yZ kP
      go_upto_region 12 with fail
      obtain ⟨w12,jl⟩:∃ w12,w11.alloc (.cells #[.int .i64 (L.length:Int),.slice a6 (E).length c6] 45)=w12:=⟨_,rfl⟩
      rw [jl];have jX:Ext w11 w12:=by rw [← jl];exact (Below.refl _ _).alloc (A3 _) _
      have b1:w12.heap[w11.heap.size]? = some (.cells #[.int .i64 (L.length:Int),.slice a6 (E).length c6] 45 (0,0)):=by rw [← jl];exact heap_alloc_new _ _
      obtain ⟨g17,jL⟩:∃ g17,w11.heap.size=g17:=⟨_,rfl⟩
      rw [jL] at b1 ⊢;have yb:=A0 (Al b1);have j3:=A0 jX;clear jl jX b1 jL;have Y1:=A0 (kj.out.go j3.out);have jh:Hid (Ext w10 w12):=Ext.trans ks.out j3.out;have jA:Hid (Ext wz w12):=Ext.trans jo.out jh.out;clear j3 ks kj;obtain ⟨s0,s1,s2⟩:=BM (jg.out.go jA.out).b8;obtain ⟨t0,t1,t2,t3⟩:=Ap (jg.out.go jA.out).b9;obtain ⟨y0,y1,y2,y3⟩:=Ap (jm.out w12 jh.out)
      go_wp2_with fail
      clear s0 s1 s2 t0 t1 t2 t3 y0 y1 y2 y3;have kq:=A0 (yp.out.later jh.out (A3 _));refine (Li (jg.out.go jA.out) kr.out kT.out jJ.out kq.out.strs.1 kq.out.strs.2.2 Y0.out ((yq.out.later jh.out (A3 _)).mono (Nat.zero_le _)) Yo.out (by rw [← Yo.out];have:=ym.out;have:=jn.out;omega) (HT.out.go (Ext.trans ky.out jA.out)) (yr.out.go jA.out) kV.out ko.out).mono ?_;rw [za.out];rintro e w13 ⟨v7,rfl,y4,kQ⟩;obtain ⟨a7,c7,y7, -, -⟩:=y4.form;subst y7;have kk:=A0 (Aa.edgs y4).1;have kt:=A0 kQ;clear y4 kQ
      go_upto_region 13 with fail
      obtain ⟨w14,jl⟩:∃ w14,w13.alloc (.cells #[.int .i64 (L.length:Int),.slice a7 (Bl k E).length c7] 45)=w14:=⟨_,rfl⟩
      rw [jl];have jX:Ext w13 w14:=by rw [← jl];exact (Below.refl _ _).alloc (A3 _) _
      have b1:w14.heap[w13.heap.size]? = some (.cells #[.int .i64 (L.length:Int),.slice a7 (Bl k E).length c7] 45 (0,0)):=by rw [← jl];exact heap_alloc_new _ _
      obtain ⟨g19,jL⟩:∃ g19,w13.heap.size=g19:=⟨_,rfl⟩
      rw [jL] at b1 ⊢;have yd:=A0 (Al b1);have j3:=A0 jX;clear jl jX b1 jL;have Y2:=A0 (kk.out.go j3.out);have jp:Hid (Ext w12 w14):=Ext.trans kt.out j3.out;have jB:Hid (Ext w4 w14):=Ext.trans (Ext.trans kw.out jh.out) jp.out;clear j3 kt kk;obtain ⟨q0,q1⟩:=B2 (jY.out w14 jB.out);obtain ⟨r0,r1⟩:=B2 (yb.out w14 jp.out);have yG:¬ (400:Int)<(E.length:Int):=by have:=kl.out;omega
      have yh:Hid (E.length≤9223372036854775807):=by show _≤_;have:=kl.out;omega
      go_wp2_with fail
      clear q0 q1 r0 r1;refine (esame_any E E (L.length:Int) (L.length:Int) a5 a6 c5 c6 w14 (Yf.out.go jB.out) (Y1.out.go jp.out) yh.out yh.out).mono ?_;rw [show decide (((L.length:Nat):Int)=((L.length:Nat):Int)∧E=E)=true from decide_eq_true ⟨rfl,rfl⟩];rintro e w15 ⟨rfl,ke⟩;have ku:Hid (Ext w14 w15):=ke;have jt:Hid (Ext w4 w15):=Ext.trans jB.out ke;clear ke;obtain ⟨q0,q1⟩:=B2 (jY.out w15 jt.out)
      go_upto_region 16 with fail
      clear q0 q1 yG;obtain ⟨w0,kN⟩:∃ w0,w15.alloc (.cells #[.int .i64 (L.length:Int),.slice none 0 0] 45)=w0:=⟨_,rfl⟩
      rw [kN];have YS:Ext w15 w0:=by rw [← kN];exact (Below.refl _ _).alloc (A3 _) _
      have yC:w0.heap[w15.heap.size]? = some (.cells #[.int .i64 (L.length:Int),.slice none 0 0] 45 (0,0)):=by rw [← kN];exact heap_alloc_new _ _
      have Yd:w0.heap.size=w15.heap.size+1:=by rw [← kN];exact A6 _ _
      obtain ⟨g21,j7⟩:∃ g21,w15.heap.size=g21:=⟨_,rfl⟩
      rw [j7] at yC Yd ⊢;have Y5:=A0 yC;have zn:=A0 YS;have HZ:=A0 Yd;have Y6:=A0 j7;clear kN YS yC Yd j7
      go_wp2_with fail
      go_loopg [22,23] E.length (fun g v22 v23 wr=>∃ (i:Nat) (a3:Option Addr) (c3:Nat),v22=.int .i64 (i:Int)∧i≤E.length∧g=E.length - i∧wr.heap[g21]? = some (.cells #[.int .i64 (L.length:Int),.slice a3 (Bl k (E.take i)).length c3] 45 (0,0))∧Aa BA wr w0.heap.size (.slice a3 (Bl k (E.take i)).length c3) (Bl k (E.take i))∧Tq g21 w0 wr)
      case atStart=>exact ⟨0,none,0,rfl,Nat.zero_le _,rfl,Y5.out,Aa.nil _ _ _,Tq.of (Ext.refl _)⟩
      case round =>
       obtain ⟨i,a3,c3,rfl,hk,YC,j8,yS,ht⟩:=hrel;have zy:(Bl k (E.take i)).length≤E.length:=A8 QP (by rw [AK];omega);have Yh:Hid (i=E.length→Bl k (E.take i)=Bl k E):=fun e=>by rw [e,List.take_length]
       have km:Hid (∀ (h:i<E.length) (e1 e2 e3 e4:Int),E[i]=(e1,e2,e3,e4)→Bl k (E.take (i+1))=Bl k (E.take i) ++ (if e3=(k:Int) then [] else [(e1,e2,if e3 > (k:Int) then e3 - 1 else e3,e4)])):=fun h e1 e2 e3 e4 he=>Oe h he;obtain ⟨F,hF⟩:∃ F,Bl k (E.take i)=F:=⟨_,rfl⟩
       rw [hF] at j8 yS zy Yh km;have jv:=A0 yS;have Yl:=A0 ht;have yj:=A0 YC;have HGB:=A0 j8;have Yb:Ext w15 wr:=Below.trans zn.out (Below.mono (ht.below (A3 _) (by have:=HZ.out;omega)) (by have:=Y6.out;omega));have kW:=A0 Yb;obtain ⟨b0,b1⟩:=B2 (jY.out wr (Ext.trans jt.out Yb));clear yS ht YC hF Yb;by_cases kG:i<E.length
       ·have hltI:(i:Int)<(E.length:Int):=by omega
        obtain ⟨bb,o1,ha,hb1,x0,x1,x2,x3⟩:=(Yf.out.go (Ext.trans jt.out kW.out)) i kG;have yL:=Ds a5 bb o1 E.length c5 i ha kG;have k0:=(ze.out.2.2.2 i kG kG).1;obtain ⟨⟨e1,e2,e3,e4⟩,hx⟩:∃ x,E[i]=x:=⟨_,rfl⟩
        have yi:=A0 (km.out kG e1 e2 e3 e4 hx);rw [hx] at x0 x1 x2 x3 k0;unfold DI at k0;simp only at x0 x1 x2 x3 k0;obtain ⟨-, -, -,k4,k5, -, -⟩:=k0;have s1:IntKind.i64.wrap (e3 - 1)=e3 - 1:=IntWalk.i64_in _ (by omega);have s3:RowKit.wrap64 (e3 - 1)=e3 - 1:=by unfold RowKit.wrap64;omega
        clear hx ha
        go_upto_region 20 with fail
        obtain ⟨wq,k6⟩:∃ wq,wr.alloc (.cells #[.int .i64 e1,.int .i64 e2,.int .i64 e3,.int .i64 e4] 62)=wq:=⟨_,rfl⟩
        rw [k6];have k7:Ext wr wq:=by rw [← k6];exact (Below.refl _ _).alloc (A3 _) _
        have kB:wq.heap[wr.heap.size]? = some (.cells #[.int .i64 e1,.int .i64 e2,.int .i64 e3,.int .i64 e4] 62 (0,0)):=by rw [← k6];exact heap_alloc_new _ _
        have zH:w0.heap.size≤wr.heap.size:=Yl.out.size;have jw:Hid (Tq g21 w0 wq):=Yl.out.trans (Tq.of k7);have Jx:=jv.out;have jv:=A0 (jv.out.later k7 (A3 _));have jM:=(Below.block k7 _ (A5.1 j8).1).trans j8;have jQ:=A0 jM;have Yk:Hid ((Value.slice a3 F.length c3).ownBlock≠some wr.heap.size):=fun e=>by have:=Jx.lt _ e;omega
        have Yj:Hid ((Value.slice a3 F.length c3).ownBlock≠some g21):=fun e=>by have:=Jx.ge _ e;have:=HZ.out;omega
        obtain ⟨ge,YB⟩:∃ ge,wr.heap.size=ge:=⟨_,rfl⟩
        rw [YB] at kB Yk zH ⊢;have YW:=A0 kB;clear b0 b1 x0 x1 x2 x3 yL YB Jx;obtain ⟨u0,u1,u2,u3⟩:=Ap kB;have uf:∀ i,wq.frozen? ⟨ge,i,none⟩=false:=fun i=>by simp [World.frozen?,kB]
        clear k6 k7 kB j8;by_cases c1:e3=(k:Int)
        ·have jP:Hid (Bl k (E.take (i+1))=F):=by show _=_;rw [yi.out,if_pos c1,List.append_nil]
         clear jM
         go_wp2_with fail
         go_roundg (E.length - (i+1))
         case measure=>have:=yj.out;omega
         case rel=>exact ⟨i+1,a3,c3,by go_num,by omega,rfl,by rw [jP.out];exact jQ.out,by rw [jP.out];exact jv.out,jw.out⟩
        ·by_cases c2:(k:Int)<e3
         ·have jP:Hid (Bl k (E.take (i+1))=F ++ [(e1,e2,e3 - 1,e4)]):=by show _=_;rw [yi.out,if_neg c1,if_pos c2]
          clear jM
          go_upto_region 23 with fail
          obtain ⟨ws,kd⟩:∃ ws,wq.setCell ⟨ge,2,none⟩ (.int .i64 (e3 - 1))=ws:=⟨_,rfl⟩
          rw [kd];have Yy:ws.heap[ge]? = some (.cells #[.int .i64 e1,.int .i64 e2,.int .i64 (e3 - 1),.int .i64 e4] 62 (0,0)):=by rw [← kd];exact Ai YW.out rfl
          have jW:Tq ge wq ws:=by rw [← kd];exact Tq.set _ _ _ _
          have jw:Hid (Tq g21 w0 ws):=⟨jW.os.trans jw.out.os,jW.tape.trans jw.out.tape,jW.output.trans jw.out.output,A8 jw.out.size jW.size,fun q hq zB=>(jW.block q (A7 hq jw.out.size) (fun e=>by injection e with e;omega)).trans (jw.out.block q hq zB)⟩
          have jv:Hid (Aa BA ws w0.heap.size (.slice a3 F.length c3) F):=jv.out.keep fun q hq=>jW.block q (jv.out.lt q hq) fun e=>Yk.out (hq.trans e);have jM:=jW.at (q:=g21) (by have:=HZ.out;omega) jQ.out;have jQ:=A0 jM;clear u0 u1 u2 u3 uf s1 s3 c1 c2;obtain ⟨m0,m1⟩:=B2 jM;obtain ⟨u0,u1,u2,u3⟩:=Ap Yy;clear kd Yy jW jM
          go_wp2_with (at_builtin;go_loud (refine Ae (v:=.slice a3 F.length c3) C9 rfl _ _ rfl rfl (jv.out.later ((Below.refl _ _).alloc (A3 _) _) (A3 _)) ⟨ws.heap.size,0,none⟩ 1 [(e1,e2,e3 - 1,e4)] rfl (Af (heap_alloc_new _ _)) (by simp only [AC];omega) (by have:=jw.out.size;simp only [A6];omega) ?_);intro v59 w59 jj jf jD;have jz:=A0 jj;have jy:=A0 jf;clear jj jf jD;obtain ⟨m0,m1,mf⟩:=Q5 (jy.out) (jQ.out) (Yj.out);obtain ⟨a59,c59,kc, -, -⟩:=jz.out.form;subst kc)
          obtain ⟨j9,jx,kb⟩:=SU jQ.out jv.out jz.out jy.out jw.out (by have:=HZ.out;omega);simp only [AB,AC] at j9 jx kb;have yl:=A0 j9;have j1:=A0 jx;have yt:=A0 kb;clear j9 jx kb
          go_roundg (E.length - (i+1))
          case measure=>have:=yj.out;omega
          case rel=>exact ⟨i+1,a59,c59,by go_num,by omega,rfl,by rw [jP.out,AB,AC];exact yl.out,by rw [jP.out,AB,AC];exact j1.out,yt.out⟩
         ·have jP:Hid (Bl k (E.take (i+1))=F ++ [(e1,e2,e3,e4)]):=by show _=_;rw [yi.out,if_neg c1,if_neg c2]
          go_upto_region 23 with fail
          clear uf s1 s3 c1 c2;obtain ⟨m0,m1⟩:=B2 jM;obtain ⟨ws,kd⟩:∃ ws:World,ws=wq:=⟨wq,rfl⟩
          rw [← kd] at jv jQ jw m0 m1 u0 u1 u2 u3 ⊢;clear kd jM
          go_wp2_with (at_builtin;go_loud (refine Ae (v:=.slice a3 F.length c3) C9 rfl _ _ rfl rfl (jv.out.later ((Below.refl _ _).alloc (A3 _) _) (A3 _)) ⟨ws.heap.size,0,none⟩ 1 [(e1,e2,e3,e4)] rfl (Af (heap_alloc_new _ _)) (by simp only [AC];omega) (by have:=jw.out.size;simp only [A6];omega) ?_);intro v59 w59 jj jf jD;have jz:=A0 jj;have jy:=A0 jf;clear jj jf jD;obtain ⟨m0,m1,mf⟩:=Q5 (jy.out) (jQ.out) (Yj.out);obtain ⟨a59,c59,kc, -, -⟩:=jz.out.form;subst kc)
          obtain ⟨j9,jx,kb⟩:=SU jQ.out jv.out jz.out jy.out jw.out (by have:=HZ.out;omega);simp only [AB,AC] at j9 jx kb;have yl:=A0 j9;have j1:=A0 jx;have yt:=A0 kb;clear j9 jx kb
          go_roundg (E.length - (i+1))
          case measure=>have:=yj.out;omega
          case rel=>exact ⟨i+1,a59,c59,by go_num,by omega,rfl,by rw [jP.out,AB,AC];exact yl.out,by rw [jP.out,AB,AC];exact j1.out,yt.out⟩
       ·obtain rfl:i=E.length:=by omega
        have yA:Bl k E=F:=(Yh.out rfl).symm;have Y4:=A0 yA;have hnlt:¬ (E.length:Int)<(E.length:Int):=by omega
        obtain ⟨m0,m1⟩:=B2 j8;obtain ⟨r0,r1⟩:=B2 (yd.out wr (Ext.trans ku.out kW.out));rw [yA] at r1;clear j8 yA
        go_wp2_with fail
        clear m0 m1 r0 r1 b0 b1;have Yi:Hid (F.length≤9223372036854775807):=by show _≤_;have:=yh.out;omega
        refine (esame_any F F (L.length:Int) (L.length:Int) a7 a3 c7 c3 wr (by rw [← Y4.out];exact Y2.out.go (Ext.trans ku.out kW.out)) (Aa.edgs jv.out).1 Yi.out Yi.out).mono ?_;rw [show decide (((L.length:Nat):Int)=((L.length:Nat):Int)∧F=F)=true from decide_eq_true ⟨rfl,rfl⟩];rintro e w20 ⟨rfl,kR⟩;have yv:Hid (Ext wr w20):=kR;clear kR
        go_wp2_with fail
        go_ret;exact ⟨rfl,Ext.trans ky.out (Ext.trans kv.out (Ext.trans jt.out (Ext.trans kW.out yv.out)))⟩
  ·have kr:=A0 k2;clear k2
   go_wp2_with fail
   clear s0 s1 s2 t0 t1 t2 t3;refine (Od jg.out kr.out kT.out kY jJ.out).mono ?_;rintro e w5 ⟨rfl,kS⟩;have yx:Hid (Ext wz w5):=kS;clear kS
   go_wp2_with fail
   go_ret;exact ⟨rfl,Ext.trans ky.out (Ext.trans yx.out ((Below.refl _ _).alloc (A3 _) _))⟩
end Go.Proofs.YtpljngaejaehcaaGreatDoor
