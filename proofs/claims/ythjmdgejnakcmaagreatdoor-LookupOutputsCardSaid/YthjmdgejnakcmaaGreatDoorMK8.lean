/- Texts that the claims share: O7, O8. -/
import Derived.Laws.EntriesVeiled
import Derived.Test.YthjmdgejnakcmaaGreatDoorMK7
import Derived.Test.YthjmdgejnakcmaaGreatDoorMK5
set_option maxHeartbeats 6400000
set_option maxRecDepth 100000
set_option linter.unusedVariables false
set_option linter.unusedSimpArgs false
namespace Go.Proofs.YthjmdgejnakcmaaGreatDoor
open Go.RowKit Go.WideShapes Go.Maps Go.WideMaps Fl
def UW (R:List Rl) (L:List Slt) (X:List UInt8) (w:World) (e:Ending) (w':World):Prop :=
 ∃ (M:Nat→Ent) (v:Option Nat),e=.returned (.tuple #[.map v,.bool true])∧(∀ q,v=some q→MpG CB w' q (M L.length))∧(v=none→M L.length=[])∧Inv R L (C1 X) L.length M∧(∀ t,Shut R L (C1 X) L.length M t)∧Cs (M L.length)∧Lh (X.length+1) (M L.length)∧Ext w w'
theorem Qh (w1:World):∃ w2 w3,(Instr.mapUpdate 91 (.map (some (w1.heap.size+1))) (.agg #[.int .i64 0,.int .i64 0]) (.int .i64 0)).run Tryz.prog ((w1.alloc (.map #[] 0)).alloc (.map #[] 0))=.ok () w2 ∧
  (Instr.mapUpdate 148 (.map (some w1.heap.size)) (.int .i64 0) (.map (some (w1.heap.size+1)))).run Tryz.prog w2=.ok () w3∧E9 w1 w1.heap.size 0 [(0,w1.heap.size+1)] M0 w3:=by
 have jc:=MpG.new CB (w1.alloc (.map #[] 0));rw [AA] at jc;obtain ⟨w2,h1,h2,h3⟩:=jc.run_put Bx (x:=(0,0)) ⟨by decide,by decide⟩ (c:=0) (by omega) (by simp);have jb:Tn (w1.heap.size+1) _ w2:=h3;have jd:=OmG.new w1;have je:OmG ((w1.alloc (.map #[] 0)).alloc (.map #[] 0)) w1.heap.size []:=jd.kept (Below.block ((Below.refl _ _).alloc (A7 _) _) _ jd.lt);have jf:OmG w2 w1.heap.size []:=je.kept (jb.block _ je.lt fun e=>by injection e with e;omega);obtain ⟨w3,h4,h5,h6⟩:=jf.run_put (k:=0) (by decide) (w1.heap.size+1) (by simp);have ja:∀ j q,look [(0,w1.heap.size+1)] j=some q→j=0∧q=w1.heap.size+1:=fun j q h=>by
  rw [Ba] at h;split at h
  · rename_i e;cases h;exact ⟨e.symm,rfl⟩
  · cases h
 have hz2:w1.heap.size+2≤w2.heap.size:=by have:=jb.size;simp only [AA] at this;omega
 have hz3:=h6.size;refine ⟨w2,w3,h1,h4,h5,fun j _ q hq=>?_,fun j _ hn=>?_,fun j j' q h h'=>?_,A7 _,fun j q hq=>?_,?_⟩
 ·obtain ⟨rfl,rfl⟩:=ja j q hq;exact h2.kept (h6.block _ h2.lt fun e=>by injection e with e;omega)
 ·rw [Ba] at hn;split at hn
  · cases hn
  · rename_i e;exact if_neg (fun e2=>e e2.symm)
 · rw [(ja j q h).1,(ja j' q h').1]
 ·obtain ⟨rfl,rfl⟩:=ja j q hq;exact ⟨by omega,by omega,by omega⟩
 ·have b1:Below w1.heap.size w1 ((w1.alloc (.map #[] 0)).alloc (.map #[] 0)):=((Below.refl _ _).alloc (A7 _) _).alloc (by simp) _;exact (b1.trans (jb.below (by omega) (by simp only [AA];omega))).trans (h6.below (A7 _) (by omega))
theorem RgG.iter {α:Type} [DecidableEq α] {T:El α} {w:World} {g r:Nat} {E rest:List (α × Nat)} (h:RgG T w g r E rest):∃ p s n c,w.heap[r]? = some (.mapIter p s n c):=by
 obtain ⟨D,left,cnt,⟨es,clock,since,seen,c0,_,_,_,_,h1,_⟩,_⟩:=h;exact ⟨_,_,_,_,h1⟩
theorem MpG.ne_iter {α:Type} [DecidableEq α] {T:El α} {w:World} {g r:Nat} {E:List (α × Nat)} (h:MpG T w g E) (hr:∃ p s n c,w.heap[r]? = some (.mapIter p s n c)):g≠r:=fun e=>by
 obtain ⟨es,c,h1⟩:=h.obj;obtain ⟨_,_,_,_,h2⟩:=hr;rw [e,h2] at h1;cases h1
theorem E9.iter {w0 w w':World} {gP i r:Nat} {O:List (Nat × Nat)} {M:Nat→Ent} (h:E9 w0 gP i O M w) (hr:∃ p s n c,w.heap[r]? = some (.mapIter p s n c)) (h0:w0.heap.size≤r) (ht:Tn r w w'):E9 w0 gP i O M w' where
 om:=h.om.kept (ht.block _ h.om.lt fun e=>by
  injection e with e;obtain ⟨es,c,h1⟩:=h.om.obj;obtain ⟨_,_,_,_,h2⟩:=hr;rw [e,h2] at h1;cases h1)
 at_ j hj q hq:=by
  have h1:=h.at_ j hj q hq;exact h1.kept (ht.block _ h1.lt fun e=>h1.ne_iter hr (by injection e))
 no:=h.no
 inj:=h.inj
 gp:=h.gp
 ge j q hq:=⟨(h.ge j q hq).1,(h.ge j q hq).2.1,AB (h.ge j q hq).2.2 ht.size⟩
 bl:=h.bl.trans (ht.below h0 h.bl.size)
theorem map_nil (w:World):(Go.binOp .eql 91 (.map none) (.map none)).run Tryz.prog w=.ok (.bool true) w:=by kernel_rfl
theorem map_some (q:Nat) (w:World):(Go.binOp .eql 91 (.map (some q)) (.map none)).run Tryz.prog w=.ok (.bool false) w:=by kernel_rfl
theorem Sh {P r:List UInt8} {i n:Nat} (h:C1 P i r=some n):letsC ((CD P).drop i) r=some 0:=by
 rw [KO];unfold C1 at h;split at h
 · rename_i e;rw [if_pos e]
 · cases h
theorem Si {R:List Rl} {P X:List UInt8} {i m n n9:Nat} {r:Rl} (hr:r∈R) (hF:CC r=true) (hm:r.frm=(m:Int)) (hi:C1 P i (bts r.inp)=some n9) {n':Nat} (hn:C1 X n (bts r.out)=some n'):D3 R (CD P) (C1 X) i (m,n) r (r.dst.toNat,n') r.cost.toNat :=
 ⟨hr,hF,hm,0,n',Sh hi,hn,rfl,rfl⟩
theorem OmG.len_le {w:World} {g n:Nat} {O:List (Nat × Nat)} (h:OmG w g O) (hb:∀ p∈O,p.1≤n):O.length≤n+1:=by
 obtain ⟨D,_,hd⟩:=h;have h2:=nodup_bound (n+1) _ ((EO _).1 hd.keys) fun z hz=>by
  obtain ⟨p,hp,rfl⟩:=AP.1 hz;exact Nat.lt_succ_of_le (hb p hp)
 rwa [AW] at h2
theorem run_any
        (S:Sch)
             (b:Option Addr) (cR go mo C:Nat) (o inS:ByteArray) (w:World) (hR:BL w b S.rules) (y1:S.rules.length≤1000) (hF:Io S.rules) (hO:∀ r∈S.rules,r.out.size≤1000)
  (y4:w.cell? ⟨go,0,none⟩=some (.string o)) (kP:go<w.heap.size) (ho:o.size≤1000) (y8:mo=(o.size+1)*8) (hin:inS.size≤40)
  (kp:∀ i,i≤inS.size→8*(o.size+1)*(i*((8*(o.size+1)+1)*1000)+(8*(o.size+1)+1)*1000+2)≤900000000000) :
  Calls Tryz.prog 44 #[.agg #[.int .i64 S.modes,.int .u8 S.acc,.slice b S.rules.length cR,.func (.func 41) #[] #[],.func (.func 42) #[] #[.pointer (some ⟨go,0,none⟩)],.int .i64 (mo:Int)],.agg #[.int .i64 0,.int .i64 0],.string inS] w fun e w'=>UW S.rules (CD (bts inS)) (bts o) w e w':=by
 have HR:=A6 hR;have HF:=A6 hF;have HO:=A6 hO;have yu:=A6 y4;have yt:=A6 kp;have kM:=A6 y8;clear hR hF hO y4 kp y8;have y7:=@run_makeMap Tryz.prog
 go_enter Tryz.func44,Tryz.ntmps44
 go_upto_region 1 with fail
 obtain ⟨w1,yk⟩:∃ w1,(w.alloc (.cells #[.int .i64 S.modes,.int .u8 S.acc,.slice b S.rules.length cR,.func (.func 41) #[] #[],.func (.func 42) #[] #[.pointer (some ⟨go,0,none⟩)],.int .i64 (mo:Int)] 90)).alloc (.cells #[.int .i64 0,.int .i64 0] 85)=w1:=⟨_,rfl⟩
 rw [yk];have Yk:Ext w w1:=by rw [← yk];exact Ext.trans ((Below.refl _ _).alloc (A7 _) _) ((Below.refl _ _).alloc (A7 _) _)
 have k6:=A6 Yk;have yB:w1.heap[w.heap.size]? = some (.cells #[.int .i64 S.modes,.int .u8 S.acc,.slice b S.rules.length cR,.func (.func 41) #[] #[],.func (.func 42) #[] #[.pointer (some ⟨go,0,none⟩)],.int .i64 (mo:Int)] 90 (0,0)):=by
  rw [← yk];exact (Below.block ((Below.refl _ _).alloc (A7 _) _) _ (by simp)).trans (heap_alloc_new _ _)
 have yy:w1.heap[w.heap.size+1]? = some (.cells #[.int .i64 0,.int .i64 0] 85 (0,0)):=by
  have h:=heap_alloc_new (w.alloc (.cells #[.int .i64 S.modes,.int .u8 S.acc,.slice b S.rules.length cR,.func (.func 41) #[] #[],.func (.func 42) #[] #[.pointer (some ⟨go,0,none⟩)],.int .i64 (mo:Int)] 90)) (.cells #[.int .i64 0,.int .i64 0] 85);rw [AA] at h;rw [← yk];exact h
 have j7:Hid (∀ W,Ext w1 W→W.heap[w.heap.size]? = some (.cells #[.int .i64 S.modes,.int .u8 S.acc,.slice b S.rules.length cR,.func (.func 41) #[] #[],.func (.func 42) #[] #[.pointer (some ⟨go,0,none⟩)],.int .i64 (mo:Int)] 90 (0,0))):=fun W hx=>(Below.block hx _ (A9.1 yB).1).trans yB;obtain ⟨x0,x1⟩:=B3 yy;have YH:w.heap.size+1<w1.heap.size:=(A9.1 yy).1;obtain ⟨w2,w3,hr1,hr2,j3⟩:=Qh w1;have jj:=A6 j3;obtain ⟨gw,YC⟩:∃ gw,w.heap.size=gw:=⟨_,rfl⟩
 rw [YC] at j7 x0 x1 YH ⊢;clear yk Yk yB yy j3
 go_wp2_with fail
 have yX:Hid (Inv S.rules (CD (bts inS)) (C1 (bts o)) 0 M0):=Un _ _ _;have yU:Hid (Bnd (o.size+1) 0 (0*((8*(o.size+1)+1)*1000)) 1000 M0):=by show Bnd _ _ _ _ _;rw [Nat.zero_mul];exact Uo (Nat.succ_pos _)
 go_loopg [26] inS.size (fun g v26 wr=>∃ (a:Nat) (O:List (Nat × Nat)) (M:Nat→Ent),v26=.int .i64 (a:Int)∧a≤inS.size∧g=inS.size - a∧E9 w1 w1.heap.size a O M wr∧Inv S.rules (CD (bts inS)) (C1 (bts o)) a M∧Bnd (o.size+1) a (a*((8*(o.size+1)+1)*1000)) 1000 M∧∀ p∈O,p.1≤inS.size)
 case atStart=>exact ⟨0,_,M0,rfl,Nat.zero_le _,rfl,jj.out,yX.out,yU.out,fun p hp=>by rw [AJ.1 hp];exact Nat.zero_le _⟩
 case round =>
  clear yX yU jj;obtain ⟨a,O,M,rfl,ha,ye,j3,yh,Ku,ks⟩:=hrel;have jj:=A6 j3;have jS:=A6 yh;have jN:=A6 Ku;have jz:=A6 ks;have kS:=A6 ye;clear j3 yh Ku ks ye;obtain ⟨k0,k1,k2,k3,k4,k5⟩:=Bm (j7.out wr jj.out.bl);have yw:=A6 (show Ext w1 wr from jj.out.bl);by_cases y3:a<inS.size
  ·have kQ :=
         jj.out.om.look (k:=a) (by omega)
   rcases ju:look O a with _ | q
   ·rw [ju] at kQ;have jk:=A6 ju;clear ju
    go_wp2_with fail
    refine (KR S b cR go mo wr).mono ?_;rintro e w6 ⟨rfl,yS⟩;have j4:=jj.out.ext yS;have kH:(Instr.range 91 (.map none)).run Tryz.prog w6=.ok (.pointer (some ⟨w6.heap.size,0,none⟩)) (w6.alloc (.mapIter none 0 #[] 0)):=run_range_nilMap w6 _ _ _ Tryz.underlying91;have hnx:∀ ty,(Instr.next (.pointer (some ⟨w6.heap.size,0,none⟩)) false ty).run Tryz.prog (w6.alloc (.mapIter none 0 #[] 0))=.ok (.tuple #[.bool false]) (w6.alloc (.mapIter none 0 #[] 0)):=fun ty=>run_next_nilMap w6 ty 0 0 #[];have kJ:E9 w1 w1.heap.size a O M (w6.alloc (.mapIter none 0 #[] 0)):=j4.ext ((Below.refl _ _).alloc (A7 _) _);obtain ⟨w8,YA,j2,yj⟩:=kJ.om.run_del (k:=a) (by omega) 0;have jE:=kJ.next j2 yj;have Yg:∀ t,Shut S.rules (CD (bts inS)) (C1 (bts o)) a M t:=fun t c r t' d hc jl=>by
     rw [jj.out.no _ (A7 _) jk.out] at hc;cases hc
    have js:=A6 jE;have Yt:=A6 Yg;clear j4 kJ jE j2 yj Yg
    go_wp2_with fail
    go_loopg [] 0 (fun gm wr=>wr=w6.alloc (.mapIter none 0 #[] 0))
    case atStart=>exact rfl
    case round =>
     subst hrel
     go_wp2_with fail
     go_roundg (inS.size - (a+1))
     case measure=>have:=kS.out;omega
     case rel =>
      have h:=jN.out.nextM;rw [← Nat.succ_mul] at h;exact ⟨a+1,Ij O a,nextM a M,by go_num,y3,rfl,js.out,jS.out.nextM Yt.out,h,fun p hp=>jz.out p (Al.1 hp).1⟩
   ·rw [ju] at kQ;have jk:=A6 ju;clear ju
    go_wp2_with fail
    have kh:Ext w wr:=Ext.trans k6.out yw.out;refine (settle_any S b cR go q a mo (a*((8*(o.size+1)+1)*1000)) 1000 o (bts inS) M wr (BL.later HR.out kh (A7 _)) y1 HF.out HO.out ?_ (AB kP (Below.size kh)) ho kM.out (jj.out.at_ _ (A7 _) q jk.out) jS.out jN.out (A7 _) (yt.out _ ha)).mono ?_
    · exact (Below.cell kh (p:=⟨go,0,none⟩) kP).trans yu.out
    rintro e w6 ⟨rfl,M6,jl⟩;have j4:E9 w1 w1.heap.size a O M6 w6:=jj.out.inner jk.out jl.map jl.tn fun k hk=>jl.out k hk;have jD:Kh S.rules (CD (bts inS)) (C1 (bts o)) a (o.size+1) (a*((8*(o.size+1)+1)*1000)) 1000 (M6 a) M6 (M6 a):=Kh.start jl.inv jl.bnd jl.she;have yN:=jl.map;have Ji:=A6 j4;have jh:=A6 jD;obtain ⟨E,hE⟩:∃ E,M6 a=E:=⟨_,rfl⟩
    rw [hE] at yN jh;have y5:Cs E:=by rw [← hE];exact jl.bnd.keys a
    have Yq:=A6 y5;clear jl j4 jD hE y5 kh k0 k1 k2 k3 k4 k5 jj jS jN yw
    go_wp2_with (at_range;refine D1 Bx yN rfl _ rfl rfl ?_;intro w7 kI yz Yf)
    go_frame;obtain ⟨gr,yH⟩:∃ gr,w6.heap.size=gr:=⟨_,rfl⟩
    have kY:Hid (E9 w1 w1.heap.size a O M6 w7):=Ji.out.ext yz;rw [yH] at kI yz Yf ⊢;have kW:=A6 kI;have yW:Hid (q<gr∧w1.heap.size<gr):=by
     have h1:=Ji.out.ge _ _ jk.out;have h2:=Ji.out.om.lt;rw [← yH];exact ⟨h1.2.2,h2⟩
    clear kI yz Yf yH yN kQ Ji
    go_loopg [] E.length (fun gm wr=>∃ (O2:List (Nat × Nat)) (M2:Nat→Ent) (rest:Ent),E9 w1 w1.heap.size a O2 M2 wr∧look O2 a=some q∧Kh S.rules (CD (bts inS)) (C1 (bts o)) a (o.size+1) (a*((8*(o.size+1)+1)*1000)) 1000 E M2 rest∧RgG CB wr q gr E rest∧rest.length=gm∧rest.Nodup∧∀ p∈O2,p.1≤inS.size)
    case atStart=>exact ⟨O,M6,E,kY.out,jk.out,jh.out,kW.out,rfl,(Ai.1 ((EO _).1 Yq.out)).imp fun YF e=>YF (by rw [e]),jz.out⟩
    case round =>
     clear kY jk jh kW jz;obtain ⟨O2,M2,rest,j3,ju,jD,kH,ye,Yc,ks⟩:=hrel;have jj:=A6 j3;have jk:=A6 ju;have jh:=A6 jD;have kl:=A6 kH;have Yp:=A6 ye;have yZ:=A6 Yc;have jz:=A6 ks;have yI:=kH.lt;clear j3 ju jD kH ye Yc ks
     go_wp2_with (at_next;refine wpList_next_g Bx kl.out rfl _ rfl rfl ?_ ?_)
     ·intro h0;subst h0;obtain ⟨w8,YA,j2,yj⟩:=jj.out.om.run_del (k:=a) (by omega) 0;have jE:=jj.out.next j2 yj;have js:=A6 jE;clear jE j2 yj
      go_wp2_with fail
      go_roundg (inS.size - (a+1))
      case measure=>have:=kS.out;omega
      case rel =>
       have h:=jh.out.bnd.nextM;rw [← Nat.succ_mul] at h;exact ⟨a+1,Ij O2 a,nextM a M2,by go_num,y3,rfl,js.out,jh.out.inv.nextM jh.out.shut,h,fun p hp=>jz.out p (Al.1 hp).1⟩
     ·intro
         m
          nd c w8
              hp hrg8 hg8 hz8 hl8 hen8
      have jE:=jj.out.iter kl.out.iter (Nat.le_of_lt yW.out.2) hg8;have yq:=kl.out.sub _ hp;have hrt:m<8∧nd<o.size+1:=by
       have h:=jh.out.bnd.rng a ((m,nd),c) (by rw [jh.out.same];exact yq);exact h
      have hc9:c≤900000000000:=by
       have h1:=jh.out.bnd.here ((m,nd),c) (by rw [jh.out.same];exact yq);have h2:=yt.out a ha;have h3:=jh.out.bnd.len a;have h4:(M2 a).length*1000≤8*(o.size+1)*1000:=Nat.mul_le_mul_right _ h3;simp only at h1;have h5:1*(a*((8*(o.size+1)+1)*1000)+(8*(o.size+1)+1)*1000+2)≤8*(o.size+1)*(a*((8*(o.size+1)+1)*1000)+(8*(o.size+1)+1)*1000+2):=Nat.mul_le_mul_right _ (by omega);omega
      have yc:=jh.out.enter (p:=((m,nd),c));have js:=A6 jE;have kw:=A6 hrg8;have kR:=A6 yc;have y0:=A6 yq;have kN:=A6 (Cp hp);have Ya:=yZ.out.filter fun q=>decide (q≠((m,nd),c));have yx:=A6 Ya;clear jE hrg8 yc yq hp hl8 Ya jj kl jh yZ;obtain ⟨k0,k1,k2,k3,k4,k5⟩:=Bm (j7.out w8 js.out.bl);have yJ:gw<w8.heap.size:=(A9.1 (j7.out w8 js.out.bl)).1;have y6:CB.val (m,nd)=.agg #[.int .i64 (m:Int),.int .i64 (nd:Int)]:=rfl;rw [y6] at hen8 ⊢;clear y6
      go_wp2_with fail
      obtain ⟨w9,yr⟩:∃ w9,w8.alloc (.cells #[.int .i64 (m:Int),.int .i64 (nd:Int)] 85)=w9:=⟨_,rfl⟩
      rw [yr];have yT:Ext w8 w9:=by rw [← yr];exact (Below.refl _ _).alloc (A7 _) _
      have ka:w9.heap[w8.heap.size]? = some (.cells #[.int .i64 (m:Int),.int .i64 (nd:Int)] 85 (0,0)):=by rw [← yr];exact heap_alloc_new _ _
      have kZ:Hid (E9 w1 w1.heap.size a O2 M2 w9):=js.out.ext yT;have kX:Hid (RgG CB w9 q gr E (BU rest ((m,nd),c))):=kw.out.below yT;obtain ⟨g9,yG⟩:∃ g9,w8.heap.size=g9:=⟨_,rfl⟩
      have HG9:Hid (gr<g9∧w1.heap.size<g9∧g9<w9.heap.size):=by
       have h1:=kw.out.lt;have h2:=js.out.om.lt;rw [← yG];exact ⟨h1,h2,(A9.1 ka).1⟩
      rw [yG] at ka ⊢;have kL:=A6 ka;clear yr yT yG ka js kw yI yJ
      go_loopg [47] S.rules.length (fun gm v47 wr=>∃ (k:Nat) (O3:List (Nat × Nat)) (M3:Nat→Ent),v47=.int .i64 (k:Int)∧k≤S.rules.length∧gm=S.rules.length - k∧E9 w1 w1.heap.size a O3 M3 wr∧look O3 a=some q∧H9 S.rules (CD (bts inS)) (C1 (bts o)) a (o.size+1) (a*((8*(o.size+1)+1)*1000)) 1000 E M3 (BU rest ((m,nd),c)) k ((m,nd),c) ∧
       RgG CB wr q gr E (BU rest ((m,nd),c))∧wr.heap[g9]? = some (.cells #[.int .i64 (m:Int),.int .i64 (nd:Int)] 85 (0,0))∧∀ p∈O3,p.1≤inS.size)
      case atStart=>exact ⟨0,O2,M2,rfl,Nat.zero_le _,rfl,kZ.out,jk.out,kR.out,kX.out,kL.out,jz.out⟩
      case round =>
       clear kZ jk kR kX kL jz;obtain ⟨k,O3,M3,rfl,hk,yf,j3,ju,jD,kH,ya,ks⟩:=hrel;have jj:=A6 j3;have jk:=A6 ju;have jU:=A6 jD;have kl:=A6 kH;have kL:=A6 ya;have jx:=A6 yf;have jz:=A6 ks;clear j3 ju jD kH yf ya ks;by_cases jF:k<S.rules.length
       ·have hlkI
             :
              (k:Int)<(S.rules.length:Int):=by omega
        have Yj:Ext w1 wr:=jj.out.bl;have yF:=CY.1 (HF.out _ (AO jF));have yi:=HO.out _ (AO jF);obtain ⟨b1,o1,y2,Yv,r0,r1,r2,r3,r4⟩:=(HR.out.later (Ext.trans k6.out Yj) (A7 _)).at jF;have YD:=Bp b b1 o1 S.rules.length cR k y2 jF;have yR:S.rules[k]? = some S.rules[k]:=AE jF;have yC:=HF.out _ (AO jF);have j0:S.rules[k]∈S.rules:=AO jF;obtain ⟨r,hr⟩:∃ r,S.rules[k]=r:=⟨_,rfl⟩
        rw [hr] at yF yi r0 r1 r2 r3 r4 yR yC j0;obtain ⟨frm,dst,inp,out,cost⟩:=r;simp only at yF yi r0 r1 r2 r3 r4;obtain ⟨hf0,hf8,Yy,Yz,hi4,Yw,Yx⟩:=yF;obtain ⟨d0,rfl⟩:∃ d0:Nat,dst=(d0:Int):=⟨dst.toNat,by omega⟩
        obtain ⟨c0,rfl⟩:∃ c0:Nat,cost=(c0:Int):=⟨cost.toNat,by omega⟩
        have km:=A6 yR;have Ym:=A6 yC;have Yr:=A6 j0;have yb:c0≤1000:=by omega
        have hd8':d0<8:=by omega
        clear hr yR yC j0 y2 Yj Yx Yw Yy Yz
        go_upto_region 14 with fail
        obtain ⟨w11,kf⟩:∃ w11,wr.alloc (.cells #[.int .i64 frm,.int .i64 (d0:Int),.string inp,.string out,.int .i64 (c0:Int)] 64)=w11:=⟨_,rfl⟩
        rw [kf];have kx:Hid (Ext wr w11):=by
         show Ext _ _;rw [← kf];exact (Below.refl _ _).alloc (A7 _) _
        have jg:Hid (w11.heap[wr.heap.size]? = some (.cells #[.int .i64 frm,.int .i64 (d0:Int),.string inp,.string out,.int .i64 (c0:Int)] 64 (0,0))):=by
         show _=_;rw [← kf];exact heap_alloc_new _ _
        obtain ⟨g11,kB⟩:∃ g11,wr.heap.size=g11:=⟨_,rfl⟩
        have HG11:Hid (gr<g11∧g9<g11∧w1.heap.size<g11∧g11<w11.heap.size):=by
         have h1:=kl.out.lt;have h2:=(A9.1 kL.out).1;have h3:=jj.out.om.lt;have h4:=(A9.1 jg.out).1;rw [← kB];exact ⟨h1,h2,h3,h4⟩
        rw [kB] at jg ⊢;have je:Hid (w11.heap[g9]? = some (.cells #[.int .i64 (m:Int),.int .i64 (nd:Int)] 85 (0,0))):=(Below.block kx.out _ (A9.1 kL.out).1).trans kL.out;have jo:=A6 (jj.out.ext kx.out);have jA:=A6 (kl.out.below kx.out);have jr:Hid (∀ W,Ext w11 W→W.heap[gw]? = some (.cells #[.int .i64 S.modes,.int .u8 S.acc,.slice b S.rules.length cR,.func (.func 41) #[] #[],.func (.func 42) #[] #[.pointer (some ⟨go,0,none⟩)],.int .i64 (mo:Int)] 90 (0,0))):=fun W hx=>j7.out W (jo.out.ext hx).bl;clear kf kB r0 r1 r2 r3 r4 YD Yv;by_cases hz:inp.size=0
        ·have kU:Hid (inp.toList=[]):=by
          show _=_;rw [ByteArray.toList_eq];exact List.eq_nil_of_length_eq_zero hz
         have jW:=A6 (jU.out.skip km.out fun h=>absurd hz h);refine B4 (by kernel_rfl) (Vs [vq (.pointer (some ⟨g11,2,none⟩)),vq (.string inp),vq (.bool true),vq (.bool true),vq (undef),vq (undef),vq (undef),vq (undef),vq (undef),vq (undef),vq (undef),vq (.bool true),vq (.bool true),vq (undef),vq (undef),vq (undef),vq (undef),vq (undef),vq (undef),vq (undef),vq (.bool true)]) (Xs []) (fun fL=>(fun W=>Ext w11 W) ) [0,1,3,7,15,31,15,79,15,463,1023,2047,4095,8191,8191,32767,8191,73727,262143,524287,1048575] 122 21 (by kernel_rfl) rfl ?hV ?hS ?hop ?hfin ?hlast
         case hV =>
          refine BC (Av (by simp only [Aj,List.not_mem_nil,or_false,forall_eq_or_imp,forall_eq];and_intros <;> exact An _)) ?_;exact trivial
         case hS =>
          intro fL hf;show (fun W=>Ext w11 W)  _
          first | exact Ext.refl _ | exact Bh _
         case hop =>
          refine ⟨?_,?_,?_,?_,?_,?_,?_,?_,?_,?_,?_,?_,?_,?_,?_,?_,?_,?_,?_,?_,?_,trivial⟩
          all_goals first | rw [if_neg (by decide)] | rw [if_pos (by decide)]
          all_goals try intro ac W fL ji jC kE kz jd jc ja jL
          all_goals try have hS:(fun W=>Ext w11 W)  W:=jd
          all_goals try (
           have kK:=hS;obtain ⟨k0,k1,k2,k3,k4,k5⟩:=Bm (jr.out W hS);obtain ⟨z0,z1,z2,z3,z4⟩:=B9 ((Below.block hS g11 (A9.1 jg.out).1).trans jg.out);obtain ⟨x0,x1⟩:=B3 ((Below.block hS g9 (A9.1 je.out).1).trans je.out);have yP:=kU.out;clear kK)
          all_goals try have yL:=gdA ac 3 (.pointer (some ⟨gw,0,none⟩)) (ja 3 (by kernel_rfl))
          all_goals try have kC:=gdA ac 11 (.pointer (some ⟨g9,0,none⟩)) (ja 11 (by kernel_rfl))
          all_goals try have kD:=gdA ac 14 (.pointer (some ⟨g11,0,none⟩)) (ja 14 (by kernel_rfl))
          all_goals try have yK:=gdA ac 2 (.string inS) (ja 2 (by kernel_rfl))
          all_goals try have yM:=gdA ac 9 (.int .i64 (a:Int)) (ja 9 (by kernel_rfl))
          all_goals try (have jc:=DN jc;simp [D8,Aq,vq] at jc)
          all_goals try clear ja kE kz jL
          all_goals try exact C2 (j:=3) (d:=54) (b:=true) rfl (by kernel_rfl) (by simp only [jc]) rfl ⟨rfl,jd⟩
          all_goals try exact C2 (j:=12) (d:=63) (b:=true) rfl (by kernel_rfl) (by simp only [jc]) rfl ⟨rfl,jd⟩
          all_goals (refine Ao rfl (.inl ⟨_,W,?_,rfl,Ext.refl _,jd⟩);clear ji hS jd jC;simp [go_sem,Act.eval, *];done)
         case hlast =>
          intro h;exact absurd rfl h
         case hfin =>
          intro _ ac W ji jY fL hf jd hv ja;have hS:(fun W=>Ext w11 W)  W:=jd;clear jd;obtain ⟨sx,jK,j5⟩:=Aw [51,52,53,54,55,56,57,58,59,60,61,62,63,64,65,66,67,68,69,70,71] (by kernel_rfl) ji jY ja;have e62:sx 62=.bool true:=(jK 62).trans (hv 11 (by decide));have e71:sx 71=.bool true:=(jK 71).trans (hv 20 (by decide));rw [j5];simp only [List.foldl];rw [e62,e71];clear e62 e71;simp only [Act.put,List.setIfInBounds_toArray,List.set_cons_succ,List.set_cons_zero];clear j5 jK hv ja ji jY hf;have jt:Hid (Ext w11 W):=hS;clear hS
          go_wp2_with fail
          go_roundg (S.rules.length - (k+1))
          case measure=>have:=jx.out;omega
          case rel=>exact ⟨k+1,O3,M3,by go_num,jF,rfl,jo.out.ext jt.out,jk.out,jW.out,jA.out.below jt.out,(Below.block jt.out _ (A9.1 je.out).1).trans je.out,jz.out⟩
        ·have kU:Hid (¬ inp.toList=[]):=fun e=>hz (by rw [← BZ,bts,← ByteArray.toList_eq,e];rfl);by_cases yD:frm=(m:Int)
         ·subst
             yD
          have yV:Hid ((inS.extract a inS.size).size≤9223372036854775807):=by show _≤_;rw [ByteArray.size_extract];omega
          have jO:=PO (o:=inS) (p:=inp) (n:=a) ha;rcases kb:C1 (bts inS) a (bts inp) with _ | n9
          ·have yn:Hid (Md (inS.extract a inS.size) inp=false):=by rw [kb] at jO;exact jO
           have jW:=A6 (jU.out.skip km.out fun _ t' d jl=>by
            obtain ⟨_,_,_,kk,n',h4,_⟩:=jl;unfold C1 at kb;rw [KO] at h4;split at h4
            · rename_i h;simp [h] at kb
            · cases h4)
           clear kb jO;refine B4 (by kernel_rfl) (Vs [vq (.pointer (some ⟨g11,2,none⟩)),vq (.string inp),vq (.bool false),vq (.bool false),vq (.pointer (some ⟨g11,0,none⟩)),vq (.int .i64 (m:Int)),vq (.pointer (some ⟨gw,3,none⟩)),vq (.func (.func 41) #[] #[]),vq (.agg #[.int .i64 (m:Int),.int .i64 (nd:Int)]),vq (.int .i64 (m:Int)),vq (.bool false),vq (.bool false),vq (.bool false),vq (.string inS),vq (.int .i64 (a:Int)),vq (.string (inS.extract a inS.size)),vq (.pointer (some ⟨g11,2,none⟩)),vq (.string inp),vq (.bool false),vq (.bool true),vq (.bool true)]) (Xs []) (fun fL=>(fun W=>Ext w11 W) ) [0,1,3,7,15,31,15,79,15,463,1023,2047,4095,8191,8191,32767,8191,73727,262143,524287,1048575] 122 21 (by kernel_rfl) rfl ?hV ?hS ?hop ?hfin ?hlast
           case hV =>
            refine BC (Av (by simp only [Aj,List.not_mem_nil,or_false,forall_eq_or_imp,forall_eq];and_intros <;> exact An _)) ?_;exact trivial
           case hS =>
            intro fL hf;show (fun W=>Ext w11 W)  _
            first | exact Ext.refl _ | exact Bh _
           case hop =>
            refine ⟨?_,?_,?_,?_,?_,?_,?_,?_,?_,?c9,?_,?_,?_,?_,?_,?_,?_,?_,?c18,?_,?_,trivial⟩
            all_goals first | rw [if_neg (by decide)] | rw [if_pos (by decide)]
            all_goals try intro ac W fL ji jC kE kz jd jc ja jL
            all_goals try have hS:(fun W=>Ext w11 W)  W:=jd
            all_goals try (
             have kK:=hS;obtain ⟨k0,k1,k2,k3,k4,k5⟩:=Bm (jr.out W hS);obtain ⟨z0,z1,z2,z3,z4⟩:=B9 ((Below.block hS g11 (A9.1 jg.out).1).trans jg.out);obtain ⟨x0,x1⟩:=B3 ((Below.block hS g9 (A9.1 je.out).1).trans je.out);have yP:=kU.out;clear kK)
            all_goals try have yL:=gdA ac 3 (.pointer (some ⟨gw,0,none⟩)) (ja 3 (by kernel_rfl))
            all_goals try have kC:=gdA ac 11 (.pointer (some ⟨g9,0,none⟩)) (ja 11 (by kernel_rfl))
            all_goals try have kD:=gdA ac 14 (.pointer (some ⟨g11,0,none⟩)) (ja 14 (by kernel_rfl))
            all_goals try have yK:=gdA ac 2 (.string inS) (ja 2 (by kernel_rfl))
            all_goals try have yM:=gdA ac 9 (.int .i64 (a:Int)) (ja 9 (by kernel_rfl))
            all_goals try (have jc:=DN jc;simp [D8,Aq,vq] at jc)
            all_goals try clear ja kE kz jL
            case c9 =>
             have Jx:(fun W=>Ext w11 W)  W:=jd;refine B2 (j:=3) (d:=54) (b:=false) rfl (by kernel_rfl) (by simp only [jc]) rfl (.inr ⟨41,#[.agg #[.int .i64 (m:Int),.int .i64 (nd:Int)]],W,by (clear ji hS jd Jx jC;simp [go_sem,Act.eval, *]),?_⟩);refine (KQ m nd W).mono ?_;rintro e w' ⟨rfl,hb⟩;exact ⟨_,rfl,⟨rfl,hb,Ext.trans jd hb⟩⟩
            case c18 =>
             have Jx:(fun W=>Ext w11 W)  W:=jd;have ky:=Es (inS.extract a inS.size) inp W yV.out;rw [yn.out] at ky;refine B2 (j:=12) (d:=63) (b:=false) rfl (by kernel_rfl) (by simp only [jc]) rfl (.inr ⟨43,#[.string (inS.extract a inS.size),.string inp],W,by (clear ji hS jd Jx jC ky;simp [go_sem,Act.eval, *]),?_⟩);refine ky.mono ?_;rintro e w' ⟨rfl,rfl⟩;exact ⟨_,rfl,⟨rfl,Ext.refl _,jd⟩⟩
            all_goals try (refine B2 (j:=3) (d:=54) (b:=false) rfl (by kernel_rfl) (by simp only [jc]) rfl (.inl ⟨_,W,?_,rfl,Ext.refl _,jd⟩);clear ji hS jd jC;simp [go_sem,Act.eval, *];done)
            all_goals try (refine B2 (j:=12) (d:=63) (b:=false) rfl (by kernel_rfl) (by simp only [jc]) rfl (.inl ⟨_,W,?_,rfl,Ext.refl _,jd⟩);clear ji hS jd jC;simp [go_sem,Act.eval, *];done)
            all_goals (refine Ao rfl (.inl ⟨_,W,?_,rfl,Ext.refl _,jd⟩);clear ji hS jd jC;simp [go_sem,Act.eval, *];done)
           case hlast =>
            intro h;exact absurd rfl h
           case hfin =>
            intro _ ac W ji jY fL hf jd hv ja;have hS:(fun W=>Ext w11 W)  W:=jd;clear jd;obtain ⟨sx,jK,j5⟩:=Aw [51,52,53,54,55,56,57,58,59,60,61,62,63,64,65,66,67,68,69,70,71] (by kernel_rfl) ji jY ja;have e62:sx 62=.bool false:=(jK 62).trans (hv 11 (by decide));have e71:sx 71=.bool true:=(jK 71).trans (hv 20 (by decide));rw [j5];simp only [List.foldl];rw [e62,e71];clear e62 e71;simp only [Act.put,List.setIfInBounds_toArray,List.set_cons_succ,List.set_cons_zero];clear j5 jK hv ja ji jY hf;have jt:Hid (Ext w11 W):=hS;clear hS
            go_wp2_with fail
            go_roundg (S.rules.length - (k+1))
            case measure=>have:=jx.out;omega
            case rel=>exact ⟨k+1,O3,M3,by go_num,jF,rfl,jo.out.ext jt.out,jk.out,jW.out,jA.out.below jt.out,(Below.block jt.out _ (A9.1 je.out).1).trans je.out,jz.out⟩
          ·have Yl:Hid (Md (inS.extract a inS.size) inp=true):=by rw [kb] at jO;exact jO
           have Yn:=A6 kb;have hto2:a+inp.size≤inS.size:=by
            have h1:=MH (X:=bts inS) (n:=a) (m:=n9) (r:=bts inp) (by rw [BZ];omega) kb;have h2:=ML kb;rw [BZ] at h1 h2;omega
           clear kb jO;refine B4 (by kernel_rfl) (Vs [vq (.pointer (some ⟨g11,2,none⟩)),vq (.string inp),vq (.bool false),vq (.bool false),vq (.pointer (some ⟨g11,0,none⟩)),vq (.int .i64 (m:Int)),vq (.pointer (some ⟨gw,3,none⟩)),vq (.func (.func 41) #[] #[]),vq (.agg #[.int .i64 (m:Int),.int .i64 (nd:Int)]),vq (.int .i64 (m:Int)),vq (.bool false),vq (.bool false),vq (.bool false),vq (.string inS),vq (.int .i64 (a:Int)),vq (.string (inS.extract a inS.size)),vq (.pointer (some ⟨g11,2,none⟩)),vq (.string inp),vq (.bool true),vq (.bool false),vq (.bool false)]) (Xs []) (fun fL=>(fun W=>Ext w11 W) ) [0,1,3,7,15,31,15,79,15,463,1023,2047,4095,8191,8191,32767,8191,73727,262143,524287,1048575] 122 21 (by kernel_rfl) rfl ?hV ?hS ?hop ?hfin ?hlast
           case hV =>
            refine BC (Av (by simp only [Aj,List.not_mem_nil,or_false,forall_eq_or_imp,forall_eq];and_intros <;> exact An _)) ?_;exact trivial
           case hS =>
            intro fL hf;show (fun W=>Ext w11 W)  _
            first | exact Ext.refl _ | exact Bh _
           case hop =>
            refine ⟨?_,?_,?_,?_,?_,?_,?_,?_,?_,?c9,?_,?_,?_,?_,?_,?_,?_,?_,?c18,?_,?_,trivial⟩
            all_goals first | rw [if_neg (by decide)] | rw [if_pos (by decide)]
            all_goals try intro ac W fL ji jC kE kz jd jc ja jL
            all_goals try have hS:(fun W=>Ext w11 W)  W:=jd
            all_goals try (
             have kK:=hS;obtain ⟨k0,k1,k2,k3,k4,k5⟩:=Bm (jr.out W hS);obtain ⟨z0,z1,z2,z3,z4⟩:=B9 ((Below.block hS g11 (A9.1 jg.out).1).trans jg.out);obtain ⟨x0,x1⟩:=B3 ((Below.block hS g9 (A9.1 je.out).1).trans je.out);have yP:=kU.out;clear kK)
            all_goals try have yL:=gdA ac 3 (.pointer (some ⟨gw,0,none⟩)) (ja 3 (by kernel_rfl))
            all_goals try have kC:=gdA ac 11 (.pointer (some ⟨g9,0,none⟩)) (ja 11 (by kernel_rfl))
            all_goals try have kD:=gdA ac 14 (.pointer (some ⟨g11,0,none⟩)) (ja 14 (by kernel_rfl))
            all_goals try have yK:=gdA ac 2 (.string inS) (ja 2 (by kernel_rfl))
            all_goals try have yM:=gdA ac 9 (.int .i64 (a:Int)) (ja 9 (by kernel_rfl))
            all_goals try (have jc:=DN jc;simp [D8,Aq,vq] at jc)
            all_goals try clear ja kE kz jL
            case c9 =>
             have Jx:(fun W=>Ext w11 W)  W:=jd;refine B2 (j:=3) (d:=54) (b:=false) rfl (by kernel_rfl) (by simp only [jc]) rfl (.inr ⟨41,#[.agg #[.int .i64 (m:Int),.int .i64 (nd:Int)]],W,by (clear ji hS jd Jx jC;simp [go_sem,Act.eval, *]),?_⟩);refine (KQ m nd W).mono ?_;rintro e w' ⟨rfl,hb⟩;exact ⟨_,rfl,⟨rfl,hb,Ext.trans jd hb⟩⟩
            case c18 =>
             have Jx:(fun W=>Ext w11 W)  W:=jd;have ky:=Es (inS.extract a inS.size) inp W yV.out;rw [Yl.out] at ky;refine B2 (j:=12) (d:=63) (b:=false) rfl (by kernel_rfl) (by simp only [jc]) rfl (.inr ⟨43,#[.string (inS.extract a inS.size),.string inp],W,by (clear ji hS jd Jx jC ky;simp [go_sem,Act.eval, *]),?_⟩);refine ky.mono ?_;rintro e w' ⟨rfl,rfl⟩;exact ⟨_,rfl,⟨rfl,Ext.refl _,jd⟩⟩
            all_goals try (refine B2 (j:=3) (d:=54) (b:=false) rfl (by kernel_rfl) (by simp only [jc]) rfl (.inl ⟨_,W,?_,rfl,Ext.refl _,jd⟩);clear ji hS jd jC;simp [go_sem,Act.eval, *];done)
            all_goals try (refine B2 (j:=12) (d:=63) (b:=false) rfl (by kernel_rfl) (by simp only [jc]) rfl (.inl ⟨_,W,?_,rfl,Ext.refl _,jd⟩);clear ji hS jd jC;simp [go_sem,Act.eval, *];done)
            all_goals (refine Ao rfl (.inl ⟨_,W,?_,rfl,Ext.refl _,jd⟩);clear ji hS jd jC;simp [go_sem,Act.eval, *];done)
           case hlast =>
            intro h;exact absurd rfl h
           case hfin =>
            intro _ ac W ji jY fL hf jd hv ja;have hS:(fun W=>Ext w11 W)  W:=jd;clear jd;obtain ⟨sx,jK,j5⟩:=Aw [51,52,53,54,55,56,57,58,59,60,61,62,63,64,65,66,67,68,69,70,71] (by kernel_rfl) ji jY ja;have e62:sx 62=.bool false:=(jK 62).trans (hv 11 (by decide));have e71:sx 71=.bool false:=(jK 71).trans (hv 20 (by decide));rw [j5];simp only [List.foldl];rw [e62,e71];clear e62 e71;simp only [Act.put,List.setIfInBounds_toArray,List.set_cons_succ,List.set_cons_zero];clear j5 jK hv ja ji jY hf;have jt:Hid (Ext w11 W):=hS;clear hS;obtain ⟨w12,yl⟩:∃ w12:World,w12=W:=⟨W,rfl⟩
            rw [← yl] at jt ⊢;clear yl;obtain ⟨k0,k1,k2,k3,k4,k5⟩:=Bm (jr.out w12 jt.out);obtain ⟨z0,z1,z2,z3,z4⟩:=B9 ((Below.block jt.out g11 (A9.1 jg.out).1).trans jg.out);obtain ⟨x0,x1⟩:=B3 ((Below.block jt.out g9 (A9.1 je.out).1).trans je.out);have j6:Ext w w12:=Ext.trans k6.out (jo.out.ext jt.out).bl;have kq:w12.cell? ⟨go,0,none⟩=some (.string o):=(Below.cell j6 (p:=⟨go,0,none⟩) kP).trans yu.out;have yg:go<w12.heap.size:=AB kP (Below.size j6);have ku:=step_o o go m nd d0 (m:Int) (c0:Int) inp out w12 kq yg (by omega) (by omega) (by omega);obtain ⟨n2,y9⟩:∃ n2,nd+out.size=n2:=⟨_,rfl⟩
            have yY:=A6 y9;have kn:=A6 ku;clear ku j6 kq yg y9
            go_wp2_with fail
            clear k0 k1 k2 k3 k4 k5 z0 z1 z2 z3 z4 x0 x1;refine kn.out.mono ?_;rintro e w13 ⟨jl,ym⟩;have k7:Hid (Ext w11 w13):=Ext.trans jt.out ym;unfold PQ at jl;rw [yY.out] at jl;clear ym kn;obtain ⟨fo,yE⟩:∃ fo,C1 (bts o) nd (bts out)=fo:=⟨_,rfl⟩
            rw [yE] at jl;have yo:=A6 yE;obtain ⟨bf,yA⟩:∃ bf,fo.isSome=bf:=⟨_,rfl⟩
            rw [yA] at jl;have yn:=A6 yA;clear yE yA;subst jl
            go_upto_region 16 with fail
            obtain ⟨w14,kg⟩:∃ w14,w13.alloc (.cells #[.int .i64 (d0:Int),.int .i64 (n2:Int)] 85)=w14:=⟨_,rfl⟩
            rw [kg];have ko:Hid (Ext w13 w14):=by
             show Ext _ _;rw [← kg];exact (Below.refl _ _).alloc (A7 _) _
            have kv:Hid (w14.heap[w13.heap.size]? = some (.cells #[.int .i64 (d0:Int),.int .i64 (n2:Int)] 85 (0,0))):=by
             show _=_;rw [← kg];exact heap_alloc_new _ _
            obtain ⟨g14,yd⟩:∃ g14,w13.heap.size=g14:=⟨_,rfl⟩
            rw [yd] at kv ⊢;have jX:Hid (Ext w11 w14):=Ext.trans k7.out ko.out;have ki:Hid (w14.heap[g11]? = some (.cells #[.int .i64 (m:Int),.int .i64 (d0:Int),.string inp,.string out,.int .i64 (c0:Int)] 64 (0,0))):=(Below.block jX.out g11 (A9.1 jg.out).1).trans jg.out;have jR:Hid (w14.heap[g9]? = some (.cells #[.int .i64 (m:Int),.int .i64 (nd:Int)] 85 (0,0))):=(Below.block jX.out g9 (A9.1 je.out).1).trans je.out;have jf:=A6 (jo.out.ext jX.out);have jB:=A6 (jA.out.below jX.out);clear kg yd ko k7 jt jg je jo jA jr jX;cases fo with
            | none =>
             obtain rfl:bf=false:=yn.out.symm;have jW:=A6 (jU.out.skip km.out fun _=>MM (.inr yo.out))
             go_wp2_with fail
             go_roundg (S.rules.length - (k+1))
             case measure=>have:=jx.out;omega
             case rel=>exact ⟨k+1,O3,M3,by go_num,jF,rfl,jf.out,jk.out,jW.out,jB.out,jR.out,jz.out⟩
            | some n' =>
             obtain rfl:bf=true:=yn.out.symm;obtain rfl:n'=n2:=by have h1:=ML yo.out;rw [BZ] at h1;have:=yY.out;omega
             have Yb:n'<o.size+1:=by have h9:=MH (X:=bts o) (n:=nd) (m:=n') (r:=bts out) (by rw [BZ];omega) yo.out;rw [BZ] at h9;omega
             have kN:Hid (D3 S.rules (CD (bts inS)) (C1 (bts o)) a (m,nd) ⟨(m:Int),(d0:Int),inp,out,(c0:Int)⟩ (d0,n') c0):=Si Yr.out Ym.out rfl Yn.out yo.out;have j9:Hid (CB.ok (d0,n')):=⟨by show d0<1000000;omega,by show n'<1000000;omega⟩
             have hw2:IntKind.i64.wrap ((c:Int)+(c0:Int))=(c:Int)+(c0:Int):=IntWalk.i64_in _ (by omega);obtain ⟨tt,Yh⟩:∃ tt,a+inp.size=tt:=⟨_,rfl⟩
             have hw3:IntKind.i64.wrap ((a:Int)+(inp.size:Int))=(tt:Int):=by rw [IntWalk.i64_in _ (by omega)];omega
             have Js:=A6 Yh;have kO:a≤tt:=by omega
             have YG:tt≤inS.size:=by omega
             clear Yh;have jM:=jf.out.om.look (k:=tt) (by omega);obtain ⟨z0,z1,z2,z3,z4⟩:=B9 ki.out;obtain ⟨u0,u1⟩:=B3 kv.out;rcases jP:look O3 tt with _ | q2
             ·rw [jP] at jM;have yO:=map_nil;have ys:Ext w14 (w14.alloc (.map #[] 0)):=(Below.refl _ _).alloc (A7 _) _;have yp:=jf.out.om.kept (Below.block ys _ jf.out.om.lt);obtain ⟨w15,Yi,kt,ke⟩:=yp.run_put (k:=tt) (by omega) w14.heap.size (by have:=yp.len_le jz.out;omega);have yv:Hid (Kc w14 w15):=(Kc.of ys (A7 _)).trans (Kc.map ke yp.obj);have jp:=A6 (jf.out.made jP kt ke);have jV:Hid (RgG CB w15 q gr E (BU rest ((m,nd),c))):=(jB.out.below ys).kept ke (fun e=>(jf.out.ge a q jk.out).2.1 (by injection e)) (fun e=>by injection e with e;have:=yW.out.2;omega);obtain ⟨q2,yQ⟩:∃ q2,w14.heap.size=q2:=⟨_,rfl⟩
              rw [yQ] at Yi jp;have YE:(Instr.makeMap 91 none).run Tryz.prog w14=.ok (.map (some q2)) (w14.alloc (.map #[] 0)):=by rw [← yQ];exact y7 _ _
              obtain ⟨O4,k9⟩:∃ O4,Cv O3 tt q2=O4:=⟨_,rfl⟩
              have jy:Hid (look O4 tt=some q2):=by show _=_;rw [← k9,C7,if_pos rfl]
              have jT:Hid (look O4 a=some q):=by show _=_;rw [← k9,C7,if_neg (by have:=Js.out;omega)];exact jk.out
              have kj:Hid (∀ p∈O4,p.1≤inS.size):=fun p hp=>by
               rw [← k9] at hp;rcases GH hp with rfl | hp
               · exact YG
               · exact jz.out p hp
              rw [k9] at jp;have jQ:=A6 (yv.out.block _ _ _ _ jR.out);obtain ⟨zz0,zz1,zz2,zz3,zz4⟩:=B9 (yv.out.block _ _ _ _ ki.out);obtain ⟨uu0,uu1⟩:=B3 (yv.out.block _ _ _ _ kv.out);have kr:=jp.out.om.look (k:=tt) (by omega);rw [jy.out] at kr;clear ys yp kt ke yQ k9 jP y7
              go_wp2_with fail
              clear Yi YE kr zz0 zz1 zz2 zz3 zz4 uu0 uu1 yO jM z0 z1 z2 z3 z4 u0 u1;have j8:=A6 (jp.out.at_ tt kO q2 jy.out);have Kq:=jU.out.bnd.len tt;by_cases jI:∃ old,look (M3 tt) (d0,n')=some old∧old≤c+c0
              ·obtain ⟨old,kG,kF⟩:=jI;have jJ:=KP (c:=c+c0) j8.out j9.out (by omega) (by omega) kG kF;rw [show ((c+c0:Nat):Int)=(c:Int)+(c0:Int) by omega] at jJ;refine jJ.mono ?_;clear jJ;rintro e w16 ⟨rfl,jw⟩;have jW:=A6 (jU.out.no km.out kN.out (old:=old) (by show look (M3 (a+inp.size)) _=_;rw [Js.out];exact kG) kF);have jb:=A6 (jp.out.ext jw);have jn:=A6 (jV.out.below jw);have jm:=A6 ((Below.block jw _ (A9.1 jQ.out).1).trans jQ.out);obtain ⟨k0,k1,k2,k3,k4,k5⟩:=Bm (j7.out w16 jb.out.bl);have jq:=jb.out.om.look (k:=tt) (by omega);rw [jy.out] at jq;have jH:(Builtin.len_ #[91] 3 #[.map (some q2)]).run Tryz.prog w16=.ok (.int .i64 ((M3 tt).length:Int)) w16:=(jb.out.at_ tt kO q2 jy.out).run_len Bx _;have j1:¬ (mo:Int)<((M3 tt).length:Int):=by have:=kM.out;omega
               clear jw kG kF Kq
               go_wp2_with fail
               go_roundg (S.rules.length - (k+1))
               case measure=>have:=jx.out;omega
               case rel=>exact ⟨k+1,O4,M3,by go_num,jF,rfl,jb.out,jT.out,jW.out,jn.out,jm.out,kj.out⟩
              ·have kT:Hid (∀ x,look (M3 tt) (d0,n')=some x→c+c0<x):=fun x hx=>Nat.lt_of_not_le fun h9=>jI ⟨x,hx,h9⟩;have jJ:=Ii (c:=c+c0) j8.out j9.out (by omega) (by omega) kT.out;rw [show ((c+c0:Nat):Int)=(c:Int)+(c0:Int) by omega] at jJ;refine jJ.mono ?_;clear jJ;rintro e w16 ⟨rfl,jZ,jv⟩;have kd:H9 S.rules (CD (bts inS)) (C1 (bts o)) a (o.size+1) (a*((8*(o.size+1)+1)*1000)) 1000 E (Bt M3 (a+inp.size) (d0,n') (c+c0)) (BU rest ((m,nd),c)) (k+1) ((m,nd),c):=jU.out.put y0.out km.out hz kN.out Yb yb (by show ∀ x,look (M3 (a+inp.size)) _=some x→_;rw [Js.out];exact kT.out);rw [Js.out] at kd;have jb:Hid (E9 w1 w1.heap.size a O4 (Bt M3 tt (d0,n') (c+c0)) w16):=jp.out.inner jy.out (by show MpG CB w16 q2 (Bt M3 tt (d0,n') (c+c0) tt);unfold Bt;rw [if_pos rfl];exact jZ) jv (fun k hk=>by unfold Bt;rw [if_neg (by omega)]);have jn:Hid (RgG CB w16 q gr E (BU rest ((m,nd),c))):=jV.out.kept jv (fun e=>by injection e with e;have h1:=jp.out.inj a tt q jT.out (by rw [e];exact jy.out);have:=Js.out;omega) (fun e=>by injection e with e;exact j8.out.ne_iter jV.out.iter e.symm);have jm:=A6 ((jv.kc j8.out).block _ _ _ _ jQ.out);obtain ⟨M4,k8⟩:∃ M4,Bt M3 tt (d0,n') (c+c0)=M4:=⟨_,rfl⟩
               rw [k8] at kd jb;have kV:=A6 kd;obtain ⟨k0,k1,k2,k3,k4,k5⟩:=Bm (j7.out w16 jb.out.bl);have jq:=jb.out.om.look (k:=tt) (by omega);rw [jy.out] at jq;have jH:(Builtin.len_ #[91] 3 #[.map (some q2)]).run Tryz.prog w16=.ok (.int .i64 ((M4 tt).length:Int)) w16:=(jb.out.at_ tt kO q2 jy.out).run_len Bx _;have j1:¬ (mo:Int)<((M4 tt).length:Int):=by have:=kM.out;have:=kV.out.bnd.len tt;omega
               clear jZ jv k8 kd Kq jI
               go_wp2_with fail
               go_roundg (S.rules.length - (k+1))
               case measure=>have:=jx.out;omega
               case rel=>exact ⟨k+1,O4,M4,by go_num,jF,rfl,jb.out,jT.out,kV.out,jn.out,jm.out,kj.out⟩
             ·rw [jP] at jM;have yO:=map_some q2;have jG:=A6 jP;clear jP
              go_wp2_with fail
              clear yO jM z0 z1 z2 z3 z4 u0 u1;have j8:=A6 (jf.out.at_ tt kO q2 jG.out);have Kq:=jU.out.bnd.len tt;by_cases jI:∃ old,look (M3 tt) (d0,n')=some old∧old≤c+c0
              ·obtain ⟨old,kG,kF⟩:=jI;have jJ:=KP (c:=c+c0) j8.out j9.out (by omega) (by omega) kG kF;rw [show ((c+c0:Nat):Int)=(c:Int)+(c0:Int) by omega] at jJ;refine jJ.mono ?_;clear jJ;rintro e w16 ⟨rfl,jw⟩;have jW:=A6 (jU.out.no km.out kN.out (old:=old) (by show look (M3 (a+inp.size)) _=_;rw [Js.out];exact kG) kF);have jb:=A6 (jf.out.ext jw);have jn:=A6 (jB.out.below jw);have jm:=A6 ((Below.block jw _ (A9.1 jR.out).1).trans jR.out);obtain ⟨k0,k1,k2,k3,k4,k5⟩:=Bm (j7.out w16 jb.out.bl);have jq:=jb.out.om.look (k:=tt) (by omega);rw [jG.out] at jq;have jH:(Builtin.len_ #[91] 3 #[.map (some q2)]).run Tryz.prog w16=.ok (.int .i64 ((M3 tt).length:Int)) w16:=(jb.out.at_ tt kO q2 jG.out).run_len Bx _;have j1:¬ (mo:Int)<((M3 tt).length:Int):=by have:=kM.out;omega
               clear jw kG kF Kq
               go_wp2_with fail
               go_roundg (S.rules.length - (k+1))
               case measure=>have:=jx.out;omega
               case rel=>exact ⟨k+1,O3,M3,by go_num,jF,rfl,jb.out,jk.out,jW.out,jn.out,jm.out,jz.out⟩
              ·have kT:Hid (∀ x,look (M3 tt) (d0,n')=some x→c+c0<x):=fun x hx=>Nat.lt_of_not_le fun h9=>jI ⟨x,hx,h9⟩;have jJ:=Ii (c:=c+c0) j8.out j9.out (by omega) (by omega) kT.out;rw [show ((c+c0:Nat):Int)=(c:Int)+(c0:Int) by omega] at jJ;refine jJ.mono ?_;clear jJ;rintro e w16 ⟨rfl,jZ,jv⟩;have kd:H9 S.rules (CD (bts inS)) (C1 (bts o)) a (o.size+1) (a*((8*(o.size+1)+1)*1000)) 1000 E (Bt M3 (a+inp.size) (d0,n') (c+c0)) (BU rest ((m,nd),c)) (k+1) ((m,nd),c):=jU.out.put y0.out km.out hz kN.out Yb yb (by show ∀ x,look (M3 (a+inp.size)) _=some x→_;rw [Js.out];exact kT.out);rw [Js.out] at kd;have jb:Hid (E9 w1 w1.heap.size a O3 (Bt M3 tt (d0,n') (c+c0)) w16):=jf.out.inner jG.out (by show MpG CB w16 q2 (Bt M3 tt (d0,n') (c+c0) tt);unfold Bt;rw [if_pos rfl];exact jZ) jv (fun k hk=>by unfold Bt;rw [if_neg (by omega)]);have jn:Hid (RgG CB w16 q gr E (BU rest ((m,nd),c))):=jB.out.kept jv (fun e=>by injection e with e;have h1:=jf.out.inj a tt q jk.out (by rw [e];exact jG.out);have:=Js.out;omega) (fun e=>by injection e with e;exact j8.out.ne_iter jB.out.iter e.symm);have jm:=A6 ((jv.kc j8.out).block _ _ _ _ jR.out);obtain ⟨M4,k8⟩:∃ M4,Bt M3 tt (d0,n') (c+c0)=M4:=⟨_,rfl⟩
               rw [k8] at kd jb;have kV:=A6 kd;obtain ⟨k0,k1,k2,k3,k4,k5⟩:=Bm (j7.out w16 jb.out.bl);have jq:=jb.out.om.look (k:=tt) (by omega);rw [jG.out] at jq;have jH:(Builtin.len_ #[91] 3 #[.map (some q2)]).run Tryz.prog w16=.ok (.int .i64 ((M4 tt).length:Int)) w16:=(jb.out.at_ tt kO q2 jG.out).run_len Bx _;have j1:¬ (mo:Int)<((M4 tt).length:Int):=by have:=kM.out;have:=kV.out.bnd.len tt;omega
               clear jZ jv k8 kd Kq jI
               go_wp2_with fail
               go_roundg (S.rules.length - (k+1))
               case measure=>have:=jx.out;omega
               case rel=>exact ⟨k+1,O3,M4,by go_num,jF,rfl,jb.out,jk.out,kV.out,jn.out,jm.out,jz.out⟩
         ·have Yo:Hid (¬ frm=(m:Int)):=yD;have jW:=A6 (jU.out.skip km.out fun _=>MM (.inl yD));refine B4 (by kernel_rfl) (Vs [vq (.pointer (some ⟨g11,2,none⟩)),vq (.string inp),vq (.bool false),vq (.bool false),vq (.pointer (some ⟨g11,0,none⟩)),vq (.int .i64 frm),vq (.pointer (some ⟨gw,3,none⟩)),vq (.func (.func 41) #[] #[]),vq (.agg #[.int .i64 (m:Int),.int .i64 (nd:Int)]),vq (.int .i64 (m:Int)),vq (.bool true),vq (.bool true),vq (.bool true),vq (undef),vq (undef),vq (undef),vq (undef),vq (undef),vq (undef),vq (undef),vq (.bool true)]) (Xs []) (fun fL=>(fun W=>Ext w11 W) ) [0,1,3,7,15,31,15,79,15,463,1023,2047,4095,8191,8191,32767,8191,73727,262143,524287,1048575] 122 21 (by kernel_rfl) rfl ?hV ?hS ?hop ?hfin ?hlast
          case hV =>
           refine BC (Av (by simp only [Aj,List.not_mem_nil,or_false,forall_eq_or_imp,forall_eq];and_intros <;> exact An _)) ?_;exact trivial
          case hS =>
           intro fL hf;show (fun W=>Ext w11 W)  _
           first | exact Ext.refl _ | exact Bh _
          case hop =>
           refine ⟨?_,?_,?_,?_,?_,?_,?_,?_,?_,?c9,?_,?_,?_,?_,?_,?_,?_,?_,?_,?_,?_,trivial⟩
           all_goals first | rw [if_neg (by decide)] | rw [if_pos (by decide)]
           all_goals try intro ac W fL ji jC kE kz jd jc ja jL
           all_goals try have hS:(fun W=>Ext w11 W)  W:=jd
           all_goals try (
            have kK:=hS;obtain ⟨k0,k1,k2,k3,k4,k5⟩:=Bm (jr.out W hS);obtain ⟨z0,z1,z2,z3,z4⟩:=B9 ((Below.block hS g11 (A9.1 jg.out).1).trans jg.out);obtain ⟨x0,x1⟩:=B3 ((Below.block hS g9 (A9.1 je.out).1).trans je.out);have yP:=kU.out;have hfm9:=Yo.out;clear kK)
           all_goals try have yL:=gdA ac 3 (.pointer (some ⟨gw,0,none⟩)) (ja 3 (by kernel_rfl))
           all_goals try have kC:=gdA ac 11 (.pointer (some ⟨g9,0,none⟩)) (ja 11 (by kernel_rfl))
           all_goals try have kD:=gdA ac 14 (.pointer (some ⟨g11,0,none⟩)) (ja 14 (by kernel_rfl))
           all_goals try have yK:=gdA ac 2 (.string inS) (ja 2 (by kernel_rfl))
           all_goals try have yM:=gdA ac 9 (.int .i64 (a:Int)) (ja 9 (by kernel_rfl))
           all_goals try (have jc:=DN jc;simp [D8,Aq,vq] at jc)
           all_goals try clear ja kE kz jL
           case c9 =>
            have Jx:(fun W=>Ext w11 W)  W:=jd;refine B2 (j:=3) (d:=54) (b:=false) rfl (by kernel_rfl) (by simp only [jc]) rfl (.inr ⟨41,#[.agg #[.int .i64 (m:Int),.int .i64 (nd:Int)]],W,by (clear ji hS jd Jx jC;simp [go_sem,Act.eval, *]),?_⟩);refine (KQ m nd W).mono ?_;rintro e w' ⟨rfl,hb⟩;exact ⟨_,rfl,⟨rfl,hb,Ext.trans jd hb⟩⟩
           all_goals try (refine B2 (j:=3) (d:=54) (b:=false) rfl (by kernel_rfl) (by simp only [jc]) rfl (.inl ⟨_,W,?_,rfl,Ext.refl _,jd⟩);clear ji hS jd jC;simp [go_sem,Act.eval, *];done)
           all_goals try exact C2 (j:=12) (d:=63) (b:=true) rfl (by kernel_rfl) (by simp only [jc]) rfl ⟨rfl,jd⟩
           all_goals (refine Ao rfl (.inl ⟨_,W,?_,rfl,Ext.refl _,jd⟩);clear ji hS jd jC;simp [go_sem,Act.eval, *];done)
          case hlast =>
           intro h;exact absurd rfl h
          case hfin =>
           intro _ ac W ji jY fL hf jd hv ja;have hS:(fun W=>Ext w11 W)  W:=jd;clear jd;obtain ⟨sx,jK,j5⟩:=Aw [51,52,53,54,55,56,57,58,59,60,61,62,63,64,65,66,67,68,69,70,71] (by kernel_rfl) ji jY ja;have e62:sx 62=.bool true:=(jK 62).trans (hv 11 (by decide));have e71:sx 71=.bool true:=(jK 71).trans (hv 20 (by decide));rw [j5];simp only [List.foldl];rw [e62,e71];clear e62 e71;simp only [Act.put,List.setIfInBounds_toArray,List.set_cons_succ,List.set_cons_zero];clear j5 jK hv ja ji jY hf;have jt:Hid (Ext w11 W):=hS;clear hS
           go_wp2_with fail
           go_roundg (S.rules.length - (k+1))
           case measure=>have:=jx.out;omega
           case rel=>exact ⟨k+1,O3,M3,by go_num,jF,rfl,jo.out.ext jt.out,jk.out,jW.out,jA.out.below jt.out,(Below.block jt.out _ (A9.1 je.out).1).trans je.out,jz.out⟩
       ·have Ye:=jU.out.leave (Nat.le_of_not_lt jF);have Ys:=A6 Ye;clear Ye
        go_wp2_with fail
        go_roundg (BU rest ((m,nd),c)).length
        case measure=>have:=kN.out;have:=Yp.out;omega
        case rel=>exact ⟨O3,M3,_,jj.out,jk.out,Ys.out,kl.out,rfl,yx.out,jz.out⟩
  ·have Yu:a=inS.size:=by omega
   subst Yu;have kQ:=jj.out.om.look (k:=inS.size) (by omega);have kh:Ext w wr:=Ext.trans k6.out yw.out;rcases ju:look O inS.size with _ | q
   ·rw [ju] at kQ;have jk:=A6 ju;clear ju
    go_wp2_with fail
    refine (KR S b cR go mo wr).mono ?_;rintro e w6 ⟨rfl,yS⟩;have kA:UW S.rules (CD (bts inS)) (bts o) w (.returned (.tuple #[.map none,.bool true])) w6:=by
     have hL:(CD (bts inS)).length=inS.size:=by simp [CD,bts]
     have Yd:=jj.out.no _ (A7 _) jk.out;refine ⟨M,none,rfl,fun q h=>(by cases h),fun _=>(by rw [hL];exact Yd),(by rw [hL];exact jS.out),?_,(by rw [hL];exact jN.out.keys _),(by rw [hL];exact jN.out.rng _),Ext.trans kh yS⟩;refine LX fun t c r t' d hz hc jl=>?_;rw [hL,Yd] at hc;cases hc
    go_wp2_with fail
    refine bodyPost_end (results_tmp2 rfl _ _ _) rfl ?_;exact kA
   ·rw [ju] at kQ;have jk:=A6 ju;clear ju
    go_wp2_with fail
    refine (settle_any S b cR go q inS.size mo (inS.size*((8*(o.size+1)+1)*1000)) 1000 o (bts inS) M wr (BL.later HR.out kh (A7 _)) y1 HF.out HO.out ?_ (AB kP (Below.size kh)) ho kM.out (jj.out.at_ _ (A7 _) q jk.out) jS.out jN.out (A7 _) (yt.out _ (A7 _))).mono ?_
    · exact (Below.cell kh (p:=⟨go,0,none⟩) kP).trans yu.out
    rintro e w6 ⟨rfl,M',jl⟩;have kA:UW S.rules (CD (bts inS)) (bts o) w (.returned (.tuple #[.map (some q),.bool true])) w6:=by
     have hL:(CD (bts inS)).length=inS.size:=by simp [CD,bts]
     have YB:=jj.out.ge _ _ jk.out;refine ⟨M',some q,rfl,fun q' h=>(by cases h;rw [hL];exact jl.map),fun h=>(by cases h),(by rw [hL];exact jl.inv),?_,(by rw [hL];exact jl.bnd.keys _),(by rw [hL];exact jl.bnd.rng _),?_⟩
     ·have h:=jl.she;refine LX (fun t=>?_);rw [hL];exact h t
     · exact Ext.trans k6.out (jj.out.bl.trans (jl.tn.below YB.1 jj.out.bl.size))
    go_wp2_with fail
    refine bodyPost_end (results_tmp2 rfl _ _ _) rfl ?_;exact kA
def V2 (S:Sch) (inS o:ByteArray) (w:World) (e:Ending) (w':World):Prop:=∃ v:Int,e=.returned (.int .i64 v)∧UQ S.rules S.acc (CD (bts inS)) (bts o) v∧Ext w w'
theorem KS {w:World} {g:Nat} {o:ByteArray} (h:w.heap[g]? = some (.cells #[.string o] 9 (0,0))):w.cell? ⟨g,0,none⟩=some (.string o):=by
 rw [cell_of_row w g 0 _ _ _ h];rfl
theorem PT {acc:Int} {n:Nat} {p:Stt × Nat} (h:p.1.2≠n∨DX acc p.1.1=false):¬ Ki acc n p:=fun ⟨h1,h2⟩=>by
 rcases h with h | h
 · exact h h1
 · rw [h] at h2;cases h2
theorem cost_o (
        S:Sch) (b:Option Addr) (cR:Nat) (inS o:ByteArray) (w:World) (hs:I9 w S b cR) (j8:inS.size≤40) (ko:FZ inS=true) (ho:o.size≤1000)
  (jf:∀ i,i≤inS.size→8*(o.size+1)*(i*((8*(o.size+1)+1)*1000)+(8*(o.size+1)+1)*1000+2)≤900000000000) :
  Calls Tryz.prog 24 #[.agg #[.int .i64 S.modes,.int .u8 S.acc,.slice b S.rules.length cR],.string inS,.string o] w fun e w'=>V2 S inS o w e w':=by
 have HS:=A6 hs;have ki:=A6 jf;clear hs jf
 go_enter Tryz.func24,Tryz.ntmps24
 go_upto_region 1 with fail
 obtain ⟨wa,jw⟩:∃ wa,w.alloc (.cells #[.int .i64 S.modes,.int .u8 S.acc,.slice b S.rules.length cR] 32)=wa:=⟨_,rfl⟩
 rw [jw];obtain ⟨w1,jC⟩:∃ w1,wa.alloc (.cells #[.string o] 9)=w1:=⟨_,rfl⟩
 rw [jC];have kf:Ext w wa:=by rw [← jw];exact (Below.refl _ _).alloc (A7 _) _
 have jR:Ext wa w1:=by rw [← jC];exact (Below.refl _ _).alloc (A7 _) _
 have kh:wa.heap.size=w.heap.size+1:=by rw [← jw];simp
 have jy:Hid (Ext w w1):=Ext.trans kf jR;have jK:wa.heap[w.heap.size]? = some (.cells #[.int .i64 S.modes,.int .u8 S.acc,.slice b S.rules.length cR] 32 (0,0)):=by rw [← jw];exact heap_alloc_new _ _
 have jL:w1.heap[w.heap.size+1]? = some (.cells #[.string o] 9 (0,0)):=by rw [← kh,← jC];exact heap_alloc_new _ _
 have jx:Hid (∀ W,Ext w1 W→W.heap[w.heap.size]? = some (.cells #[.int .i64 S.modes,.int .u8 S.acc,.slice b S.rules.length cR] 32 (0,0))):=fun W hx=>(Below.block (Ext.trans jR hx) _ (A9.1 jK).1).trans jK;have jl:Hid (∀ W,Ext w1 W→W.heap[w.heap.size+1]? = some (.cells #[.string o] 9 (0,0))):=fun W hx=>(Below.block hx _ (A9.1 jL).1).trans jL;obtain ⟨gs,j7⟩:∃ gs,w.heap.size=gs:=⟨_,rfl⟩
 rw [j7] at jx jl ⊢;clear jw jC kf jR kh jK jL j7;obtain ⟨d0,d1,d2⟩:=ER (jx.out w1 (Ext.refl _));have jX:=A6 (Tf S b cR w1 (HS.out.later jy.out (A7 _)))
 go_wp2_with fail
 refine jX.out.mono ?_;rintro e w2 ⟨rfl,kd⟩;have jz:Hid (Ext w1 w2):=kd;have jU:=A6 (Qg inS w2 j8 ko);clear kd jX d0 d1 d2
 go_wp2_with fail
 refine jU.out.mono ?_;rintro e w3 ⟨rfl,rfl⟩;clear jU;obtain ⟨d0,d1,d2⟩:=ER (jx.out w2 jz.out);have q0:w2.cell? ⟨gs+1,0,none⟩=some (.string o):=KS (jl.out w2 jz.out);obtain ⟨mo,Jx⟩:∃ mo,(o.size+1)*8=mo:=⟨_,rfl⟩
 have jO:IntKind.i64.wrap ((o.size:Int)+1)=(o.size:Int)+1:=IntWalk.i64_in _ (by omega);have jP:IntKind.i64.wrap (((o.size:Int)+1)*8)=(mo:Int):=by rw [IntWalk.i64_in _ (by omega)];omega
 have kk:=A6 Jx;clear Jx;obtain ⟨go,j6⟩:∃ go,gs+1=go:=⟨_,rfl⟩
 rw [j6] at jl q0 ⊢;have jt:go<w1.heap.size:=(A9.1 (jl.out w1 (Ext.refl _))).1;clear j6
 go_upto_region 4 with fail
 clear d0 d1 d2 q0 jO jP;obtain ⟨w3,jD⟩:∃ w3,w2.alloc (.cells #[.int .i64 S.modes,.int .u8 S.acc,.slice b S.rules.length cR,.func (.func 41) #[] #[],.func (.func 42) #[] #[.pointer (some ⟨go,0,none⟩)],.int .i64 (mo:Int)] 90)=w3:=⟨_,rfl⟩
 rw [jD];have jq:Hid (Ext w1 w3):=by show Ext _ _;rw [← jD];exact Ext.trans jz.out ((Below.refl _ _).alloc (A7 _) _)
 have j2:w3.heap[w2.heap.size]? = some (.cells #[.int .i64 S.modes,.int .u8 S.acc,.slice b S.rules.length cR,.func (.func 41) #[] #[],.func (.func 42) #[] #[.pointer (some ⟨go,0,none⟩)],.int .i64 (mo:Int)] 90 (0,0)):=by rw [← jD];exact heap_alloc_new _ _
 obtain ⟨k0,k1,k2,k3,k4,k5⟩:=Bm j2;obtain ⟨gk,js⟩:∃ gk,w2.heap.size=gk:=⟨_,rfl⟩
 rw [js] at k0 k1 k2 k3 k4 k5 ⊢;clear jD j2 js;have jB:=I9.schM (HS.out.later (Ext.trans jy.out jq.out) (A7 _));have kn:=HS.out.len;have jW:=A6 (run_any S b cR go mo 0 o inS w3 jB.rul (by omega) jB.fair jB.out ((Below.cell jq.out (p:=⟨go,0,none⟩) jt).trans (KS (jl.out w1 (Ext.refl _)))) (AB jt (Below.size jq.out)) ho kk.out.symm j8 ki.out);clear jB kn
 go_wp2_with fail
 clear k0 k1 k2 k3 k4 k5;refine jW.out.mono ?_;rintro e w4 ⟨M,v,rfl,hm,hn,ju,kb,hk,jj,ke⟩;have jH:Hid (Ext w1 w4):=Ext.trans jq.out ke;have hL:(CD (bts inS)).length=inS.size:=by simp [CD,bts]
 have jg:Hid (∀ v:Int,GY S.acc (bts o).length (M (CD (bts inS)).length) [] v→UQ S.rules S.acc (CD (bts inS)) (bts o) v):=fun v h=>UR ju kb hk h;obtain ⟨E,hE⟩:∃ E,M (CD (bts inS)).length=E:=⟨_,rfl⟩
 rw [hE] at hm hn hk jj jg;have HK:=A6 hk;have jG:=A6 jj;clear ke ju kb hk jj jW jq jz hE hL;cases v with
 | none =>
  have km:=hn rfl;subst km;have jN:(Instr.range 91 (.map none)).run Tryz.prog w4=.ok (.pointer (some ⟨w4.heap.size,0,none⟩)) (w4.alloc (.mapIter none 0 #[] 0)):=run_range_nilMap w4 _ _ _ Tryz.underlying91;have hnx:∀ ty,(Instr.next (.pointer (some ⟨w4.heap.size,0,none⟩)) false ty).run Tryz.prog (w4.alloc (.mapIter none 0 #[] 0))=.ok (.tuple #[.bool false]) (w4.alloc (.mapIter none 0 #[] 0)):=fun ty=>run_next_nilMap w4 ty 0 0 #[];have kl:Hid (Ext w (w4.alloc (.mapIter none 0 #[] 0))):=Ext.trans jy.out (Ext.trans jH.out ((Below.refl _ _).alloc (A7 _) _));clear hm hn
  go_wp2_with fail
  go_loopg [10] 0 (fun gm v10 wr=>v10=.int .i64 (-1)∧wr=w4.alloc (.mapIter none 0 #[] 0))
  case atStart=>exact ⟨rfl,rfl⟩
  case round =>
   obtain ⟨rfl,rfl⟩:=hrel
   go_wp2_with fail
   go_ret;exact ⟨_,rfl,jg.out _ (GY.start _ _ _),kl.out⟩
 | some q =>
  have Ji:=hm q rfl;clear hm hn
  go_wp2_with (at_range;refine D1 Bx Ji rfl _ rfl rfl ?_;intro w7 ji jJ ka)
  go_frame;have jY:Hid (Ext w1 w7):=Ext.trans jH.out jJ;obtain ⟨gr,jM⟩:∃ gr,w4.heap.size=gr:=⟨_,rfl⟩
  have kj:Hid (w1.heap.size≤gr):=by show _≤_;rw [← jM];exact jH.out.size
  rw [jM] at ji jJ ka ⊢;have jn:=A6 ji;clear ji jJ ka jM Ji
  go_loopg [10] E.length (fun gm v10 wr=>∃ (v:Int) (rest:Ent),v10=.int .i64 v∧GY S.acc (bts o).length E rest v∧RgG CB wr q gr E rest∧rest.length=gm∧Ext w1 wr)
  case atStart=>exact ⟨-1,E,rfl,GY.start _ _ _,jn.out,rfl,jY.out⟩
  case round =>
   clear jn jY;obtain ⟨v,rest,rfl,jv,jN,js,kg⟩:=hrel;have jb:=A6 jv;have jF:=A6 jN;have jm:=A6 js;have jI:=A6 kg;clear jv jN js kg
   go_wp2_with (at_next;refine wpList_next_g Bx jF.out rfl _ rfl rfl ?_ ?_)
   ·intro h0;subst h0
    go_wp2_with fail
    go_ret;exact ⟨_,rfl,jg.out _ jb.out,Ext.trans jy.out jI.out⟩
   ·intro
       m
        nd c w8 hp hrg8 hg8 hz8 hl8 hen8
    have Js:m<8∧nd<(bts o).length+1:=jG.out ((m,nd),c) (jF.out.sub _ hp);rw [BZ] at Js;have jV:=A6 (jF.out.sub _ hp);have jc:=A6 (Cp hp);have jo:=A6 hrg8;have jZ:Hid (Ext w1 w8):=Below.trans jI.out (Tn.below hg8 kj.out (Below.size jI.out));have j9:CB.val (m,nd)=.agg #[.int .i64 (m:Int),.int .i64 (nd:Int)]:=rfl;rw [j9] at hen8 ⊢;clear j9 hp hrg8 hg8 hl8 hz8
    go_upto_region 9 with fail
    obtain ⟨w9,jE⟩:∃ w9,w8.alloc (.cells #[.int .i64 (m:Int),.int .i64 (nd:Int)] 85)=w9:=⟨_,rfl⟩
    rw [jE];have jQ:Ext w8 w9:=by rw [← jE];exact (Below.refl _ _).alloc (A7 _) _
    have jh:w9.heap[w8.heap.size]? = some (.cells #[.int .i64 (m:Int),.int .i64 (nd:Int)] 85 (0,0)):=by rw [← jE];exact heap_alloc_new _ _
    have jp:Hid (RgG CB w9 q gr E (BU rest ((m,nd),c))):=jo.out.below jQ;have jA:Hid (Ext w1 w9):=Ext.trans jZ.out jQ;obtain ⟨g9,j5⟩:∃ g9,w8.heap.size=g9:=⟨_,rfl⟩
    rw [j5] at jh ⊢;obtain ⟨x0,x1⟩:=B3 jh;obtain ⟨d0,d1,d2⟩:=ER (jx.out w9 jA.out);have q0:w9.cell? ⟨go,0,none⟩=some (.string o):=KS (jl.out w9 jA.out);clear jE jQ j5 hen8 jZ jo jh;have j3:(bts o).length=o.size:=BZ o;by_cases j1:nd=o.size
    ·subst
        j1
     have j0:=Ni S b cR m w9 (by rw [HS.out.acc];decide) (by rw [HS.out.acc];decide) Js.1;have jS:=A6 j0;clear j0
     go_wp2_with fail
     clear x0 x1 d0 d1 d2 q0;refine jS.out.mono ?_;clear jS;rintro e w10 ⟨rfl,jk⟩;have je:Hid (Ext w1 w10):=Ext.trans jA.out jk;have ja:Hid (RgG CB w10 q gr E (BU rest ((m,o.size),c))):=jp.out.below jk;clear jk;obtain ⟨bA,jr⟩:∃ bA,DX S.acc m=bA:=⟨_,rfl⟩
     rw [jr];cases bA with
     | false =>
      have jd:=A6 (jb.out.skip (p:=((m,o.size),c)) (PT (.inr jr)));clear jr
      go_wp2_with fail
      go_roundg (BU rest ((m,o.size),c)).length
      case measure=>have:=jc.out;have:=jm.out;omega
      case rel=>exact ⟨v,_,rfl,jd.out,ja.out,rfl,je.out⟩
     | true =>
      have jT:Hid (Ki S.acc (bts o).length ((m,o.size),c)):=⟨j3.symm,jr⟩
      clear jr;by_cases kc:v<0
      ·have jd:=A6 (jb.out.take jV.out jT.out (.inl kc))
       go_wp2_with fail
       go_roundg (BU rest ((m,o.size),c)).length
       case measure=>have:=jc.out;have:=jm.out;omega
       case rel=>exact ⟨_,_,rfl,jd.out,ja.out,rfl,je.out⟩
      ·by_cases j4:(c:Int)<v
       ·have jd:=A6 (jb.out.take jV.out jT.out (.inr j4))
        go_wp2_with fail
        go_roundg (BU rest ((m,o.size),c)).length
        case measure=>have:=jc.out;have:=jm.out;omega
        case rel=>exact ⟨_,_,rfl,jd.out,ja.out,rfl,je.out⟩
       ·have jd:=A6 (jb.out.keep (p:=((m,o.size),c)) kc j4)
        go_wp2_with fail
        go_roundg (BU rest ((m,o.size),c)).length
        case measure=>have:=jc.out;have:=jm.out;omega
        case rel=>exact ⟨_,_,rfl,jd.out,ja.out,rfl,je.out⟩
    ·have hatI:((nd:Int) == (o.size:Int))=false:=by rw [beq_eq_false_iff_ne];omega
     have jd:=A6 (jb.out.skip (p:=((m,nd),c)) (PT (.inl (by rw [j3];exact j1))))
     go_wp2_with fail
     go_roundg (BU rest ((m,nd),c)).length
     case measure=>have:=jc.out;have:=jm.out;omega
     case rel=>exact ⟨v,_,rfl,jd.out,jp.out,rfl,jA.out⟩
end Go.Proofs.YthjmdgejnakcmaaGreatDoor
