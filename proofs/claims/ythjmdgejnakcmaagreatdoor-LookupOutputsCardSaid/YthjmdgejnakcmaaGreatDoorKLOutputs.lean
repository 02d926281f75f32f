/- LookupOutputs: the walk. -/
import Derived.Test.YthjmdgejnakcmaaGreatDoorMK6
import Derived.Test.YthjmdgejnakcmaaGreatDoorMK8
set_option maxHeartbeats 12800000
set_option maxRecDepth 100000
namespace Go.Proofs.YthjmdgejnakcmaaGreatDoor
open Go.RowKit Go.WideShapes Fl
set_option linter.unusedVariables false
set_option linter.unusedSimpArgs false
def OutV (R:List Rl) (acc:Int) (L:List Slt) (X:List UInt8) (v:Value) (_:World):Prop:=∃ z:Int,v=.int .i64 z∧UQ R acc L X z
theorem outV_stays (R:List Rl) (acc:Int) (L:List Slt) (X:List UInt8):CQ (OutV R acc L X):=fun v w w' h hx=>h
def OutI (l:List (Nat × Nat)) (i p:Nat):Prop:=p≤l.length∧∀ j (h:j<l.length),l[j].1<i↔j<p
theorem Qi {R:List Rl} {acc:Int} {L:List Slt} {W:List (List UInt8)} {n i p:Nat} {l:List (Nat × Nat)} {v:Int} (hn:n=L.length) (hk:Fh R acc L W n l) (hi:i<W.length) (h:OutI l i p) (hv:UQ R acc L W[i] v) :
  (v = -1∧(∀ hp:p<l.length,l[p].1≠i)∧OutI l (i+1) p)∨∃ c:Nat,v=(c:Int)∧(∃ hp:p<l.length,l[p]=(i,c))∧OutI l (i+1) (p+1):=by
 subst hn;obtain ⟨hp,h⟩:=h;have hs:∀ a b (ha:a<l.length) (hb:b<l.length),a<b→l[a].1<l[b].1:=fun a b ha hb jd=>List.pairwise_iff_getElem.1 hk.sorted a b ha hb jd;rcases hv with ⟨rfl,je⟩ | ⟨c,rfl,hl⟩
 ·have jc:∀ j (hj:j<l.length),l[j].1≠i:=fun j hj e=>by
   obtain ⟨_,h2⟩:=(hk.mem l[j].1 l[j].2).1 (AO hj);refine je l[j].2 ?_;have h3:=h2.1;simp only [e] at h3;exact h3
  refine .inl ⟨rfl,fun hp=>jc p hp,hp,fun j hj=>?_⟩;have h1:=h j hj;have h2:=jc j hj;omega
 ·obtain ⟨j,hj,ja⟩:=List.mem_iff_getElem.1 ((hk.mem i c).2 ⟨hi,hl⟩);have h1:=h j hj;rw [ja] at h1;have jf:p=j:=by
   rcases Nat.lt_trichotomy p j with h2 | h2 | h2
   ·have h3:=hs p j (by omega) hj h2;rw [ja] at h3;have h4:=(h p (by omega)).1 h3;omega
   · exact h2
   · simp only at h1;omega
  subst jf;refine .inr ⟨c,rfl,⟨hj,ja⟩,hj,fun k jb=>?_⟩;rcases Nat.lt_trichotomy k p with h2 | h2 | h2
  ·have h3:=hs k p jb hj h2;rw [ja] at h3;simp only at h3;omega
  · subst h2;rw [ja];simp only;omega
  ·have h3:=hs p k hj jb h2;rw [ja] at h3;simp only at h3;omega
theorem OutI.done {R:List Rl} {acc:Int} {L:List Slt} {W:List (List UInt8)} {n p:Nat} {l:List (Nat × Nat)} (hk:Fh R acc L W n l) (h:OutI l W.length p):p=l.length:=by
 obtain ⟨hp,h⟩:=h;rcases Nat.lt_or_ge p l.length with h1 | h1
 ·obtain ⟨h2,_⟩:=(hk.mem l[p].1 l[p].2).1 (AO h1);have:=(h p h1).1 h2;omega
 · omega
theorem fnd_lenO {R:List Rl} {acc:Int} {L:List Slt} {W:List (List UInt8)} {i:Nat} {l:List (Nat × Nat)} (h:Fh R acc L W i l):l.length≤W.length:=by
 have h1:(l.map (·.1)).Nodup:=by unfold List.Nodup;rw [Ai];exact h.sorted.imp fun h=>by omega
 have h2:=nodup_bound W.length _ h1 fun z hz=>by
  obtain ⟨⟨q,c⟩,hp,rfl⟩:=AP.1 hz;exact ((h.mem q c).1 hp).1
 rwa [AW] at h2
theorem idx_fndO (a:Option Addr) (b o n c k:Nat) (ha:a=some ⟨b,o,none⟩) (hk:k<n) (w:World):(Instr.indexAt 48 (.slice a n c) (.int .i64 (k:Int))).run Tryz.prog w=.ok (.pointer (some ⟨b,o+k*2,none⟩)) w:=by
 subst ha;have h0:(0:Int)≤(k:Int):=by omega
 have h1:(k:Int)<(n:Int):=by omega
 simp [go_sem,h0,h1]
theorem small_of {s:ByteArray} (h:∀ c∈bts s,97≤c.toNat∧c.toNat≤99):FZ s=true:=by
 unfold FZ Nq;rw [List.all_eq_true];intro c hc;have h1:=h c hc;rcases (show (c.toNat:Int)=97∨(c.toNat:Int)=98∨(c.toNat:Int)=99 by omega) with e | e | e <;> rw [e] <;> decide
theorem inpF_small (Z:Nat→Int) (n:Nat):FZ (Ng Z n)=true:=small_of fun c hc=>by
 rw [Up] at hc;unfold Nf at hc;obtain ⟨i,_,rfl⟩:=AP.1 hc;exact UJ _
theorem cost_bnd {n:Nat} (hn:n≤20) {k:Nat} (hk:k≤5):∀ i,i≤k→8*(n+1)*(i*((8*(n+1)+1)*1000)+(8*(n+1)+1)*1000+2)≤900000000000:=fun i hi=>by
 have h1:i*((8*(n+1)+1)*1000)≤5*(169*1000):=Nat.mul_le_mul (by omega) (by omega);have h2:8*(n+1)*(i*((8*(n+1)+1)*1000)+(8*(n+1)+1)*1000+2)≤168*(5*(169*1000)+169*1000+2):=Nat.mul_le_mul (by omega) (by omega);omega
def AutVO (Ws:List ByteArray) (v:Value) (w:World):Prop:=∃ a n c,v=.slice a n c∧IZ w a n c Ws
theorem autVO_stays (Ws:List ByteArray):CQ (AutVO Ws):=by
 rintro v w w' ⟨a,n,c,h1,h2⟩ hx;exact ⟨a,n,c,h1,h2.go hx⟩
theorem autVO_of {Ws:List ByteArray} {w w':World} {e:Ending} (hd:Cz Ws) (h:Td (ofF (Ax 0 Ws)) w e w'):∃ v,e=.returned v∧AutVO Ws v w'∧Below w.heap.size w w':=by
 obtain ⟨a,c,he,hc,hr,hb⟩:=h;exact ⟨_,he,⟨a,_,c,rfl,hd,rfl,hc,hr⟩,hb⟩
theorem lookupOutputs_view (x:PL) (y:S8) (w:World) (hx:CaseOk w x) (hy:Tq w y) (hT:Tab w) :
  Calls Tryz.prog 8 #[x.val,y.val] w fun e w'=>e=.returned (.bool true)∧Below w.heap.size w w':=by
 obtain ⟨⟨M,A,ra,rl,rc,rQ⟩,⟨wa,wl,wc,wQ⟩,⟨la,ll,lc,lZ⟩⟩:=x;obtain ⟨⟨kc,kd,Jx,ka,jm⟩,⟨j3,kt⟩,⟨jv,kK⟩⟩:=hx;simp only at kc kd Jx ka jm j3 kt jv kK;have kx:=A6 jm;have kz:=A6 j3;have HLB:=A6 jv;have HT:=A6 hT;clear jm j3 jv hT;simp only [PL.val];obtain ⟨ya,yl,yc,yZ⟩:=y;obtain ⟨j4,kv⟩:=hy;simp only at j4 kv;have kE:=A6 j4;clear j4;simp only [S8.val]
 go_enter Tryz.func8,Tryz.ntmps8
 go_wp2_with fail
 obtain ⟨w1,jE⟩:∃ w1,w.alloc (.cells #[.int .u8 M,.int .u8 A,.slice ra rl rc,.slice wa wl wc,.slice la ll lc] 28)=w1:=⟨_,rfl⟩
 rw [jE];have jB:Hid (Ext w w1):=by show Ext _ _;rw [← jE];exact (Below.refl _ _).alloc (A7 _) _
 have jT:w1.heap[w.heap.size]? = some (.cells #[.int .u8 M,.int .u8 A,.slice ra rl rc,.slice wa wl wc,.slice la ll lc] 28 (0,0)):=by rw [← jE];exact heap_alloc_new _ _
 have jI:Hid (∀ W,Ext w1 W→W.heap[w.heap.size]? = some (.cells #[.int .u8 M,.int .u8 A,.slice ra rl rc,.slice wa wl wc,.slice la ll lc] 28 (0,0))):=fun W hx=>(Below.block hx _ (A9.1 jT).1).trans jT;clear jE jT;obtain ⟨gx,kn⟩:∃ gx,w.heap.size=gx:=⟨_,rfl⟩
 rw [kn] at jI ⊢;clear kn;refine (sanity_any w1 (HT.out.later jB.out)).mono ?_;rintro e w2 ⟨rfl,kg⟩;have jN:Hid (Ext w1 w2):=kg;clear kg;obtain ⟨p0,p1,p2,p3,p4⟩:=cells5 (jI.out w2 jN.out)
 go_wp2_with fail
 clear p0 p1 p2 p3 p4;refine (Uj M A ra rl rc rQ w2 kc kd Jx ka ((kx.out.later jB.out (A7 _)).later jN.out (A7 _))).mono ?_;rintro e w3 ⟨S,b,cS,rfl,jl,kh⟩;have kA:Hid (Ext w1 w3):=Ext.trans jN.out kh;have j9:=A6 jl;clear kh jl
 go_upto_region 3 with fail
 obtain ⟨w4,jF⟩:∃ w4,w3.alloc (.cells #[.int .i64 S.modes,.int .u8 S.acc,.slice b S.rules.length cS] 32)=w4:=⟨_,rfl⟩
 rw [jF];have jG:Ext w3 w4:=by rw [← jF];exact (Below.refl _ _).alloc (A7 _) _
 have jn:w4.heap[w3.heap.size]? = some (.cells #[.int .i64 S.modes,.int .u8 S.acc,.slice b S.rules.length cS] 32 (0,0)):=by rw [← jF];exact heap_alloc_new _ _
 have jM:Hid (∀ W,Ext w4 W→W.heap[w3.heap.size]? = some (.cells #[.int .i64 S.modes,.int .u8 S.acc,.slice b S.rules.length cS] 32 (0,0))):=fun W hx=>(Below.block hx _ (A9.1 jn).1).trans jn;have ky:Hid (∀ W,Ext w4 W→KJ W S b cS):=fun W hx=>((I9.schM j9.out).go jG).go hx;have jP:Hid (Ext w1 w4):=Ext.trans kA.out jG;have jO:Hid (Ext w3 w4):=jG;clear jF jG jn;obtain ⟨gs,km⟩:∃ gs,w3.heap.size=gs:=⟨_,rfl⟩
 rw [km] at jM ⊢;clear km;obtain ⟨p0,p1,p2,p3,p4⟩:=cells5 (jI.out w4 jP.out)
 go_wp2_with fail
 clear p0 p1 p2 p3 p4;refine (dictionary13_any wQ wa wl wc 10 w4 ((kz.out.later jB.out (A7 _)).later jP.out (A7 _)) kt (by decide)).mono ?_;rintro e w5 ⟨bd,od,cd,rfl,j2,kj,jS⟩;have jU:=Uq wQ wl 10 (by decide);have kG:=V3 wQ wl 10 (by decide);obtain ⟨Ws,ke⟩:∃ Ws,If wQ wl 10=Ws:=⟨_,rfl⟩
 rw [ke] at j2 kj jU kG ⊢;have j8:Hid (∀ W,Ext w5 W→Bz W (some ⟨bd,od,none⟩) Ws):=fun W hx=>j2.later hx (A7 _);have jJ:=A6 jU;have kB:Hid (Ext w1 w5):=Ext.trans jP.out jS;have jA:Hid (Ext w4 w5):=jS;clear j2 jU ke jS;have H5:Hid (Ext w w5):=Ext.trans jB.out kB.out
 go_wp2_with fail
 refine (input_any yZ ya yl yc 5 w5 (kE.out.later H5.out (A7 _)) kv (by decide)).mono ?_;rintro e w7 ⟨rfl,ki⟩;have Ji:Hid (Ext w5 w7):=ki;have ko:(Ng yZ (min yl 5)).size≤5:=by rw [UX];omega
 have j6:=A6 (inpF_small yZ (min yl 5));obtain ⟨s,hs⟩:∃ s,Ng yZ (min yl 5)=s:=⟨_,rfl⟩
 rw [hs] at ko j6 ⊢;clear hs ki
 go_wp2_with fail
 refine B4 (by kernel_rfl) (Vs [vq (.agg #[.int .i64 S.modes,.int .u8 S.acc,.slice b S.rules.length cS]),vq (.slice (some ⟨bd,od,none⟩) Ws.length cd),AutVO Ws,vq (.string s),Qb s,FnS S.rules S.acc (DZ s) (Ws.map bts) (DZ s).length,FnS S.rules S.acc (DZ s) (Ws.map bts) (DZ s).length]) (Xs []) (fun fL=>(fun W=>Ext w7 W) ) [0,0,2,0,8,31,63] 81 7 (by kernel_rfl) rfl ?hV ?hS ?hop ?hfin ?hlast
 case hV =>
  refine BC (Av (by simp only [Aj,List.not_mem_nil,or_false,forall_eq_or_imp,forall_eq];exact ⟨An _,An _,autVO_stays _,An _,KN _,LV _ _ _ _ _,LV _ _ _ _ _⟩)) ?_;exact trivial
 case hS =>
  intro fL hf;show (fun W=>Ext w7 W)  _
  first | exact Ext.refl _ | exact Bh _
 case hop =>
  refine ⟨?_,?_,?c2,?_,?c4,?c5,?c6,trivial⟩
  all_goals first | rw [if_neg (by decide)] | rw [if_pos (by decide)]
  all_goals try intro ac W fL jd jk jX jV jb jc ja jo
  all_goals try have hS:(fun W=>Ext w7 W)  W:=jb
  all_goals try (
   have jh:Ext w5 W:=Ext.trans Ji.out hS;obtain ⟨d0,d1,d2⟩:=ER (jM.out W (Ext.trans jA.out jh)))
  all_goals try have kH:=gdA ac 6 (.pointer (some ⟨gs,0,none⟩)) (ja 6 (by kernel_rfl))
  all_goals try have kI:=gdA ac 7 (.slice (some ⟨bd,od,none⟩) Ws.length cd) (ja 7 (by kernel_rfl))
  all_goals try have kJ:=gdA ac 8 (.string s) (ja 8 (by kernel_rfl))
  all_goals try have d25:(AutVO Ws) (ac.tmps.getD 25 undef) W:=jc 2 (by decide)
  all_goals try have d27:(Qb s) (ac.tmps.getD 27 undef) W:=jc 4 (by decide)
  all_goals try have d28:(FnS S.rules S.acc (DZ s) (Ws.map bts) (DZ s).length) (ac.tmps.getD 28 undef) W:=jc 5 (by decide)
  all_goals try (have jc:=DN jc;simp [D8,Aq,vq] at jc)
  all_goals try clear ja jX jV jo
  case c2 =>
   have je:(fun W=>Ext w7 W)  W:=jb;refine Ao rfl (.inr ⟨11,#[.slice (some ⟨bd,od,none⟩) Ws.length cd],W,by (clear jd hS jb je jk jh;simp [go_sem,Act.eval, *]),?_⟩);refine (UY Ws Ws.length (some ⟨bd,od,none⟩) cd W (j8.out W jh) rfl kj jJ.out).mono ?_;rintro e w' hp;obtain ⟨v,rfl,hv,hb⟩:=autVO_of jJ.out hp;exact ⟨_,rfl,⟨hv,hb,Ext.trans jb hb⟩⟩
  case c4 =>
   have je:(fun W=>Ext w7 W)  W:=jb;refine Ao rfl (.inr ⟨15,#[.string s],W,by (clear jd hS jb je jk jh;simp [go_sem,Act.eval, *]),?_⟩);refine (rtyped_any s W (by omega)).mono ?_;rintro e w' ⟨hp,hb⟩;obtain ⟨v,rfl,hv⟩:=PJ hp (by omega);exact ⟨_,rfl,⟨hv,hb,Ext.trans jb hb⟩⟩
  case c5 =>
   have je:(fun W=>Ext w7 W)  W:=jb;obtain ⟨aD,nD,cD,eD,kb⟩:=d25;rw [A8] at eD;obtain ⟨at9,ct9,et9,kq⟩:=d27;rw [A8] at et9;refine Ao rfl (.inr ⟨21,#[.agg #[.int .i64 S.modes,.int .u8 S.acc,.slice b S.rules.length cS],.slice aD nD cD,.slice at9 s.size ct9],W,by (clear jd hS jb je jk kq kb jh;simp [go_sem,Act.eval, *]),?_⟩);have h9:=PI (ky.out W (Ext.trans jA.out jh)) kb (by omega) kq;rw [Eh] at h9;refine h9.mono ?_;rintro e w' hp;obtain ⟨v,rfl,hv,hb⟩:=Sa hp;exact ⟨_,rfl,⟨(by rw [Eh];exact hv),hb,Ext.trans jb hb⟩⟩
  case c6 =>
   have je:(fun W=>Ext w7 W)  W:=jb;refine Ao rfl (.inl ⟨_,W,?_,d28,Ext.refl _,je⟩);clear jd hS jb je jk;simp [go_sem,Act.eval, *]
  all_goals (refine Ao rfl (.inl ⟨_,W,?_,rfl,Ext.refl _,jb⟩);clear jd hS jb jk;simp [go_sem,Act.eval, *];done)
 case hlast =>
  intro h;exact absurd rfl h
 case hfin
      =>
  intro _ ac W jd js fL hf jb hv ja;have hS:(fun W=>Ext w7 W)  W:=jb;clear jb;obtain ⟨sx,jy,jx⟩:=Aw [23,24,25,26,27,28,9] (by kernel_rfl) jd js ja;have kL:FnS S.rules S.acc (DZ s) (Ws.map bts) (DZ s).length (ac.tmps.getD 9 undef) W:=hv 6 (by decide);obtain ⟨a9,c9,lb,e9v,kk,ju, -⟩:=kL;have e9:sx 9=.slice a9 lb.length c9:=(jy 9).trans e9v;have j5:=A6 kk;have jL:=A6 ju;clear e9v kk ju;rw [jx];simp only [List.foldl];simp only [Act.put,List.setIfInBounds_toArray,List.set_cons_succ,List.set_cons_zero];clear jx jy hv ja jd js hf;have Js:Hid (Ext w7 W):=hS;rw [e9];clear hS;obtain ⟨w8,kr⟩:∃ w8:World,w8=W:=⟨W,rfl⟩
  rw [← kr] at Js j5 ⊢;clear kr e9;have jH:Hid (Ext w5 w8):=Ext.trans Ji.out Js.out;have jv:=fnd_lenO jL.out.toFh;rw [AW] at jv
  go_wp2_with fail
  go_loopg [10,11] Ws.length (fun g v10 v11 wr=>∃ i p:Nat,v10=.int .i64 (p:Int)∧v11=.int .i64 (i:Int)∧i≤Ws.length∧g=Ws.length - i∧OutI lb i p∧Ext w8 wr)
  case atStart=>exact ⟨0,0,rfl,rfl,Nat.zero_le _,rfl,⟨Nat.zero_le _,fun j hj=>by omega⟩,Ext.refl _⟩
  case round =>
   obtain ⟨i,p,rfl,rfl,hi,kl,j0,ku⟩:=hrel;have hpl:=j0.1;have j7:=A6 j0;have jC:=A6 ku;have jK:=A6 kl;clear j0 ku kl;by_cases jD:i<Ws.length
   ·have jW:(i:Int)<(Ws.length:Int):=by omega
    have jt:=Cy (some ⟨bd,od,none⟩) bd od Ws.length cd i rfl jD;have kw:=A6 jt;obtain ⟨wq,kM⟩:∃ wq:World,wq=wr:=⟨wr,rfl⟩
    subst kM;have ks:Ws[i].size≤20:=(Eb (jJ.out.word _ (AO jD))).2.1;obtain ⟨X,hX⟩:∃ X,Ws[i]=X:=⟨_,rfl⟩
    have kD:Hid (∀ W,Ext wq W→W.cell? ⟨bd,od+i,none⟩=some (.string X)):=fun W hx=>by
     obtain ⟨b2,o2,e2,_,h2⟩:=(j8.out W (Ext.trans jH.out (Ext.trans jC.out hx))).at jD;injection e2 with e2;injection e2 with e3 e4;rw [e3,e4,h2,hX]
    rw [hX] at ks;have kC:=A6 hX;clear jt hX
    go_wp2_with fail
    refine B4 (by kernel_rfl) (Vs [vq (.agg #[.int .i64 S.modes,.int .u8 S.acc,.slice b S.rules.length cS]),vq (.string s),vq (.slice (some ⟨bd,od,none⟩) Ws.length cd),vq (.int .i64 (i:Int)),vq (.pointer (some ⟨bd,od+i,none⟩)),vq (.string X),OutV S.rules S.acc (DZ s) (bts X),OutV S.rules S.acc (DZ s) (bts X)]) (Xs []) (fun fL=>(fun W=>Ext wq W) ) [0,0,0,0,12,28,63,127] 81 8 (by kernel_rfl) rfl ?hV ?hS ?hop ?hfin ?hlast
    case hV =>
     refine BC (Av (by simp only [Aj,List.not_mem_nil,or_false,forall_eq_or_imp,forall_eq];exact ⟨An _,An _,An _,An _,An _,An _,outV_stays _ _ _ _,outV_stays _ _ _ _⟩)) ?_;exact trivial
    case hS =>
     intro fL hf;show (fun W=>Ext wq W)  _
     first | exact Ext.refl _ | exact Bh _
    case hop =>
     refine ⟨?_,?_,?_,?_,?_,?_,?c6,?c7,trivial⟩
     all_goals first | rw [if_neg (by decide)] | rw [if_pos (by decide)]
     all_goals try intro ac W fL jd jk jX jV jb jc ja jo
     all_goals try have hS:(fun W=>Ext wq W)  W:=jb
     all_goals try (
      have jh:Ext w5 W:=Ext.trans jH.out (Ext.trans jC.out hS);obtain ⟨d0,d1,d2⟩:=ER (jM.out W (Ext.trans jA.out jh));have q0:=kD.out W hS;have jt:=kw.out)
     all_goals try have kH:=gdA ac 6 (.pointer (some ⟨gs,0,none⟩)) (ja 6 (by kernel_rfl))
     all_goals try have kI:=gdA ac 7 (.slice (some ⟨bd,od,none⟩) Ws.length cd) (ja 7 (by kernel_rfl))
     all_goals try have kJ:=gdA ac 8 (.string s) (ja 8 (by kernel_rfl))
     all_goals try have hh11:=gdA ac 11 (.int .i64 (i:Int)) (ja 11 (by kernel_rfl))
     all_goals try have d41:(OutV S.rules S.acc (DZ s) (bts X)) (ac.tmps.getD 41 undef) W:=jc 6 (by decide)
     all_goals try (have jc:=DN jc;simp [D8,Aq,vq] at jc)
     all_goals try clear ja jX jV jo
     case c6 =>
      have je:(fun W=>Ext wq W)  W:=jb;refine Ao rfl (.inr ⟨24,#[.agg #[.int .i64 S.modes,.int .u8 S.acc,.slice b S.rules.length cS],.string s,.string X],W,by (clear jd hS jb je jk jh;simp [go_sem,Act.eval, *]),?_⟩);refine (cost_o S b cS s X W (j9.out.later (Ext.trans jO.out (Ext.trans jA.out jh)) (A7 _)) (by omega) j6.out (by omega) (cost_bnd ks ko)).mono ?_;rintro e w' ⟨z,rfl,hz,hb⟩;exact ⟨_,rfl,⟨⟨z,rfl,hz⟩,hb,Ext.trans jb hb⟩⟩
     case c7 =>
      have je:(fun W=>Ext wq W)  W:=jb;refine Ao rfl (.inl ⟨_,W,?_,d41,Ext.refl _,je⟩);clear jd hS jb je jk;simp [go_sem,Act.eval, *]
     all_goals (refine Ao rfl (.inl ⟨_,W,?_,rfl,Ext.refl _,jb⟩);clear jd hS jb jk;simp [go_sem,Act.eval, *];done)
    case hlast =>
     intro h;exact absurd rfl h
    case hfin =>
     intro _ ac W jd js fL hf jb hv ja;have hS:(fun W=>Ext wq W)  W:=jb;clear jb;obtain ⟨sx,jy,jx⟩:=Aw [35,36,37,38,39,40,41,12] (by kernel_rfl) jd js ja;have j1:OutV S.rules S.acc (DZ s) (bts X) (ac.tmps.getD 12 undef) W:=hv 7 (by decide);obtain ⟨z,e12v,hz⟩:=j1;have e12:sx 12=.int .i64 z:=(jy 12).trans e12v;have HZ:=A6 hz;clear e12v hz;rw [jx];simp only [List.foldl];simp only [Act.put,List.setIfInBounds_toArray,List.set_cons_succ,List.set_cons_zero];clear jx jy hv ja jd js hf;have jq:Hid (Ext wq W):=hS;rw [e12];clear hS;obtain ⟨w10,jz⟩:∃ w10:World,w10=W:=⟨W,rfl⟩
     rw [← jz] at jq ⊢;clear jz e12;have ji:Hid (Ext w8 w10):=Ext.trans jC.out jq.out;have kF:=Qi (v:=z) rfl jL.out.toFh (i:=i) (by rw [AW];exact jD) j7.out (by rw [List.getElem_map,kC.out];exact HZ.out);have jp:=A6 (j5.out.kp (Kc.of ji.out (A7 _)));clear jW;rcases kF with ⟨rfl,jY,jg⟩ | ⟨c,rfl,⟨jw,kf⟩,jg⟩
     ·have jj:=A6 jg;clear jg;by_cases jQ:p<lb.length
      ·have jr:(p:Int)<(lb.length:Int):=by omega
       obtain ⟨b11,o11,jf,jR,q0,q1⟩:=jp.out p jQ;have jt:=idx_fndO a9 b11 o11 lb.length c9 p jf jQ;have jZ:(((lb[p].1:Nat):Int) == (i:Int))=false:=by rw [beq_eq_false_iff_ne];have:=jY jQ;omega
       obtain ⟨k9,ju⟩:∃ k9,lb[p].1=k9:=⟨_,rfl⟩
       rw [ju] at q0 jZ;clear jY jf ju q1
       go_wp2_with fail
       go_roundg (Ws.length - (i+1))
       case measure=>have:=jK.out;omega
       case rel=>exact ⟨i+1,p,rfl,by go_num,by omega,rfl,jj.out,ji.out⟩
      ·have jr:¬ (p:Int)<(lb.length:Int):=by omega
       clear jY
       go_wp2_with fail
       go_roundg (Ws.length - (i+1))
       case measure=>have:=jK.out;omega
       case rel=>exact ⟨i+1,p,rfl,by go_num,by omega,rfl,jj.out,ji.out⟩
     ·have jj:=A6 jg;clear jg;have jr:(p:Int)<(lb.length:Int):=by omega
      obtain ⟨b11,o11,jf,jR,q0,q1⟩:=jp.out p jw;have jt:=idx_fndO a9 b11 o11 lb.length c9 p jf jw;rw [kf] at q0 q1;clear jf kf
      go_wp2_with fail
      go_roundg (Ws.length - (i+1))
      case measure=>have:=jK.out;omega
      case rel=>exact ⟨i+1,p+1,by go_num,by go_num,by omega,rfl,jj.out,ji.out⟩
   ·obtain rfl:i=Ws.length:=by omega
    have hp:p=lb.length:=OutI.done jL.out.toFh (by rw [AW];exact j7.out);subst hp
    go_wp2_with fail
    go_ret;exact ⟨rfl,Ext.trans H5.out (Ext.trans jH.out jC.out)⟩
end Go.Proofs.YthjmdgejnakcmaaGreatDoor
