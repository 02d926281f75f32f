/- Texts that the claims share: K14, K16, K17, K21, K22, K23, K24, K26, K25, K27, K28, K29, K30, K15, K18, K19, K20, K32. -/
import Derived.Deep.QuietTactic
import Derived.BigQuiet
import Derived.Test.YthjmdgejnakcmaaGreatDoorMK4
import Derived.Test.YthjmdgejnakcmaaGreatDoorMK3
import Derived.Test.YthjmdgejnakcmaaGreatDoorMK2
import Derived.Test.YthjmdgejnakcmaaGreatDoorMD6
import Derived.Test.YthjmdgejnakcmaaGreatDoorMD1
import Derived.Test.YthjmdgejnakcmaaGreatDoorMF6
set_option maxHeartbeats 6400000
set_option maxRecDepth 100000
set_option linter.unusedVariables false
set_option linter.unusedSimpArgs false
namespace Go.Proofs.YthjmdgejnakcmaaGreatDoor
open Go.RowKit Go.WideShapes Fl
def svS (x:SV):Value:=.slice x.a x.n x.c
def Dt:Cu SV:=⟨45,48,1,24,.slice none 0 0,fun x=>[.slice x.a x.n x.c]⟩
theorem Eg:Dt.Ok:=⟨Tryz.underlying45,by kernel_rfl,rfl,by decide,fun _=>rfl,fun x u hu=>by obtain rfl:u=.slice x.a x.n x.c:=(AJ.1 hu);rfl,by decide⟩
theorem As.kc {α:Type} {T:Cu α} {w w':World} {B:Nat} {v:Value} {L:List α} (h:As T w B v L) (hk:Kc w w'):As T w' B v L:=h.keep fun g hg=>by
 obtain ⟨cs,hc⟩:=Bo h hg;rw [hk.block _ _ _ _ hc,hc]
theorem Fx {α:Type} (T:Cu α) (z0:α) (hz:T.enc z0=[T.z]):∀ n,(List.replicate n z0).flatMap T.enc=List.replicate n T.z
 | 0=>rfl
 | n+1=>by rw [List.replicate_succ,List.flatMap_cons,Fx T z0 hz n,hz,List.replicate_succ];rfl
theorem Gc {α:Type} {T:Cu α} (hT:T.Ok) (jc:T.k=1) (z0:α) (hz:T.enc z0=[T.z]) (jh:T.z.cells=#[T.z]) {w:World} {ops:Array Oper} {rest:List Oper} {o:Oper} {a:Act} {Q:Exit→Act→World→Prop}
  (jb:o.guard=none) (l c:Operand) (jd:o.op=Op.makeSlice T.sl l c) (B n:Nat) (hl:a.eval l=.int .i64 (n:Int)) (hc:a.eval c=.int .i64 (n:Int)) (hn:n≤1000000) (hB:B≤w.heap.size)
  (hK:∀ w',As T w' B (.slice (some ⟨w.heap.size,0,none⟩) n n) (List.replicate n z0)→Below w.heap.size w w'→wpList Tryz.prog ops Q rest (a.put o.dst (.slice (some ⟨w.heap.size,0,none⟩) n n)) w'):wpList Tryz.prog ops Q (o :: rest) a w:=by
 obtain ⟨i0,hi,je,jf,jg⟩:=info_parts hT.info;have hb:i0.bytes*n≤64*1000000:=Nat.mul_le_mul (by rw [jg];exact hT.b) hn;refine wpList_make_full w jb l c T.sl jd B T.e i0 T.z T.k hT.und hi je jf .i64 .i64 (n:Int) (n:Int) n hl hc rfl rfl (by omega) (by unfold maxLen;omega) hB ?_;intro w' ja hg;refine hK w' ?_ ⟨hg.os,hg.tape,hg.output,hg.size,fun k hk=>hg.block k hk (by simp)⟩;unfold As;rw [List.length_replicate];have e:(madeCells T.z.cells (n*T.k)).toList=(List.replicate n z0).flatMap T.enc:=by
  rw [jc,Nat.mul_one,jh];have h1:=Fx T z0 hz n;rw [h1];apply List.ext_getElem
  · simp [madeCells]
  ·intro j h2 h3;simp [madeCells,Nat.mod_one]
 rw [← e];exact ja
def Oe (R:List Rl) (acc:Int) (L:List Slt) (W:List (List UInt8)) (B:Nat) (w:World) (Ls:List SV) (i:Nat):Prop :=
 ∀ (k:Nat) (h:k<Ls.length),k<i→∃ l,As DR w B (svS Ls[k]) l∧Nb R acc L W k l
theorem Oe.kc {R:List Rl} {acc:Int} {L:List Slt} {W:List (List UInt8)} {B:Nat} {w w':World} {Ls:List SV} {i:Nat} (h:Oe R acc L W B w Ls i) (hk:Kc w w'):Oe R acc L W B w' Ls i:=fun k hl hi=>by
 obtain ⟨l,h1,h2⟩:=h k hl hi;exact ⟨l,h1.kc hk,h2⟩
def Tr (R:List Rl) (acc:Int) (L:List Slt) (W:List (List UInt8)) (B:Nat) (e:Ending) (w':World):Prop :=
 ∃ g Ls,e=.returned (.slice (some ⟨g,0,none⟩) (L.length+1) (L.length+1))∧As Dt w' B (.slice (some ⟨g,0,none⟩) (L.length+1) (L.length+1)) Ls∧Ls.length=L.length+1∧Oe R acc L W B w' Ls (L.length+1)
theorem Of {R:List Rl} {acc:Int} {L:List Slt} {W:List (List UInt8)} {B C g n i:Nat} {w:World} {Ls:List SV} {a:Option Addr} {l:List (Nat × Nat)} {c:Nat} (ho:As Dt w C (.slice (some ⟨g,0,none⟩) n n) Ls) (hf:Oe R acc L W B w Ls i) (hi:i<Ls.length)
  (hv:As DR w B (.slice a l.length c) l) (hl:Nb R acc L W i l) :
  As Dt (w.setCell ⟨g,i,none⟩ (.slice a l.length c)) C (.slice (some ⟨g,0,none⟩) n n) (Ls.set i ⟨a,l.length,c⟩)∧Oe R acc L W B (w.setCell ⟨g,i,none⟩ (.slice a l.length c)) (Ls.set i ⟨a,l.length,c⟩) (i+1):=by
 have ja:∀ {v:Value} {l2:List (Nat × Nat)},As DR w B v l2→As DR (w.setCell ⟨g,i,none⟩ (.slice a l.length c)) B v l2:=fun {v l2} h=>h.keep fun q hq=>Below.heap_setCell _ _ _ _ (by
  show q≠g;intro e;obtain ⟨cs,h1⟩:=Bo h hq;obtain ⟨cs2,h2⟩:=Bo ho (g:=g) rfl;rw [e,h2] at h1;injection h1 with h1;injection h1 with _ h3;exact absurd h3 (by decide))
 refine ⟨ho.setCell (by simp) ?_ (by show i<Ls.length*1;omega) Eg,fun k hk hki=>?_⟩
 ·have:∀ (M:List SV),M.flatMap Dt.enc=M.map fun x=>.slice x.a x.n x.c:=fun M=>by
   induction M with
   | nil=>rfl
   | cons x r ih=>rw [List.flatMap_cons,ih];rfl
  rw [this,this,List.map_set]
 ·have jb:k<Ls.length:=by simpa using hk
  rw [List.getElem_set];by_cases e:i=k
  ·subst e;rw [if_pos rfl];exact ⟨l,ja hv,hl⟩
  ·rw [if_neg e];obtain ⟨l2,h1,h2⟩:=hf k jb (by omega);exact ⟨l2,ja h1,h2⟩
structure SrI (R:List Rl) (L:List Slt) (T:List Bn) (gm:Nat→Nat) (i D:Nat) (M:Nat→Ent) (w:World):Prop where
 maps:∀ j,i≤j→j<i+5→MpG CA w (gm (j % 5)) (M j)
 inv:Inv R L (folT T) i M
 bnd:Bnd T.length i (i*((8*T.length+1)*D)) D M
 out:∀ j,¬ j<i+5→M j=[]
theorem KF (b len cap k:Nat) (hk:k<len) (w:World) :
  (Instr.indexAt 45 (.slice (some ⟨b,0,none⟩) len cap) (.int .i64 (k:Int))).run Tryz.prog w=.ok (.pointer (some ⟨b,k,none⟩)) w:=by
 have h0:(0:Int)≤(k:Int):=by omega
 have h1:(k:Int)<(len:Int):=by omega
 simp [go_sem,h0,h1]
structure EnQ (R:List Rl) (acc:Int) (L:List Slt) (X:List (List UInt8)) (T:List Bn) (gm:Nat→Nat) (D:Nat) (w1 w2:World) (gE i:Nat) (w:World):Prop where
 sr:∃ M,SrI (R.filter CC) L T gm i D M w
 row:∃ Ls,As Dt w w2.heap.size (.slice (some ⟨gE,0,none⟩) (L.length+1) (L.length+1)) Ls∧Ls.length=L.length+1∧Oe R acc L X w1.heap.size w Ls i
 kc:Kc w2 w
 bl:Below w1.heap.size w1 w
theorem ends_any (R:List Rl) (modes acc:Int) (aS:Option Addr) (cS:Nat) (D:List Nd) (aD:Option Addr) (cD:Nat) (aL:Option Addr) (L:List Slt) (cL C:Nat) (w:World) (hR:BL w aS R) (j4:R.length≤1000) (hO:∀ r∈R,r.out.size≤1000000) (hD:Cc w aD D) (kF:D.length≤9223372036854775807) (hC:Kf D)
  (hl:(BQ D).length≤1000) (hs:∀ x∈BQ D,x.size≤20) (jq:((BQ D).map bts).Pairwise fun a b=>Op.bytesLess a b=true) (hL:Dc w aL L) (hLl:L.length≤1000) (j2:Cq C L) (kE:C≤1000000)
  (jd:∀ N i,N≤1+20*(BQ D).length→i≤L.length→8*N*(i*((8*N+1)*(1000+4*C))+(8*N+1)*(1000+4*C)+2)≤900000000000) (kH:0≤acc) (kI:acc≤255) :
  Calls Tryz.prog 18 #[.agg #[.int .i64 modes,.int .u8 acc,.slice aS R.length cS],.slice aD D.length cD,.slice aL L.length cL] w fun e w'=>Tr R acc L ((BQ D).map bts) w.heap.size e w'∧Below w.heap.size w w':=by
 have HO:=A6 hO;have kw:=A6 hL;have ko:=A6 j2;have jR:=A6 jd;obtain ⟨X,hX⟩:∃ X,(BQ D).map bts=X:=⟨_,rfl⟩
 have j6:X.length=(BQ D).length:=by rw [← hX,AW]
 have j1:=A6 j6;have kD:=A6 hX;have kj:=fun w1 (hx:Ext w w1)=>newSearch_any R modes acc aS cS D aD cD aL L.length cL w1 (hR.later hx (A7 _)) j4 (hD.later hx (A7 _)) kF hC hl hs jq;have jW:=A6 kj;have j3:(R.filter CC).length≤1000:=AC (List.length_filter_le _ _) j4;have kA:=A6 j3;clear hR hO hD hC hs jq hL j2 jd kj j6 j3
 go_enter Tryz.func18,Tryz.ntmps18
 go_wp2_with fail
 obtain ⟨w1,jP⟩:∃ w1,w.alloc (.cells #[.int .i64 modes,.int .u8 acc,.slice aS R.length cS] 32)=w1:=⟨_,rfl⟩
 rw [jP];have jk:Hid (Ext w w1):=by
  show Ext _ _;rw [← jP];exact (Below.refl _ _).alloc (A7 _) _
 clear jP;refine (jW.out w1 jk.out).mono ?_;rintro e w2 ⟨⟨gx,aR,cR,aT,cT,gm,T,rfl,kl,kk,km,jy,kd,kg,ki⟩,j8⟩;rw [hX] at jy;have jI:=A6 kl;have kB:=A6 kk;have jZ:=A6 km;have jj:=A6 jy;have jE:=A6 kd;have jS:=A6 kg;have jV:=A6 ki;have jl:=A6 j8;have j5:T.length≤1+20*(BQ D).length:=by have:=jy.size;have:=j1.out;omega
 have jw:=A6 j5;clear hX jW kl kk km jy kd kg ki j8 j5
 go_wp2_with (at_make;go_loud (refine Gc Eg rfl ⟨none,0,0⟩ rfl rfl rfl _ _ rfl w2.heap.size (L.length+1) (by go_num) (by go_num) (by omega) (A7 _) ?_);intro w3 je j9;have jX:=A6 je;have ju:=A6 j9;clear je j9)
 have jb:Hid (EnQ R acc L X T gm (1000+4*C) w1 w2 w2.heap.size 0 w3):=by
  refine ⟨⟨M0,⟨fun j h1 h2=>?_,Un _ _ _,by rw [Nat.zero_mul];exact Uo jj.out.pos,fun j hj=>?_⟩⟩,⟨_,jX.out,by rw [List.length_replicate],fun k _ hk=>absurd hk (Nat.not_lt_zero _)⟩,Kc.of ju.out (A7 _),jl.out.trans (ju.out.mono jl.out.size)⟩
  ·have hj:j % 5=j:=Nat.mod_eq_of_lt (by omega);rw [hj];have hm:MpG CA w2 (gm j) (M0 j):=by
    unfold M0;split
    · rename_i e;subst e;exact jS.out
    · rename_i e;exact jV.out j (by omega) (by omega)
   exact hm.kept (ju.out.block _ hm.lt)
  ·unfold M0;rw [if_neg (by omega)]
 obtain ⟨gE,ka⟩:∃ gE,w2.heap.size=gE:=⟨_,rfl⟩
 have kt:Hid (w1.heap.size≤gE):=by have:=jl.out.size;show _≤_;omega
 have jD:Hid (w2.heap.size≤gE):=by show _≤_;omega
 have kv:Hid (gx<gE):=by have:=jI.out.lt;show _<_;omega
 rw [ka] at jb ⊢;clear ka jX ju jS jV
 go_loopg [20] (L.length+1) (fun g v20 wr=>∃ i:Nat,v20=.int .i64 (i:Int)∧i≤L.length+1∧g=L.length+1 - i∧EnQ R acc L X T gm (1000+4*C) w1 w2 gE i wr)
 case atStart=>exact ⟨0,rfl,Nat.zero_le _,rfl,jb.out⟩
 case round =>
  clear jb;obtain ⟨i,rfl,hi,kb,Js⟩:=hrel;have jb:=A6 Js;have ku:=A6 kb;clear Js kb;by_cases kL:i<L.length+1
  ·obtain ⟨M,js⟩:=jb.out.sr;obtain ⟨Ls,jc,jx,jp⟩:=jb.out.row;have kf:Kc w wr:=(Kc.of jk.out (A7 _)).trans ((Kc.of jl.out (A7 _)).trans jb.out.kc);have jt:=svisit_any (R.filter CC) L T C i (i*((8*T.length+1)*(1000+4*C))) (1000+4*C) w1.heap.size M (jI.out.kp jb.out.kc) (BL.kp kB.out jb.out.kc) rfl kA.out (MG R) (fun r hr=>HO.out r (Al.1 hr).1)
    (kw.out.kp kf) rfl (by omega) (by omega) ko.out kE (jZ.out.kp jb.out.kc) rfl (by have:=jw.out;omega) jj.out.trIn jE.out jb.out.bl.size js.maps js.inv js.bnd (A7 _) (jR.out T.length i jw.out (by omega)) jj.out.pos
   have jo:=A6 jt;have jg:=A6 jc;have jB:=A6 jp;have jm:=A6 jx;have jY:=A6 js;clear jt jc jp jx js kf
   go_wp2_with fail
   refine jo.out.mono ?_;rintro e w4 ⟨rfl,M',kn⟩;have ja:=A6 kn;clear kn jo;have kx:=A6 (ja.out.vx.maps i (A7 _) (by omega));have jn:=A6 (jI.out.kp (jb.out.kc.trans ja.out.vx.kp));have jf:Hid (Below w1.heap.size w1 w4):=jb.out.bl.trans ja.out.vx.bl;have kC:Hid (Um T):=fun b hb=>by have h:=jj.out.wd b hb;have:=j1.out;omega
   have jA:=A6 (found_any T i (i % 5) (M' i) (by omega) rfl jn.out (jZ.out.kp (jb.out.kc.trans ja.out.vx.kp)) rfl (by have:=jw.out;omega) kC.out kx.out (ja.out.bnd.rng i) kH kI)
   go_wp2_with fail
   refine jA.out.mono ?_;rintro e w5 ⟨⟨v,l,rfl,ji,jO⟩,jL⟩;obtain ⟨a5,c5,kM,hc5, -⟩:=ji.form;subst kM;have ks:Hid (Nb R acc L X i l):=⟨(UH jj.out ja.out.inv ja.out.shut (ja.out.bnd.keys i) jO).fair,fun p hp=>by
    obtain ⟨t,ht, -⟩:=((jO.mem p.1 p.2).1 hp).1;have h1:=ja.out.bnd.here_le (Bd (ja.out.bnd.keys i) ht);have h2:=jR.out T.length i jw.out (by omega);have h3:=jj.out.pos;have h4:8*T.length*(1000+4*C)≤(8*T.length+1)*(1000+4*C):=Nat.mul_le_mul_right _ (Nat.le_succ _);have h5:i*((8*T.length+1)*(1000+4*C))+(8*T.length+1)*(1000+4*C)+2≤8*T.length*(i*((8*T.length+1)*(1000+4*C))+(8*T.length+1)*(1000+4*C)+2):=Nat.le_mul_of_pos_left _ (by omega);omega⟩
   have jF:Hid (Kc wr w5):=ja.out.vx.kp.trans (Kc.of jL (A7 _));have jz:=A6 jL;have kz:=A6 (ji.mono jf.out.size);have jG:=A6 (jg.out.kc jF.out);have kr:=A6 (jB.out.kc jF.out);have ke:i<Ls.length:=by have:=jm.out;omega
   have jH:=A6 (Of jG.out kr.out ke kz.out ks.out);obtain ⟨cs5,jh⟩:=Bo jG.out (g:=gE) rfl;have kJ:w5.frozen? ⟨gE,i,none⟩=false:=by simp [World.frozen?,jh]
   have jM:=jG.out.cell Eg ke (j:=0) (by decide);have e1:i*Dt.k+0=i:=by show i*1+0=i;omega
   rw [e1] at jM;have jN:w5.cell? ⟨gE,i,none⟩=some (.slice Ls[i].a Ls[i].n Ls[i].c):=jM;have kK:=KF gE (L.length+1) (L.length+1) i kL;have jv:Hid (∀ q,q≠gE→(w5.setCell ⟨gE,i,none⟩ (.slice a5 l.length c5)).heap[q]? = w5.heap[q]?):=fun q hq=>Below.heap_setCell _ _ _ _ hq;have kq:=A6 jh;clear ji jO jL jM e1 jh
   go_wp2_with fail
   obtain ⟨w6,jQ⟩:∃ w6,w5.setCell ⟨gE,i,none⟩ (.slice a5 l.length c5)=w6:=⟨_,rfl⟩
   rw [jQ] at jH jv ⊢;have j0:=A6 jQ;clear jQ kJ jN kK;have jJ:Hid (SX w6 gx acc aR (R.filter CC).length cR aT T.length cT aL L.length cL gm):=by
    have h:=jn.out.kp (Kc.of jz.out (A7 _));exact (jv.out gx (by have:=kv.out;omega)).trans h
   have jU:Hid (∀ j,i≤j→j<i+5→MpG CA w6 (gm (j % 5)) (M' j)):=fun j h1 h2=>by
    have h:=(ja.out.vx.maps j h1 h2).kept (jz.out.block _ (ja.out.vx.maps j h1 h2).lt);refine h.kept (jv.out _ fun e=>?_);obtain ⟨es,c,h3⟩:=h.obj;rw [e,kq.out] at h3;cases h3
   have jT:=A6 (jU.out i (A7 _) (by omega));have j7:=Fi i (i % 5) (by omega) rfl jJ.out;refine j7.mono ?_;clear j7;rintro e w7 ⟨rfl,rfl⟩;obtain ⟨w7,jr,kh,Jx⟩:=jT.out.run_clear Ct 0;have ky:=A6 kh;have jC:=A6 Jx;clear kh Jx;dsimp only [CA] at jr
   go_wp2_with fail
   clear jr
   go_roundg (L.length+1 - (i+1))
   case measure=>have:=ku.out;omega
   case rel =>
    have kG:Kc w2 w6:=by
     have h:=jb.out.kc.trans jF.out;refine ⟨by rw [← j0.out,World.size_setCell];exact h.size,fun q cs t f hq=>?_⟩;have hlt2:=(A9.1 hq).1;exact (jv.out q (by have:=jD.out;omega)).trans (h.block q cs t f hq)
    have jK:Kc w6 w7:=Kc.map jC.out jT.out.obj;have Ji:Below w1.heap.size w1 w6:=by
     rw [← j0.out];exact (jf.out.trans (jz.out.mono jf.out.size)).setCell (show w1.heap.size≤(⟨gE,i,none⟩:Addr).block from kt.out) _
    refine ⟨i+1,by go_num,by omega,rfl,⟨⟨nextM i M',⟨fun j h1 h2=>?_,ja.out.inv.nextM ja.out.shut,by rw [Nat.succ_mul];exact ja.out.bnd.nextM,fun j hj=>?_⟩⟩,⟨_,jH.out.1.kc jK,by rw [List.length_set];exact jm.out,jH.out.2.kc jK⟩,kG.trans jK,Ji.grown jC.out Ji.size fun q hq=>?_⟩⟩
    ·unfold nextM;rw [if_pos (show i<j by omega)];by_cases e:j=i+5
     ·subst e;rw [show (i+5) % 5=i % 5 by omega,ja.out.out _ (by omega),jY.out.out _ (by omega)];exact ky.out
     ·have h:=jU.out j (by omega) (by omega);refine h.kept (jC.out.block _ h.lt fun e2=>?_);injection e2 with e2;have:=jE.out.apart (j % 5) (i % 5) (Nat.mod_lt _ (by decide)) (Nat.mod_lt _ (by decide)) e2;omega
    ·unfold nextM;rw [if_pos (show i<j by omega),ja.out.out _ (by omega),jY.out.out _ (by omega)]
    ·injection hq with hq;rw [← hq];exact jE.out.ge _ (Nat.mod_lt _ (by decide))
  ·obtain rfl:i=L.length+1:=by omega
   obtain ⟨Ls,jc,jx,jp⟩:=jb.out.row;have jg:=A6 jc;have jB:=A6 jp;clear jc jp
   go_wp2_with fail
   go_ret;exact ⟨⟨gE,Ls,rfl,jg.out.mono (AC jk.out.size jl.out.size),jx,fun k h hk=>by obtain ⟨l,h1,h2⟩:=jB.out k h hk;exact ⟨l,h1.mono jk.out.size,by rw [kD.out];exact h2⟩⟩,Below.trans jk.out (jb.out.bl.mono jk.out.size)⟩
def Bk:Cu SV:=⟨39,53,1,24,.slice none 0 0,fun x=>[.slice x.a x.n x.c]⟩
theorem Ck:Bk.Ok:=⟨Tryz.underlying39,by kernel_rfl,rfl,by decide,fun _=>rfl,fun x u hu=>by obtain rfl:u=.slice x.a x.n x.c:=(AJ.1 hu);rfl,by decide⟩
def ED:Cu Ch:=⟨53,55,2,16,.agg #[.int .u8 0,.int .i64 0],fun x=>[.int .u8 (x.key.toNat:Int),.int .i64 x.cost]⟩
theorem Fy:ED.Ok:=⟨Tryz.underlying53,by kernel_rfl,rfl,by decide,fun _=>rfl,fun x u hu=>by
 have h:u=.int .u8 (x.key.toNat:Int)∨u=.int .i64 x.cost:=by simpa [ED] using hu
 rcases h with rfl | rfl <;> rfl,by decide⟩
theorem As.chs {w:World} {B:Nat} {a:Option Addr} {n c:Nat} {L:Slt} (h:As ED w B (.slice a n c) L):E5 w a (chA L)∧n=L.length∧L.length≤c:=by
 obtain ⟨a',c',he,hc,_⟩:=h.form;injection he with e1 e2 e3;refine ⟨fun k hk=>?_,e2,by omega⟩;rw [Ds] at hk;rcases h.blk with ⟨_,rfl⟩ | ⟨g,c2,ja,_,hg,_⟩
 · simp at hk
 ·injection ja with f1 f2 f3;subst f1;refine ⟨g,0,rfl,hg,?_,?_⟩
  ·have:=h.cell Fy hk (j:=0) (by decide);simpa [ED,chA] using this
  ·have:=h.cell Fy hk (j:=1) (by decide);simpa [ED,chA] using this
def ElS (w:World) (x:SV) (s:Slt):Prop:=As ED w 0 (svS x) s
theorem ElS.kc {w w':World} {x:SV} {s:Slt} (h:ElS w x s) (hk:Kc w w'):ElS w' x s:=As.kc h hk
theorem ElS.n {w:World} {x:SV} {s:Slt} (h:ElS w x s):x.n=s.length:=(As.chs h).2.1
theorem ElS.arcs {w:World} {x:SV} {s:Slt} (h:ElS w x s):E5 w x.a (chA s):=(As.chs h).1
theorem ElS.le {w:World} {x:SV} {s:Slt} (h:ElS w x s):s.length≤9223372036854775807:=by
 obtain ⟨a,c,e,h1,h2⟩:=As.form h;unfold maxLen at h2;omega
theorem ElS.of {w:World} {B:Nat} {x:SV} {s:Slt} (h:As ED w B (svS x) s):ElS w x s:=h.mono (Nat.zero_le _)
theorem ElS.keep {w w':World} {x:SV} {s:Slt} {B:Nat} {v:Value} {Ls:List SV} (h:ElS w x s) (ho:As Bk w B v Ls) (hk:∀ q,q<w.heap.size→v.ownBlock≠some q→w'.heap[q]? = w.heap[q]?):ElS w' x s:=As.keep h fun q hq=>hk q (As.lt h q hq) fun e=>by
 obtain ⟨cs,h1⟩:=Bo h hq;obtain ⟨cs2,h2⟩:=Bo ho e;rw [h2] at h1;injection h1 with h1;injection h1 with _ h4;exact absurd h4 (by decide)
structure Er (w:World) (B:Nat) (v:Value) (Ls:List SV) (L:List Slt):Prop where
 own:As Bk w B v Ls
 len:Ls.length=L.length
 el:∀ (k:Nat) (x:SV) (s:Slt),Ls[k]? = some x→L[k]? = some s→ElS w x s
def J2 (w:World) (B:Nat) (v:Value) (L:List Slt):Prop:=∃ Ls,Er w B v Ls L
theorem Er.kc {w w':World} {B:Nat} {v:Value} {Ls:List SV} {L:List Slt} (h:Er w B v Ls L) (hk:Kc w w'):Er w' B v Ls L :=
 ⟨h.own.kc hk,h.len,fun k x s h1 h2=>(h.el k x s h1 h2).kc hk⟩
theorem Er.later {w w':World} {B C:Nat} {v:Value} {Ls:List SV} {L:List Slt} (h:Er w B v Ls L) (hb:Below C w w') (hC:w.heap.size≤C):Er w' B v Ls L:=h.kc (Kc.of hb hC)
theorem Er.push {w w':World} {B B':Nat} {v v':Value} {Ls:List SV} {L:List Slt} {x:SV} {s:Slt} (h:Er w B v Ls L) (ho:As Bk w' B' v' (Ls ++ [x])) (hg:w.grownBy w' v.ownBlock) (hx:ElS w x s):Er w' B' v' (Ls ++ [x]) (L ++ [s]):=by
 have hk:∀ {y t},ElS w y t→ElS w' y t:=fun {y t} hy=>hy.keep h.own fun q hq jb=>hg.block q hq (Ne.symm jb);refine ⟨ho,by simp [h.len],fun k y t h1 h2=>?_⟩;have hl:=h.len;by_cases ja:k<Ls.length
 ·rw [AQ ja] at h1;rw [AQ (by omega)] at h2;exact hk (h.el k y t h1 h2)
 ·rw [AR (by omega)] at h1;rw [AR (by omega)] at h2;rw [hl] at h1;cases e:k - L.length with
  | zero=>rw [e] at h1 h2;cases h1;cases h2;exact hk hx
  | succ n=>rw [e] at h1;simp at h1
theorem Er.slotS {w:World} {B:Nat} {a:Option Addr} {n c:Nat} {Ls:List SV} {L:List Slt} (h:Er w B (.slice a n c) Ls L):Dc w a L∧n=L.length∧L.length≤c:=by
 obtain ⟨a',c',he,hc,_⟩:=h.own.form;injection he with e1 e2 e3;refine ⟨fun k hk=>?_,by rw [e2,h.len],by rw [← h.len];omega⟩;have ja:k<Ls.length:=by rw [h.len];exact hk
 rcases h.own.blk with ⟨_,e⟩ | ⟨g,c2,jc,_,hg,_⟩
 · rw [e] at ja;simp at ja
 ·injection jc with f1 f2 f3;subst f1;have jb:=h.el k _ _ (AE ja) (AE hk);have hc:=h.own.cell Ck ja (j:=0) (by decide);refine ⟨g,0,rfl,hg,Ls[k].a,Ls[k].c,?_,jb.le,jb.arcs⟩;rw [← jb.n];simpa [Bk] using hc
theorem J2.slotS {w:World} {B:Nat} {a:Option Addr} {n c:Nat} {L:List Slt} (h:J2 w B (.slice a n c) L):Dc w a L∧n=L.length∧L.length≤c:=by
 obtain ⟨Ls,h⟩:=h;exact h.slotS
def CD (l:List UInt8):List Slt:=l.map fun c=>[⟨c,0⟩]
def DZ (s:ByteArray):List Slt:=CD (bts s)
theorem Eh (s:ByteArray):(DZ s).length=s.size:=by simp [DZ,CD,BZ]
def Og (s:ByteArray) (w:World) (e:Ending) (w':World):Prop:=∃ a c,e=.returned (.slice a s.size c)∧J2 w' w.heap.size (.slice a s.size c) (DZ s)
theorem LR {w:World} {g B:Nat} {c:UInt8} (h:w.heap[g]? = some (.cells #[.int .u8 (c.toNat:Int),.int .i64 0] 55 (0,0))) (hB:B≤g):As ED w B (.slice (some ⟨g,0,none⟩) 1 1) [⟨c,0⟩] :=
 As.one Fy (x:=⟨c,0⟩) h hB
structure TyQ (s:ByteArray) (w0:World) (g i:Nat) (Ls:List SV) (w:World):Prop where
 own:As Bk w w0.heap.size (.slice (some ⟨g,0,none⟩) s.size s.size) Ls
 len:Ls.length=s.size
 el:∀ (k:Nat) (x:SV) (t:Slt),k<i→Ls[k]? = some x→(DZ s)[k]? = some t→As ED w w0.heap.size (svS x) t
 bl:Below w0.heap.size w0 w
theorem Nc {s:ByteArray} {i:Nat} (hi:i<s.size):(DZ s)[i]? = some [⟨s[i],0⟩]:=by
 unfold DZ CD;rw [List.getElem?_map,AE (by rw [BZ];exact hi),MB hi];rfl
theorem TyQ.put {s:ByteArray} {w0 w:World} {g i:Nat} {Ls:List SV} (h:TyQ s w0 g i Ls w) (hg:w0.heap.size≤g) (hi:i<s.size) :
  TyQ s w0 g (i+1) (Ls.set i ⟨some ⟨w.heap.size,0,none⟩,1,1⟩) ((w.setCell ⟨g,i,none⟩ (.slice (some ⟨w.heap.size,0,none⟩) 1 1)).alloc (.cells #[.int .u8 (s[i].toNat:Int),.int .i64 0] 55)):=by
 obtain ⟨cs,jc⟩:=Bo h.own (g:=g) rfl;obtain ⟨w1,ja⟩:∃ w1,w.setCell ⟨g,i,none⟩ (.slice (some ⟨w.heap.size,0,none⟩) 1 1)=w1:=⟨_,rfl⟩
 have jf:w1.heap.size=w.heap.size:=by rw [← ja,World.size_setCell]
 have je:As Bk w1 w0.heap.size (.slice (some ⟨g,0,none⟩) s.size s.size) (Ls.set i ⟨some ⟨w.heap.size,0,none⟩,1,1⟩):=by
  rw [← ja];refine h.own.setCell (by simp) ?_ (by show i<Ls.length*1;rw [h.len];omega) Ck;have:∀ (M:List SV),M.flatMap Bk.enc=M.map fun x=>.slice x.a x.n x.c:=fun M=>by
   induction M with
   | nil=>rfl
   | cons x r ih=>rw [List.flatMap_cons,ih];rfl
  rw [this,this,List.map_set]
 have jd:∀ q,q≠g→w1.heap[q]? = w.heap[q]?:=fun q hq=>by rw [← ja];exact Below.heap_setCell _ _ _ _ hq
 have hx:Ext w1 (w1.alloc (.cells #[.int .u8 (s[i].toNat:Int),.int .i64 0] 55)):=(Below.refl _ _).alloc (A7 _) _;have jb:Below w0.heap.size w0 w1:=by rw [← ja];exact h.bl.setCell (show w0.heap.size≤(⟨g,i,none⟩:Addr).block from hg) _
 rw [ja];refine ⟨je.later hx (A7 _),by rw [List.length_set];exact h.len,fun k x t hk h1 h2=>?_,jb.trans (hx.mono jb.size)⟩;rw [List.getElem?_set] at h1;by_cases e:i=k
 ·subst e;rw [if_pos rfl,if_pos (by rw [h.len];exact hi)] at h1;cases h1;rw [Nc hi] at h2;cases h2;refine LR (g:=w.heap.size) ?_ h.bl.size;rw [← jf];exact heap_alloc_new _ _
 ·rw [if_neg e] at h1;refine ((h.el k x t (by omega) h1 h2).keep fun q hq=>jd q fun e2=>?_).later hx (A7 _);obtain ⟨cs2,h3⟩:=Bo (h.el k x t (by omega) h1 h2) hq;rw [e2,jc] at h3;injection h3 with h3;injection h3 with _ h4;exact absurd h4 (by decide)
theorem TyQ.done {s:ByteArray} {w0 w:World} {g:Nat} {Ls:List SV} (h:TyQ s w0 g s.size Ls w):J2 w w0.heap.size (.slice (some ⟨g,0,none⟩) s.size s.size) (DZ s) :=
 ⟨Ls,h.own,by rw [h.len,Eh],fun k x t h1 h2=>ElS.of (h.el k x t (by have:=(List.getElem?_eq_some_iff.1 h2).1;rw [Eh] at this;exact this) h1 h2)⟩
theorem SR (b len cap k:Nat) (hk:k<len) (w:World) :
  (Instr.indexAt 39 (.slice (some ⟨b,0,none⟩) len cap) (.int .i64 (k:Int))).run Tryz.prog w=.ok (.pointer (some ⟨b,k,none⟩)) w:=by
 have h0:(0:Int)≤(k:Int):=by omega
 have h1:(k:Int)<(len:Int):=by omega
 simp [go_sem,h0,h1]
theorem KG (s:ByteArray) (w:World) (hs:s.size≤1000000) :
  Calls Tryz.prog 16 #[.string s] w fun e w'=>Og s w e w'∧Below w.heap.size w w':=by
 go_enter Tryz.func16,Tryz.ntmps16
 go_wp2_with (at_make;go_loud (refine Gc Ck rfl ⟨none,0,0⟩ rfl rfl rfl _ _ rfl w.heap.size s.size (by go_num) (by go_num) (by omega) (A7 _) ?_);intro w3 ja jd;have ji:=A6 ja;have jg:=A6 jd;clear ja jd)
 go_loopg [10] s.size (fun g v10 wr=>∃ (i:Nat) (Ls:List SV),v10=.int .i64 (i:Int)∧i≤s.size∧g=s.size - i∧TyQ s w w.heap.size i Ls wr)
 case atStart=>exact ⟨0,_,rfl,Nat.zero_le _,rfl,ji.out,by simp,fun k _ _ hk=>absurd hk (Nat.not_lt_zero _),jg.out⟩
 case round =>
  obtain ⟨i,Ls,rfl,hi,je,hq⟩:=hrel;have HQ:=A6 hq;have jh:=A6 je;clear hq je;by_cases jf:i<s.size
  ·have jk:i<Ls.length:=by have:=HQ.out.len;omega
   obtain ⟨cs5,jb⟩:=Bo HQ.out.own (g:=w.heap.size) rfl;have hgl:=(A9.1 jb).1;have hfz:wr.frozen? ⟨w.heap.size,i,none⟩=false:=by simp [World.frozen?,jb]
   have jc:=HQ.out.own.cell Ck jk (j:=0) (by decide);have e1:i*Bk.k+0=i:=by show i*1+0=i;omega
   rw [e1] at jc;have hcl2:wr.cell? ⟨w.heap.size,i,none⟩=some (.slice Ls[i].a Ls[i].n Ls[i].c):=jc;have hix:=SR w.heap.size s.size s.size i jf;have jj:=A6 (HQ.out.put (A7 _) jf);clear jc e1 jb
   go_wp2_with fail
   go_roundg (s.size - (i+1))
   case measure=>have:=jh.out;omega
   case rel=>exact ⟨i+1,_,by go_num,by omega,rfl,jj.out⟩
  ·obtain rfl:i=s.size:=by omega
   go_wp2_with fail
   go_ret;exact ⟨⟨_,_,rfl,HQ.out.done⟩,HQ.out.bl⟩
theorem rtyped_any (s:ByteArray) (w:World) (hs:s.size≤1000000) :
  Calls Tryz.prog 15 #[.string s] w fun e w'=>Og s w e w'∧Below w.heap.size w w':=by
 go_enter Tryz.func15,Tryz.ntmps15
 go_wp2_with fail
 have jn:Hid (Er (w.alloc (.cells #[] 53)) w.heap.size (.slice (some ⟨w.heap.size,0,none⟩) 0 0) [] []):=⟨As.empty Bk (heap_alloc_new _ _) (A7 _),rfl,fun k x s h=>by simp at h⟩
 have jl:Hid (Below w.heap.size w (w.alloc (.cells #[] 53))):=(Below.refl _ _).alloc (A7 _) _
 go_loopg [3,4] s.size (fun g v3 v4 wr=>∃ i:Nat,v4=.int .i64 (i:Int)∧i≤s.size∧g=s.size - i∧J2 wr w.heap.size v3 ((DZ s).take i)∧Below w.heap.size w wr)
 case atStart=>exact ⟨0,rfl,Nat.zero_le _,rfl,⟨_,jn.out⟩,jl.out⟩
 case round =>
  clear jn jl;obtain ⟨i,rfl,hi,jp,⟨Ls,hq⟩,hb⟩:=hrel;obtain ⟨a3,c3,jx, -, -⟩:=hq.own.form;subst jx;have HQ:=A6 hq;have jt:=A6 jp;have HB:=A6 hb;have jq:Ls.length=i:=by rw [hq.len,AV,Eh];omega
  have jm:=A6 jq;clear hq jp hb jq;by_cases jw:i<s.size
  ·have HN:Hid ((DZ s).take (i+1)=(DZ s).take i ++ [[⟨s[i],0⟩]]):=by
    show _=_;have h:=List.getElem?_eq_some_iff.1 (Nc jw);obtain ⟨h1,h2⟩:=h;rw [AZ h1,h2]
   go_wp2_with (at_builtin;go_loud (refine B5 (v:=.slice a3 Ls.length c3) Ck rfl _ _ rfl rfl ((HQ.out.own.later ((Below.refl _ _).alloc (A7 _) _) (A7 _)).later ((Below.refl _ _).alloc (A7 _) _) (A7 _)) ⟨wr.heap.size+1,0,none⟩ 1 [⟨some ⟨wr.heap.size,0,none⟩,1,1⟩] (by simp [go_sem,Act.eval]) (BA (by have h:=heap_alloc_new (wr.alloc (.cells #[.int .u8 (s[i].toNat:Int),.int .i64 0] 55)) (.cells #[.slice (some ⟨wr.heap.size,0,none⟩) 1 1] 53);rw [AA] at h;exact h)) (by have:=jm.out;simp only [AI];omega) (by have:=HB.out.size;simp only [AA];omega) ?_);intro v16 w16 jc ja je;have jh:=A6 jc;have jb:=A6 ja;clear jc ja je)
   go_roundg (s.size - (i+1))
   case measure=>have:=jt.out;omega
   case rel =>
    obtain ⟨wa,ji⟩:∃ wa,wr.alloc (.cells #[.int .u8 (s[i].toNat:Int),.int .i64 0] 55)=wa:=⟨_,rfl⟩
    have jy:Ext wr wa:=by rw [← ji];exact (Below.refl _ _).alloc (A7 _) _
    have jo:wa.heap[wr.heap.size]? = some (.cells #[.int .u8 (s[i].toNat:Int),.int .i64 0] 55 (0,0)):=by rw [← ji];exact heap_alloc_new _ _
    have jb:=jb.out;rw [ji] at jb;obtain ⟨wb,jr⟩:∃ wb,wa.alloc (.cells #[.slice (some ⟨wr.heap.size,0,none⟩) 1 1] 53)=wb:=⟨_,rfl⟩
    have js:Ext wa wb:=by rw [← jr];exact (Below.refl _ _).alloc (A7 _) _
    rw [jr] at jb;have jk:Ext wr wb:=Ext.trans jy js;have ju:=(js.block _ (A9.1 jo).1).trans jo;have jj:ElS wb ⟨some ⟨wr.heap.size,0,none⟩,1,1⟩ [⟨s[i],0⟩]:=ElS.of (LR ju (A7 _));have jf:=Er.push (HQ.out.later jk (A7 _)) jh.out jb jj;rw [← HN.out] at jf;exact ⟨i+1,by go_num,by omega,rfl,⟨_,jf⟩,(HB.out.trans (Below.mono jk HB.out.size)).grown jb (by have:=HB.out.size;have:=jk.size;omega) fun q hq=>HQ.out.own.ge q hq⟩
  ·have jd:(DZ s).take i=DZ s:=AM (by rw [Eh];omega);obtain rfl:i=s.size:=by omega
   have jg:=A6 jd;clear jd
   go_wp2_with fail
   go_ret;have h:=HQ.out;rw [jg.out] at h;have jv:=jm.out;rw [jv] at h ⊢;exact ⟨⟨_,_,rfl,_,h⟩,HB.out⟩
def kyA (s:Slt) (k:Nat):Nat:=((s[k]?).map fun c=>c.key.toNat).getD 0
def okC (s:Slt) (k:Nat):Bool:=match s[k]? with
 | none=>true
 | some c=>decide (97≤c.key.toNat) && (decide (c.key.toNat≤122) && (decide (0≤c.cost) && (decide (c.cost≤1000) && (decide (k=0) || decide (kyA s (k - 1)<c.key.toNat)))))
def okS (s:Slt):Bool:=decide (1≤s.length) && (decide (s.length≤8) && (List.range s.length).all (okC s))
def validB (L:List Slt):Bool:=decide (L.length≤40) && L.all okS
theorem Ta {s:Slt} {k:Nat} (hk:k<s.length):okC s k=true↔97≤s[k].key.toNat∧s[k].key.toNat≤122∧0≤s[k].cost∧s[k].cost≤1000∧(k=0∨kyA s (k - 1)<s[k].key.toNat):=by
 unfold okC;rw [AE hk];simp only [Bool.and_eq_true,Bool.or_eq_true,decide_eq_true_eq]
theorem UI {s:Slt} {k:Nat} (hk:k<s.length):kyA s k=s[k].key.toNat:=by
 unfold kyA;rw [AE hk];rfl
theorem Gd {p:Nat→Bool} {n:Nat}:(List.range (n+1)).all p=((List.range n).all p && p n):=by
 rw [List.range_succ,List.all_append];simp
theorem KH {p:Nat→Bool} {n k:Nat} (hk:k<n) (h:p k=false):(List.range n).all p=false:=by
 cases e:(List.range n).all p with
 | false=>rfl
 | true=>rw [List.all_eq_true] at e;rw [e k (Am.2 hk)] at h;cases h
theorem IA {s:Slt} {k:Nat} (hk:k<s.length) (h:okC s k=false):okS s=false:=by
 unfold okS;rw [KH hk h];simp
theorem Tb {s:Slt} {k:Nat} (hk:k<(chA s).length):(chA s)[k].c=((s[k]'(by rw [Ds] at hk;exact hk)).key.toNat:Int):=by simp [chA]
theorem SS {s:Slt} {k:Nat} (hk:k<(chA s).length):(chA s)[k].t=(s[k]'(by rw [Ds] at hk;exact hk)).cost:=by simp [chA]
theorem E5.ch {w:World} {a:Option Addr} {s:Slt} (h:E5 w a (chA s)) {k:Nat} (hk:k<s.length) :
  ∃ b o,a=some ⟨b,o,none⟩∧b<w.heap.size∧w.cell? ⟨b,o+k*2,none⟩=some (.int .u8 (s[k].key.toNat:Int))∧w.cell? ⟨b,o+k*2+1,none⟩=some (.int .i64 s[k].cost):=by
 have ja:k<(chA s).length:=by rw [Ds];exact hk
 obtain ⟨b,o,h1,h2,h3,h4⟩:=h k ja;rw [Tb ja] at h3;rw [SS ja] at h4;exact ⟨b,o,h1,h2,h3,h4⟩
theorem vslot_any (s:Slt) (a:Option Addr) (c:Nat) (w:World) (hA:E5 w a (chA s)) (hl:s.length≤9223372036854775807) :
  Calls Tryz.prog 51 #[.slice a s.length c] w fun e w'=>e=.returned (.bool (okS s))∧Below w.heap.size w w':=by
 have HA:=A6 hA;clear hA;by_cases h1:s.length<1
 ·have HR:Hid (okS s=false):=by show _=_;unfold okS;simp;omega
  have jJ:(s.length:Int)<1:=by omega
  go_enter Tryz.func51,Tryz.ntmps51
  go_wp2_with fail
  go_ret;exact ⟨Au HR.out.symm,Below.refl _ _⟩
 have jJ:¬ (s.length:Int)<1:=by omega
 by_cases h2:8<s.length
 ·have HR:Hid (okS s=false):=by show _=_;unfold okS;simp;omega
  have jK:(8:Int)<(s.length:Int):=by omega
  go_enter Tryz.func51,Tryz.ntmps51
  go_wp2_with fail
  go_ret;exact ⟨Au HR.out.symm,Below.refl _ _⟩
 have jK:¬ (8:Int)<(s.length:Int):=by omega
 go_enter Tryz.func51,Tryz.ntmps51
 go_wp2_with fail
 go_loopg [15] s.length (fun g v15 wr=>∃ j:Nat,v15=.int .i64 (j:Int)∧j≤s.length∧g=s.length - j∧(List.range j).all (okC s)=true∧Below w.heap.size w wr)
 case atStart=>exact ⟨0,rfl,Nat.zero_le _,rfl,rfl,Below.refl _ _⟩
 case round =>
  obtain ⟨j,rfl,hj,jF,jp,hb⟩:=hrel;have jh:=A6 jp;have HB:=A6 hb;have jy:=A6 jF;clear jp hb jF;by_cases jg:j<s.length
  ·obtain ⟨
       b1,o1,ha1,hb1,q0,q1⟩:=(HA.out.later HB.out (A7 _)).ch jg
   have hi1:=JD a b1 o1 s.length c j ha1 jg;have ji:=A6 (Ta jg);obtain ⟨kI,jw⟩:∃ kI:Int,(s[j].key.toNat:Int)=kI:=⟨_,rfl⟩
   obtain ⟨cI,ju⟩:∃ cI:Int,s[j].cost=cI:=⟨_,rfl⟩
   rw [jw] at q0;rw [ju] at q1;have jn:=A6 jw;have jr:=A6 ju;clear jw ju ha1;by_cases g1:kI<97
   ·have HR:Hid (okS s=false):=IA jg (by
     cases e:okC s j with
     | false=>rfl
     | true=>have:=ji.out.1 e;have:=jn.out;omega)
    go_wp2_with fail
    go_ret;exact ⟨Au HR.out.symm,HB.out.trans (((Below.refl _ _).alloc (A7 _) _).mono HB.out.size)⟩
   by_cases g2:122<kI
   ·have HR:Hid (okS s=false):=IA jg (by
     cases e:okC s j with
     | false=>rfl
     | true=>have:=ji.out.1 e;have:=jn.out;omega)
    go_wp2_with fail
    go_ret;exact ⟨Au HR.out.symm,HB.out.trans (((Below.refl _ _).alloc (A7 _) _).mono HB.out.size)⟩
   by_cases g3:cI<0
   ·have HR:Hid (okS s=false):=IA jg (by
     cases e:okC s j with
     | false=>rfl
     | true=>have:=ji.out.1 e;have:=jr.out;omega)
    go_wp2_with fail
    go_ret;exact ⟨Au HR.out.symm,HB.out.trans (((Below.refl _ _).alloc (A7 _) _).mono HB.out.size)⟩
   by_cases g4:1000<cI
   ·have HR:Hid (okS s=false):=IA jg (by
     cases e:okC s j with
     | false=>rfl
     | true=>have:=ji.out.1 e;have:=jr.out;omega)
    go_wp2_with fail
    go_ret;exact ⟨Au HR.out.symm,HB.out.trans (((Below.refl _ _).alloc (A7 _) _).mono HB.out.size)⟩
   have hK0:0≤kI:=by omega
   by_cases jv:j=0
   ·have HO:Hid (okC s j=true):=ji.out.2 (by have:=jn.out;have:=jr.out;omega);have HJ:Hid (¬ (0:Int)<(j:Int)):=by show ¬ _;omega
    clear jv
    go_wp2_with fail
    obtain ⟨w5,jd⟩:∃ w5,wr.alloc (.cells #[.int .u8 kI,.int .i64 cI] 55)=w5:=⟨_,rfl⟩
    have je:Hid (Ext wr w5):=by show Ext _ _;rw [← jd];exact (Below.refl _ _).alloc (A7 _) _
    rw [jd];clear jd;refine B6 (by kernel_rfl) (Vs [vq (.int .i64 (j:Int)),vq (.bool false),vq (.bool false),vq (undef),vq (undef),vq (undef),vq (undef),vq (undef),vq (undef),vq (undef),vq (undef),vq (undef),vq (.bool false)]) (fun W=>Ext w5 W) 52 (by kernel_rfl) rfl ?hVx ?hSx ?hS (BN ?hop) ?hfin
    case hop =>
     refine ⟨?_,?k1,?_,?_,?_,?_,?_,?_,?_,?_,?_,?_,?_,trivial⟩
     all_goals
      intro A W jb hS jc ja;skip;have h0:A.tmps.getD 0 undef=.slice a s.length c:=ja 0 (by kernel_rfl);have h3:A.tmps.getD 3 undef=.int .i64 (j:Int):=ja 3 (by kernel_rfl);have h4:A.tmps.getD 4 undef=.pointer (some ⟨wr.heap.size,0,none⟩):=ja 4 (by kernel_rfl);clear ja;simp [Aq,Region.binds,Vs,vq] at jc
     case k1 =>
      refine Ao rfl (.inl ⟨_,W,?_,rfl,Ext.refl _⟩);clear jb hS;have jG:=HJ.out;simp [go_sem,Act.eval, *];omega
     all_goals first
      | (refine Ao rfl (.inl ⟨_,W,?_,rfl,Ext.refl _⟩);clear jb hS;simp [go_sem,Act.eval, *];done)
      | exact C2 (j:=2) (d:=40) (b:=false) rfl (by kernel_rfl) (by simp only [jc]) rfl rfl
    case hVx=>exact Av (by simp only [Aj,List.not_mem_nil,or_false,forall_eq_or_imp,forall_eq];and_intros <;> exact An _)
    case hSx=>exact fun W W' h hx=>Ext.trans h hx
    case hS=>exact Ext.refl _
    case hfin =>
     intro A W jb jf hS hv ja;obtain ⟨x,hx,hA⟩:=Aw [38,39,40,41,42,43,44,45,46,47,48,49,50] (by kernel_rfl) jb jf ja;have e50:x 50=.bool false:=(hx 50).trans (hv 12 (by decide));rw [hA];simp only [List.foldl];rw [e50];clear e50;simp only [Act.put,List.setIfInBounds_toArray,List.set_cons_succ,List.set_cons_zero];clear hA hx hv ja jb jf;have jo:Hid (Ext w5 W):=hS;clear hS
     go_wp2_with fail
     go_roundg (s.length - (j+1))
     case measure=>have:=jy.out;omega
     case rel=>exact ⟨j+1,by go_num,by omega,rfl,by rw [Gd,jh.out,HO.out];rfl,HB.out.trans (Below.mono (Ext.trans je.out jo.out) HB.out.size)⟩
   ·obtain ⟨p,jI⟩:∃ p,j=p+1:=⟨j - 1,by omega⟩
    have hp:p<s.length:=by omega
    have jk:(j:Int) - 1=(p:Int):=by omega
    have jl:IntKind.i64.wrap ((j:Int) - 1)=(p:Int):=by rw [jk];exact IntWalk.i64_in _ (by omega)
    obtain ⟨b2,o2,jE,js,l0, -⟩:=(HA.out.later HB.out (A7 _)).ch hp;have hi2:=JD a b2 o2 s.length c p jE hp;obtain ⟨pI,jx⟩:∃ pI:Int,(s[p].key.toNat:Int)=pI:=⟨_,rfl⟩
    rw [jx] at l0;have jH:kyA s (j - 1)=s[p].key.toNat:=by rw [jI];exact UI hp
    have jA:=A6 jH;have jC:=A6 jx;have jB:=A6 jk;have jD:=A6 jl;have HJ:Hid ((0:Int)<(j:Int)):=by show _<_;omega
    have jq:¬ j=0:=jv;have jz:=A6 jq;clear jE jk jl jH jx jI jv jq;by_cases g5:kI≤pI
    ·have HR:Hid (okS s=false):=IA jg (by
      cases e:okC s j with
      | false=>rfl
      | true=>have:=ji.out.1 e;have:=jn.out;have:=jA.out;have:=jC.out;have:=jz.out;omega)
     go_wp2_with fail
     obtain ⟨w5,jd⟩:∃ w5,wr.alloc (.cells #[.int .u8 kI,.int .i64 cI] 55)=w5:=⟨_,rfl⟩
     have je:Hid (Ext wr w5):=by show Ext _ _;rw [← jd];exact (Below.refl _ _).alloc (A7 _) _
     have jm:Hid (w5.heap[wr.heap.size]? = some (.cells #[.int .u8 kI,.int .i64 cI] 55 (0,0))):=by show _=_;rw [← jd];exact heap_alloc_new _ _
     have jt:Hid (w5.cell? ⟨b2,o2+p*2,none⟩=some (.int .u8 pI)):=Eq.trans (Below.cell je.out (p:=⟨b2,o2+p*2,none⟩) js) l0;have jj:b2<w5.heap.size:=AB js (Below.size je.out);rw [jd];clear jd l0;refine B6 (by kernel_rfl) (Vs [vq (.int .i64 (j:Int)),vq (.bool true),vq (.bool true),vq (.slice a s.length c),vq (.int .i64 (j:Int)),vq (.int .i64 (p:Int)),vq (.pointer (some ⟨b2,o2+p*2,none⟩)),vq (.pointer (some ⟨b2,o2+p*2,none⟩)),vq (.int .u8 pI),vq (.pointer (some ⟨wr.heap.size,0,none⟩)),vq (.int .u8 kI),vq (.bool true),vq (.bool true)]) (fun W=>Ext w5 W) 52 (by kernel_rfl) rfl ?hVx ?hSx ?hS (BN ?hop) ?hfin
     case hop =>
      refine ⟨?_,?k1,?_,?_,?_,?_,?_,?_,?_,?_,?_,?_,?_,trivial⟩
      all_goals
       intro A W jb hS jc ja;have l0:=Eq.trans (Below.cell hS (p:=⟨b2,o2+p*2,none⟩) jj) jt.out;have d0:=Eq.trans (Below.cell hS (p:=⟨wr.heap.size,0,none⟩) (A9.1 jm.out).1) (cell_of_row w5 wr.heap.size 0 _ _ (0,0) jm.out);rw [show (#[.int .u8 kI,.int .i64 cI]:Array Value)[0]? = some (.int .u8 kI) from rfl] at d0;have jk:=jB.out;have jl:=jD.out;rw [jk] at jl;have h0:A.tmps.getD 0 undef=.slice a s.length c:=ja 0 (by kernel_rfl);have h3:A.tmps.getD 3 undef=.int .i64 (j:Int):=ja 3 (by kernel_rfl);have h4:A.tmps.getD 4 undef=.pointer (some ⟨wr.heap.size,0,none⟩):=ja 4 (by kernel_rfl);clear ja;simp [Aq,Region.binds,Vs,vq] at jc
      case k1 =>
       refine Ao rfl (.inl ⟨_,W,?_,rfl,Ext.refl _⟩);clear jb hS;have jG:=HJ.out;simp [go_sem,Act.eval, *];omega
      all_goals first
       | (refine Ao rfl (.inl ⟨_,W,?_,rfl,Ext.refl _⟩);clear jb hS;simp [go_sem,Act.eval, *];done)
       | (refine B2 (j:=2) (d:=40) (b:=true) rfl (by kernel_rfl) (by simp only [jc]) rfl (.inl ⟨_,W,?_,rfl,Ext.refl _⟩);clear jb hS;simp [go_sem,Act.eval, *];done)
     case hVx=>exact Av (by simp only [Aj,List.not_mem_nil,or_false,forall_eq_or_imp,forall_eq];and_intros <;> exact An _)
     case hSx=>exact fun W W' h hx=>Ext.trans h hx
     case hS=>exact Ext.refl _
     case hfin =>
      intro A W jb jf hS hv ja;obtain ⟨x,hx,hA⟩:=Aw [38,39,40,41,42,43,44,45,46,47,48,49,50] (by kernel_rfl) jb jf ja;have e50:x 50=.bool true:=(hx 50).trans (hv 12 (by decide));rw [hA];simp only [List.foldl];rw [e50];clear e50;simp only [Act.put,List.setIfInBounds_toArray,List.set_cons_succ,List.set_cons_zero];clear hA hx hv ja jb jf;have jo:Hid (Ext w5 W):=hS;clear hS
      go_wp2_with fail
      go_ret;exact ⟨Au HR.out.symm,HB.out.trans (Below.mono (Ext.trans je.out jo.out) HB.out.size)⟩
    ·have HO:Hid (okC s j=true):=ji.out.2 (by have:=jn.out;have:=jr.out;have:=jA.out;have:=jC.out;have:=jz.out;omega)
     go_wp2_with fail
     obtain ⟨w5,jd⟩:∃ w5,wr.alloc (.cells #[.int .u8 kI,.int .i64 cI] 55)=w5:=⟨_,rfl⟩
     have je:Hid (Ext wr w5):=by show Ext _ _;rw [← jd];exact (Below.refl _ _).alloc (A7 _) _
     have jm:Hid (w5.heap[wr.heap.size]? = some (.cells #[.int .u8 kI,.int .i64 cI] 55 (0,0))):=by show _=_;rw [← jd];exact heap_alloc_new _ _
     have jt:Hid (w5.cell? ⟨b2,o2+p*2,none⟩=some (.int .u8 pI)):=Eq.trans (Below.cell je.out (p:=⟨b2,o2+p*2,none⟩) js) l0;have jj:b2<w5.heap.size:=AB js (Below.size je.out);rw [jd];clear jd l0;refine B6 (by kernel_rfl) (Vs [vq (.int .i64 (j:Int)),vq (.bool true),vq (.bool true),vq (.slice a s.length c),vq (.int .i64 (j:Int)),vq (.int .i64 (p:Int)),vq (.pointer (some ⟨b2,o2+p*2,none⟩)),vq (.pointer (some ⟨b2,o2+p*2,none⟩)),vq (.int .u8 pI),vq (.pointer (some ⟨wr.heap.size,0,none⟩)),vq (.int .u8 kI),vq (.bool false),vq (.bool false)]) (fun W=>Ext w5 W) 52 (by kernel_rfl) rfl ?hVx ?hSx ?hS (BN ?hop) ?hfin
     case hop =>
      refine ⟨?_,?k1,?_,?_,?_,?_,?_,?_,?_,?_,?_,?_,?_,trivial⟩
      all_goals
       intro A W jb hS jc ja;have l0:=Eq.trans (Below.cell hS (p:=⟨b2,o2+p*2,none⟩) jj) jt.out;have d0:=Eq.trans (Below.cell hS (p:=⟨wr.heap.size,0,none⟩) (A9.1 jm.out).1) (cell_of_row w5 wr.heap.size 0 _ _ (0,0) jm.out);rw [show (#[.int .u8 kI,.int .i64 cI]:Array Value)[0]? = some (.int .u8 kI) from rfl] at d0;have jk:=jB.out;have jl:=jD.out;rw [jk] at jl;have h0:A.tmps.getD 0 undef=.slice a s.length c:=ja 0 (by kernel_rfl);have h3:A.tmps.getD 3 undef=.int .i64 (j:Int):=ja 3 (by kernel_rfl);have h4:A.tmps.getD 4 undef=.pointer (some ⟨wr.heap.size,0,none⟩):=ja 4 (by kernel_rfl);clear ja;simp [Aq,Region.binds,Vs,vq] at jc
      case k1 =>
       refine Ao rfl (.inl ⟨_,W,?_,rfl,Ext.refl _⟩);clear jb hS;have jG:=HJ.out;simp [go_sem,Act.eval, *];omega
      all_goals first
       | (refine Ao rfl (.inl ⟨_,W,?_,rfl,Ext.refl _⟩);clear jb hS;simp [go_sem,Act.eval, *];done)
       | (refine B2 (j:=2) (d:=40) (b:=true) rfl (by kernel_rfl) (by simp only [jc]) rfl (.inl ⟨_,W,?_,rfl,Ext.refl _⟩);clear jb hS;simp [go_sem,Act.eval, *];done)
     case hVx=>exact Av (by simp only [Aj,List.not_mem_nil,or_false,forall_eq_or_imp,forall_eq];and_intros <;> exact An _)
     case hSx=>exact fun W W' h hx=>Ext.trans h hx
     case hS=>exact Ext.refl _
     case hfin =>
      intro A W jb jf hS hv ja;obtain ⟨x,hx,hA⟩:=Aw [38,39,40,41,42,43,44,45,46,47,48,49,50] (by kernel_rfl) jb jf ja;have e50:x 50=.bool false:=(hx 50).trans (hv 12 (by decide));rw [hA];simp only [List.foldl];rw [e50];clear e50;simp only [Act.put,List.setIfInBounds_toArray,List.set_cons_succ,List.set_cons_zero];clear hA hx hv ja jb jf;have jo:Hid (Ext w5 W):=hS;clear hS
      go_wp2_with fail
      go_roundg (s.length - (j+1))
      case measure=>have:=jy.out;omega
      case rel=>exact ⟨j+1,by go_num,by omega,rfl,by rw [Gd,jh.out,HO.out];rfl,HB.out.trans (Below.mono (Ext.trans je.out jo.out) HB.out.size)⟩
  ·have HR:Hid (okS s=true):=by
    show _=_;have e:j=s.length:=by omega
    have h:=jh.out;rw [e] at h;unfold okS;rw [h];simp;omega
   go_wp2_with fail
   go_ret;exact ⟨Au HR.out.symm,HB.out⟩
def ST (L:List Slt):Prop:=∀ s∈L,s.Pairwise fun a b=>a.key≠b.key
def C1 (X:List UInt8) (n:Nat) (r:List UInt8):Option Nat:=if (X.drop n).take r.length=r then some (n+r.length) else none
theorem LU (X:List UInt8):St (C1 X) where
 nil n:=by unfold C1;simp
 app
   n a b:=by
  unfold C1;rw [AF,List.take_add,List.drop_drop];by_cases h:(X.drop n).take a.length=a
  ·rw [if_pos h,h];simp only [Option.bind_some];by_cases h2:(X.drop (n+a.length)).take b.length=b
   · rw [if_pos h2,if_pos (by rw [h2]),Nat.add_assoc]
   · rw [if_neg h2,if_neg (fun e=>h2 (List.append_cancel_left e))]
  ·rw [if_neg h];simp only [Option.bind_none];rw [if_neg];intro e;refine h (List.append_inj_left e ?_);have h1:=congrArg List.length e;rw [AF,AF] at h1;have h2:((X.drop n).take a.length).length≤a.length:=List.length_take_le _ _;have h3:((X.drop (n+a.length)).take b.length).length≤b.length:=List.length_take_le _ _;omega
theorem MH {X:List UInt8} {n m:Nat} {r:List UInt8} (hn:n≤X.length) (h:C1 X n r=some m):m≤X.length:=by
 unfold C1 at h;split at h
 ·rename_i e;cases h;have h1:=congrArg List.length e;rw [AV,List.length_drop] at h1;omega
 · cases h
theorem SU {X o:List UInt8} (h:C1 X 0 o=some X.length):o=X:=by
 unfold C1 at h;split at h
 ·rename_i e;injection h with h;rw [List.drop_zero,AM (by omega)] at e;exact e.symm
 · cases h
theorem QX (X:List UInt8):C1 X 0 X=some X.length:=by unfold C1;simp
theorem rtW {R:List Rl} {L:List Slt} {X:List UInt8} {i m c:Nat}:Rt R L (C1 X) i (m,X.length) c↔RtS R L i m X c:=by
 constructor
 ·intro h;obtain ⟨o,h1,h2⟩:=Tk (LU X) h;rw [SU h2] at h1;exact h1
 ·intro h;exact RA (LU X) h (QX X)
section
variable {w w':World} {B P Mo K g0:Nat} {gp cp:Nat→Nat} {gb ck:Nat→Nat→Nat} {M:Nat→Ent}
end
theorem ER {w:World} {g:Nat} {m a:Int} {b:Option Addr} {n c:Nat} (h:w.heap[g]? = some (.cells #[.int .i64 m,.int .u8 a,.slice b n c] 32 (0,0))) :
  w.cell? ⟨g,0,none⟩=some (.int .i64 m)∧w.cell? ⟨g,1,none⟩=some (.int .u8 a)∧w.cell? ⟨g,2,none⟩=some (.slice b n c):=by
 refine ⟨?_,?_,?_⟩ <;> (rw [cell_of_row w g _ _ _ (0,0) h];rfl)
def IB (z:Int):UInt8:=if z % 3=0 then 97 else if z % 3=1 then 98 else 99
def Nf (Z:Nat→Int) (n:Nat):List UInt8:=(List.range n).map fun i=>IB (Z i)
theorem QY (Z:Nat→Int) (n:Nat):Nf Z (n+1)=Nf Z n ++ [IB (Z n)]:=by simp [Nf,List.range_succ]
def Ng (Z:Nat→Int) (n:Nat):ByteArray:=⟨(Nf Z n).toArray⟩
theorem UX (Z:Nat→Int) (n:Nat):(Ng Z n).size=n:=by simp [Ng,Nf,ByteArray.size]
theorem Up (Z:Nat→Int) (n:Nat):bts (Ng Z n)=Nf Z n:=rfl
theorem UJ (z:Int):97≤(IB z).toNat∧(IB z).toNat≤99:=by unfold IB;split;decide;split <;> decide
theorem input_any (Z:Nat→Int) (a:Option Addr) (len cap n:Nat) (w:World) (hZ:Ce w a len Z) (hl:len≤9223372036854775807) (hn:n≤1000) :
  Calls Tryz.prog 14 #[.slice a len cap,.int .i64 (n:Int)] w fun e w'=>e=.returned (.string (Ng Z (min len n)))∧Below w.heap.size w w':=by
 have HZ:=A6 hZ;clear hZ
 go_enter Tryz.func14,Tryz.ntmps14
 go_wp2
 go_loopw [6,5] (fun i v wr=>∃ (k:Nat) (x:ByteArray),k≤n∧k≤len∧i=.int .i64 (k:Int)∧v=.string x∧x.data.toList=Nf Z k∧Below w.heap.size w wr) (fun i _ _=>n - (intOf i).toNat)
 case atStart=>exact ⟨0,⟨#[]⟩,Nat.zero_le _,Nat.zero_le _,rfl,rfl,rfl,Below.refl _ _⟩
 case round =>
  obtain ⟨k,x,hk4,hk,rfl,rfl,hx,hB⟩:=hrel;have HB:=A6 hB;have HX:=A6 hx;have hzB:=hB.size;have hxs:x.size=k:=by
   have:=congrArg List.length hx;simpa [Nf] using this
  clear hB hx;by_cases jb:k<len
  ·by_cases h4:k<n
   ·have jd:(k:Int)<(n:Int):=by omega
    obtain ⟨b,o,ha,hb,h0,z0,z1⟩:=(HZ.out.later HB.out (A7 _)).at jb;have hidx:=GC a b o len cap k ha jb;have HS:=A6 (QY Z k);obtain ⟨z,hz⟩:∃ z,Z k=z:=⟨_,rfl⟩
    rw [hz] at h0 z0 z1 HS;clear hz ha;have ja:z % 3=0∨z % 3=1∨z % 3=2:=by omega
    rcases ja with hm | hm | hm
    ·have jc:z.tmod 3=0:=(Int.tmod_eq_emod_of_nonneg z0).trans hm;have HL:Hid ((ByteArray.extract ⟨#[97,98,99]⟩ 0 1).data.toList=[IB z]):=by
      show _=_;have e:IB z=[97,98,99].getD 0 0:=by unfold IB;rw [hm];rfl
      rw [e];decide
     go_wp2
     go_quiet (fail)
     go_wp2
     go_roundw
     case rel=>exact ⟨k+1,_,by omega,by omega,by go_num,rfl,by rw [HS.out,ByteArray.data_append,Array.toList_append,HX.out,HL.out],below_drewN HB.out _⟩
     case measure=>simp [intOf];omega
    ·have jc:z.tmod 3=1:=(Int.tmod_eq_emod_of_nonneg z0).trans hm;have HL:Hid ((ByteArray.extract ⟨#[97,98,99]⟩ 1 2).data.toList=[IB z]):=by
      show _=_;have e:IB z=[97,98,99].getD 1 0:=by unfold IB;rw [hm];rfl
      rw [e];decide
     go_wp2
     go_quiet (fail)
     go_wp2
     go_roundw
     case rel=>exact ⟨k+1,_,by omega,by omega,by go_num,rfl,by rw [HS.out,ByteArray.data_append,Array.toList_append,HX.out,HL.out],below_drewN HB.out _⟩
     case measure=>simp [intOf];omega
    ·have jc:z.tmod 3=2:=(Int.tmod_eq_emod_of_nonneg z0).trans hm;have HL:Hid ((ByteArray.extract ⟨#[97,98,99]⟩ 2 3).data.toList=[IB z]):=by
      show _=_;have e:IB z=[97,98,99].getD 2 0:=by unfold IB;rw [hm];rfl
      rw [e];decide
     go_wp2
     go_quiet (fail)
     go_wp2
     go_roundw
     case rel=>exact ⟨k+1,_,by omega,by omega,by go_num,rfl,by rw [HS.out,ByteArray.data_append,Array.toList_append,HX.out,HL.out],below_drewN HB.out _⟩
     case measure=>simp [intOf];omega
   ·have jd:¬ (k:Int)<(n:Int):=by omega
    have HR:Hid (Ng Z (min len n)=x):=by
     show _=_;have:min len n=k:=by omega
     rw [Ng,this,← HX.out]
    go_wp2;go_ret;exact ⟨P0 HR.out.symm,HB.out⟩
  ·have HR:Hid (Ng Z (min len n)=x):=by
    show _=_;have:min len n=k:=by omega
    rw [Ng,this,← HX.out]
   go_wp2;go_ret;exact ⟨P0 HR.out.symm,HB.out⟩
open Go.RowKit Go.WideShapes
def GX (z:Int):UInt8:=if z % 4=0 then 97 else if z % 4=1 then 98 else if z % 4=2 then 65 else 66
def Ie (Z:Nat→Int) (n:Nat):List UInt8:=(List.range n).map fun i=>GX (Z i)
theorem QZ (Z:Nat→Int) (n:Nat):Ie Z (n+1)=Ie Z n ++ [GX (Z n)]:=by simp [Ie,List.range_succ]
def dwF (Z:Nat→Int) (len:Nat):ByteArray:=⟨(Ie Z (min len 4)).toArray⟩
theorem SW (Z:Nat→Int) (len:Nat):(dwF Z len).size=min len 4:=by
 show (Ie Z (min len 4)).toArray.size=_;simp [Ie]
def DL (Q:Nat→BR):Nat→List ByteArray
 | 0=>[]
 | k+1=>if (Q k).n=0 then DL Q k else GS (DL Q k) (dwF (Q k).Z (Q k).n)
def If (Q:Nat→BR) (len n:Nat):List ByteArray:=if DL Q (min len n)=[] then [⟨#[97]⟩] else DL Q (min len n)
theorem GP (Q:Nat→BR):∀ k,(DL Q k).length≤k
 | 0=>by simp [DL]
 | k+1=>by
  have h2:=GP Q k;rw [DL];split
  · omega
  · have h1:=R8 (DL Q k) (dwF (Q k).Z (Q k).n);omega
theorem Tc (z:Int):(!(BP ((GX z).toNat:Int) == 0))=true:=by
 unfold GX;split
 · decide
 ·split
  · decide
  · split <;> decide
theorem UK (Z:Nat→Int) (n:Nat) (hn:n≠0):DC (dwF Z n)=true∧(dwF Z n).size≤4:=by
 have jb:=SW Z n;refine ⟨?_,by omega⟩;unfold DC DO FY;rw [jb];have h1:decide (1≤min n 4)=true:=decide_eq_true (by omega);have h2:decide (min n 4≤20)=true:=decide_eq_true (by omega);rw [h1,h2];simp only [Bool.true_and,List.all_eq_true];intro c hc;have ja:c∈Ie Z (min n 4):=hc;obtain ⟨i,_,rfl⟩:=AP.1 ja;exact Tc _
theorem MI (Q:Nat→BR):∀ k,(DL Q k).Pairwise (fun x y=>ltS x y=true)∧∀ x∈DL Q k,DC x=true∧x.size≤4
 | 0=>⟨.nil,fun x hx=>by cases hx⟩
 | k
   + 1=>by
  obtain ⟨h1,h2⟩:=MI Q k;rw [DL];split
  · exact ⟨h1,h2⟩
  ·rename_i hn;refine ⟨ins_sorted h1,fun x hx=>?_⟩;rcases ins_mem.1 hx with rfl | hx
   · exact UK _ _ hn
   · exact h2 x hx
theorem Uq (Q:Nat→BR) (len n:Nat) (hn:n≤200):Cz (If Q len n):=by
 have hl:=GP Q (min len n);unfold If;split
 · exact NY (by simp) (by simp) (fun x hx=>by rw [AJ.1 hx];decide) (by simp)
 ·rename_i h;exact NY (List.length_pos_iff.2 h) (by omega) (fun x hx=>((MI Q _).2 x hx).1) (MI Q _).1
theorem V3 (Q:Nat→BR) (len n:Nat) (hn:1≤n):(If Q len n).length≤n:=by
 have hl:=GP Q (min len n);unfold If;split
 · simpa using hn
 · omega
theorem dictionary13_any (Q:Nat→BR) (a:Option Addr) (len cap n:Nat) (w:World) (hQ:Fq w a len Q) (hl:len≤9223372036854775807) (hn:n≤1000) :
  Calls Tryz.prog 12 #[.slice a len cap,.int .i64 (n:Int)] w (P1 (If Q len n) w):=by
 have HQ:=A6 hQ;clear hQ
 go_enter Tryz.func12,Tryz.ntmps12
 go_wp2_with fail
 have jz:Hid (Below w.heap.size w (w.alloc (.cells #[] 9))):=(Below.refl _ _).alloc (A7 _) _
 go_loopg [5,6] n (fun g v5 v6 wr=>∃ (k b o c m:Nat),v6=.int .i64 (k:Int)∧k≤n∧k≤len∧g=n - k∧v5=.slice (some ⟨b,o,none⟩) m c∧m=(DL Q k).length∧Bz wr (some ⟨b,o,none⟩) (DL Q k)∧(DL Q k).length≤c∧Below w.heap.size w wr)
 case atStart=>exact ⟨0,w.heap.size,0,0,0,rfl,Nat.zero_le _,Nat.zero_le _,rfl,rfl,rfl,Bz.nil _ _,A7 _,jz.out⟩
 case round =>
  clear jz;obtain ⟨k,b,o,c,m,rfl,hkn,hk,jD,rfl,hm,hS,hc,hB⟩:=hrel;have HS:=A6 hS;have HB:=A6 hB;have jp:=A6 jD;have jL:=GP Q k;obtain ⟨M,hM⟩:∃ M,DL Q k=M:=⟨_,rfl⟩
  have HM:=A6 hM;rw [hM] at hm hc jL HS;subst hm;clear hS hB hM jD;obtain ⟨wo,jM⟩:∃ wo:World,wo=wr:=⟨wr,rfl⟩
  subst jM;by_cases jF:k<len
  ·by_cases h4
         : k<n
   ·have jK:(k:Int)<(n:Int):=by omega
    obtain ⟨b1,o1,ha,jB,h0,hb,jC⟩:=(HQ.out.later HB.out (A7 _)) k jF;have jf:=M1 a b1 o1 len cap k ha jF;have ji:Hid (DL Q (k+1)=if (Q k).n=0 then M else GS M (dwF (Q k).Z (Q k).n)):=by show _=_;rw [DL,HM.out]
    obtain ⟨q,hq⟩:∃ q,Q k=q:=⟨_,rfl⟩
    rw [hq] at h0 hb jC ji;obtain ⟨qa,qn,qc,qZ⟩:=q;simp only at h0 hb jC ji;have jH:=A6 hb;have jI:=A6 h0;have jG:=A6 jB;have jJ:=A6 jf;clear ha hq hb h0 jB jf
    go_wp2_with fail
    go_loopg [7,8] 4 (fun g v7 v8 wr=>∃ (j:Nat) (x:ByteArray),v8=.int .i64 (j:Int)∧v7=.string x∧j≤4∧j≤qn∧g=4 - j∧x.data.toList=Ie qZ j∧Below wo.heap.size wo wr)
    case atStart=>exact ⟨0,⟨#[]⟩,rfl,rfl,by omega,Nat.zero_le _,rfl,rfl,Below.refl _ _⟩
    case round =>
     obtain ⟨j,x,rfl,rfl,hj4,hj,jm,hx,jt⟩:=hrel;have jb:=A6 jt;have HX:=A6 hx;have jc:=A6 jm;have hxs:x.size=j:=by
      have:=congrArg List.length hx;simpa [Ie] using this
     have h0:=(jt.cell (p:=⟨b1,o1+k,none⟩) jG.out).trans jI.out;have jf:=jJ.out;clear jt hx jm;by_cases jE:j<qn
     ·by_cases hj3:j<4
      ·have ju:(j:Int)<4:=by omega
       obtain ⟨b2,o2,jA,hb2,h2,z0,z1⟩:=(jH.out.later jb.out (A7 _)).at jE;have hidx2:=GC qa b2 o2 qn qc j jA jE;have ja:=A6 (QZ qZ j);obtain ⟨z,hz⟩:∃ z,qZ j=z:=⟨_,rfl⟩
       rw [hz] at h2 z0 z1 ja;clear hz jA;have jl:z % 4=0∨z % 4=1∨z % 4=2∨z % 4=3:=by omega
       rcases jl with hm | hm | hm | hm
       ·have jv:z.tmod 4=0:=(Int.tmod_eq_emod_of_nonneg z0).trans hm;have HL:Hid ((ByteArray.extract ⟨#[97,98,65,66]⟩ 0 1).data.toList=[GX z]):=by
         show _=_;have e:GX z=[97,98,65,66].getD 0 0:=by unfold GX;rw [hm];rfl
         rw [e];decide
        go_wp2_with fail
        go_quiet (fail)
        go_wp2_with fail
        go_roundg (4 - (j+1))
        case measure=>have:=jc.out;omega
        case rel=>exact ⟨j+1,_,by go_num,rfl,by omega,by omega,rfl,by rw [ja.out,ByteArray.data_append,Array.toList_append,HX.out,HL.out],below_drewN jb.out _⟩
       ·have jv:z.tmod 4=1:=(Int.tmod_eq_emod_of_nonneg z0).trans hm;have HL:Hid ((ByteArray.extract ⟨#[97,98,65,66]⟩ 1 2).data.toList=[GX z]):=by
         show _=_;have e:GX z=[97,98,65,66].getD 1 0:=by unfold GX;rw [hm];rfl
         rw [e];decide
        go_wp2_with fail
        go_quiet (fail)
        go_wp2_with fail
        go_roundg (4 - (j+1))
        case measure=>have:=jc.out;omega
        case rel=>exact ⟨j+1,_,by go_num,rfl,by omega,by omega,rfl,by rw [ja.out,ByteArray.data_append,Array.toList_append,HX.out,HL.out],below_drewN jb.out _⟩
       ·have jv:z.tmod 4=2:=(Int.tmod_eq_emod_of_nonneg z0).trans hm;have HL:Hid ((ByteArray.extract ⟨#[97,98,65,66]⟩ 2 3).data.toList=[GX z]):=by
         show _=_;have e:GX z=[97,98,65,66].getD 2 0:=by unfold GX;rw [hm];rfl
         rw [e];decide
        go_wp2_with fail
        go_quiet (fail)
        go_wp2_with fail
        go_roundg (4 - (j+1))
        case measure=>have:=jc.out;omega
        case rel=>exact ⟨j+1,_,by go_num,rfl,by omega,by omega,rfl,by rw [ja.out,ByteArray.data_append,Array.toList_append,HX.out,HL.out],below_drewN jb.out _⟩
       ·have jv:z.tmod 4=3:=(Int.tmod_eq_emod_of_nonneg z0).trans hm;have HL:Hid ((ByteArray.extract ⟨#[97,98,65,66]⟩ 3 4).data.toList=[GX z]):=by
         show _=_;have e:GX z=[97,98,65,66].getD 3 0:=by unfold GX;rw [hm];rfl
         rw [e];decide
        go_wp2_with fail
        go_quiet (fail)
        go_wp2_with fail
        go_roundg (4 - (j+1))
        case measure=>have:=jc.out;omega
        case rel=>exact ⟨j+1,_,by go_num,rfl,by omega,by omega,rfl,by rw [ja.out,ByteArray.data_append,Array.toList_append,HX.out,HL.out],below_drewN jb.out _⟩
      ·have ju:¬ (j:Int)<4:=by omega
       have HR:Hid (x=dwF qZ qn):=by
        show _=_;have jg:min qn 4=j:=by omega
        refine bytes_inj ?_;rw [HX.out];show _=Ie qZ (min qn 4);rw [jg]
       have je:Hid (Below w.heap.size w wr):=HB.out.trans (jb.out.mono HB.out.size);have ja:Hid (Bz wr (some ⟨b,o,none⟩) M):=HS.out.later jb.out (A7 _);by_cases jd:qn=0
       ·have jy:x=⟨#[]⟩:=bytes_inj (by rw [HX.out,show j=0 by omega];rfl);have HE:Hid (DL Q (k+1)=M):=by show _=_;rw [ji.out,if_pos jd]
        subst jy;clear jd
        go_wp2_with fail
        go_roundg (n - (k+1))
        case measure=>have:=jp.out;omega
        case rel=>exact ⟨k+1,b,o,c,_,by go_num,by omega,by omega,rfl,rfl,by rw [HE.out],by rw [HE.out];exact ja.out,by rw [HE.out];exact hc,je.out⟩
       ·have HE:Hid (DL Q (k+1)=GS M x):=by show _=_;rw [ji.out,if_neg jd,HR.out]
        have jn:(x.toList == [])=false:=by rw [beq_eq_false_iff_ne,ByteArray.toList_eq,HX.out];intro h;have:=congrArg List.length h;simp [Ie] at this;omega
        have jx:x.toList≠[]:=by simpa using jn
        clear jd
        go_wp2_with fail
        refine (insert_any M _ b o c x _ ja.out rfl hc (by omega)).mono ?_;rintro e w6 ⟨b6,o6,c6,rfl,jo,jk,jj⟩;have jq:=A6 (je.out.trans (jj.mono je.out.size));have js:=A6 jo;have jr:=A6 jk;clear jj jo jk
        go_wp2_with fail
        go_roundg (n - (k+1))
        case measure=>have:=jp.out;omega
        case rel=>exact ⟨k+1,b6,o6,c6,_,by go_num,by omega,by omega,rfl,rfl,by rw [HE.out],by rw [HE.out];exact js.out,by rw [HE.out];exact jr.out,jq.out⟩
     ·have hjq:¬ (j:Int)<(qn:Int):=by omega
      have HR:Hid (x=dwF qZ qn):=by
       show _=_;have jg:min qn 4=j:=by omega
       refine bytes_inj ?_;rw [HX.out];show _=Ie qZ (min qn 4);rw [jg]
      have je:Hid (Below w.heap.size w wr):=HB.out.trans (jb.out.mono HB.out.size);have ja:Hid (Bz wr (some ⟨b,o,none⟩) M):=HS.out.later jb.out (A7 _);by_cases jd:qn=0
      ·have jy:x=⟨#[]⟩:=bytes_inj (by rw [HX.out,show j=0 by omega];rfl);have HE:Hid (DL Q (k+1)=M):=by show _=_;rw [ji.out,if_pos jd]
       subst jy;clear jd
       go_wp2_with fail
       go_roundg (n - (k+1))
       case measure=>have:=jp.out;omega
       case rel=>exact ⟨k+1,b,o,c,_,by go_num,by omega,by omega,rfl,rfl,by rw [HE.out],by rw [HE.out];exact ja.out,by rw [HE.out];exact hc,je.out⟩
      ·have HE:Hid (DL Q (k+1)=GS M x):=by show _=_;rw [ji.out,if_neg jd,HR.out]
       have jn:(x.toList == [])=false:=by rw [beq_eq_false_iff_ne,ByteArray.toList_eq,HX.out];intro h;have:=congrArg List.length h;simp [Ie] at this;omega
       have jx:x.toList≠[]:=by simpa using jn
       clear jd
       go_wp2_with fail
       refine (insert_any M _ b o c x _ ja.out rfl hc (by omega)).mono ?_;rintro e w6 ⟨b6,o6,c6,rfl,jo,jk,jj⟩;have jq:=A6 (je.out.trans (jj.mono je.out.size));have js:=A6 jo;have jr:=A6 jk;clear jj jo jk
       go_wp2_with fail
       go_roundg (n - (k+1))
       case measure=>have:=jp.out;omega
       case rel=>exact ⟨k+1,b6,o6,c6,_,by go_num,by omega,by omega,rfl,rfl,by rw [HE.out],by rw [HE.out];exact js.out,by rw [HE.out];exact jr.out,jq.out⟩
   ·have jK:¬ (k:Int)<(n:Int):=by omega
    have HA:Hid (min len n=k):=by show _=_;omega
    by_cases h0:M=[]
    ·have HR:Hid (If Q len n=[⟨#[97]⟩]):=by show _=_;rw [If,HA.out,HM.out,if_pos h0]
     subst h0
     go_wp2_with fail
     go_ret;rw [HR.out];have jh:As C0 (wo.alloc (.cells #[.string ⟨#[97]⟩] 9)) 0 (.slice (some ⟨wo.heap.size,0,none⟩) 1 1) [⟨#[97]⟩]:=As.one CX (x:=⟨#[97]⟩) (heap_alloc_new wo _) (Nat.zero_le _);exact ⟨wo.heap.size,0,1,rfl,jh.strs.1,A7 _,HB.out.alloc HB.out.size _⟩
    ·have HR:Hid (If Q len n=M):=by show _=_;rw [If,HA.out,HM.out,if_neg h0]
     have jw:((M.length:Int) == 0)=false:=by
      rw [beq_eq_false_iff_ne];have:0<M.length:=List.length_pos_iff.2 h0;omega
     have jn:M≠[]:=h0
     go_wp2_with fail
     go_ret;rw [HR.out];exact ⟨b,o,c,rfl,HS.out,hc,HB.out⟩
  ·have HA:Hid (min len n=k):=by show _=_;omega
   by_cases h0:M=[]
   ·have HR:Hid (If Q len n=[⟨#[97]⟩]):=by show _=_;rw [If,HA.out,HM.out,if_pos h0]
    subst h0
    go_wp2_with fail
    go_ret;rw [HR.out];have jh:As C0 (wo.alloc (.cells #[.string ⟨#[97]⟩] 9)) 0 (.slice (some ⟨wo.heap.size,0,none⟩) 1 1) [⟨#[97]⟩]:=As.one CX (x:=⟨#[97]⟩) (heap_alloc_new wo _) (Nat.zero_le _);exact ⟨wo.heap.size,0,1,rfl,jh.strs.1,A7 _,HB.out.alloc HB.out.size _⟩
   ·have HR:Hid (If Q len n=M):=by show _=_;rw [If,HA.out,HM.out,if_neg h0]
    have jw:((M.length:Int) == 0)=false:=by
     rw [beq_eq_false_iff_ne];have:0<M.length:=List.length_pos_iff.2 h0;omega
    have jn:M≠[]:=h0
    go_wp2_with fail
    go_ret;rw [HR.out];exact ⟨b,o,c,rfl,HS.out,hc,HB.out⟩
def Td (D:List Nd) (w:World) (e:Ending) (w':World):Prop:=∃ a1 c1,e=.returned (.slice a1 D.length c1)∧D.length≤c1∧Cc w' a1 D∧Below w.heap.size w w'
def Ur (D:List Nd) (w:World) (e:Ending) (w':World):Prop:=∃ a1 c1,e=.returned (.tuple #[.slice a1 D.length c1,.int .i64 0])∧D.length≤c1∧Cc w' a1 D∧Below w.heap.size w w'
theorem UL (L:List ByteArray) (n:Nat) (a:Option Addr) (cap:Nat) (w:World) (hR:Bz w a L) (hL:n=L.length) (hc:n≤cap) (hd:Cz L) :
  Calls Tryz.prog 59 #[.slice a n cap] w (Td (ofF (Ax 0 L)) w):=U7 L n a cap w hR hL hc hd
theorem Oh {D:List Nd} {L:List ByteArray} {n:Nat} {a:Option Addr} {cap:Nat} (w:World) (hR:Bz w a L) (hL:n=L.length) (hd:Cz L)
  (jc:∀ W,Below w.heap.size w W→Calls Tryz.prog 59 #[.slice a n cap] W (Td D W)) :
  Calls Tryz.prog 30 #[.slice a n cap] w (Ur D w):=by
 have jb:=rdictionary_any L n a cap w hR hL (by have:=hd.2.1;omega);rw [GA hd] at jb;have je:=A6 jb;have jf:=A6 jc;clear hR hd jb jc hL
 go_enter Tryz.func30,Tryz.ntmps30
 go_wp2_with fail
 refine je.out.mono ?_;rintro e w1 ⟨rfl,hb⟩;have ja:=A6 hb;clear hb
 go_wp2_with fail
 refine (jf.out w1 ja.out).mono ?_;rintro e w2 ⟨a1,c1,rfl,jg,h3,hb⟩;have jd:=A6 (ja.out.trans (hb.mono ja.out.size));have H3:=A6 h3;clear hb h3
 go_wp2_with fail
 go_ret2
 exact ⟨a1,c1,rfl,jg,H3.out,jd.out⟩
theorem Qa {D:List Nd} {n:Nat} {a:Option Addr} {cap:Nat} (w:World)
  (ja:Calls Tryz.prog 30 #[.slice a n cap] w (Ur D w)) :
  Calls Tryz.prog 11 #[.slice a n cap] w (Td D w):=by
 have jc:=A6 ja;clear ja
 go_enter Tryz.func11,Tryz.ntmps11
 go_wp2_with fail
 refine jc.out.mono ?_;rintro e w2 ⟨a1,c1,rfl,jd,h3,hb⟩;have jb:=A6 hb;have H3:=A6 h3;clear hb h3
 go_wp2_with fail
 go_ret;exact ⟨a1,c1,rfl,jd,H3.out,jb.out⟩
theorem UY (L:List ByteArray) (n:Nat) (a:Option Addr) (cap:Nat) (w:World) (hR:Bz w a L) (hL:n=L.length) (hc:n≤cap) (hd:Cz L) :
  Calls Tryz.prog 11 #[.slice a n cap] w (Td (ofF (Ax 0 L)) w) :=
 Qa w (Oh w hR hL hd fun W hW=>UL L n a cap W (hR.later hW (A7 _)) hL hc hd)
def UM (R:List Rl) (acc:Int) (L:List Slt) (X:List (List UInt8)) (B:Nat) (e:Ending) (w':World):Prop :=
 ∃ a c l,e=.returned (.slice a l.length c)∧As DR w' B (.slice a l.length c) l∧Nb R acc L X L.length l
theorem Oi (R:List Rl) (modes acc:Int) (aS:Option Addr) (cS:Nat) (D:List Nd) (aD:Option Addr) (cD:Nat) (aL:Option Addr) (L:List Slt) (cL C:Nat) (w:World) (hR:BL w aS R) (jp:R.length≤1000) (hO:∀ r∈R,r.out.size≤1000000) (hD:Cc w aD D) (jm:D.length≤9223372036854775807) (hC:Kf D)
  (hl:(BQ D).length≤1000) (hs:∀ x∈BQ D,x.size≤20) (jb:((BQ D).map bts).Pairwise fun a b=>Op.bytesLess a b=true) (hL:Dc w aL L) (jn:L.length≤1000) (jh:Cq C L) (jl:C≤1000000)
  (ja:∀ N i,N≤1+20*(BQ D).length→i≤L.length→8*N*(i*((8*N+1)*(1000+4*C))+(8*N+1)*(1000+4*C)+2)≤900000000000) (jq:0≤acc) (jr:acc≤255) :
  Calls Tryz.prog 21 #[.agg #[.int .i64 modes,.int .u8 acc,.slice aS R.length cS],.slice aD D.length cD,.slice aL L.length cL] w fun e w'=>UM R acc L ((BQ D).map bts) w.heap.size e w'∧Below w.heap.size w w':=by
 obtain ⟨X,hX⟩:∃ X,(BQ D).map bts=X:=⟨_,rfl⟩
 have jf:=fun w1 (hx:Ext w w1)=>ends_any R modes acc aS cS D aD cD aL L cL C w1 (hR.later hx (A7 _)) jp hO (hD.later hx (A7 _)) jm hC hl hs jb (hL.later hx (A7 _)) jn jh jl ja jq jr;rw [hX] at jf ⊢;have jk:=A6 jf;clear hR hO hD hC hs jb hL jh ja jf hX
 go_enter Tryz.func21,Tryz.ntmps21
 go_wp2_with fail
 obtain ⟨w1,jg⟩:∃ w1,w.alloc (.cells #[.int .i64 modes,.int .u8 acc,.slice aS R.length cS] 32)=w1:=⟨_,rfl⟩
 rw [jg];have jd:Hid (Ext w w1):=by
  show Ext _ _;rw [← jg];exact (Below.refl _ _).alloc (A7 _) _
 clear jg;refine (jk.out w1 jd.out).mono ?_;rintro e w2 ⟨⟨g,Ls,rfl,jc,jo,jj⟩,ji⟩;have hk:L.length<Ls.length:=by omega
 have je:=jc.cell Eg hk (j:=0) (by decide);have e1:L.length*Dt.k+0=L.length:=by show L.length*1+0=_;omega
 rw [e1] at je;have hcl2:w2.cell? ⟨g,L.length,none⟩=some (.slice Ls[L.length].a Ls[L.length].n Ls[L.length].c):=je;have hix:=KF g (L.length+1) (L.length+1) L.length (Nat.lt_succ_self _);obtain ⟨l,ho,hf⟩:=jj L.length hk (Nat.lt_succ_self _);obtain ⟨a,c,he, -⟩:=ho.form;have HO:=A6 ho;have HF:=A6 hf;have HE:=A6 he;have HB:=A6 ji;clear jc jj jo je e1 ho hf he ji
 go_wp2_with fail
 go_ret;have he:(.slice Ls[L.length].a Ls[L.length].n Ls[L.length].c:Value)=.slice a l.length c:=HE.out;rw [he];have ho:=HO.out;rw [show svS Ls[L.length]=_ from he] at ho;exact ⟨⟨a,c,l,rfl,ho.mono jd.out.size,HF.out⟩,Below.trans jd.out (HB.out.mono jd.out.size)⟩
theorem Ol (s:Slt) (a:Option Addr) (c:Nat) (w:World) (hA:E5 w a (chA s)) (hl:s.length≤9223372036854775807) :
  Calls Tryz.prog 50 #[.slice a s.length c] w fun e w'=>e=.returned (.bool (!okS s))∧Below w.heap.size w w':=by
 have hv:=vslot_any s a c w hA hl;have HV:=A6 hv;clear hA hv
 go_enter Tryz.func50,Tryz.ntmps50
 go_wp2_with fail
 refine HV.out.mono ?_;rintro e w1 ⟨rfl,hb⟩;have HB:=A6 hb;clear hb;obtain ⟨r,hr⟩:∃ r,okS s=r:=⟨_,rfl⟩
 rw [hr];have HR:=A6 hr;clear hr;cases r with
 | true =>
  go_wp2_with fail
  go_ret;exact ⟨Au (by rw [HR.out];rfl),HB.out⟩
 | false =>
  go_wp2_with fail
  go_ret;exact ⟨Au (by rw [HR.out];rfl),HB.out⟩
theorem idx_valid_any (L:List Slt) (a:Option Addr) (cap:Nat) (w:World) (hX:Dc w a L) (hl:L.length≤9223372036854775807) :
  Calls Tryz.prog 79 #[.slice a L.length cap,.func (.func 50) #[] #[]] w fun e w'=>(∃ i:Int,e=.returned (.int .i64 i)∧decide (0≤i)=!L.all okS)∧Below w.heap.size w w':=by
 have HX:=A6 hX;clear hX
 go_enter Tryz.func79,Tryz.ntmps79
 go_wp2
 go_loopg [8] L.length (fun g v8 wr=>∃ j:Nat,v8=.int .i64 (j:Int)∧j≤L.length∧g=L.length - j∧(L.take j).all okS=true∧Below w.heap.size w wr)
 case atStart=>exact ⟨0,rfl,Nat.zero_le _,rfl,rfl,Below.refl _ _⟩
 case round =>
  obtain ⟨j,rfl,hj,jg,ht,hB⟩:=hrel;have HT:=A6 ht;have HB:=A6 hB;have ji:=A6 jg;clear ht hB jg;by_cases jb:j<L.length
  ·obtain ⟨b1,o1,jf,hb1,aa,cc,q0,jh,ja⟩:=(HX.out.later HB.out (A7 _)).at jb;have hi1:=L4 a b1 o1 L.length cap j jf jb;have hv:=Ol L[j] aa cc wr ja jh;have je:Hid (L.take (j+1)=L.take j ++ [L[j]]):=AZ jb;have jd:Hid (L[j]∈L):=AO jb;obtain ⟨s,hs⟩:∃ s,L[j]=s:=⟨_,rfl⟩
   rw [hs] at hv q0 je jd;have HV:=A6 hv;clear jf hs ja hv jh
   go_wp2_with fail
   refine HV.out.mono ?_;rintro e w1 ⟨rfl,hb⟩;have jc:Hid (Below w.heap.size w w1):=HB.out.trans (hb.mono HB.out.size);clear hb;obtain ⟨r,hr⟩:∃ r,okS s=r:=⟨_,rfl⟩
   rw [hr];have HR:=A6 hr;clear hr;cases r with
   | false =>
    have HN:Hid (L.all okS=false):=by
     show _=_;cases e:L.all okS with
     | false=>rfl
     | true=>have:=List.all_eq_true.1 e s jd.out;rw [HR.out] at this;cases this
    go_wp2_with fail
    go_ret;exact ⟨⟨_,rfl,by rw [HN.out];simp⟩,jc.out⟩
   | true =>
    go_wp2_with fail
    go_roundg (L.length - (j+1))
    case measure=>have:=ji.out;omega
    case rel=>exact ⟨j+1,by go_num,by omega,rfl,by rw [je.out,List.all_append,HT.out];simp [HR.out],jc.out⟩
  ·have HN:Hid (L.all okS=true):=by
    have h:=HT.out;rw [AM (by omega)] at h;exact h
   go_wp2_with fail
   go_ret;exact ⟨⟨_,rfl,by rw [HN.out];rfl⟩,HB.out⟩
theorem KI (L:List Slt) (a:Option Addr) (cap:Nat) (w:World) (hX:Dc w a L) (hl:L.length≤9223372036854775807) :
  Calls Tryz.prog 49 #[.slice a L.length cap,.func (.func 50) #[] #[]] w fun e w'=>e=.returned (.bool (!L.all okS))∧Below w.heap.size w w':=by
 have hv:=idx_valid_any L a cap w hX hl;have HV:=A6 hv;clear hX hv
 go_enter Tryz.func49,Tryz.ntmps49
 go_wp2_with fail
 refine HV.out.mono ?_;rintro e w1 ⟨⟨i,rfl,hi⟩,hb⟩;have HB:=A6 hb;have HI:=A6 hi;clear hb hi
 go_wp2_with fail
 go_ret;exact ⟨Au HI.out,HB.out⟩
theorem H4 (L:List Slt) (a:Option Addr) (cap:Nat) (w:World) (hX:Dc w a L) (hl:L.length≤9223372036854775807) :
  Calls Tryz.prog 26 #[.slice a L.length cap] w fun e w'=>e=.returned (.bool (validB L))∧Below w.heap.size w w':=by
 have hv:=KI L a cap w hX hl;have HV:=A6 hv;clear hX hv;by_cases h40:40<L.length
 ·have ja:(40:Int)<(L.length:Int):=by omega
  have HR:Hid (validB L=false):=by show _=_;unfold validB;simp;omega
  go_enter Tryz.func26,Tryz.ntmps26
  go_wp2_with fail
  go_ret;exact ⟨Au HR.out.symm,Below.refl _ _⟩
 ·have ja:¬ (40:Int)<(L.length:Int):=by omega
  have HR:Hid (validB L=L.all okS):=by show _=_;unfold validB;rw [decide_eq_true (by omega)];rfl
  go_enter Tryz.func26,Tryz.ntmps26
  go_wp2_with fail
  refine HV.out.mono ?_;rintro e w1 ⟨rfl,hb⟩;have HB:=A6 hb;clear hb;obtain ⟨r,hr⟩:∃ r,L.all okS=r:=⟨_,rfl⟩
  have jb:Hid (validB L=r):=HR.out.trans hr;rw [hr];clear hr HV HR;cases r with
  | true =>
   go_wp2_with fail
   go_ret;exact ⟨Au jb.out.symm,HB.out⟩
  | false =>
   go_wp2_with fail
   go_ret;exact ⟨Au jb.out.symm,HB.out⟩
def FW (w:World) (a:Option Addr) (l:List (Nat × Nat)):Prop:=∀ k (hk:k<l.length),∃ b o,a=some ⟨b,o,none⟩∧b<w.heap.size∧w.cell? ⟨b,o+k*2,none⟩=some (.int .i64 (l[k].1:Int))∧w.cell? ⟨b,o+k*2+1,none⟩=some (.int .i64 (l[k].2:Int))
theorem FW.kp {w w1:World} {a:Option Addr} {l:List (Nat × Nat)} (h:FW w a l) (hk:Kc w w1):FW w1 a l:=fun k hl=>by
 obtain ⟨b,o,ha,h1,h2,h3⟩:=h k hl;exact ⟨b,o,ha,AB h1 hk.size,hk.cell h2,hk.cell h3⟩
theorem FW.later {w w1:World} {a:Option Addr} {l:List (Nat × Nat)} {B:Nat} (h:FW w a l) (hb:Below B w w1) (hB:w.heap.size≤B):FW w1 a l:=h.kp (Kc.of hb hB)
theorem FW.at {w:World} {a:Option Addr} {l:List (Nat × Nat)} (h:FW w a l) {k:Nat} (hk:k<l.length):∃ b o,a=some ⟨b,o,none⟩∧b<w.heap.size∧w.cell? ⟨b,o+k*2,none⟩=some (.int .i64 (l[k].1:Int))∧w.cell? ⟨b,o+k*2+1,none⟩=some (.int .i64 (l[k].2:Int)):=h k hk
theorem As.fnds {w:World} {B:Nat} {a:Option Addr} {n c:Nat} {L:List (Nat × Nat)} (h:As DR w B (.slice a n c) L):FW w a L∧n=L.length∧L.length≤c:=by
 obtain ⟨a',c',he,hc,_⟩:=h.form;injection he with e1 e2 e3;refine ⟨fun k hk=>?_,e2,by omega⟩;rcases h.blk with ⟨_,rfl⟩ | ⟨g,c2,ja,_,hg,_⟩
 · simp at hk
 ·injection ja with f1 f2 f3;subst f1;refine ⟨g,0,rfl,hg,?_,?_⟩
  ·have:=h.cell GO hk (j:=0) (by decide);simpa [DR] using this
  ·have:=h.cell GO hk (j:=1) (by decide);simpa [DR] using this
theorem PH (a:Option Addr) (b o len cap k:Nat) (ha:a=some ⟨b,o,none⟩) (hk:k<len) (w:World) :
  (Instr.indexAt 48 (.slice a len cap) (.int .i64 (k:Int))).run Tryz.prog w=.ok (.pointer (some ⟨b,o+k*2,none⟩)) w:=by
 subst ha;have h0:(0:Int)≤(k:Int):=by omega
 have h1:(k:Int)<(len:Int):=by omega
 simp [go_sem,h0,h1]
theorem fsame_any (D E:List (Nat × Nat)) (a b:Option Addr) (c d:Nat) (w:World) (hX:FW w a D) (hY:FW w b E) (hl1:D.length≤9223372036854775807) (hl2:E.length≤9223372036854775807) :
  Calls Tryz.prog 20 #[.slice a D.length c,.slice b E.length d] w fun e w'=>e=.returned (.bool (decide (D=E)))∧Below w.heap.size w w':=by
 have HX:=A6 hX;have HY:=A6 hY;clear hX hY;by_cases hl:D.length=E.length
 ·have jk:((D.length:Int) != (E.length:Int))=false:=by simp [hl]
  have HL:=A6 hl;clear hl
  go_enter Tryz.func20,Tryz.ntmps20
  go_wp2
  go_loopg [5] D.length (fun g v5 wr=>∃ k:Nat,v5=.int .i64 (k:Int)∧k≤D.length∧g=D.length - k∧D.take k=E.take k∧Below w.heap.size w wr)
  case atStart=>exact ⟨0,rfl,Nat.zero_le _,rfl,rfl,Below.refl _ _⟩
  case round =>
   obtain ⟨k,rfl,hk,jh,ht,hB⟩:=hrel;have HT:=A6 ht;have HB:=A6 hB;have ji:=A6 jh;clear ht hB jh;by_cases jc:k<D.length
   ·have ja:k<E.length:=by have:=HL.out;omega
    obtain ⟨b1,o1,jf,hb1,q0,q1⟩:=(HX.out.later HB.out (A7 _)).at jc;obtain ⟨b2,o2,jg,hb2,p0,p1⟩:=(HY.out.later HB.out (A7 _)).at ja;have hi1:=PH a b1 o1 D.length c k jf jc;have hi2:=PH b b2 o2 E.length d k jg ja;have jd:Hid (D.take (k+1)=D.take k ++ [D[k]]):=AZ jc;have je:Hid (E.take (k+1)=E.take k ++ [E[k]]):=AZ ja;have jb:Hid (D[k]≠E[k]→decide (D=E)=false):=fun jl=>decide_eq_false fun h=>by
     subst h;exact jl rfl
    obtain ⟨⟨x1,x2⟩,hx⟩:∃ x,D[k]=x:=⟨_,rfl⟩
    obtain ⟨⟨y1,y2⟩,hy⟩:∃ y,E[k]=y:=⟨_,rfl⟩
    rw [hx] at q0 q1 jd jb;rw [hy] at p0 p1 je jb;simp only at q0 q1 p0 p1;clear jf jg hx hy;by_cases hf:x1=y1
    ·subst hf;by_cases hg:x2=y2
     ·subst hg;go_wp2
      go_quiet (fail)
      go_wp2
      go_roundg (D.length - (k+1))
      case measure=>have:=ji.out;omega
      case rel=>exact ⟨k+1,by go_num,by omega,rfl,by rw [jd.out,je.out,HT.out],below_drewN HB.out _⟩
     ·have jj:((x2:Int) == (y2:Int))=false:=by simpa using fun h=>hg (by omega)
      have HR:=A6 (jb.out fun e=>hg (by injection e));go_wp2
      go_quiet (fail)
      go_wp2;go_ret;exact ⟨Au HR.out.symm,below_drewN HB.out _⟩
    ·have jj:((x1:Int) == (y1:Int))=false:=by simpa using fun h=>hf (by omega)
     have HR:=A6 (jb.out fun e=>hf (by injection e));go_wp2
     go_quiet (fail)
     go_wp2;go_ret;exact ⟨Au HR.out.symm,below_drewN HB.out _⟩
   ·have HR:Hid (decide (D=E)=true):=decide_eq_true (by
     have h:=HT.out;have h2:=HL.out;rw [AM (by omega),AM (by omega)] at h;exact h)
    go_wp2;go_ret;exact ⟨Au HR.out.symm,HB.out⟩
 ·have jk:((D.length:Int) == (E.length:Int))=false:=by simpa using fun h=>hl (by omega)
  have HR:Hid (decide (D=E)=false):=decide_eq_false fun h=>hl (by rw [h])
  go_enter Tryz.func20,Tryz.ntmps20
  go_wp2;go_ret;exact ⟨Au HR.out.symm,Below.refl _ _⟩
structure KJ (w:World) (S:Sch) (b:Option Addr) (c:Nat):Prop where
 fair:Io S.rules
 mo:∀ r∈S.rules,r.frm<S.modes∧r.dst<S.modes
 m0:1≤S.modes
 m8:S.modes≤8
 a0:0≤S.acc
 a1:S.acc≤255
 len:S.rules.length≤64
 out:∀ r∈S.rules,r.out.size≤1000
 cap:S.rules.length≤c
 rul:BL w b S.rules
theorem KJ.go {w w1:World} {S:Sch} {b:Option Addr} {c:Nat} (h:KJ w S b c) (hb:Below w.heap.size w w1):KJ w1 S b c :=
 ⟨h.fair,h.mo,h.m0,h.m8,h.a0,h.a1,h.len,h.out,h.cap,h.rul.later hb (A7 _)⟩
theorem KK {S:Sch} (h:Fl.validB S=true) {r:Rl} (hr:r∈S.rules):Da S.modes r=true:=by
 obtain ⟨i,hi,rfl⟩:=List.mem_iff_getElem.1 hr;have hv:=((FO S).1 h).2 i hi hi;unfold Cw at hv;rw [Bool.and_eq_true] at hv;exact hv.1
theorem Fz {m:Int} {r:Rl} (h:Da m r=true):0≤r.frm∧r.frm<m∧0≤r.dst∧r.dst<m∧r.inp.size≤4∧r.out.size≤4∧0≤r.cost∧r.cost≤1000:=by
 unfold Da at h;simp only [Bool.and_eq_true,decide_eq_true_eq] at h;obtain ⟨h1,h2,h3,h4,h5,h6,h7,h8,h9,ja⟩:=h;exact ⟨h1,h2,h3,h4,by omega,by omega,h9,ja⟩
theorem KJ.of_valid {w:World} {S:Sch} {b:Option Addr} {c:Nat} (hv:Fl.validB S=true) (ha:0≤S.acc) (ja:S.acc≤255) (hc:S.rules.length≤c) (hr:BL w b S.rules):KJ w S b c:=by
 have hf:=Oa hv ha ja;have h1:=hf.m0;have h2:=hf.m1;refine ⟨fun r hr=>?_,fun r hr=>?_,by omega,by omega,ha,ja,hf.len,fun r hr=>?_,hc,hr⟩
 ·have h:=Fz (KK hv hr);exact CY.2 ⟨h.1,by omega,h.2.2.1,by omega,h.2.2.2.2.1,h.2.2.2.2.2.2.1,h.2.2.2.2.2.2.2⟩
 · have h:=Fz (KK hv hr);exact ⟨h.2.1,h.2.2.2.1⟩
 · have h:=Fz (KK hv hr);omega
theorem I9.schM {w:World} {S:Sch} {b:Option Addr} {c:Nat} (h:I9 w S b c):KJ w S b c:=KJ.of_valid h.valid (by rw [h.acc];decide) (by rw [h.acc];decide) h.cap h.rul
structure KL (w:World) (a:Option Addr) (c:Nat) (L:List Slt):Prop where
 s:Dc w a L
 ha:(∀ b,a=some b→∃ b' o',b=⟨b',o',none⟩)∧(a=none→L=[])
 cap:L.length≤c
 len:L.length≤40
 bnd:Cq 300 L
 dis:ST L
theorem KL.go {w w1:World} {a:Option Addr} {c:Nat} {L:List Slt} (h:KL w a c L) (hb:Below w.heap.size w w1):KL w1 a c L :=
 ⟨h.s.later hb (A7 _),h.ha,h.cap,h.len,h.bnd,h.dis⟩
theorem KL.of {w:World} {B:Nat} {a:Option Addr} {n c:Nat} {L:List Slt} (h:J2 w B (.slice a n c) L) (hl:L.length≤40) (hb:Cq 300 L) (hd:ST L):KL w a c L∧n=L.length:=by
 obtain ⟨h1,h2,h3⟩:=h.slotS;refine ⟨⟨h1,⟨fun b hb=>?_,fun e=>?_⟩,h3,hl,hb,hd⟩,h2⟩
 ·obtain ⟨Ls,hr⟩:=h;rcases hr.own.blk with ⟨e,_⟩ | ⟨g,c2,e,_⟩
  · injection e with e1;rw [e1] at hb;cases hb
  · injection e with e1;rw [e1] at hb;injection hb with hb;exact ⟨g,0,hb.symm⟩
 ·obtain ⟨Ls,hr⟩:=h;rcases hr.own.blk with ⟨_,e2⟩ | ⟨g,c2,e2,_⟩
  · have:=hr.len;rw [e2] at this;exact List.eq_nil_of_length_eq_zero this.symm
  · injection e2 with e1;rw [e] at e1;cases e1
def FnP (R:List Rl) (acc:Int) (L:List Slt) (W:List (List UInt8)) (i:Nat) (w:World) (e:Ending) (w':World):Prop :=
 ∃ a c l,e=.returned (.slice a l.length c)∧As DR w' w.heap.size (.slice a l.length c) l∧Nb R acc L W i l∧Below w.heap.size w w'
def EnP (R:List Rl) (acc:Int) (L:List Slt) (W:List (List UInt8)) (w:World) (e:Ending) (w':World):Prop:=Tr R acc L W w.heap.size e w'∧Below w.heap.size w w'
theorem KM {N i:Nat} (hN:N≤201) (hi:i≤40):8*N*(i*((8*N+1)*(1000+4*300))+(8*N+1)*(1000+4*300)+2)≤900000000000:=by
 have h1:(8*N+1)*(1000+4*300)≤1609*2200:=Nat.mul_le_mul (by omega) (by decide);have h2:i*((8*N+1)*(1000+4*300))≤40*(1609*2200):=Nat.mul_le_mul hi h1;have h3:8*N*(i*((8*N+1)*(1000+4*300))+(8*N+1)*(1000+4*300)+2)≤1608*(40*(1609*2200)+1609*2200+2):=Nat.mul_le_mul (by omega) (by omega);omega
theorem Cz.inc {Ws:List ByteArray} (hd:Cz Ws):(Ws.map bts).Pairwise fun a b=>Op.bytesLess a b=true:=by
 rw [Ai];refine hd.sorted.imp fun {x y} h=>?_;unfold ltS at h;rw [ByteArray.toList_eq,ByteArray.toList_eq] at h;exact h
section
variable {w:World} {S:Sch} {b aD aL:Option Addr} {cS nD cD cL:Nat} {Ws:List ByteArray} {L:List Slt}
theorem PI (hS:KJ w S b cS) (hD:IZ w aD nD cD Ws) (hW:Ws.length≤10) (hL:KL w aL cL L) :
  Calls Tryz.prog 21 #[.agg #[.int .i64 S.modes,.int .u8 S.acc,.slice b S.rules.length cS],.slice aD nD cD,.slice aL L.length cL] w (FnP S.rules S.acc L (Ws.map bts) L.length w):=by
 have ja:=NU hD.dict;have jc:∀ x∈Ws,x.size≤20:=fun x hx=>(Eb (hD.dict.word x hx)).2.1;have jb:=hD.len;have h:=Oi S.rules S.modes S.acc b cS (ofF (Ax 0 Ws)) aD cD aL L cL 300 w hS.rul (by have:=hS.len;omega) (fun r hr=>by have:=hS.out r hr;omega) hD.rows hD.big (PB hD.dict)
  (by rw [ja];omega) (by rw [ja];exact jc) (by rw [ja];exact hD.dict.inc) hL.s (by have:=hL.len;omega) hL.bnd (by decide) (by rw [ja];exact fun N i hN hi=>KM (by omega) (by have:=hL.len;omega)) hS.a0 hS.a1
 rw [ja,← jb] at h;refine h.mono ?_;rintro e w' ⟨⟨a,c,l,rfl,h1,h2⟩,hb⟩;exact ⟨a,c,l,rfl,h1,h2,hb⟩
theorem UN (hS:KJ w S b cS) (hD:IZ w aD nD cD Ws) (hW:Ws.length≤10) (hL:KL w aL cL L) :
  Calls Tryz.prog 18 #[.agg #[.int .i64 S.modes,.int .u8 S.acc,.slice b S.rules.length cS],.slice aD nD cD,.slice aL L.length cL] w (EnP S.rules S.acc L (Ws.map bts) w):=by
 have ja:=NU hD.dict;have jc:∀ x∈Ws,x.size≤20:=fun x hx=>(Eb (hD.dict.word x hx)).2.1;have jb:=hD.len;have h:=ends_any S.rules S.modes S.acc b cS (ofF (Ax 0 Ws)) aD cD aL L cL 300 w hS.rul (by have:=hS.len;omega) (fun r hr=>by have:=hS.out r hr;omega) hD.rows hD.big (PB hD.dict)
  (by rw [ja];omega) (by rw [ja];exact jc) (by rw [ja];exact hD.dict.inc) hL.s (by have:=hL.len;omega) hL.bnd (by decide) (by rw [ja];exact fun N i hN hi=>KM (by omega) (by have:=hL.len;omega)) hS.a0 hS.a1
 rw [ja,← jb] at h;exact h
end
theorem SY (s:ByteArray):Cq 300 (DZ s):=fun t ht x hx=>by
 unfold DZ CD at ht;obtain ⟨c,_,rfl⟩:=AP.1 ht;rw [AJ.1 hx];exact ⟨Int.le_refl 0,show (0:Int)≤300 by decide⟩
theorem SZ (s:ByteArray):ST (DZ s):=fun t ht=>by
 unfold DZ CD at ht;obtain ⟨c,_,rfl⟩:=AP.1 ht;exact List.pairwise_singleton _ _
def Qb (s:ByteArray) (v:Value) (w:World):Prop:=∃ a c,v=.slice a s.size c∧KL w a c (DZ s)
theorem KN (s:ByteArray):CQ (Qb s):=by
 rintro v w w' ⟨a,c,h1,h2⟩ hx;exact ⟨a,c,h1,h2.go hx⟩
theorem PJ {s:ByteArray} {w w':World} {e:Ending} (h:Og s w e w') (hs:s.size≤40):∃ v,e=.returned v∧Qb s v w':=by
 obtain ⟨a,c,he,hg⟩:=h;exact ⟨_,he,a,c,rfl,(KL.of hg (by rw [Eh];exact hs) (SY s) (SZ s)).1⟩
def FnS (R:List Rl) (acc:Int) (L:List Slt) (W:List (List UInt8)) (i:Nat) (v:Value) (w:World):Prop:=∃ a c l,v=.slice a l.length c∧FW w a l∧Nb R acc L W i l∧l.length≤c
theorem LV (R:List Rl) (acc:Int) (L:List Slt) (W:List (List UInt8)) (i:Nat):CQ (FnS R acc L W i):=by
 rintro v w w' ⟨a,c,l,h1,h2,h3,h4⟩ hx;exact ⟨a,c,l,h1,h2.kp (Kc.of hx (A7 _)),h3,h4⟩
theorem Sa {R:List Rl} {acc:Int} {L:List Slt} {W:List (List UInt8)} {i:Nat} {w w':World} {e:Ending} (h:FnP R acc L W i w e w'):∃ v,e=.returned v∧FnS R acc L W i v w'∧Below w.heap.size w w':=by
 obtain ⟨a,c,l,he,h1,h2,hb⟩:=h;exact ⟨_,he,⟨a,c,l,rfl,h1.fnds.1,h2,h1.fnds.2.2⟩,hb⟩
structure EnR (R:List Rl) (acc:Int) (L:List Slt) (W:List (List UInt8)) (g:Nat) (Ls:List SV) (w:World):Prop where
 own:As Dt w 0 (.slice (some ⟨g,0,none⟩) (L.length+1) (L.length+1)) Ls
 len:Ls.length=L.length+1
 ok:∀ (k:Nat) (h:k<Ls.length),∃ l,As DR w 0 (svS Ls[k]) l∧Nb R acc L W k l
theorem EnR.go {R:List Rl} {acc:Int} {L:List Slt} {W:List (List UInt8)} {g:Nat} {Ls:List SV} {w w':World} (h:EnR R acc L W g Ls w) (hb:Below w.heap.size w w'):EnR R acc L W g Ls w' :=
 ⟨h.own.later hb (A7 _),h.len,fun k hk=>by obtain ⟨l,h1,h2⟩:=h.ok k hk;exact ⟨l,h1.later hb (A7 _),h2⟩⟩
theorem EnR.at {R:List Rl} {acc:Int} {L:List Slt} {W:List (List UInt8)} {g:Nat} {Ls:List SV} {w:World} (h:EnR R acc L W g Ls w) {k:Nat} (hk:k<L.length+1) :
  ∃ a c l,w.cell? ⟨g,k,none⟩=some (.slice a l.length c)∧FW w a l∧Nb R acc L W k l∧∀ W,(Instr.indexAt 45 (.slice (some ⟨g,0,none⟩) (L.length+1) (L.length+1)) (.int .i64 (k:Int))).run Tryz.prog W=.ok (.pointer (some ⟨g,k,none⟩)) W:=by
 have jc:k<Ls.length:=by rw [h.len];exact hk
 obtain ⟨l,h1,h2⟩:=h.ok k jc;obtain ⟨a,c,he, -, -⟩:=h1.form;have jb:=h.own.cell Eg jc (j:=0) (by decide);have e1:k*Dt.k+0=k:=by show k*1+0=k;omega
 rw [e1] at jb;have ja:w.cell? ⟨g,k,none⟩=some (svS Ls[k]):=jb;rw [he] at ja h1;exact ⟨a,c,l,ja,h1.fnds.1,h2,fun W=>KF g _ _ k hk W⟩
def EnS (R:List Rl) (acc:Int) (L:List Slt) (W:List (List UInt8)) (v:Value) (w:World):Prop:=∃ g Ls,v=.slice (some ⟨g,0,none⟩) (L.length+1) (L.length+1)∧EnR R acc L W g Ls w
theorem LW (R:List Rl) (acc:Int) (L:List Slt) (W:List (List UInt8)):CQ (EnS R acc L W):=by
 rintro v w w' ⟨g,Ls,h1,h2⟩ hx;exact ⟨g,Ls,h1,h2.go hx⟩
theorem UO {R:List Rl} {acc:Int} {L:List Slt} {W:List (List UInt8)} {w w':World} {e:Ending} (h:EnP R acc L W w e w'):∃ v,e=.returned v∧EnS R acc L W v w'∧Below w.heap.size w w':=by
 obtain ⟨⟨g,Ls,he,h1,h2,h3⟩,hb⟩:=h;exact ⟨_,he,⟨g,Ls,rfl,h1.mono (Nat.zero_le _),h2,fun k hk=>by obtain ⟨l,h4,h5⟩:=h3 k hk (by omega);exact ⟨l,h4.mono (Nat.zero_le _),h5⟩⟩,hb⟩
end Go.Proofs.YthjmdgejnakcmaaGreatDoor
