/- Texts that the claims share: MC, ME, KV, MV, MP. -/
import Derived.Test.YtpljngaejaehcaaGreatDoorMK10
import Derived.Test.YtpljngaejaehcaaGreatDoorMK8
import Derived.Test.YtpljngaejaehcaaGreatDoorMF4
import Derived.Test.YtpljngaejaehcaaGreatDoorMD4
set_option maxHeartbeats 25600000
set_option maxRecDepth 100000
set_option linter.unusedVariables false
set_option linter.unusedSimpArgs false
namespace Go.Proofs.YtpljngaejaehcaaGreatDoor
open Go.RowKit Go.WideShapes Fl
theorem On {i j k:Nat} {E:List Edg} (hk:k<E.length) {e1 e2 e3 e4:Int} (he:E[k]=(e1,e2,e3,e4)) :
  B5 i j (E.take (k+1))=B5 i j (E.take k) ++ (if (i:Int)≤e1∧e2≤(j:Int) then [(e1 - i,e2 - i,e3,e4)] else []):=by
 unfold B5;rw [AP hk,he,List.filter_append,List.map_append];congr 1;by_cases h:(i:Int)≤e1∧e2≤(j:Int)
 · rw [if_pos h];simp [h.1,h.2]
 ·rw [if_neg h];by_cases h1:(i:Int)≤e1
  ·have h2:¬ e2≤(j:Int):=fun h2=>h ⟨h1,h2⟩;simp [h2]
  · simp [h1]
theorem Lo {i j:Nat} {E:List Edg}:(B5 i j E).length≤E.length:=by
 unfold B5;rw [AO];exact List.length_filter_le _ _
def TA (n:Int) (E:List Edg) (w:World) (e:Ending) (w':World):Prop:=∃ v,e=.returned (.agg #[.int .i64 n,v])∧Ac BB w' w.heap.size v E∧Ext w w'
theorem part_any (n:Int) (E:List Edg) (a:Option Addr) (cap i j:Nat) (w:World) (hE:Bq w a E) (hl:E.length≤1000000) (je:Fg n E) (hij:i≤j) (hj:j≤1000) :
  Calls Tryz.prog 30 #[Eh n a E.length cap,.int .i64 (i:Int),.int .i64 (j:Int)] w (TA ((j - i:Nat):Int) (B5 i j E) w):=by
 have HE:=A0 hE;have j2:=A0 je;clear hE;have hn0:=je.1;have hn1:=je.2.1;clear je;have j9:RowKit.wrap64 ((j:Int) - (i:Int))=((j - i:Nat):Int):=by unfold RowKit.wrap64;omega
 have Jx:IntKind.i64.wrap ((j:Int) - (i:Int))=((j - i:Nat):Int):=by rw [IntWalk.i64_in _ (by omega)];omega
 unfold Eh
 go_enter Tryz.func30,Tryz.ntmps30
 go_upto_block 0 with fail
 obtain ⟨w0,jT,jV,h0,h1,h2,hz⟩:=Q8 w (.cells #[.int .i64 n,.slice a E.length cap] 45) (.cells #[.int .i64 0,.slice none 0 0] 45) (.cells #[.int .i64 ((j - i:Nat):Int),.slice none 0 0] 45);rw [jT];obtain ⟨gr,jz⟩:∃ gr,w.heap.size=gr:=⟨_,rfl⟩
 have jJ:=A0 jz;rw [jz] at h0 h1 h2 hz ⊢;have jM:=A0 jV;have jW:=A0 h0;have j4:=A0 h1;have jI:=A0 h2;have HZ:=A0 hz;obtain ⟨dj,jy⟩:∃ dj:Nat,j - i=dj:=⟨_,rfl⟩
 rw [jy] at jI j9 Jx ⊢;have jY:=A0 jy;clear jT jV h0 h1 h2 hz jz jy
 go_wp2_with fail
 go_loopg [8,9] E.length (fun g v8 v9 wr=>∃ (k:Nat) (a3:Option Addr) (c3:Nat),v8=.int .i64 (k:Int)∧k≤E.length∧g=E.length - k∧wr.heap[gr+1+1]? = some (.cells #[.int .i64 (dj:Int),.slice a3 (B5 i j (E.take k)).length c3] 45 (0,0))∧Ac BB wr w0.heap.size (.slice a3 (B5 i j (E.take k)).length c3) (B5 i j (E.take k))∧Tq (gr+1+1) w0 wr)
 case atStart=>exact ⟨0,none,0,rfl,Nat.zero_le _,rfl,jI.out,Ac.nil _ _ _,Tq.of (Ext.refl _)⟩
 case round =>
  obtain ⟨k,a3,c3,rfl,hk,jR,jh,jC,ht⟩:=hrel;have j7:(B5 i j (E.take k)).length≤E.length:=AA Lo (by rw [AN];omega);have jH:Hid (k=E.length→B5 i j (E.take k)=B5 i j E):=fun e=>by rw [e,List.take_length]
  have jk:Hid (∀ (h:k<E.length) (e1 e2 e3 e4:Int),E[k]=(e1,e2,e3,e4)→B5 i j (E.take (k+1))=B5 i j (E.take k) ++ (if (i:Int)≤e1∧e2≤(j:Int) then [(e1 - i,e2 - i,e3,e4)] else [])):=fun h e1 e2 e3 e4 he=>On h he;obtain ⟨F,hF⟩:∃ F,B5 i j (E.take k)=F:=⟨_,rfl⟩
  rw [hF] at jh jC j7 jH jk;have jb:=A0 jC;have HT:=A0 ht;have jw:=A0 jR;have HGB:=A0 jh;have hzz:=HZ.out;have jG:Ext w wr:=Below.trans jM.out (Below.mono (ht.below (A5 _) (by omega)) (by have:=jJ.out;omega));obtain ⟨b0,b1⟩:=B3 (ht.at (q:=gr) (by omega) jW.out);have jN:=A0 jG;clear jC ht jR hF;by_cases jp:k<E.length
  ·have hltI:(k:Int)<(E.length:Int):=by omega
   obtain ⟨bb,o1,ha,hb1,x0,x1,x2,x3⟩:=(HE.out.go jG) k jp;have jA:=D1 a bb o1 E.length cap k ha jp;have je:=(j2.out.2.2.2 k jp jp).1;obtain ⟨⟨e1,e2,e3,e4⟩,hx⟩:∃ x,E[k]=x:=⟨_,rfl⟩
   have jv:=A0 (jk.out jp e1 e2 e3 e4 hx);rw [hx] at x0 x1 x2 x3 je;unfold C6 at je;simp only at x0 x1 x2 x3 je;obtain ⟨k1,k2,k3, -, -, -, -⟩:=je;have s1:IntKind.i64.wrap (e1 - (i:Int))=e1 - (i:Int):=IntWalk.i64_in _ (by omega);have s2:IntKind.i64.wrap (e2 - (i:Int))=e2 - (i:Int):=IntWalk.i64_in _ (by omega);have s3:RowKit.wrap64 (e1 - (i:Int))=e1 - (i:Int):=by unfold RowKit.wrap64;omega
   have s4:RowKit.wrap64 (e2 - (i:Int))=e2 - (i:Int):=by unfold RowKit.wrap64;omega
   clear hx ha jG
   go_upto_region 6 with fail
   obtain ⟨wq,js⟩:∃ wq,wr.alloc (.cells #[.int .i64 e1,.int .i64 e2,.int .i64 e3,.int .i64 e4] 62)=wq:=⟨_,rfl⟩
   rw [js];have ju:Ext wr wq:=by rw [← js];exact (Below.refl _ _).alloc (A5 _) _
   have jo:wq.heap[wr.heap.size]? = some (.cells #[.int .i64 e1,.int .i64 e2,.int .i64 e3,.int .i64 e4] 62 (0,0)):=by rw [← js];exact heap_alloc_new _ _
   have ka:w0.heap.size≤wr.heap.size:=HT.out.size;have jc:Hid (Tq (gr+1+1) w0 wq):=HT.out.trans (Tq.of ju);have jq:=jb.out;have jb:=A0 (jb.out.later ju (A5 _));have jj:=(Below.block ju _ (A7.1 jh).1).trans jh;have ji:=A0 jj;have jK:Hid ((Value.slice a3 F.length c3).ownBlock≠some wr.heap.size):=fun e=>by have:=jq.lt _ e;omega
   obtain ⟨ge,jQ⟩:∃ ge,wr.heap.size=ge:=⟨_,rfl⟩
   rw [jQ] at jo jK ka ⊢;have jX:=A0 jo;clear b0 b1 x0 x1 x2 x3 jA jQ jq;obtain ⟨u0,u1,u2,u3⟩:=Ax jo;have uf:∀ i,wq.frozen? ⟨ge,i,none⟩=false:=fun i=>by simp [World.frozen?,jo]
   clear js ju jo jj jh;by_cases c1:(i:Int)≤e1
   ·by_cases c2:e2≤(j:Int)
    ·have jf:Hid (B5 i j (E.take (k+1))=F ++ [(e1 - (i:Int),e2 - (i:Int),e3,e4)]):=by show _=_;rw [jv.out,if_pos ⟨c1,c2⟩]
     go_upto_region 8 with fail
     obtain ⟨ws,jt⟩:∃ ws,(wq.setCell ⟨ge,0,none⟩ (.int .i64 (e1 - (i:Int)))).setCell ⟨ge,1,none⟩ (.int .i64 (e2 - (i:Int)))=ws:=⟨_,rfl⟩
     rw [jt];have jP:ws.heap[ge]? = some (.cells #[.int .i64 (e1 - (i:Int)),.int .i64 (e2 - (i:Int)),.int .i64 e3,.int .i64 e4] 62 (0,0)):=by rw [← jt];exact Am (Am jX.out rfl) rfl
     have jg:Tq ge wq ws:=by rw [← jt];exact (Tq.set _ _ _ _).trans (Tq.set _ _ _ _)
     have jc:Hid (Tq (gr+1+1) w0 ws):=⟨jg.os.trans jc.out.os,jg.tape.trans jc.out.tape,jg.output.trans jc.out.output,AA jc.out.size jg.size,fun q hq j8=>(jg.block q (A9 hq jc.out.size) (fun e=>by injection e with e;omega)).trans (jc.out.block q hq j8)⟩
     have jb:Hid (Ac BB ws w0.heap.size (.slice a3 F.length c3) F):=jb.out.keep fun q hq=>jg.block q (jb.out.lt q hq) fun e=>jK.out (hq.trans e);have jj:=jg.at (q:=gr+1+1) (by omega) ji.out;have ji:=A0 jj;have j1:Hid ((Value.slice a3 F.length c3).ownBlock≠some (gr+1+1)):=fun e=>by have:=jb.out.ge _ e;omega
     clear u0 u1 u2 u3 uf;obtain ⟨m0,m1⟩:=B3 jj;obtain ⟨u0,u1,u2,u3⟩:=Ax jP;clear jt jP jg jj
     go_wp2_with (at_builtin;go_loud (refine Ai (v:=.slice a3 F.length c3) CX rfl _ _ rfl rfl (jb.out.later ((Below.refl _ _).alloc (A5 _) _) (A5 _)) ⟨ws.heap.size,0,none⟩ 1 [(e1 - (i:Int),e2 - (i:Int),e3,e4)] rfl (Aj (heap_alloc_new _ _)) (by simp only [AE];omega) (by have:=jc.out.size;simp only [A8];omega) ?_);intro v59 w59 jd ja jn;have jm:=A0 jd;have jl:=A0 ja;clear jd ja jn;obtain ⟨m0,m1,mf⟩:=Rp (jl.out) (ji.out) (j1.out);obtain ⟨a59,c59,jF, -, -⟩:=jm.out.form;subst jF)
     obtain ⟨jB,jD,jE⟩:=T1 ji.out jb.out jm.out jl.out jc.out (by omega);simp only [AD,AE] at jB jD jE;have j0:=A0 jB;have j3:=A0 jD;have j5:=A0 jE;clear jB jD jE
     go_roundg (E.length - (k+1))
     case measure=>have:=jw.out;omega
     case rel=>exact ⟨k+1,a59,c59,by go_num,by omega,rfl,by rw [jf.out,AD,AE];exact j0.out,by rw [jf.out,AD,AE];exact j3.out,j5.out⟩
    ·have jx:Hid (¬ ((i:Int)≤e1∧e2≤(j:Int))):=fun h=>c2 h.2;have jf:Hid (B5 i j (E.take (k+1))=F):=by show _=_;rw [jv.out,if_neg jx.out,List.append_nil]
     go_wp2_with fail
     go_roundg (E.length - (k+1))
     case measure=>have:=jw.out;omega
     case rel=>exact ⟨k+1,a3,c3,by go_num,by omega,rfl,by rw [jf.out];exact ji.out,by rw [jf.out];exact jb.out,jc.out⟩
   ·have jx:Hid (¬ ((i:Int)≤e1∧e2≤(j:Int))):=fun h=>c1 h.1;have jf:Hid (B5 i j (E.take (k+1))=F):=by show _=_;rw [jv.out,if_neg jx.out,List.append_nil]
    go_wp2_with fail
    go_roundg (E.length - (k+1))
    case measure=>have:=jw.out;omega
    case rel=>exact ⟨k+1,a3,c3,by go_num,by omega,rfl,by rw [jf.out];exact ji.out,by rw [jf.out];exact jb.out,jc.out⟩
  ·obtain rfl:k=E.length:=by omega
   have jO:B5 i j E=F:=(jH.out rfl).symm;have jZ:=A0 jO;obtain ⟨m0,m1⟩:=B3 jh;have jr:=HT.out.at (q:=gr+1) (by omega) j4.out;obtain ⟨r0,r1⟩:=B3 jr;have rf:∀ i,wr.frozen? ⟨gr+1,i,none⟩=false:=fun i=>by simp [World.frozen?,jr]
   obtain ⟨wf,jU,jS,t0,t1⟩:=RQ jr (.int .i64 (dj:Int)) (.slice a3 F.length c3);have j6:=A0 jU;have jL:=A0 jS;clear jr jU jS jh jO
   go_wp2_with fail
   rw [j6.out];clear m0 m1 r0 r1 rf;refine bodyPost_ret (v:=.agg #[.int .i64 (dj:Int),.slice a3 F.length c3]) (by simp [results,Tryz.results30,go_sem,t0,t1]) rfl ?_;rw [jZ.out,jY.out];exact ⟨_,rfl,(Tq.own jb.out jL.out (by omega)).mono (by have:=jM.out.size;omega),Below.trans jN.out (jL.out.below (by have:=jJ.out;omega) jN.out.size)⟩
theorem Sh {R:List Rl} {acc:Int} {L:List Slt} {Ws:List ByteArray} (hl:L.length≤6) (hb:Be 8 L) (hw:Ws.length≤10) (h3:∀ x∈Ws,x.size≤3):Fg (L.length:Int) (EI R acc L (Ws.map bts)):=by
 have hlen:(EI R acc L (Ws.map bts)).length≤210:=by
  have h1:=PR (R:=R) (acc:=acc) (L:=L) (W:=Ws.map bts);have h2:=NC _ hl;have h3:(spn L.length).length*(Ws.map bts).length≤21*10:=Nat.mul_le_mul h2 (by rw [AO];exact hw);omega
 refine ⟨by omega,by omega,by omega,fun k hk _=>⟨?_,fun h0=>List.pairwise_iff_getElem.1 Ex (k - 1) k (by omega) hk (by omega)⟩⟩;obtain ⟨i,j,w,c,he,hij,hj,hf⟩:=GP.1 (AI hk);obtain ⟨jb,jc⟩:=(GN.mem w c).1 hf;rw [AO] at jb;have hX:(Ws.map bts)[w].length≤3:=by
  rw [List.getElem_map,Bs];exact h3 _ (AI jb)
 have ja:=whole_low (C:=8) (hb.drop i) jc;have hdl:(L.drop i).length≤6:=by rw [List.length_drop];omega
 have hc:((L.drop i).length+1)*8*((Ws.map bts)[w].length+1)*(1000+4*8)≤7*8*4*(1000+4*8):=Nat.mul_le_mul (Nat.mul_le_mul (Nat.mul_le_mul (by omega) (A5 _)) (by omega)) (A5 _);have hc2:c≤7*8*4*(1000+4*8):=AA ja hc;rw [he];unfold C6;simp only;omega
section
variable {S:Sch} {b aw ac ap aL:Option Addr} {cS cw cc cp cL g8 g9:Nat} {Ws:List ByteArray} {cs:List Nat} {ps:List Prs} {bk:Int} {v0:Value} {L L0:List Slt} {W:World}
theorem NY (h:Ol S b cS aw ac ap cw cc cp Ws cs ps bk g8 g9 v0 L0 W) (hs:BZ S=0) (jb:S.acc=1) (ja:S.rules.length≤cS) (jc:Is Ws cs ps bk) (jd:Ws.length≤10) (hT:Tab W) (hL:Dg W aL cL L) (h3:Gi L) (h6:L.length≤6) :
  Calls Tryz.prog 14 #[.agg #[.int .i64 S.modes,.int .u8 S.acc,.slice b S.rules.length cS],.agg #[.slice aw Ws.length cw,.slice ac cs.length cc,.slice ap ps.length cp,.int .i64 bk],.slice aL L.length cL] W (RL L.length (EI S.rules S.acc L (Ws.map bts)) W) :=
 lbuild_ok S b aw aL cS cw cL (.slice ac cs.length cc) (.slice ap ps.length cp) (.int .i64 bk) Ws L W (FX.of_valid (F3 hs) (by rw [jb];decide) (by rw [jb];decide) ja h.rul) (F3 hs) hs hT
  (fun W' hx=>H9 aw ac ap cw cc cp Ws cs ps bk W' (h.mod.go hx) jc) (QM hL.s (by omega) (h3.valid (by omega))) h.mod.ws jc.dict h.mod.wc jd hL h6
theorem Oo {nL:Nat} (h:Ol S b cS aw ac ap cw cc cp Ws cs ps bk g8 g9 v0 L0 W) (hs:BZ S≠0) (jb:S.acc=1) (hl9:S.rules.length≤9) (ja:S.rules.length≤cS) :
  Calls Tryz.prog 14 #[.agg #[.int .i64 S.modes,.int .u8 S.acc,.slice b S.rules.length cS],.agg #[.slice aw Ws.length cw,.slice ac cs.length cc,.slice ap ps.length cp,.int .i64 bk],.slice aL nL cL] W (MY 20 W) :=
 F4 S b aw aL cS cw cL (.slice ac cs.length cc) (.slice ap ps.length cp) (.int .i64 bk) Ws.length nL W h.rul ja (by omega) (by rw [jb];decide) (by rw [jb];decide) hs
end
def LtV (n:Int) (E:List Edg) (v:Value) (w:World):Prop:=∃ a c,v=.tuple #[.agg #[.int .i64 n,.slice a E.length c],.int .i64 0]∧Bq w a E
theorem Jw (n:Int) (E:List Edg):BL (LtV n E):=by
 rintro v w w' ⟨a,c,h1,h2⟩ hx;exact ⟨a,c,h1,h2.go hx⟩
theorem Si {n:Nat} {E:List Edg} {w w':World} {e:Ending} (h:RL n E w e w'):∃ v,e=.returned v∧LtV (n:Int) E v w'∧Ext w w':=by
 obtain ⟨v,rfl,hv,hx⟩:=h;obtain ⟨a,c,ja, -, -⟩:=hv.form;subst ja;exact ⟨_,rfl,⟨a,c,rfl,(Ac.edgs hv).1⟩,hx⟩
def LgV (n:Int) (E:List Edg) (v:Value) (w:World):Prop:=∃ a c,v=.agg #[.int .i64 n,.slice a E.length c]∧Bq w a E
theorem Jy (n:Int) (E:List Edg):BL (LgV n E):=by
 rintro v w w' ⟨a,c,h1,h2⟩ hx;exact ⟨a,c,h1,h2.go hx⟩
theorem Sj {n:Int} {E:List Edg} {w w':World} {e:Ending} (h:TA n E w e w'):∃ v,e=.returned v∧LgV n E v w'∧Ext w w':=by
 obtain ⟨v,rfl,hv,hx⟩:=h;obtain ⟨a,c,ja, -, -⟩:=hv.form;subst ja;exact ⟨_,rfl,⟨a,c,rfl,(Ac.edgs hv).1⟩,hx⟩
def Rc (B:Nat) (v:Value) (W:World):Prop:=∃ g,v=.pointer (some ⟨g,0,none⟩)∧W.heap[g]? = some (.cells #[.int .i64 0,.slice none 0 0] 45 (0,0))∧B≤g
theorem Mo (B:Nat):BL (Rc B):=by
 rintro v w w' ⟨g,hv,hg,hB⟩ hx;exact ⟨g,hv,(Below.block hx g (A7.1 hg).1).trans hg,hB⟩
theorem F9 {P:Program} {ops:Array Oper} {Q:Exit→Act→World→Prop} {L:Nat} {K:Act→World→Prop} {o:Oper} {A:Act} {W:World} {ty t:TypeId} {p v:Operand} {g:Nat} {x' y':Value} {a:Option Addr} {k c:Nat} {n:Int}
  (ho:ops[L]? = some o) (hg:o.guard=none) (ja:o.op=.store ty p v) (hd:o.dst=none) (hp:A.eval p=.pointer (some ⟨g,0,none⟩)) (hv:A.eval v=.agg #[.int .i64 n,.slice a k c]) (hr:W.heap[g]? = some (.cells #[x',y'] t (0,0))) (jb:(sizeOf ty).run P W=.ok 2 W)
  (hK:K A ((W.setCell ⟨g,0,none⟩ (.int .i64 n)).setCell ⟨g,1,none⟩ (.slice a k c))):wpOp P ops Q L K A W:=by
 unfold wpOp;rw [ho];have hw:Region.wanted o (yielded ops A.tmps)=true:=by unfold Region.wanted;rw [hg]
 simp only [hw,if_pos];refine .inl ?_;unfold Oper.wp execOp;obtain ⟨d0,d1⟩:=B3 hr;have hf:∀ i,W.frozen? ⟨g,i,none⟩=false:=fun i=>by simp [World.frozen?,hr]
 simp only [ja,hp,hv];simp [go_sem,hf,d0,d1,jb];rw [hd];exact hK
theorem Kk {P:Program} {ops:Array Oper} {Q:Exit→Act→World→Prop} {L d:Nat} {K:Act→World→Prop} {o:Oper} {A:Act} {W:World} {v:Operand} {x y:Value}
  (ho:ops[L]? = some o) (hg:o.guard=none) (ja:o.op=.extract v 1) (hd:o.dst=some d) (hv:A.eval v=.tuple #[x,y]) (hK:K (A.put (some d) y) W):wpOp P ops Q L K A W:=by
 unfold wpOp;rw [ho];have hw:Region.wanted o (yielded ops A.tmps)=true:=by unfold Region.wanted;rw [hg]
 simp only [hw,if_pos];refine .inl ?_;unfold Oper.wp execOp;simp only [ja,hv];simp [go_sem];rw [hd];exact hK
theorem Bq.tq {w w':World} {a:Option Addr} {E:List Edg} (h:Bq w a E) {g:Nat} {x:Value} {a1:Option Addr} {n1 c1:Nat} {t:TypeId} {f:Nat × Nat} (hg:w.heap[g]? = some (.cells #[x,.slice a1 n1 c1] t f)) (ht:Tq g w w'):Bq w' a E:=fun k hl=>by
 obtain ⟨b,o,ha,h1,h2,h3,h4,h5⟩:=h k hl;have ja:b≠g:=fun e=>by
  subst e;rw [cell_of_row w b _ _ _ _ hg,Array.getElem?_eq_none (by simp)] at h4;cases h4
 have hk:w'.heap[b]? = w.heap[b]?:=ht.block b h1 fun e=>ja (by injection e);exact ⟨b,o,ha,A9 h1 ht.size,(World.cell?_of_block hk).trans h2,(World.cell?_of_block hk).trans h3,(World.cell?_of_block hk).trans h4,(World.cell?_of_block hk).trans h5⟩
theorem NZ {w0 W:World} {g:Nat} {n:Int} {a:Option Addr} {c:Nat} {E:List Edg} (hx:Ext w0 W) (hg:W.heap[g]? = some (.cells #[.int .i64 0,.slice none 0 0] 45 (0,0))) (k:w0.heap.size≤g) (hE:Bq W a E) :
  ∃ w1,(W.setCell ⟨g,0,none⟩ (.int .i64 n)).setCell ⟨g,1,none⟩ (.slice a E.length c)=w1∧w1.heap[g]? = some (.cells #[.int .i64 n,.slice a E.length c] 45 (0,0))∧Bq w1 a E∧Ext w0 w1:=by
 have t1:Tq g W ((W.setCell ⟨g,0,none⟩ (.int .i64 n)).setCell ⟨g,1,none⟩ (.slice a E.length c)):=(Tq.set _ _ _ _).trans (Tq.set _ _ _ _);exact ⟨_,rfl,Am (Am hg rfl) rfl,hE.tq hg t1,Below.trans hx (t1.below k hx.size)⟩
open Go.ChangeShapes Go.WideShapes Go.ChangeAt Go.RowKit Fl
section
variable {H:Type} {enc:TypeId × Value→H} {w:World} {base:Nat} {spare:Nat→Bool} {held:Bool} {d:DataW H} {p:List MemPlace} {r:Reach} {b0:Nat} {v:Value}
open Go.Deep in
theorem Kl {fuel:Nat} {cs:List Value} {x:DataW H × List MemPlace} (h:DataW.trod enc Tryz.prog w base spare held fuel 25 cs=some x):∃ q:Pg,cs=[.slice q.a q.len q.cap]∧Ph w q:=by
 rcases open_slice1 Tryz.underlying25 (by kernel_rfl) h with ⟨h0,_⟩ | ⟨ad,len,cap,m,n,V,D,Pl,h0,hba,hl,ja,jd,_,jb⟩
 · exact ⟨⟨none,0,0,fun _=>default⟩,h0,fun i hi=>absurd hi (Nat.not_lt_zero i),by show 0≤_;omega⟩
 ·have hlm:len≤m:=by rw [jd];split <;> omega
  have jc:len≤9223372036854775807:=by unfold maxLen at ja;omega
  have key:∀ i,i<len→∃ q:BR,w.cell? (ad.add i)=some (.slice q.a q.n q.c)∧Bl w q.a q.n q.Z∧q.n≤9223372036854775807:=fun i hi=>by
   obtain ⟨h1,h2⟩:=jb i (by omega);obtain ⟨a1,l1,c1,Z,hz,g1,g2⟩:=Go.Proofs.YtpljngaejaehcaaGreatDoor.slice_bytes h2;have:V i=.slice a1 l1 c1:=List.head_eq_of_cons_eq hz;rw [this] at h1;exact ⟨⟨a1,l1,c1,Z⟩,h1,g1,g2⟩
  obtain ⟨Q,hQ⟩:=choose_lt (α:=BR) key;refine ⟨⟨some ad,len,cap,Q⟩,h0,fun i (hi:i<len)=>?_,jc⟩;obtain ⟨b,o,sp⟩:=ad;have hs:=World.cell?_spot (hQ 0 (by omega)).1;obtain rfl:sp=none:=by simpa [Addr.add] using hs
  have hk:=hQ i hi;have hb:=World.block_lt_of_cell? w _ hk.1;rw [C7] at hb;rw [addr_add] at hk;exact ⟨b,o,rfl,hb,hk⟩
end
structure Lp where
 a:Option Addr
 len:Nat
 cap:Nat
 Z:Nat→Nat→Int
def Lp.val (x:Lp):Value:=.slice x.a x.len x.cap
structure Na (w:World) (x:Lp):Prop where
 rows:Fp .u8 3 w x.a x.len x.Z
 le:x.len≤9223372036854775807
structure Hc where
 W:Pg
 C:Sx
 U:Lp
 B:Int
def Hc.val (x:Hc):Value:=.agg #[.slice x.W.a x.W.len x.W.cap,.slice x.C.a x.C.len x.C.cap,.slice x.U.a x.U.len x.U.cap,.int .u8 x.B]
structure Nb (w:World) (x:Hc):Prop where
 W:Ph w x.W
 C:Sy w x.C
 U:Na w x.U
 b0:0≤x.B
 b1:x.B≤255
section
variable {H:Type} {enc:TypeId × Value→H} {w:World} {base:Nat} {spare:Nat→Bool} {held:Bool} {d:DataW H} {p:List MemPlace} {r:Reach} {b0:Nat} {v:Value}
theorem trod_struct4 {P:Program} {t:TypeId} {f0 f1 f2 f3:Field} {fuel:Nat} {cs:List Value} {x:DataW H × List MemPlace} (ht:P.underlying t=some (.struct #[f0,f1,f2,f3])) (h:DataW.trod enc P w base spare held fuel t cs=some x) :
  ∃
   y0 y1 y2 y3 n,cs.length=P.cellsOf t∧DataW.trod enc P w base spare held n f0.type ((cs.drop f0.offset).take (P.cellsOf f0.type))=some y0 ∧
   DataW.trod enc P w base spare held n f1.type ((cs.drop f1.offset).take (P.cellsOf f1.type))=some y1∧DataW.trod enc P w base spare held n f2.type ((cs.drop f2.offset).take (P.cellsOf f2.type))=some y2 ∧
   DataW.trod enc P w base spare held n f3.type ((cs.drop f3.offset).take (P.cellsOf f3.type))=some y3:=by
 obtain ⟨xs,n,_,rfl,hl,ja,hf⟩:=DataW.trod_struct ht h
 match xs,ja with
 | [y0,y1,y2,y3],_=>exact ⟨y0,y1,y2,y3,n,hl,by simpa using hf 0 f0 rfl,by simpa using hf 1 f1 rfl,by simpa using hf 2 f2 rfl,by simpa using hf 3 f3 rfl⟩
open Go.Deep in
theorem J2 {fuel:Nat} {cs:List Value} {x:DataW H × List MemPlace} (h:DataW.trod enc Tryz.prog w base spare held fuel 27 cs=some x):∃ q:Lp,cs=[.slice q.a q.len q.cap]∧Na w q:=by
 rcases open_slice Tryz.underlying27 h with ⟨h0,_⟩ | ⟨ad,l,c,mm,n,D,Pl,h0,hba,hl,ja,jc,_,hel⟩
 ·subst h0;obtain ⟨Z,hZ⟩:=trod_rows Tryz.underlying27 Tryz.underlying95 Tryz.underlying5 (by kernel_rfl) (by kernel_rfl) (by decide) h;exact ⟨⟨none,0,0,Z⟩,rfl,hZ,by show 0≤_;omega⟩
 ·subst h0;obtain ⟨Z,hZ⟩:=trod_rows Tryz.underlying27 Tryz.underlying95 Tryz.underlying5 (by kernel_rfl) (by kernel_rfl) (by decide) h;have hlm:l≤mm:=by rw [jc];split <;> omega
  have jb:l≤9223372036854775807:=by unfold maxLen at ja;omega
  exact ⟨⟨some ad,l,c,Z⟩,rfl,hZ,jb⟩
theorem Oq (hv:Value.okWide Tryz.prog w r b0 27 v) (h:DataW.Trod enc Tryz.prog w base spare held 27 v d p):∃ x:Lp,v=x.val∧Na w x:=by
 obtain ⟨a,len,cap,rfl⟩:=okWide_slice Tryz.underlying27 hv;obtain ⟨f,hf⟩:=h;have ja:DataW.trod enc Tryz.prog w base spare held f 27 [.slice a len cap]=some (d,p):=by simpa [Value.cells] using hf
 obtain ⟨q,h0,hq⟩:=J2 ja;exact ⟨q,List.head_eq_of_cons_eq h0,hq⟩
theorem Mp (hv:Value.okWide Tryz.prog w r b0 29 v) (h:DataW.Trod enc Tryz.prog w base spare held 29 v d p):∃ x:Hc,v=x.val∧Nb w x:=by
 obtain ⟨cs,rfl,ji⟩:∃ cs,v=.agg cs∧cs.size=4:=by
  unfold Value.okWide at hv;rw [Tryz.underlying29] at hv;obtain ⟨cs,h,h2,_⟩:=hv;exact ⟨cs,h,h2.trans (by kernel_rfl)⟩
 obtain ⟨f,hf⟩:=h;obtain ⟨y0,y1,y2,y3,n,_,h0,h1,h2,h3⟩:=trod_struct4 Tryz.underlying29 hf;have je:∃ c0 c1 c2 c3,cs=#[c0,c1,c2,c3]:=by
  obtain ⟨l⟩:=cs
  match l,ji with
  | [c0,c1,c2,c3],_=>exact ⟨c0,c1,c2,c3,rfl⟩
 obtain ⟨c0,c1,c2,c3,rfl⟩:=je;have ja:Tryz.prog.cellsOf 25=1:=by kernel_rfl
 have jb:Tryz.prog.cellsOf 26=1:=by kernel_rfl
 have jc:Tryz.prog.cellsOf 27=1:=by kernel_rfl
 have jd:Tryz.prog.cellsOf 5=1:=by kernel_rfl
 rw [ja] at h0;rw [jb] at h1;rw [jc] at h2;rw [jd] at h3;obtain ⟨qW,e0,jh⟩:=Kl (cs:=[c0]) h0;obtain ⟨a,len,cap,Z,e1,hZ,jf⟩:=Go.Proofs.YtpljngaejaehcaaGreatDoor.slice_bytes (cs:=[c1]) h1;obtain ⟨qU,e2,jg⟩:=J2 (cs:=[c2]) h2;obtain ⟨B,e3,_,w3⟩:=DataW.trod_int Tryz.underlying5 (cs:=[c3]) h3;simp only [List.cons.injEq,and_true] at e0 e1 e2;have g3:c3=.int .u8 B:=List.head_eq_of_cons_eq e3;subst e0 e1 e2 g3;exact ⟨⟨qW,⟨a,len,cap,Z⟩,qU,B⟩,rfl,jh,⟨hZ,jf⟩,jg,(bounds_u8 w3).1,(bounds_u8 w3).2⟩
end
theorem latticeParts_view (x:Jq) (y:Hc) (z:Lp) (w:World) (hx:Px w x) (hy:Nb w y) (hz:Na w z) (hT:Tab w) :
  Calls Tryz.prog 6 #[x.val,y.val,z.val] w fun e w'=>e=.returned (.bool true)∧Ext w w':=by
 obtain ⟨rM,rA,ra,rl,rc,rQ⟩:=x;obtain ⟨⟨wa,wl,wc,wQ⟩,⟨ca,cl,cc0,cZ⟩,⟨ua,ul,uc,uZ⟩,bB⟩:=y;obtain ⟨la,ll,lc,lZ⟩:=z;obtain ⟨kL,kM,kG,kH,jv⟩:=hx;obtain ⟨⟨kw,k3⟩,⟨kf,kO⟩,⟨kr,kZ⟩,kI,kJ⟩:=hy;obtain ⟨km,jI⟩:=hz;simp only at kL kM kG kH jv kw k3 kf kO kr kZ kI kJ km jI;have yk:=A0 jv;have yo:=A0 kw;have ye:=A0 kf;have ym:=A0 kr;have yi:=A0 km;have HT:=A0 hT;clear jv kw kf kr km hT;simp only [Jq.val,Hc.val,Lp.val]
 go_enter Tryz.func6,Tryz.ntmps6
 go_upto_region 1 with fail
 obtain ⟨w2,k1,k6,b1,b2,yB⟩:=F7 w (.cells #[.int .u8 rM,.int .u8 rA,.slice ra rl rc] 24) (.cells #[.slice wa wl wc,.slice ca cl cc0,.slice ua ul uc,.int .u8 bB] 29);rw [k1];obtain ⟨gx,kS⟩:∃ gx,w.heap.size=gx:=⟨_,rfl⟩
 rw [kS] at b1 b2 ⊢;obtain ⟨gy,kT⟩:∃ gy,gx+1=gy:=⟨_,rfl⟩
 rw [kT] at b2 ⊢;have kB:=A0 k6;have jY:=A0 (Aq b1);have jZ:=A0 (Aq b2);clear k1 k6 b1 b2 yB kS kT
 go_wp2_with fail
 refine (Mj w2 (HT.out.go kB.out)).mono ?_;rintro e w3 ⟨rfl,jf⟩;have jz:Hid (Ext w w3):=Ext.trans kB.out jf;have yc:Hid (∀ W,Ext w3 W→W.heap[gx]? = some (.cells #[.int .u8 rM,.int .u8 rA,.slice ra rl rc] 24 (0,0))):=fun W hx=>jY.out W (Ext.trans jf hx);have yd:Hid (∀ W,Ext w3 W→W.heap[gy]? = some (.cells #[.slice wa wl wc,.slice ca cl cc0,.slice ua ul uc,.int .u8 bB] 29 (0,0))):=fun W hx=>jZ.out W (Ext.trans jf hx);clear jf
 go_upto_region 2 with fail
 refine GA (by kernel_rfl) (Vs [vq (.agg #[.int .u8 rM,.int .u8 rA,.slice ra rl rc]),RY,vq (.agg #[.slice wa wl wc,.slice ca cl cc0,.slice ua ul uc,.int .u8 bB]),MdV (mdW wQ (min wl 6)),vq (.slice la ll lc),SlV (s3s lZ (min ll 6)),SN w3.heap.size (.int .i64 0) (.int .u8 0) (.slice none 0 0) 33,Sg w3.heap.size]) (Xs []) (fun fL=>(fun W=>Ext w3 W) ) [0,1,0,7,0,31,0,0] 83 8 11 (by kernel_rfl) rfl ?hV ?hS ?hop ?hlast ?hlate
 case hV =>
  refine B1 (Ag (by simp only [AU,List.not_mem_nil,or_false,forall_eq_or_imp,forall_eq];exact ⟨AY _,Ml,AY _,Oi _,AY _,Oj _,MQ _ _ _ _ _,Mm _⟩)) ?_;exact trivial
 case hS =>
  intro fL hf;show (fun W=>Ext w3 W)  _
  first | exact Ext.refl _ | exact At _
 case hop =>
  refine ⟨?_,?c1,?_,?c3,?_,?c5,?c6,?c7,trivial⟩
  all_goals first | rw [if_neg (by decide)] | rw [if_pos (by decide)]
  all_goals refine K1 _ _ _ _ _ _ _ ?_
  all_goals try intro ac W fL jd jh kp kg jb jc ja jx
  all_goals try have hS:(fun W=>Ext w3 W)  W:=jb
  all_goals try (
   have jf:Ext w3 W:=hS;obtain ⟨x0,x1,x2⟩:=cells3 (yc.out W jf);obtain ⟨y0,y1,y2,y3⟩:=Ax (yd.out W jf))
  all_goals try have hh3:=gdA ac 3 (.pointer (some ⟨gx,0,none⟩)) (ja 3 (by kernel_rfl))
  all_goals try have hh4:=gdA ac 4 (.pointer (some ⟨gy,0,none⟩)) (ja 4 (by kernel_rfl))
  all_goals try have hh2:=gdA ac 2 (.slice la ll lc) (ja 2 (by kernel_rfl))
  all_goals try (have jc:=DE jc;simp [Cd,Aa,vq] at jc)
  all_goals try clear ja kp kg jx
  case c1 =>
   refine AZ rfl (.inr ⟨11,#[.agg #[.int .u8 rM,.int .u8 rA,.slice ra rl rc]],W,by (clear jd hS jb jh jf;simp [go_sem,Act.eval, *]),?_⟩);refine (made2_any rM rA ra rl rc rQ W kL kM kG kH (yk.out.later (Ext.trans jz.out jf) (A5 _))).mono ?_;rintro e w' hp;obtain ⟨v,rfl,hv,hx⟩:=RZ hp;exact ⟨_,rfl,hv,hx,Ext.trans jb hx⟩
  case c3 =>
   refine AZ rfl (.inr ⟨12,#[.agg #[.slice wa wl wc,.slice ca cl cc0,.slice ua ul uc,.int .u8 bB]],W,by (clear jd hS jb jh jf;simp [go_sem,Act.eval, *]),?_⟩);refine (made11_any wQ wa ca ua wl wc cl cc0 ul uc cZ uZ bB W (yo.out.later (Ext.trans jz.out jf) (A5 _)) k3 (ye.out.later (Ext.trans jz.out jf) (A5 _)) kO (FO ym.out (Ext.trans jz.out jf) (A5 _)) kZ kI kJ).mono ?_;rintro e w' hp;obtain ⟨v,rfl,hv,hx⟩:=Sf hp;exact ⟨_,rfl,hv,hx,Ext.trans jb hx⟩
  case c5 =>
   refine AZ rfl (.inr ⟨13,#[.slice la ll lc,.int .i64 6],W,by (clear jd hS jb jh jf;simp [go_sem,Act.eval, *]),?_⟩);refine (slots14_any lZ la ll lc 6 W (FO yi.out (Ext.trans jz.out jf) (A5 _)) jI (by decide)).mono ?_;rintro e w' ⟨v,rfl,hv,jS,hx⟩;exact ⟨_,rfl,⟨hv.mono (Nat.zero_le _),jS⟩,hx,Ext.trans jb hx⟩
  case c6 =>
   refine AZ rfl (.inl ⟨.pointer (some ⟨W.heap.size,0,none⟩),W.alloc (.cells #[.int .i64 0,.int .u8 0,.slice none 0 0] 33),?_,⟨W.heap.size,rfl,heap_alloc_new _ _,Below.size jf⟩,(Below.refl _ _).alloc (A5 _) _,Ext.trans jb ((Below.refl _ _).alloc (A5 _) _)⟩);clear jd hS jb jh jf x0 x1 x2 y0 y1 y2 y3;simp [go_sem,Act.eval]
  case c7 =>
   refine AZ rfl (.inl ⟨.pointer (some ⟨W.heap.size,0,none⟩),W.alloc (.cells #[.slice none 0 0,.slice none 0 0,.slice none 0 0,.int .i64 0] 39),?_,⟨W.heap.size,rfl,heap_alloc_new _ _,Below.size jf⟩,(Below.refl _ _).alloc (A5 _) _,Ext.trans jb ((Below.refl _ _).alloc (A5 _) _)⟩);clear jd hS jb jh jf x0 x1 x2 y0 y1 y2 y3;simp [go_sem,Act.eval]
  all_goals (refine AZ rfl (.inl ⟨_,W,?_,rfl,Ext.refl _,jb⟩);clear jd hS jb jh;simp [go_sem,Act.eval, *];done)
 case hlate =>
  intro h;exact absurd h (by decide)
 case hlast =>
  intro ac W jd jm fL hf jb hv ja;have hS:(fun W=>Ext w3 W)  W:=jb;clear jb;have h8:SN w3.heap.size (.int .i64 0) (.int .u8 0) (.slice none 0 0) 33 (ac.tmps.getD 8 undef) W:=hv 6 (by decide);have h9:Sg w3.heap.size (ac.tmps.getD 9 undef) W:=hv 7 (by decide);have yr:RY (ac.tmps.getD 20 undef) W:=hv 1 (by decide);have ys:MdV (mdW wQ (min wl 6)) (ac.tmps.getD 22 undef) W:=hv 3 (by decide);have yt:SlV (s3s lZ (min ll 6)) (ac.tmps.getD 24 undef) W:=hv 5 (by decide);obtain ⟨g8,e8,kh,k8⟩:=h8;obtain ⟨g9,e9,kQ,k9⟩:=h9;obtain ⟨S,bS,cS,e20,hm1,hm2,kN,yz,jJ,ke⟩:=yr;obtain ⟨aw,am,ap,cw,cm,cp,cs,ps,bk,e22,kn,ko,kV⟩:=ys;obtain ⟨jw,jS⟩:=yt;obtain ⟨L,gL,cL,e24,yA,jT,kY,kU⟩:=Mg jw (AA (Nat.min_le_right _ _) (by decide)) jS;rw [e24] at jw;obtain ⟨Ws,jQ⟩:∃ Ws,mdW wQ (min wl 6)=Ws:=⟨_,rfl⟩
  have kA:Hid (2≤Ws.length∧Ws.length≤8):=by show _∧_;have:=Eb wQ (min wl 6);rw [jQ] at this;have:=Nat.min_le_right wl 6;omega
  have yn:Hid (∀ x∈Ws,x.size≤3):=by show ∀ x∈Ws,_;rw [← jQ];exact fun x hx=>(Mf wQ _ x hx).2
  rw [jQ] at e22 kn ko;have kl:L.length≤6:=by rw [kU];exact Nat.min_le_right _ _
  obtain ⟨w1,k0,jG,wz,k5,kd,yb⟩:=Ra (L:=L) (v:=.slice (some ⟨gL,0,none⟩) L.length cL) (cS:=cS) hS kh kQ k8 k9 jJ kn kV kY;show Eg _ _ _ 3 8 _ _;unfold Eg;refine F1 rfl rfl rfl rfl (Ae e8) (Ae e20) kh (by kernel_rfl) ?_;rw [k0];unfold Eg;refine Iz rfl rfl rfl rfl (Ae e9) (Ae (e22.trans (by rfl))) jG (by kernel_rfl) ?_;rw [k5];unfold Eg;refine F8 rfl rfl rfl rfl (Ae e24) ?_;unfold Eg;obtain ⟨sx,jo,jq⟩:=Ah [19,20,21,22,23,24,8,9,10] (by kernel_rfl) jd jm ja;have f8:sx 8=.pointer (some ⟨g8,0,none⟩):=(jo 8).trans e8;have f9:sx 9=.pointer (some ⟨g9,0,none⟩):=(jo 9).trans e9;have js:=A0 kd;have yq:=A0 yb;have j6:=A0 jT;have kz:=A0 ko;have j8:=A0 (Dg.of kd.slt (by omega) jT.bnd jT.dis).1;have yw:=kA.out;clear hS kh kQ k8 k9 jJ kn kV jw kY jS kd yb jT ko yA k0 k5 jG kU jQ e20 e22 e24 yw;rw [jq];simp only [List.foldl];simp only [Act.put,List.setIfInBounds_toArray,List.set_cons_succ,List.set_cons_zero];clear jq jo hv ja jd jm hf;rw [f8,f9];clear f8 f9 e8 e9;have jX:=A0 kN;have jt:=A0 ke;have jM:Hid (Ext w wz):=Ext.trans jz.out yq.out;have ju:Hid (Ws.length≤10):=by show _≤_;have:=kA.out;omega
  have ky:=A0 kl;clear kN;obtain ⟨s0,s1,s2⟩:=Bo (js.out.go (Ext.refl _)).b8;obtain ⟨t0,t1,t2,t3⟩:=Ax (js.out.go (Ext.refl _)).b9;by_cases jU:BZ S=0
  ·have jL :=
         A0 jU
   clear jU
   go_wp2_with fail
   clear s0 s1 s2 t0 t1 t2 t3;refine (NY js.out jL.out jX.out jt.out kz.out ju.out (HT.out.go jM.out) j8.out j6.out ky.out).mono ?_;obtain ⟨E,hE⟩:∃ E,EI S.rules S.acc L (Ws.map bts)=E:=⟨_,rfl⟩
   have j3:Hid (Fg (L.length:Int) E):=by show Fg _ _;rw [← hE];exact Sh ky.out (fun s hs x hx=>j6.out.cst s hs x hx) ju.out yn.out
   have j1:Hid (E.length≤1000000):=by show _≤_;have:=j3.out.2.2.1;omega
   have yg:=A0 hE;rw [hE];rintro e w5 ⟨v5,rfl,ku,jK⟩;obtain ⟨a5,c5,kv, -, -⟩:=ku.form;subst kv;have j0:=A0 (Ac.edgs ku).1;have Jx:=A0 jK;clear ku jK hE
   go_upto_region 4 with fail
   obtain ⟨w4,jV⟩:∃ w4,w5.alloc (.cells #[.int .i64 (L.length:Int),.slice a5 E.length c5] 45)=w4:=⟨_,rfl⟩
   rw [jV];have ji:Ext w5 w4:=by rw [← jV];exact (Below.refl _ _).alloc (A5 _) _
   have b1:w4.heap[w5.heap.size]? = some (.cells #[.int .i64 (L.length:Int),.slice a5 E.length c5] 45 (0,0)):=by rw [← jV];exact heap_alloc_new _ _
   obtain ⟨g11,jF⟩:∃ g11,w5.heap.size=g11:=⟨_,rfl⟩
   rw [jF] at b1 ⊢;have jB:=A0 (Aq b1);have kx:=A0 (j0.out.go ji);have kC:Hid (Ext wz w4):=Ext.trans Jx.out ji;obtain ⟨q0,q1⟩:=B3 b1;clear jV ji b1 jF
   go_wp2_with fail
   clear q0 q1;have kq:=rval14_any (L.length:Int) E a5 c5 w4 kx.out j1.out;rw [F6 j3.out] at kq;refine kq.mono ?_;clear kq;rintro e w6 ⟨rfl,ya⟩;have kD:Hid (Ext w4 w6):=ya;clear ya;obtain ⟨q0,q1⟩:=B3 (jB.out w6 kD.out)
   go_wp2_with fail
   clear q0 q1
   go_loopg [14,15,16,17] (L.length+2) (fun g v14 v15 v16 v17 wr=>∃ i:Nat,v14=.int .i64 (i:Int)∧i≤L.length+2∧g=L.length+2 - i∧Ext w4 wr)
   case atStart=>exact ⟨0,rfl,Nat.zero_le _,rfl,kD.out⟩
   case round =>
    obtain ⟨i,rfl,hi,jH,hb⟩:=hrel;have HB:=A0 hb;have j2:=A0 jH;clear hb jH;by_cases hil:i≤L.length
    ·have kj
          : (i:Int)≤(L.length:Int):=by omega
     obtain ⟨w8,k2⟩:∃ w8:World,w8=wr:=⟨wr,rfl⟩
     rw [← k2] at HB ⊢;clear k2
     go_wp2_with fail
     go_loopg [15,16,17] (L.length+1 - i) (fun g v15 v16 v17 wr=>∃ j:Nat,v15=.int .i64 (j:Int)∧i≤j∧j≤L.length+1∧g=L.length+1 - j∧Ext w4 wr)
     case atStart=>exact ⟨i,rfl,A5 _,by omega,rfl,HB.out⟩
     case round =>
      obtain ⟨j,rfl,jR,hj,kR,kc⟩:=hrel;obtain ⟨wo,k4⟩:∃ wo:World,wo=wr:=⟨wr,rfl⟩
      rw [← k4] at kc ⊢;have jN:=A0 kc;have yh:=A0 kR;clear kc kR k4;by_cases kk:j≤L.length
      ·have yy:(j:Int)≤(L.length:Int):=by omega
       have kK:=j8.out.cap;obtain ⟨oJ,kW,jw⟩:=Im gL 0 L.length cL i j jR kk kK;have yl:=A0 jw;have jp:Hid (((L.drop i).take (j - i)).length=j - i):=by show _=_;rw [AN,List.length_drop];omega
       have j9:Hid (∀ W,Ext wz W→Dg W (some ⟨gL,oJ,none⟩) (cL - i) ((L.drop i).take (j - i))):=fun W hx=>(j8.out.go hx).sub jR kk kW;have j7:Hid (Gi ((L.drop i).take (j - i))):=j6.out.sub fun s hs=>List.mem_of_mem_drop (List.mem_of_mem_take hs);have j4:Hid (((L.drop i).take (j - i)).length≤6):=by show _≤_;rw [jp.out];omega
       have j5:Hid (EI S.rules S.acc ((L.drop i).take (j - i)) (Ws.map bts)=B5 i j E):=by show _=_;rw [QS jR kk,yg.out]
       have jD:Hid ((B5 i j E).length≤9223372036854775807):=by show _≤_;have:=Lo (i:=i) (j:=j) (E:=E);have:=j1.out;omega
       clear jw kW kK
       go_upto_region 15 with fail
       go_cut [16,17] (fun v16 v17 wx=>∃ wy:World,wy=wx∧∃ (g16:Nat) (a69:Option Addr) (c69:Nat),v16=.pointer (some ⟨g16,0,none⟩)∧v17=.int .i64 0∧wy.heap[g16]? = some (.cells #[.int .i64 ((j - i:Nat):Int),.slice a69 (B5 i j E).length c69] 45 (0,0))∧Bq wy a69 (B5 i j E)∧Ext wo wy)
       case first =>
        refine GA (by kernel_rfl) (Vs [vq (.agg #[.int .i64 S.modes,.int .u8 S.acc,.slice bS S.rules.length cS]),vq (.agg #[.slice aw Ws.length cw,.slice am cs.length cm,.slice ap ps.length cp,.int .i64 bk]),vq (.slice (some ⟨gL,0,none⟩) L.length cL),vq (.int .i64 (i:Int)),vq (.int .i64 (j:Int)),vq (.slice (some ⟨gL,oJ,none⟩) (j - i) (cL - i)),(LtV ((j - i:Nat):Int) (B5 i j E)),(LtV ((j - i:Nat):Int) (B5 i j E)),LgV ((j - i:Nat):Int) (B5 i j E),vq (.int .i64 0),Rc wo.heap.size]) (Xs []) (fun fL=>(fun W=>Ext wo W) ) [0,0,0,0,0,28,63,127,255,255,0] 83 11 9 (by kernel_rfl) rfl ?hV ?hS ?hop ?hlast ?hlate
        case hV =>
         refine B1 (Ag (by simp only [AU,List.not_mem_nil,or_false,forall_eq_or_imp,forall_eq];exact ⟨AY _,AY _,AY _,AY _,AY _,AY _,Jw _ _,Jw _ _,Jy _ _,AY _,Mo _⟩)) ?_;exact trivial
        case hS =>
         intro fL hf;show (fun W=>Ext wo W)  _
         first | exact Ext.refl _ | exact At _
        case hop =>
         refine ⟨?_,?_,?_,?_,?_,?c5,?c6,?c7,?c8,?c9,?c10,trivial⟩
         all_goals first | rw [if_neg (by decide)] | rw [if_pos (by decide)]
         all_goals refine K1 _ _ _ _ _ _ _ ?_
         all_goals try intro ac W fL jd jh kp kg jb jc ja jx
         all_goals try have hS:(fun W=>Ext wo W)  W:=jb
         all_goals try (
          have ji:Ext wo W:=hS;have jn:Ext wz W:=Ext.trans kC.out (Ext.trans jN.out ji);obtain ⟨s0,s1,s2⟩:=Bo (js.out.go jn).b8;obtain ⟨t0,t1,t2,t3⟩:=Ax (js.out.go jn).b9)
         all_goals try have hh8:=gdA ac 8 (.pointer (some ⟨g8,0,none⟩)) (ja 8 (by kernel_rfl))
         all_goals try (have h9:ac.tmps.getD 9 undef=.pointer (some ⟨g9,0,none⟩):=ja 9 (by kernel_rfl);have yx:=h9;rw [A6] at yx)
         all_goals try (have jk:ac.tmps.getD 10 undef=.slice (some ⟨gL,0,none⟩) L.length cL:=ja 10 (by kernel_rfl);have ki:=jk;rw [A6] at ki)
         all_goals try have hh14:=gdA ac 14 (.int .i64 (i:Int)) (ja 14 (by kernel_rfl))
         all_goals try have hh15:=gdA ac 15 (.int .i64 (j:Int)) (ja 15 (by kernel_rfl))
         all_goals try have d61:((LtV ((j - i:Nat):Int) (B5 i j E))) (ac.tmps.getD 61 undef) W:=jc 7 (by decide)
         all_goals try have d68:((LtV ((j - i:Nat):Int) (B5 i j E))) (ac.tmps.getD 68 undef) W:=jc 6 (by decide)
         all_goals try (have jc:=DE jc;simp [Cd,Aa,vq] at jc)
         all_goals try clear ja kp kg jx
         case c5 =>
          refine AZ rfl (.inl ⟨_,W,?_,rfl,Ext.refl _,jb⟩);have jw:=yl.out W;clear jd hS jb jh ji jn s0 s1 s2 t0 t1 t2 t3;simp [go_sem,Act.eval, *]
         case c6 =>
          refine AZ rfl (.inr ⟨14,#[.agg #[.int .i64 S.modes,.int .u8 S.acc,.slice bS S.rules.length cS],.agg #[.slice aw Ws.length cw,.slice am cs.length cm,.slice ap ps.length cp,.int .i64 bk],.slice (some ⟨gL,oJ,none⟩) (j - i) (cL - i)],W,by (clear jd hS jb jh ji jn s0 s1 s2 t0 t1 t2 t3;simp [go_sem,Act.eval, *]),?_⟩);have hb:=NY (js.out.go jn) jL.out jX.out jt.out kz.out ju.out (HT.out.go (Ext.trans jM.out jn)) (j9.out W jn) j7.out j4.out;rw [jp.out,j5.out] at hb;refine hb.mono ?_;rintro e w' hp;obtain ⟨v,rfl,hv,hx⟩:=Si hp;exact ⟨_,rfl,hv,hx,Ext.trans jb hx⟩
         case c7 =>
          have jk:(LtV ((j - i:Nat):Int) (B5 i j E)) (ac.tmps.getD 68 undef) W:=d68;rw [A6] at jk;refine AZ rfl (.inl ⟨_,W,?_,jk,Ext.refl _,jb⟩);clear jd hS jb jh jk ji jn s0 s1 s2 t0 t1 t2 t3;simp [go_sem,Act.eval, *]
         case c8 =>
          have jk:(LtV ((j - i:Nat):Int) (B5 i j E)) (ac.tmps.getD 61 undef) W:=d61;rw [A6] at jk;obtain ⟨a9,c9,h9,jP⟩:=jk;have yf:=A0 jP;refine AZ rfl (.inl ⟨.agg #[.int .i64 ((j - i:Nat):Int),.slice a9 (B5 i j E).length c9],W,?_,⟨a9,c9,rfl,yf.out⟩,Ext.refl _,jb⟩);clear jd hS jb jh jP ji jn s0 s1 s2 t0 t1 t2 t3 jc;simp [go_sem,Act.eval, *]
         case c9 =>
          have jk:(LtV ((j - i:Nat):Int) (B5 i j E)) (ac.tmps.getD 61 undef) W:=d61;rw [A6] at jk;obtain ⟨a9,c9,h9,jP⟩:=jk;refine AZ rfl (.inl ⟨.int .i64 0,W,?_,rfl,Ext.refl _,jb⟩);clear jd hS jb jh jP ji jn s0 s1 s2 t0 t1 t2 t3 jc;simp [go_sem,Act.eval, *]
         case c10 =>
          refine AZ rfl (.inl ⟨.pointer (some ⟨W.heap.size,0,none⟩),W.alloc (.cells #[.int .i64 0,.slice none 0 0] 45),?_,⟨W.heap.size,rfl,heap_alloc_new _ _,Below.size ji⟩,(Below.refl _ _).alloc (A5 _) _,Ext.trans jb ((Below.refl _ _).alloc (A5 _) _)⟩);clear jd hS jb jh ji jn s0 s1 s2 t0 t1 t2 t3;simp [go_sem,Act.eval]
         all_goals (refine AZ rfl (.inl ⟨_,W,?_,rfl,Ext.refl _,jb⟩);clear jd hS jb jh;simp [go_sem,Act.eval, *];done)
        case hlate =>
         intro _ ac W jd jm fL hf yv jb hv ja;have hS:(fun W=>Ext wo W)  W:=jb;clear jb yv;have jO:Rc wo.heap.size (ac.tmps.getD 16 undef) W:=hv 10 (by decide) (by decide);have ka:LgV ((j - i:Nat):Int) (B5 i j E) (ac.tmps.getD 69 undef) W:=hv 8 (by decide) (by decide);have yu:(LtV ((j - i:Nat):Int) (B5 i j E)) (ac.tmps.getD 61 undef) W:=hv 7 (by decide) (by decide);obtain ⟨g16,e16,je,k16⟩:=jO;obtain ⟨a69,c69,e69,jl⟩:=ka;obtain ⟨a61,c61,e61,kb⟩:=yu;obtain ⟨wy,jy,jg,jE,jr⟩:=NZ (n:=((j - i:Nat):Int)) (c:=c69) hS je k16 jl;refine F9 rfl rfl rfl rfl (Ae e16) (Ae e69) je (by kernel_rfl) ?_;rw [jy];refine Kk rfl rfl rfl rfl (Ae e61) ?_;show Eg _ _ _ 1 12 _ _;unfold Eg;refine F8 rfl rfl rfl rfl (Ae (by rw [Kn,if_pos ⟨rfl,by rw [jd];exact (show (70:Nat)<83 by decide)⟩])) ?_;unfold Eg;obtain ⟨sx,jo,jq⟩:=Ah [62,63,64,65,66,67,68,61,69,70,16,17] (by kernel_rfl) jd jm ja;have f16:sx 16=.pointer (some ⟨g16,0,none⟩):=(jo 16).trans e16;have jj:=A0 jg;have jC:=A0 jE;have jA:=A0 jr;clear hS je k16 jl jg jE jr jy e69 e61 kb;rw [jq];simp only [List.foldl];simp only [Act.put,List.setIfInBounds_toArray,List.set_cons_succ,List.set_cons_zero];clear jq jo hv ja jd jm hf;rw [f16];clear f16 e16
         go_wp2_with fail
         go_meet
         exact ⟨_,rfl,g16,a69,c69,rfl,by first | rfl | exact f17,jj.out,jC.out,jA.out⟩
        case hlast =>
         intro ac W jd jm fL hf jb hv ja;have hS:(fun W=>Ext wo W)  W:=jb;clear jb;have jO:Rc wo.heap.size (ac.tmps.getD 16 undef) W:=hv 10 (by decide);have ka:LgV ((j - i:Nat):Int) (B5 i j E) (ac.tmps.getD 69 undef) W:=hv 8 (by decide);have kF:ac.tmps.getD 70 undef=.int .i64 0:=hv 9 (by decide);obtain ⟨g16,e16,je,k16⟩:=jO;obtain ⟨a69,c69,e69,jl⟩:=ka;obtain ⟨wy,jy,jg,jE,jr⟩:=NZ (n:=((j - i:Nat):Int)) (c:=c69) hS je k16 jl;show Eg _ _ _ 2 11 _ _;unfold Eg;refine F9 rfl rfl rfl rfl (Ae e16) (Ae e69) je (by kernel_rfl) ?_;rw [jy];unfold Eg;refine F8 rfl rfl rfl rfl (Ae kF) ?_;unfold Eg;obtain ⟨sx,jo,jq⟩:=Ah [62,63,64,65,66,67,68,61,69,70,16,17] (by kernel_rfl) jd jm ja;have f16:sx 16=.pointer (some ⟨g16,0,none⟩):=(jo 16).trans e16;have jj:=A0 jg;have jC:=A0 jE;have jA:=A0 jr;clear hS je k16 jl jg jE jr jy e69 kF;rw [jq];simp only [List.foldl];simp only [Act.put,List.setIfInBounds_toArray,List.set_cons_succ,List.set_cons_zero];clear jq jo hv ja jd jm hf;rw [f16];clear f16 e16
         go_wp2_with fail
         go_meet
         exact ⟨_,rfl,g16,a69,c69,rfl,by first | rfl | exact f17,jj.out,jC.out,jA.out⟩
       case rest =>
        obtain ⟨wy,jy,g16,a69,c69,ks,kt,je,kP,jr⟩:=hcut;subst jy ks kt;have jj:=A0 je;have jC:=A0 kP;have jA:=A0 jr;have kE:Hid (Ext w4 wy):=Ext.trans jN.out jA.out;clear je kP jr
        go_upto_region 16 with fail
        refine Ak (by kernel_rfl) (Vs [vq (.int .i64 0),vq (.bool false),vq (.bool false),vq (.agg #[.int .i64 ((j - i:Nat):Int),.slice a69 (B5 i j E).length c69]),vq (.agg #[.int .i64 (L.length:Int),.slice a5 E.length c5]),vq (.int .i64 (i:Int)),vq (.int .i64 (j:Int)),LgV ((j - i:Nat):Int) (B5 i j E),vq (.bool true),vq (.bool false),vq (.bool false)]) (fun W=>Ext wy W) 83 (by kernel_rfl) rfl ?hVx ?hSx ?hS (As ?hop) ?hfin
        case hop =>
         refine ⟨?_,?_,?_,?_,?_,?_,?_,?k7,?k8,?_,?_,trivial⟩
         all_goals
          intro A W jd hS jc ja;have jW:Ext wy W:=hS;obtain ⟨p0,p1⟩:=B3 (Aq jj.out W jW);obtain ⟨q0,q1⟩:=B3 (jB.out W (Ext.trans kE.out jW));have h17:A.tmps.getD 17 undef=.int .i64 0:=ja 17 (by kernel_rfl);have jO:A.tmps.getD 16 undef=.pointer (some ⟨g16,0,none⟩):=ja 16 (by kernel_rfl);have h11:A.tmps.getD 11 undef=.pointer (some ⟨g11,0,none⟩):=ja 11 (by kernel_rfl);have h14:A.tmps.getD 14 undef=.int .i64 (i:Int):=ja 14 (by kernel_rfl);have h15:A.tmps.getD 15 undef=.int .i64 (j:Int):=ja 15 (by kernel_rfl);clear ja;simp [Aa,Region.binds,Vs,vq] at jc
         case k7 =>
          refine Ad (j:=2) (d:=73) (b:=false) rfl (by kernel_rfl) (by simp only [jc]) rfl (.inr ⟨30,#[.agg #[.int .i64 (L.length:Int),.slice a5 E.length c5],.int .i64 (i:Int),.int .i64 (j:Int)],W,by (clear jd hS;simp [go_sem,Act.eval, *]),?_⟩);refine (part_any (L.length:Int) E a5 c5 i j W (kx.out.go (Ext.trans kE.out jW)) j1.out j3.out jR (by omega)).mono ?_;rintro e w' hp;obtain ⟨v,rfl,hv,hx⟩:=Sj hp;exact ⟨_,rfl,hv,hx⟩
         case k8 =>
          obtain ⟨h74,⟨p9,q9,hv1,kX⟩,jc⟩:=jc;have yj:=A0 kX;clear kX;refine Ad (j:=2) (d:=73) (b:=false) rfl (by kernel_rfl) (by simp only [jc]) rfl (.inr ⟨16,#[.agg #[.int .i64 ((j - i:Nat):Int),.slice a69 (B5 i j E).length c69],.agg #[.int .i64 ((j - i:Nat):Int),.slice p9 (B5 i j E).length q9]],W,by (clear jd hS;simp [go_sem,Act.eval, *]),?_⟩);refine (esame_any (B5 i j E) (B5 i j E) ((j - i:Nat):Int) ((j - i:Nat):Int) a69 p9 c69 q9 W (jC.out.go jW) yj.out jD.out jD.out).mono ?_;rintro e w' ⟨he,hx⟩;rw [show decide (((j - i:Nat):Int)=((j - i:Nat):Int)∧B5 i j E=B5 i j E)=true from decide_eq_true ⟨rfl,rfl⟩] at he;exact ⟨_,he,rfl,hx⟩
         all_goals first
          | (refine AZ rfl (.inl ⟨_,W,?_,rfl,Ext.refl _⟩);clear jd hS;simp [go_sem,Act.eval, *];done)
          | (refine Ad (j:=2) (d:=73) (b:=false) rfl (by kernel_rfl) (by simp only [jc]) rfl (.inl ⟨_,W,?_,rfl,Ext.refl _⟩);clear jd hS;simp [go_sem,Act.eval, *];done)
        case hVx=>exact Ag (by simp only [AU,List.not_mem_nil,or_false,forall_eq_or_imp,forall_eq];exact ⟨AY _,AY _,AY _,AY _,AY _,AY _,AY _,Jy _ _,AY _,AY _,AY _⟩)
        case hSx=>exact fun W W' h hx=>Ext.trans h hx
        case hS=>first | exact Ext.refl _ | exact At _
        case hfin =>
         intro A W jd jm hS hv ja;obtain ⟨x,hx,hA⟩:=Ah [71,72,73,74,75,76,77,78,79,80,81] (by kernel_rfl) jd jm ja;have e81:x 81=.bool false:=(hx 81).trans (hv 10 (by decide));rw [hA];simp only [List.foldl];rw [e81];clear e81;simp only [Act.put,List.setIfInBounds_toArray,List.set_cons_succ,List.set_cons_zero];clear hA hx hv ja jd jm;have yp:Hid (Ext wo W):=Ext.trans jA.out hS;clear hS
         go_wp2_with fail
         go_roundg (L.length+1 - (j+1))
         case measure=>have:=yh.out;omega
         case rel=>exact ⟨j+1,by go_num,by omega,by omega,rfl,Ext.trans jN.out yp.out⟩
      ·have yy:¬ (j:Int)≤(L.length:Int):=by omega
       go_wp2_with fail
       go_roundg (L.length+2 - (i+2))
       case measure=>have:=j2.out;omega
       case rel=>exact ⟨i+2,by go_num,by omega,rfl,jN.out⟩
    ·have kj:¬ (i:Int)≤(L.length:Int):=by omega
     go_wp2_with fail
     go_ret;exact ⟨rfl,Ext.trans jM.out (Ext.trans kC.out HB.out)⟩
  ·have jL:=A0 jU;clear jU
   go_wp2_with fail
   clear s0 s1 s2 t0 t1 t2 t3;refine (Oo js.out jL.out jX.out yz jt.out).mono ?_;rintro e w5 ⟨rfl,jK⟩;have Jx:Hid (Ext wz w5):=jK;clear jK
   go_wp2_with fail
   go_ret;exact ⟨rfl,Ext.trans jM.out (Ext.trans Jx.out ((Below.refl _ _).alloc (A5 _) _))⟩
end Go.Proofs.YtpljngaejaehcaaGreatDoor
