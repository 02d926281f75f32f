/- Texts that the claims share: K14, K16, K17, K21, K22, K23. -/
import Derived.Test.YthjmdgejnakcmaaGreatDoorMK4
import Derived.Test.YthjmdgejnakcmaaGreatDoorMK3
import Derived.Test.YthjmdgejnakcmaaGreatDoorMK2
set_option linter.unusedVariables false
set_option linter.unusedSimpArgs false
namespace Go.Proofs.YthjmdgejnakcmaaGreatDoor
open Go.RowKit Go.WideShapes Fl
def svS (x:SV):Value:=.slice x.a x.n x.c
def Bx:CH SV:=⟨45,48,1,24,.slice none 0 0,fun x=>[.slice x.a x.n x.c]⟩
theorem CU:Bx.Ok:=⟨Tryz.underlying45,by kernel_rfl,rfl,by decide,fun _=>rfl,fun x u hu=>by obtain rfl:u=.slice x.a x.n x.c:=(AD.1 hu);rfl,by decide⟩
theorem Ab.kc {α:Type} {T:CH α} {w w':World} {B:Nat} {v:Value} {L:List α} (h:Ab T w B v L) (hk:Kc w w'):Ab T w' B v L:=h.keep fun g hg=>by
 obtain ⟨cs,hc⟩:=Ap h hg
 rw [hk.block _ _ _ _ hc,hc]
theorem FJ {α:Type} (T:CH α) (z0:α) (hz:T.enc z0=[T.z]):∀ n,(List.replicate n z0).flatMap T.enc=List.replicate n T.z
 | 0=>rfl
 | n+1=>by rw [List.replicate_succ,List.flatMap_cons,FJ T z0 hz n,hz,List.replicate_succ];rfl
theorem EL {α:Type} {T:CH α} (hT:T.Ok) (hk1:T.k=1) (z0:α) (hz:T.enc z0=[T.z]) (hzc:T.z.cells=#[T.z]) {w:World} {ops:Array Oper} {rest:List Oper} {o:Oper} {a:Act} {Q:Exit→Act→World→Prop}
  (hgd:o.guard=none) (l c:Operand) (hop:o.op=Op.makeSlice T.sl l c) (B n:Nat) (hl:a.eval l=.int .i64 (n:Int)) (hc:a.eval c=.int .i64 (n:Int)) (hn:n≤1000000) (hB:B≤w.heap.size)
  (hK:∀ w',Ab T w' B (.slice (some ⟨w.heap.size,0,none⟩) n n) (List.replicate n z0)→Below w.heap.size w w'→wpList Tryz.prog ops Q rest (a.put o.dst (.slice (some ⟨w.heap.size,0,none⟩) n n)) w'):wpList Tryz.prog ops Q (o :: rest) a w:=by
 obtain ⟨i0,hi,hz0,hz1,hz2⟩:=info_parts hT.info
 have hb:i0.bytes*n≤64*1000000:=Nat.mul_le_mul (by rw [hz2];exact hT.b) hn
 refine wpList_make_full w hgd l c T.sl hop B T.e i0 T.z T.k hT.und hi hz0 hz1 .i64 .i64 (n:Int) (n:Int) n hl hc rfl rfl (by omega) (by unfold maxLen;omega) hB ?_
 intro w' hown hg
 refine hK w' ?_ ⟨hg.os,hg.tape,hg.output,hg.size,fun k hk=>hg.block k hk (by simp)⟩
 unfold Ab
 rw [AT]
 have e:(madeCells T.z.cells (n*T.k)).toList=(List.replicate n z0).flatMap T.enc:=by
  rw [hk1,Nat.mul_one,hzc]
  have h1:=FJ T z0 hz n
  rw [h1]
  apply List.ext_getElem
  · simp [madeCells]
  ·
   intro j h2 h3
   simp [madeCells,Nat.mod_one]
 rw [← e]
 exact hown
def NG (R:List Rl) (acc:Int) (L:List Slt) (W:List (List UInt8)) (B:Nat) (w:World) (Ls:List SV) (i:Nat):Prop :=
 ∀ (k:Nat) (h:k<Ls.length),k<i→∃ l,Ab BZ w B (svS Ls[k]) l∧L3 R acc L W k l
theorem NG.kc {R:List Rl} {acc:Int} {L:List Slt} {W:List (List UInt8)} {B:Nat} {w w':World} {Ls:List SV} {i:Nat} (h:NG R acc L W B w Ls i) (hk:Kc w w'):NG R acc L W B w' Ls i:=fun k hl hi=>by
 obtain ⟨l,h1,h2⟩:=h k hl hi
 exact ⟨l,h1.kc hk,h2⟩
def Qj (R:List Rl) (acc:Int) (L:List Slt) (W:List (List UInt8)) (B:Nat) (e:Ending) (w':World):Prop :=
 ∃ g Ls,e=.returned (.slice (some ⟨g,0,none⟩) (L.length+1) (L.length+1))∧Ab Bx w' B (.slice (some ⟨g,0,none⟩) (L.length+1) (L.length+1)) Ls∧Ls.length=L.length+1∧NG R acc L W B w' Ls (L.length+1)
theorem NH {R:List Rl} {acc:Int} {L:List Slt} {W:List (List UInt8)} {B C g n i:Nat} {w:World} {Ls:List SV} {a:Option Addr} {l:List (Nat × Nat)} {c:Nat} (ho:Ab Bx w C (.slice (some ⟨g,0,none⟩) n n) Ls) (hf:NG R acc L W B w Ls i) (hi:i<Ls.length)
  (hv:Ab BZ w B (.slice a l.length c) l) (hl:L3 R acc L W i l) :
  Ab Bx (w.setCell ⟨g,i,none⟩ (.slice a l.length c)) C (.slice (some ⟨g,0,none⟩) n n) (Ls.set i ⟨a,l.length,c⟩)∧NG R acc L W B (w.setCell ⟨g,i,none⟩ (.slice a l.length c)) (Ls.set i ⟨a,l.length,c⟩) (i+1):=by
 have hkeep:∀ {v:Value} {l2:List (Nat × Nat)},Ab BZ w B v l2→Ab BZ (w.setCell ⟨g,i,none⟩ (.slice a l.length c)) B v l2:=fun {v l2} h=>h.keep fun q hq=>Below.heap_setCell _ _ _ _ (by
  show q≠g
  intro e
  obtain ⟨cs,h1⟩:=Ap h hq
  obtain ⟨cs2,h2⟩:=Ap ho (g:=g) rfl
  rw [e,h2] at h1
  injection h1 with h1
  injection h1 with _ h3
  exact absurd h3 (by decide))
 refine ⟨ho.setCell (by simp) ?_ (by show i<Ls.length*1;omega) CU,fun k hk hki=>?_⟩
 ·
  have:∀ (M:List SV),M.flatMap Bx.enc=M.map fun x=>.slice x.a x.n x.c:=fun M=>by
   induction M with
   | nil=>rfl
   | cons x r ih=>rw [List.flatMap_cons,ih];rfl
  rw [this,this,List.map_set]
 ·
  have hk':k<Ls.length:=by simpa using hk
  rw [List.getElem_set]
  by_cases e:i=k
  ·
   subst e
   rw [if_pos rfl]
   exact ⟨l,hkeep hv,hl⟩
  ·
   rw [if_neg e]
   obtain ⟨l2,h1,h2⟩:=hf k hk' (by omega)
   exact ⟨l2,hkeep h1,h2⟩
structure SrI (R:List Rl) (L:List Slt) (T:List Bn) (gm:Nat→Nat) (i D:Nat) (M:Nat→Ent) (w:World):Prop where
 maps:∀ j,i≤j→j<i+5→MpG Bo w (gm (j % 5)) (M j)
 inv:Inv R L (folT T) i M
 bnd:Bnd T.length i (i*((8*T.length+1)*D)) D M
 out:∀ j,¬ j<i+5→M j=[]
theorem H4 (b len cap k:Nat) (hk:k<len) (w:World) :
  (Instr.indexAt 45 (.slice (some ⟨b,0,none⟩) len cap) (.int .i64 (k:Int))).run Tryz.prog w=.ok (.pointer (some ⟨b,k,none⟩)) w:=by
 have h0:(0:Int)≤(k:Int):=by omega
 have h1:(k:Int)<(len:Int):=by omega
 simp [go_sem,h0,h1]
structure EnQ (R:List Rl) (acc:Int) (L:List Slt) (X:List (List UInt8)) (T:List Bn) (gm:Nat→Nat) (D:Nat) (w1 w2:World) (gE i:Nat) (w:World):Prop where
 sr:∃ M,SrI (R.filter Bu) L T gm i D M w
 row:∃ Ls,Ab Bx w w2.heap.size (.slice (some ⟨gE,0,none⟩) (L.length+1) (L.length+1)) Ls∧Ls.length=L.length+1∧NG R acc L X w1.heap.size w Ls i
 kc:Kc w2 w
 bl:Below w1.heap.size w1 w
set_option maxHeartbeats 6400000 in
set_option maxRecDepth 100000 in
theorem
    ends_any (R:List Rl) (modes acc:Int) (aS:Option Addr) (cS:Nat) (D:List Nd) (aD:Option Addr) (cD:Nat) (aL:Option Addr) (L:List Slt) (cL C:Nat) (w:World) (hR:BJ w aS R) (hRl:R.length≤1000) (hO:∀ r∈R,r.out.size≤1000000) (hD:Bs w aD D) (hDl:D.length≤9223372036854775807) (hC:Hs D)
  (hl:(B5 D).length≤1000) (hs:∀ x∈B5 D,x.size≤20) (hinc:((B5 D).map bts).Pairwise fun a b=>Op.bytesLess a b=true) (hL:Bc w aL L) (hLl:L.length≤1000) (hBs:Bq C L) (hCc:C≤1000000)
  (hcost:∀ N i,N≤1+20*(B5 D).length→i≤L.length→8*N*(i*((8*N+1)*(1000+4*C))+(8*N+1)*(1000+4*C)+2)≤900000000000) (ha0:0≤acc) (ha1:acc≤255) :
  Calls Tryz.prog 18 #[.agg #[.int .i64 modes,.int .u8 acc,.slice aS R.length cS],.slice aD D.length cD,.slice aL L.length cL] w fun e w'=>Qj R acc L ((B5 D).map bts) w.heap.size e w'∧Below w.heap.size w w':=by
 have HO:=A0 hO;have HLS:=A0 hL;have HBS:=A0 hBs;have HCO:=A0 hcost
 obtain ⟨X,hX⟩:∃ X,(B5 D).map bts=X:=⟨_,rfl⟩
 have hXl:X.length=(B5 D).length:=by rw [← hX,AN]
 have HXL:=A0 hXl;have HXE:=A0 hX
 have hns:=fun w1 (hx:Ext w w1)=>newSearch_any R modes acc aS cS D aD cD aL L.length cL w1 (hR.later hx (A3 _)) hRl (hD.later hx (A3 _)) hDl hC hl hs hinc
 have HNS:=A0 hns
 have hRf:(R.filter Bu).length≤1000:=A8 (List.length_filter_le _ _) hRl
 have HRF:=A0 hRf
 clear hR hO hD hC hs hinc hL hBs hcost hns hXl hRf
 go_enter Tryz.func18,Tryz.ntmps18
 go_wp2_with fail
 obtain ⟨w1,hw1⟩:∃ w1,w.alloc (.cells #[.int .i64 modes,.int .u8 acc,.slice aS R.length cS] 32)=w1:=⟨_,rfl⟩
 rw [hw1]
 have HX1:Hid (Ext w w1):=by
  show Ext _ _
  rw [← hw1];exact (Below.refl _ _).alloc (A3 _) _
 clear hw1
 refine (HNS.out w1 HX1.out).mono ?_
 rintro e w2 ⟨⟨gx,aR,cR,aT,cT,gm,T,rfl,hsx,hru,hts,htw,hgm,hm0,hmr⟩,hb2⟩
 rw [hX] at htw
 have HSX:=A0 hsx;have HRU:=A0 hru;have HTS:=A0 hts;have HTW:=A0 htw;have HGM:=A0 hgm;have HM0:=A0 hm0;have HMR:=A0 hmr;have HB2:=A0 hb2
 have hTl:T.length≤1+20*(B5 D).length:=by have:=htw.size;have:=HXL.out;omega
 have HTL:=A0 hTl
 clear hX HNS hsx hru hts htw hgm hm0 hmr hb2 hTl
 go_wp2_with (at_make;go_loud (refine EL CU rfl ⟨none,0,0⟩ rfl rfl rfl _ _ rfl w2.heap.size (L.length+1) (by go_num) (by go_num) (by omega) (A3 _) ?_);intro w3 hown3 hb3;have HO3:=A0 hown3;have HB3:=A0 hb3;clear hown3 hb3)
 have HEQ:Hid (EnQ R acc L X T gm (1000+4*C) w1 w2 w2.heap.size 0 w3):=by
  refine ⟨⟨M0,⟨fun j h1 h2=>?_,TM _ _ _,by rw [Nat.zero_mul];exact TN HTW.out.pos,fun j hj=>?_⟩⟩,⟨_,HO3.out,by rw [AT],fun k _ hk=>absurd hk (Nat.not_lt_zero _)⟩,Kc.of HB3.out (A3 _),HB2.out.trans (HB3.out.mono HB2.out.size)⟩
  ·
   have hj:j % 5=j:=Nat.mod_eq_of_lt (by omega)
   rw [hj]
   have hm:MpG Bo w2 (gm j) (M0 j):=by
    unfold M0
    split
    · rename_i e;subst e;exact HM0.out
    · rename_i e;exact HMR.out j (by omega) (by omega)
   exact hm.kept (HB3.out.block _ hm.lt)
  ·
   unfold M0
   rw [if_neg (by omega)]
 obtain ⟨gE,hgE⟩:∃ gE,w2.heap.size=gE:=⟨_,rfl⟩
 have HGE:Hid (w1.heap.size≤gE):=by have:=HB2.out.size;show _≤_;omega
 have HGE2:Hid (w2.heap.size≤gE):=by show _≤_;omega
 have HGX:Hid (gx<gE):=by have:=HSX.out.lt;show _<_;omega
 rw [hgE] at HEQ ⊢
 clear hgE HO3 HB3 HM0 HMR
 go_loopg [20] (L.length+1) (fun g v20 wr=>∃ i:Nat,v20=.int .i64 (i:Int)∧i≤L.length+1∧g=L.length+1 - i∧EnQ R acc L X T gm (1000+4*C) w1 w2 gE i wr)
 case atStart=>exact ⟨0,rfl,Nat.zero_le _,rfl,HEQ.out⟩
 case round =>
  clear HEQ
  obtain ⟨i,rfl,hi,hgk,heq⟩:=hrel
  have HEQ:=A0 heq;have HGK:=A0 hgk
  clear heq hgk
  by_cases hlt:i<L.length+1
  ·
   obtain ⟨M,hsr⟩:=HEQ.out.sr
   obtain ⟨Ls,hrow,hLs,hfs⟩:=HEQ.out.row
   have hkc:Kc w wr:=(Kc.of HX1.out (A3 _)).trans ((Kc.of HB2.out (A3 _)).trans HEQ.out.kc)
   have hvis:=svisit_any (R.filter Bu) L T C i (i*((8*T.length+1)*(1000+4*C))) (1000+4*C) w1.heap.size M (HSX.out.kp HEQ.out.kc) (BJ.kp HRU.out HEQ.out.kc) rfl HRF.out (L0 R) (fun r hr=>HO.out r (AW.1 hr).1)
    (HLS.out.kp hkc) rfl (by omega) (by omega) HBS.out hCc (HTS.out.kp HEQ.out.kc) rfl (by have:=HTL.out;omega) HTW.out.trIn HGM.out HEQ.out.bl.size hsr.maps hsr.inv hsr.bnd (A3 _) (HCO.out T.length i HTL.out (by omega)) HTW.out.pos
   have HVIS:=A0 hvis;have HROW:=A0 hrow;have HFS:=A0 hfs;have HLS2:=A0 hLs;have HSR:=A0 hsr
   clear hvis hrow hfs hLs hsr hkc
   go_wp2_with fail
   refine HVIS.out.mono ?_
   rintro e w4 ⟨rfl,M',hvp⟩
   have HVP:=A0 hvp
   clear hvp HVIS
   have HM4:=A0 (HVP.out.vx.maps i (A3 _) (by omega))
   have HSX4:=A0 (HSX.out.kp (HEQ.out.kc.trans HVP.out.vx.kp))
   have HBL4:Hid (Below w1.heap.size w1 w4):=HEQ.out.bl.trans HVP.out.vx.bl
   have HWI:Hid (TL T):=fun b hb=>by have h:=HTW.out.wd b hb;have:=HXL.out;omega
   have HFND:=A0 (found_any T i (i % 5) (M' i) (by omega) rfl HSX4.out (HTS.out.kp (HEQ.out.kc.trans HVP.out.vx.kp)) rfl (by have:=HTL.out;omega) HWI.out HM4.out (HVP.out.bnd.rng i) ha0 ha1)
   go_wp2_with fail
   refine HFND.out.mono ?_
   rintro e w5 ⟨⟨v,l,rfl,hown,hfe⟩,hb5⟩
   obtain ⟨a5,c5,hv5,hc5, -⟩:=hown.form
   subst hv5
   have HFE:Hid (L3 R acc L X i l):=⟨(Sx HTW.out HVP.out.inv HVP.out.shut (HVP.out.bnd.keys i) hfe).fair,fun p hp=>by
    obtain ⟨t,ht, -⟩:=((hfe.mem p.1 p.2).1 hp).1
    have h1:=HVP.out.bnd.here_le (BO (HVP.out.bnd.keys i) ht)
    have h2:=HCO.out T.length i HTL.out (by omega)
    have h3:=HTW.out.pos
    have h4:8*T.length*(1000+4*C)≤(8*T.length+1)*(1000+4*C):=Nat.mul_le_mul_right _ (Nat.le_succ _)
    have h5:i*((8*T.length+1)*(1000+4*C))+(8*T.length+1)*(1000+4*C)+2≤8*T.length*(i*((8*T.length+1)*(1000+4*C))+(8*T.length+1)*(1000+4*C)+2):=Nat.le_mul_of_pos_left _ (by omega)
    omega⟩
   have HK5:Hid (Kc wr w5):=HVP.out.vx.kp.trans (Kc.of hb5 (A3 _))
   have HB5:=A0 hb5
   have HO5:=A0 (hown.mono HBL4.out.size)
   have HR5:=A0 (HROW.out.kc HK5.out)
   have HF5:=A0 (HFS.out.kc HK5.out)
   have hiL:i<Ls.length:=by have:=HLS2.out;omega
   have HST:=A0 (NH HR5.out HF5.out hiL HO5.out HFE.out)
   obtain ⟨cs5,hcs5⟩:=Ap HR5.out (g:=gE) rfl
   have hfz:w5.frozen? ⟨gE,i,none⟩=false:=by simp [World.frozen?,hcs5]
   have hcl:=HR5.out.cell CU hiL (j:=0) (by decide)
   have e1:i*Bx.k+0=i:=by show i*1+0=i;omega
   rw [e1] at hcl
   have hcl2:w5.cell? ⟨gE,i,none⟩=some (.slice Ls[i].a Ls[i].n Ls[i].c):=hcl
   have hix:=H4 gE (L.length+1) (L.length+1) i hlt
   have HHP:Hid (∀ q,q≠gE→(w5.setCell ⟨gE,i,none⟩ (.slice a5 l.length c5)).heap[q]? = w5.heap[q]?):=fun q hq=>Below.heap_setCell _ _ _ _ hq
   have HCS:=A0 hcs5
   clear hown hfe hb5 hcl e1 hcs5
   go_wp2_with fail
   obtain ⟨w6,hw6⟩:∃ w6,w5.setCell ⟨gE,i,none⟩ (.slice a5 l.length c5)=w6:=⟨_,rfl⟩
   rw [hw6] at HST HHP ⊢
   have HW6:=A0 hw6
   clear hw6 hfz hcl2 hix
   have HSX6:Hid (SX w6 gx acc aR (R.filter Bu).length cR aT T.length cT aL L.length cL gm):=by
    have h:=HSX4.out.kp (Kc.of HB5.out (A3 _))
    exact (HHP.out gx (by have:=HGX.out;omega)).trans h
   have HMK:Hid (∀ j,i≤j→j<i+5→MpG Bo w6 (gm (j % 5)) (M' j)):=fun j h1 h2=>by
    have h:=(HVP.out.vx.maps j h1 h2).kept (HB5.out.block _ (HVP.out.vx.maps j h1 h2).lt)
    refine h.kept (HHP.out _ fun e=>?_)
    obtain ⟨es,c,h3⟩:=h.obj
    rw [e,HCS.out] at h3
    cases h3
   have HM6:=A0 (HMK.out i (A3 _) (by omega))
   have hat:=FB i (i % 5) (by omega) rfl HSX6.out
   refine hat.mono ?_
   clear hat
   rintro e w7 ⟨rfl,rfl⟩
   obtain ⟨w7,hrun,hm7,hg7⟩:=HM6.out.run_clear CN 0
   have HM7:=A0 hm7;have HG7:=A0 hg7
   clear hm7 hg7
   dsimp only [Bo] at hrun
   go_wp2_with fail
   clear hrun
   go_roundg (L.length+1 - (i+1))
   case measure=>have:=HGK.out;omega
   case rel =>
    have hK6:Kc w2 w6:=by
     have h:=HEQ.out.kc.trans HK5.out
     refine ⟨by rw [← HW6.out,World.size_setCell];exact h.size,fun q cs t f hq=>?_⟩
     have hlt2:=(A5.1 hq).1
     exact (HHP.out q (by have:=HGE2.out;omega)).trans (h.block q cs t f hq)
    have hK7:Kc w6 w7:=Kc.map HG7.out HM6.out.obj
    have hb6:Below w1.heap.size w1 w6:=by
     rw [← HW6.out]
     exact (HBL4.out.trans (HB5.out.mono HBL4.out.size)).setCell (show w1.heap.size≤(⟨gE,i,none⟩:Addr).block from HGE.out) _
    refine ⟨i+1,by go_num,by omega,rfl,⟨⟨nextM i M',⟨fun j h1 h2=>?_,HVP.out.inv.nextM HVP.out.shut,by rw [Nat.succ_mul];exact HVP.out.bnd.nextM,fun j hj=>?_⟩⟩,⟨_,HST.out.1.kc hK7,by rw [List.length_set];exact HLS2.out,HST.out.2.kc hK7⟩,hK6.trans hK7,hb6.grown HG7.out hb6.size fun q hq=>?_⟩⟩
    ·
     unfold nextM
     rw [if_pos (show i<j by omega)]
     by_cases e:j=i+5
     ·
      subst e
      rw [show (i+5) % 5=i % 5 by omega,HVP.out.out _ (by omega),HSR.out.out _ (by omega)]
      exact HM7.out
     ·
      have h:=HMK.out j (by omega) (by omega)
      refine h.kept (HG7.out.block _ h.lt fun e2=>?_)
      injection e2 with e2
      have:=HGM.out.apart (j % 5) (i % 5) (Nat.mod_lt _ (by decide)) (Nat.mod_lt _ (by decide)) e2
      omega
    ·
     unfold nextM
     rw [if_pos (show i<j by omega),HVP.out.out _ (by omega),HSR.out.out _ (by omega)]
    ·
     injection hq with hq
     rw [← hq]
     exact HGM.out.ge _ (Nat.mod_lt _ (by decide))
  ·
   obtain rfl:i=L.length+1:=by omega
   obtain ⟨Ls,hrow,hLs,hfs⟩:=HEQ.out.row
   have HROW:=A0 hrow;have HFS:=A0 hfs
   clear hrow hfs
   go_wp2_with fail
   go_ret
   exact ⟨⟨gE,Ls,rfl,HROW.out.mono (A8 HX1.out.size HB2.out.size),hLs,fun k h hk=>by obtain ⟨l,h1,h2⟩:=HFS.out k h hk;exact ⟨l,h1.mono HX1.out.size,by rw [HXE.out];exact h2⟩⟩,Below.trans HX1.out (HEQ.out.bl.mono HX1.out.size)⟩
def BH:CH SV:=⟨39,53,1,24,.slice none 0 0,fun x=>[.slice x.a x.n x.c]⟩
theorem C5:BH.Ok:=⟨Tryz.underlying39,by kernel_rfl,rfl,by decide,fun _=>rfl,fun x u hu=>by obtain rfl:u=.slice x.a x.n x.c:=(AD.1 hu);rfl,by decide⟩
def Cx:CH Ch:=⟨53,55,2,16,.agg #[.int .u8 0,.int .i64 0],fun x=>[.int .u8 (x.key.toNat:Int),.int .i64 x.cost]⟩
theorem EU:Cx.Ok:=⟨Tryz.underlying53,by kernel_rfl,rfl,by decide,fun _=>rfl,fun x u hu=>by
 have h:u=.int .u8 (x.key.toNat:Int)∨u=.int .i64 x.cost:=by simpa [Cx] using hu
 rcases h with rfl | rfl <;> rfl,by decide⟩
theorem Ab.chs {w:World} {B:Nat} {a:Option Addr} {n c:Nat} {L:Slt} (h:Ab Cx w B (.slice a n c) L):Dd w a (chA L)∧n=L.length∧L.length≤c:=by
 obtain ⟨a',c',he,hc,_⟩:=h.form
 injection he with e1 e2 e3
 refine ⟨fun k hk=>?_,e2,by omega⟩
 rw [DP] at hk
 rcases h.blk with ⟨_,rfl⟩ | ⟨g,c2,he2,_,hg,_⟩
 · simp at hk
 ·
  injection he2 with f1 f2 f3
  subst f1
  refine ⟨g,0,rfl,hg,?_,?_⟩
  ·
   have:=h.cell EU hk (j:=0) (by decide)
   simpa [Cx,chA] using this
  ·
   have:=h.cell EU hk (j:=1) (by decide)
   simpa [Cx,chA] using this
def ElS (w:World) (x:SV) (s:Slt):Prop:=Ab Cx w 0 (svS x) s
theorem ElS.kc {w w':World} {x:SV} {s:Slt} (h:ElS w x s) (hk:Kc w w'):ElS w' x s:=Ab.kc h hk
theorem ElS.n {w:World} {x:SV} {s:Slt} (h:ElS w x s):x.n=s.length:=(Ab.chs h).2.1
theorem ElS.arcs {w:World} {x:SV} {s:Slt} (h:ElS w x s):Dd w x.a (chA s):=(Ab.chs h).1
theorem ElS.le {w:World} {x:SV} {s:Slt} (h:ElS w x s):s.length≤9223372036854775807:=by
 obtain ⟨a,c,e,h1,h2⟩:=Ab.form h
 unfold maxLen at h2
 omega
theorem ElS.of {w:World} {B:Nat} {x:SV} {s:Slt} (h:Ab Cx w B (svS x) s):ElS w x s:=h.mono (Nat.zero_le _)
theorem ElS.keep {w w':World} {x:SV} {s:Slt} {B:Nat} {v:Value} {Ls:List SV} (h:ElS w x s) (ho:Ab BH w B v Ls) (hk:∀ q,q<w.heap.size→v.ownBlock≠some q→w'.heap[q]? = w.heap[q]?):ElS w' x s:=Ab.keep h fun q hq=>hk q (Ab.lt h q hq) fun e=>by
 obtain ⟨cs,h1⟩:=Ap h hq
 obtain ⟨cs2,h2⟩:=Ap ho e
 rw [h2] at h1
 injection h1 with h1
 injection h1 with _ h4
 exact absurd h4 (by decide)
structure Cy (w:World) (B:Nat) (v:Value) (Ls:List SV) (L:List Slt):Prop where
 own:Ab BH w B v Ls
 len:Ls.length=L.length
 el:∀ (k:Nat) (x:SV) (s:Slt),Ls[k]? = some x→L[k]? = some s→ElS w x s
def Eu (w:World) (B:Nat) (v:Value) (L:List Slt):Prop:=∃ Ls,Cy w B v Ls L
theorem Cy.kc {w w':World} {B:Nat} {v:Value} {Ls:List SV} {L:List Slt} (h:Cy w B v Ls L) (hk:Kc w w'):Cy w' B v Ls L :=
 ⟨h.own.kc hk,h.len,fun k x s h1 h2=>(h.el k x s h1 h2).kc hk⟩
theorem Cy.later {w w':World} {B C:Nat} {v:Value} {Ls:List SV} {L:List Slt} (h:Cy w B v Ls L) (hb:Below C w w') (hC:w.heap.size≤C):Cy w' B v Ls L:=h.kc (Kc.of hb hC)
theorem Cy.mono {w:World} {B C:Nat} {v:Value} {Ls:List SV} {L:List Slt} (h:Cy w B v Ls L) (hC:C≤B):Cy w C v Ls L:=⟨h.own.mono hC,h.len,h.el⟩
theorem Cy.push {w w':World} {B B':Nat} {v v':Value} {Ls:List SV} {L:List Slt} {x:SV} {s:Slt} (h:Cy w B v Ls L) (ho:Ab BH w' B' v' (Ls ++ [x])) (hg:w.grownBy w' v.ownBlock) (hx:ElS w x s):Cy w' B' v' (Ls ++ [x]) (L ++ [s]):=by
 have hk:∀ {y t},ElS w y t→ElS w' y t:=fun {y t} hy=>hy.keep h.own fun q hq hne=>hg.block q hq (Ne.symm hne)
 refine ⟨ho,by simp [h.len],fun k y t h1 h2=>?_⟩
 have hl:=h.len
 by_cases hlt:k<Ls.length
 ·
  rw [AI hlt] at h1
  rw [AI (by omega)] at h2
  exact hk (h.el k y t h1 h2)
 ·
  rw [AJ (by omega)] at h1
  rw [AJ (by omega)] at h2
  rw [hl] at h1
  cases e:k - L.length with
  | zero=>rw [e] at h1 h2;cases h1;cases h2;exact hk hx
  | succ n=>rw [e] at h1;simp at h1
theorem Cy.slotS {w:World} {B:Nat} {a:Option Addr} {n c:Nat} {Ls:List SV} {L:List Slt} (h:Cy w B (.slice a n c) Ls L):Bc w a L∧n=L.length∧L.length≤c:=by
 obtain ⟨a',c',he,hc,_⟩:=h.own.form
 injection he with e1 e2 e3
 refine ⟨fun k hk=>?_,by rw [e2,h.len],by rw [← h.len];omega⟩
 have hk2:k<Ls.length:=by rw [h.len];exact hk
 rcases h.own.blk with ⟨_,e⟩ | ⟨g,c2,he2,_,hg,_⟩
 · rw [e] at hk2;simp at hk2
 ·
  injection he2 with f1 f2 f3
  subst f1
  have hel:=h.el k _ _ (AA hk2) (AA hk)
  have hc:=h.own.cell C5 hk2 (j:=0) (by decide)
  refine ⟨g,0,rfl,hg,Ls[k].a,Ls[k].c,?_,hel.le,hel.arcs⟩
  rw [← hel.n]
  simpa [BH] using hc
theorem Eu.slotS {w:World} {B:Nat} {a:Option Addr} {n c:Nat} {L:List Slt} (h:Eu w B (.slice a n c) L):Bc w a L∧n=L.length∧L.length≤c:=by
 obtain ⟨Ls,h⟩:=h
 exact h.slotS
def MH (l:List UInt8):List Slt:=l.map fun c=>[⟨c,0⟩]
def CJ (s:ByteArray):List Slt:=MH (bts s)
theorem CB (s:ByteArray):(CJ s).length=s.size:=by simp [CJ,MH,BB]
def NI (s:ByteArray) (w:World) (e:Ending) (w':World):Prop:=∃ a c,e=.returned (.slice a s.size c)∧Eu w' w.heap.size (.slice a s.size c) (CJ s)
theorem KG {w:World} {g B:Nat} {c:UInt8} (h:w.heap[g]? = some (.cells #[.int .u8 (c.toNat:Int),.int .i64 0] 55 (0,0))) (hB:B≤g):Ab Cx w B (.slice (some ⟨g,0,none⟩) 1 1) [⟨c,0⟩] :=
 Ab.one EU (x:=⟨c,0⟩) h hB
structure TyQ (s:ByteArray) (w0:World) (g i:Nat) (Ls:List SV) (w:World):Prop where
 own:Ab BH w w0.heap.size (.slice (some ⟨g,0,none⟩) s.size s.size) Ls
 len:Ls.length=s.size
 el:∀ (k:Nat) (x:SV) (t:Slt),k<i→Ls[k]? = some x→(CJ s)[k]? = some t→Ab Cx w w0.heap.size (svS x) t
 bl:Below w0.heap.size w0 w
theorem MI {s:ByteArray} {i:Nat} (hi:i<s.size):(CJ s)[i]? = some [⟨s[i],0⟩]:=by
 unfold CJ MH
 rw [List.getElem?_map,AA (by rw [BB];exact hi),Kv hi];rfl
theorem TyQ.put {s:ByteArray} {w0 w:World} {g i:Nat} {Ls:List SV} (h:TyQ s w0 g i Ls w) (hg:w0.heap.size≤g) (hi:i<s.size) :
  TyQ s w0 g (i+1) (Ls.set i ⟨some ⟨w.heap.size,0,none⟩,1,1⟩) ((w.setCell ⟨g,i,none⟩ (.slice (some ⟨w.heap.size,0,none⟩) 1 1)).alloc (.cells #[.int .u8 (s[i].toNat:Int),.int .i64 0] 55)):=by
 obtain ⟨cs,hcs⟩:=Ap h.own (g:=g) rfl
 obtain ⟨w1,hw1⟩:∃ w1,w.setCell ⟨g,i,none⟩ (.slice (some ⟨w.heap.size,0,none⟩) 1 1)=w1:=⟨_,rfl⟩
 have hsz:w1.heap.size=w.heap.size:=by rw [← hw1,World.size_setCell]
 have ho1:Ab BH w1 w0.heap.size (.slice (some ⟨g,0,none⟩) s.size s.size) (Ls.set i ⟨some ⟨w.heap.size,0,none⟩,1,1⟩):=by
  rw [← hw1]
  refine h.own.setCell (by simp) ?_ (by show i<Ls.length*1;rw [h.len];omega) C5
  have:∀ (M:List SV),M.flatMap BH.enc=M.map fun x=>.slice x.a x.n x.c:=fun M=>by
   induction M with
   | nil=>rfl
   | cons x r ih=>rw [List.flatMap_cons,ih];rfl
  rw [this,this,List.map_set]
 have hne:∀ q,q≠g→w1.heap[q]? = w.heap[q]?:=fun q hq=>by rw [← hw1];exact Below.heap_setCell _ _ _ _ hq
 have hx:Ext w1 (w1.alloc (.cells #[.int .u8 (s[i].toNat:Int),.int .i64 0] 55)):=(Below.refl _ _).alloc (A3 _) _
 have hb1:Below w0.heap.size w0 w1:=by rw [← hw1];exact h.bl.setCell (show w0.heap.size≤(⟨g,i,none⟩:Addr).block from hg) _
 rw [hw1]
 refine ⟨ho1.later hx (A3 _),by rw [List.length_set];exact h.len,fun k x t hk h1 h2=>?_,hb1.trans (hx.mono hb1.size)⟩
 rw [List.getElem?_set] at h1
 by_cases e:i=k
 ·
  subst e
  rw [if_pos rfl,if_pos (by rw [h.len];exact hi)] at h1
  cases h1
  rw [MI hi] at h2
  cases h2
  refine KG (g:=w.heap.size) ?_ h.bl.size
  rw [← hsz]
  exact heap_alloc_new _ _
 ·
  rw [if_neg e] at h1
  refine ((h.el k x t (by omega) h1 h2).keep fun q hq=>hne q fun e2=>?_).later hx (A3 _)
  obtain ⟨cs2,h3⟩:=Ap (h.el k x t (by omega) h1 h2) hq
  rw [e2,hcs] at h3
  injection h3 with h3
  injection h3 with _ h4
  exact absurd h4 (by decide)
theorem TyQ.done {s:ByteArray} {w0 w:World} {g:Nat} {Ls:List SV} (h:TyQ s w0 g s.size Ls w):Eu w w0.heap.size (.slice (some ⟨g,0,none⟩) s.size s.size) (CJ s) :=
 ⟨Ls,h.own,by rw [h.len,CB],fun k x t h1 h2=>ElS.of (h.el k x t (by have:=(List.getElem?_eq_some_iff.1 h2).1;rw [CB] at this;exact this) h1 h2)⟩
theorem Qk (b len cap k:Nat) (hk:k<len) (w:World) :
  (Instr.indexAt 39 (.slice (some ⟨b,0,none⟩) len cap) (.int .i64 (k:Int))).run Tryz.prog w=.ok (.pointer (some ⟨b,k,none⟩)) w:=by
 have h0:(0:Int)≤(k:Int):=by omega
 have h1:(k:Int)<(len:Int):=by omega
 simp [go_sem,h0,h1]
set_option maxHeartbeats 6400000 in
set_option maxRecDepth 100000 in
theorem GQ (s:ByteArray) (w:World) (hs:s.size≤1000000) :
  Calls Tryz.prog 16 #[.string s] w fun e w'=>NI s w e w'∧Below w.heap.size w w':=by
 go_enter Tryz.func16,Tryz.ntmps16
 go_wp2_with (at_make;go_loud (refine EL C5 rfl ⟨none,0,0⟩ rfl rfl rfl _ _ rfl w.heap.size s.size (by go_num) (by go_num) (by omega) (A3 _) ?_);intro w3 hown3 hb3;have HO3:=A0 hown3;have HB3:=A0 hb3;clear hown3 hb3)
 go_loopg [10] s.size (fun g v10 wr=>∃ (i:Nat) (Ls:List SV),v10=.int .i64 (i:Int)∧i≤s.size∧g=s.size - i∧TyQ s w w.heap.size i Ls wr)
 case atStart=>exact ⟨0,_,rfl,Nat.zero_le _,rfl,HO3.out,by simp,fun k _ _ hk=>absurd hk (Nat.not_lt_zero _),HB3.out⟩
 case round =>
  obtain ⟨i,Ls,rfl,hi,hgk,hq⟩:=hrel
  have HQ:=A0 hq;have HGK:=A0 hgk
  clear hq hgk
  by_cases hlt:i<s.size
  ·
   have hiL:i<Ls.length:=by have:=HQ.out.len;omega
   obtain ⟨cs5,hcs5⟩:=Ap HQ.out.own (g:=w.heap.size) rfl
   have hgl:=(A5.1 hcs5).1
   have hfz:wr.frozen? ⟨w.heap.size,i,none⟩=false:=by simp [World.frozen?,hcs5]
   have hcl:=HQ.out.own.cell C5 hiL (j:=0) (by decide)
   have e1:i*BH.k+0=i:=by show i*1+0=i;omega
   rw [e1] at hcl
   have hcl2:wr.cell? ⟨w.heap.size,i,none⟩=some (.slice Ls[i].a Ls[i].n Ls[i].c):=hcl
   have hix:=Qk w.heap.size s.size s.size i hlt
   have HPT:=A0 (HQ.out.put (A3 _) hlt)
   clear hcl e1 hcs5
   go_wp2_with fail
   go_roundg (s.size - (i+1))
   case measure=>have:=HGK.out;omega
   case rel=>exact ⟨i+1,_,by go_num,by omega,rfl,HPT.out⟩
  ·
   obtain rfl:i=s.size:=by omega
   go_wp2_with fail
   go_ret
   exact ⟨⟨_,_,rfl,HQ.out.done⟩,HQ.out.bl⟩
set_option maxHeartbeats 6400000 in
set_option maxRecDepth 100000 in
theorem
    rtyped_any (s:ByteArray) (w:World) (hs:s.size≤1000000) :
  Calls Tryz.prog 15 #[.string s] w fun e w'=>NI s w e w'∧Below w.heap.size w w':=by
 go_enter Tryz.func15,Tryz.ntmps15
 go_wp2_with fail
 have HS0:Hid (Cy (w.alloc (.cells #[] 53)) w.heap.size (.slice (some ⟨w.heap.size,0,none⟩) 0 0) [] []):=⟨Ab.empty BH (heap_alloc_new _ _) (A3 _),rfl,fun k x s h=>by simp at h⟩
 have HB0:Hid (Below w.heap.size w (w.alloc (.cells #[] 53))):=(Below.refl _ _).alloc (A3 _) _
 go_loopg [3,4] s.size (fun g v3 v4 wr=>∃ i:Nat,v4=.int .i64 (i:Int)∧i≤s.size∧g=s.size - i∧Eu wr w.heap.size v3 ((CJ s).take i)∧Below w.heap.size w wr)
 case atStart=>exact ⟨0,rfl,Nat.zero_le _,rfl,⟨_,HS0.out⟩,HB0.out⟩
 case round =>
  clear HS0 HB0
  obtain ⟨i,rfl,hi,hgk,⟨Ls,hq⟩,hb⟩:=hrel
  obtain ⟨a3,c3,hv3, -, -⟩:=hq.own.form
  subst hv3
  have HQ:=A0 hq;have HGK:=A0 hgk;have HB:=A0 hb
  have hll:Ls.length=i:=by rw [hq.len,AM,CB];omega
  have HLL:=A0 hll
  clear hq hgk hb hll
  by_cases hlt:i<s.size
  ·
   have HN:Hid ((CJ s).take (i+1)=(CJ s).take i ++ [[⟨s[i],0⟩]]):=by
    show _=_
    have h:=List.getElem?_eq_some_iff.1 (MI hlt)
    obtain ⟨h1,h2⟩:=h
    rw [AO h1,h2]
   go_wp2_with (at_builtin;go_loud (refine Aj (v:=.slice a3 Ls.length c3) C5 rfl _ _ rfl rfl ((HQ.out.own.later ((Below.refl _ _).alloc (A3 _) _) (A3 _)).later ((Below.refl _ _).alloc (A3 _) _) (A3 _)) ⟨wr.heap.size+1,0,none⟩ 1 [⟨some ⟨wr.heap.size,0,none⟩,1,1⟩] (by simp [go_sem,Act.eval]) (An (by have h:=heap_alloc_new (wr.alloc (.cells #[.int .u8 (s[i].toNat:Int),.int .i64 0] 55)) (.cells #[.slice (some ⟨wr.heap.size,0,none⟩) 1 1] 53);rw [A6] at h;exact h)) (by have:=HLL.out;simp only [AC];omega) (by have:=HB.out.size;simp only [A6];omega) ?_);intro v16 w16 hown16 hgrow16 hat16;have HO16:=A0 hown16;have HG16:=A0 hgrow16;clear hown16 hgrow16 hat16)
   go_roundg (s.size - (i+1))
   case measure=>have:=HGK.out;omega
   case rel =>
    obtain ⟨wa,hwa⟩:∃ wa,wr.alloc (.cells #[.int .u8 (s[i].toNat:Int),.int .i64 0] 55)=wa:=⟨_,rfl⟩
    have hxa:Ext wr wa:=by rw [← hwa];exact (Below.refl _ _).alloc (A3 _) _
    have hga:wa.heap[wr.heap.size]? = some (.cells #[.int .u8 (s[i].toNat:Int),.int .i64 0] 55 (0,0)):=by rw [← hwa];exact heap_alloc_new _ _
    have HG16:=HG16.out
    rw [hwa] at HG16
    obtain ⟨wb,hwb⟩:∃ wb,wa.alloc (.cells #[.slice (some ⟨wr.heap.size,0,none⟩) 1 1] 53)=wb:=⟨_,rfl⟩
    have hxb:Ext wa wb:=by rw [← hwb];exact (Below.refl _ _).alloc (A3 _) _
    rw [hwb] at HG16
    have hxc:Ext wr wb:=Ext.trans hxa hxb
    have hgb:=(hxb.block _ (A5.1 hga).1).trans hga
    have hx16:ElS wb ⟨some ⟨wr.heap.size,0,none⟩,1,1⟩ [⟨s[i],0⟩]:=ElS.of (KG hgb (A3 _))
    have hq16:=Cy.push (HQ.out.later hxc (A3 _)) HO16.out HG16 hx16
    rw [← HN.out] at hq16
    exact ⟨i+1,by go_num,by omega,rfl,⟨_,hq16⟩,(HB.out.trans (Below.mono hxc HB.out.size)).grown HG16 (by have:=HB.out.size;have:=hxc.size;omega) fun q hq=>HQ.out.own.ge q hq⟩
  ·
   have hall:(CJ s).take i=CJ s:=AF (by rw [CB];omega)
   obtain rfl:i=s.size:=by omega
   have HALL:=A0 hall
   clear hall
   go_wp2_with fail
   go_ret
   have h:=HQ.out
   rw [HALL.out] at h
   have hl2:=HLL.out
   rw [hl2] at h ⊢
   exact ⟨⟨_,_,rfl,_,h⟩,HB.out⟩
def kyA (s:Slt) (k:Nat):Nat:=((s[k]?).map fun c=>c.key.toNat).getD 0
def okC (s:Slt) (k:Nat):Bool:=match s[k]? with
 | none=>true
 | some c=>decide (97≤c.key.toNat) && (decide (c.key.toNat≤122) && (decide (0≤c.cost) && (decide (c.cost≤1000) && (decide (k=0) || decide (kyA s (k - 1)<c.key.toNat)))))
def okS (s:Slt):Bool:=decide (1≤s.length) && (decide (s.length≤8) && (List.range s.length).all (okC s))
def validB (L:List Slt):Bool:=decide (L.length≤40) && L.all okS
theorem Nz {s:Slt} {k:Nat} (hk:k<s.length):okC s k=true↔97≤s[k].key.toNat∧s[k].key.toNat≤122∧0≤s[k].cost∧s[k].cost≤1000∧(k=0∨kyA s (k - 1)<s[k].key.toNat):=by
 unfold okC
 rw [AA hk]
 simp only [Bool.and_eq_true,Bool.or_eq_true,decide_eq_true_eq]
theorem Ql {s:Slt} {k:Nat} (hk:k<s.length):kyA s k=s[k].key.toNat:=by
 unfold kyA;rw [AA hk];rfl
theorem DQ {p:Nat→Bool} {n:Nat}:(List.range (n+1)).all p=((List.range n).all p && p n):=by
 rw [List.range_succ,List.all_append];simp
theorem JJ {p:Nat→Bool} {n k:Nat} (hk:k<n) (h:p k=false):(List.range n).all p=false:=by
 cases e:(List.range n).all p with
 | false=>rfl
 | true=>rw [List.all_eq_true] at e;rw [e k (AX.2 hk)] at h;cases h
theorem DR {s:Slt} {k:Nat} (hk:k<s.length) (h:okC s k=false):okS s=false:=by
 unfold okS;rw [JJ hk h];simp
theorem Ry {s:Slt} {k:Nat} (hk:k<(chA s).length):(chA s)[k].c=((s[k]'(by rw [DP] at hk;exact hk)).key.toNat:Int):=by simp [chA]
theorem Qm {s:Slt} {k:Nat} (hk:k<(chA s).length):(chA s)[k].t=(s[k]'(by rw [DP] at hk;exact hk)).cost:=by simp [chA]
theorem Dd.ch {w:World} {a:Option Addr} {s:Slt} (h:Dd w a (chA s)) {k:Nat} (hk:k<s.length) :
  ∃ b o,a=some ⟨b,o,none⟩∧b<w.heap.size∧w.cell? ⟨b,o+k*2,none⟩=some (.int .u8 (s[k].key.toNat:Int))∧w.cell? ⟨b,o+k*2+1,none⟩=some (.int .i64 s[k].cost):=by
 have hk2:k<(chA s).length:=by rw [DP];exact hk
 obtain ⟨b,o,h1,h2,h3,h4⟩:=h k hk2
 rw [Ry hk2] at h3
 rw [Qm hk2] at h4
 exact ⟨b,o,h1,h2,h3,h4⟩
set_option maxHeartbeats 6400000 in
set_option maxRecDepth 100000 in
theorem
    vslot_any (s:Slt) (a:Option Addr) (c:Nat) (w:World) (hA:Dd w a (chA s)) (hl:s.length≤9223372036854775807) :
  Calls Tryz.prog 51 #[.slice a s.length c] w fun e w'=>e=.returned (.bool (okS s))∧Below w.heap.size w w':=by
 have HA:=A0 hA
 clear hA
 by_cases h1:s.length<1
 ·
  have HR:Hid (okS s=false):=by show _=_;unfold okS;simp;omega
  have h1I:(s.length:Int)<1:=by omega
  go_enter Tryz.func51,Tryz.ntmps51
  go_wp2_with fail
  go_ret
  exact ⟨Ae HR.out.symm,Below.refl _ _⟩
 have h1I:¬ (s.length:Int)<1:=by omega
 by_cases h2:8<s.length
 ·
  have HR:Hid (okS s=false):=by show _=_;unfold okS;simp;omega
  have h2I:(8:Int)<(s.length:Int):=by omega
  go_enter Tryz.func51,Tryz.ntmps51
  go_wp2_with fail
  go_ret
  exact ⟨Ae HR.out.symm,Below.refl _ _⟩
 have h2I:¬ (8:Int)<(s.length:Int):=by omega
 go_enter Tryz.func51,Tryz.ntmps51
 go_wp2_with fail
 go_loopg [15] s.length (fun g v15 wr=>∃ j:Nat,v15=.int .i64 (j:Int)∧j≤s.length∧g=s.length - j∧(List.range j).all (okC s)=true∧Below w.heap.size w wr)
 case atStart=>exact ⟨0,rfl,Nat.zero_le _,rfl,rfl,Below.refl _ _⟩
 case round =>
  obtain ⟨j,rfl,hj,hgk,hall,hb⟩:=hrel
  have HALL:=A0 hall;have HB:=A0 hb;have HGK:=A0 hgk
  clear hall hb hgk
  by_cases hlt:j<s.length
  ·
   obtain ⟨
       b1,o1,ha1,hb1,q0,q1⟩:=(HA.out.later HB.out (A3 _)).ch hlt
   have hi1:=Eg a b1 o1 s.length c j ha1 hlt
   have HOK:=A0 (Nz hlt)
   obtain ⟨kI,hkI⟩:∃ kI:Int,(s[j].key.toNat:Int)=kI:=⟨_,rfl⟩
   obtain ⟨cI,hcI⟩:∃ cI:Int,s[j].cost=cI:=⟨_,rfl⟩
   rw [hkI] at q0
   rw [hcI] at q1
   have HKI:=A0 hkI;have HCI:=A0 hcI
   clear hkI hcI ha1
   by_cases g1:kI<97
   ·
    have HR:Hid (okS s=false):=DR hlt (by
     cases e:okC s j with
     | false=>rfl
     | true=>have:=HOK.out.1 e;have:=HKI.out;omega)
    go_wp2_with fail
    go_ret
    exact ⟨Ae HR.out.symm,HB.out.trans (((Below.refl _ _).alloc (A3 _) _).mono HB.out.size)⟩
   by_cases g2:122<kI
   ·
    have HR:Hid (okS s=false):=DR hlt (by
     cases e:okC s j with
     | false=>rfl
     | true=>have:=HOK.out.1 e;have:=HKI.out;omega)
    go_wp2_with fail
    go_ret
    exact ⟨Ae HR.out.symm,HB.out.trans (((Below.refl _ _).alloc (A3 _) _).mono HB.out.size)⟩
   by_cases g3:cI<0
   ·
    have HR:Hid (okS s=false):=DR hlt (by
     cases e:okC s j with
     | false=>rfl
     | true=>have:=HOK.out.1 e;have:=HCI.out;omega)
    go_wp2_with fail
    go_ret
    exact ⟨Ae HR.out.symm,HB.out.trans (((Below.refl _ _).alloc (A3 _) _).mono HB.out.size)⟩
   by_cases g4:1000<cI
   ·
    have HR:Hid (okS s=false):=DR hlt (by
     cases e:okC s j with
     | false=>rfl
     | true=>have:=HOK.out.1 e;have:=HCI.out;omega)
    go_wp2_with fail
    go_ret
    exact ⟨Ae HR.out.symm,HB.out.trans (((Below.refl _ _).alloc (A3 _) _).mono HB.out.size)⟩
   have hK0:0≤kI:=by omega
   by_cases hj0:j=0
   ·
    have HO:Hid (okC s j=true):=HOK.out.2 (by have:=HKI.out;have:=HCI.out;omega)
    have HJ:Hid (¬ (0:Int)<(j:Int)):=by show ¬ _;omega
    clear hj0
    go_wp2_with fail
    obtain ⟨w5,hw5⟩:∃ w5,wr.alloc (.cells #[.int .u8 kI,.int .i64 cI] 55)=w5:=⟨_,rfl⟩
    have HX5:Hid (Ext wr w5):=by show Ext _ _;rw [← hw5];exact (Below.refl _ _).alloc (A3 _) _
    rw [hw5]
    clear hw5
    refine Ag (by kernel_rfl) (Vs [vq (.int .i64 (j:Int)),vq (.bool false),vq (.bool false),vq (undef),vq (undef),vq (undef),vq (undef),vq (undef),vq (undef),vq (undef),vq (undef),vq (undef),vq (.bool false)]) (fun W=>Ext w5 W) 52 (by kernel_rfl) rfl ?hVx ?hSx ?hS (Ao ?hop) ?hfin
    case hop =>
     refine ⟨?_,?k1,?_,?_,?_,?_,?_,?_,?_,?_,?_,?_,?_,trivial⟩
     all_goals
      intro A W hsz hS hdep hbase
      skip
      have h0:A.tmps.getD 0 undef=.slice a s.length c:=hbase 0 (by kernel_rfl)
      have h3:A.tmps.getD 3 undef=.int .i64 (j:Int):=hbase 3 (by kernel_rfl)
      have h4:A.tmps.getD 4 undef=.pointer (some ⟨wr.heap.size,0,none⟩):=hbase 4 (by kernel_rfl)
      clear hbase
      simp [Aa,Region.binds,Vs,vq] at hdep
     case k1 =>
      refine AZ rfl (.inl ⟨_,W,?_,rfl,Ext.refl _⟩)
      clear hsz hS;have hj9:=HJ.out;simp [go_sem,Act.eval, *]
      omega
     all_goals first
      | (refine AZ rfl (.inl ⟨_,W,?_,rfl,Ext.refl _⟩);clear hsz hS;simp [go_sem,Act.eval, *];done)
      | exact Av (j:=2) (d:=40) (b:=false) rfl (by kernel_rfl) (by simp only [hdep]) rfl rfl
    case hVx=>exact Ac (by simp only [AU,List.not_mem_nil,or_false,forall_eq_or_imp,forall_eq];and_intros <;> exact AY _)
    case hSx=>exact fun W W' h hx=>Ext.trans h hx
    case hS=>exact Ext.refl _
    case hfin =>
     intro A W hsz hdf hS hv hbase
     obtain ⟨x,hx,hA⟩:=Af [38,39,40,41,42,43,44,45,46,47,48,49,50] (by kernel_rfl) hsz hdf hbase
     have e50:x 50=.bool false:=(hx 50).trans (hv 12 (by decide))
     rw [hA]
     simp only [List.foldl]
     rw [e50]
     clear e50
     simp only [Act.put,List.setIfInBounds_toArray,List.set_cons_succ,List.set_cons_zero]
     clear hA hx hv hbase hsz hdf
     have HS0:Hid (Ext w5 W):=hS
     clear hS
     go_wp2_with fail
     go_roundg (s.length - (j+1))
     case measure=>have:=HGK.out;omega
     case rel=>exact ⟨j+1,by go_num,by omega,rfl,by rw [DQ,HALL.out,HO.out];rfl,HB.out.trans (Below.mono (Ext.trans HX5.out HS0.out) HB.out.size)⟩
   ·
    obtain ⟨p,hpj⟩:∃ p,j=p+1:=⟨j - 1,by omega⟩
    have hp:p<s.length:=by omega
    have hpe:(j:Int) - 1=(p:Int):=by omega
    have hwp:IntKind.i64.wrap ((j:Int) - 1)=(p:Int):=by rw [hpe];exact IntWalk.i64_in _ (by omega)
    obtain ⟨b2,o2,ha2,hb2,l0, -⟩:=(HA.out.later HB.out (A3 _)).ch hp
    have hi2:=Eg a b2 o2 s.length c p ha2 hp
    obtain ⟨pI,hpI⟩:∃ pI:Int,(s[p].key.toNat:Int)=pI:=⟨_,rfl⟩
    rw [hpI] at l0
    have hky:kyA s (j - 1)=s[p].key.toNat:=by rw [hpj];exact Ql hp
    have HKY:=A0 hky;have HPI:=A0 hpI;have HPE:=A0 hpe;have HWP:=A0 hwp
    have HJ:Hid ((0:Int)<(j:Int)):=by show _<_;omega
    have hj0':¬ j=0:=hj0
    have HJ0:=A0 hj0'
    clear ha2 hpe hwp hky hpI hpj hj0 hj0'
    by_cases g5:kI≤pI
    ·
     have HR:Hid (okS s=false):=DR hlt (by
      cases e:okC s j with
      | false=>rfl
      | true=>have:=HOK.out.1 e;have:=HKI.out;have:=HKY.out;have:=HPI.out;have:=HJ0.out;omega)
     go_wp2_with fail
     obtain ⟨w5,hw5⟩:∃ w5,wr.alloc (.cells #[.int .u8 kI,.int .i64 cI] 55)=w5:=⟨_,rfl⟩
     have HX5:Hid (Ext wr w5):=by show Ext _ _;rw [← hw5];exact (Below.refl _ _).alloc (A3 _) _
     have HC5:Hid (w5.heap[wr.heap.size]? = some (.cells #[.int .u8 kI,.int .i64 cI] 55 (0,0))):=by show _=_;rw [← hw5];exact heap_alloc_new _ _
     have HL5:Hid (w5.cell? ⟨b2,o2+p*2,none⟩=some (.int .u8 pI)):=Eq.trans (Below.cell HX5.out (p:=⟨b2,o2+p*2,none⟩) hb2) l0
     have hb25:b2<w5.heap.size:=A7 hb2 (Below.size HX5.out)
     rw [hw5]
     clear hw5 l0
     refine Ag (by kernel_rfl) (Vs [vq (.int .i64 (j:Int)),vq (.bool true),vq (.bool true),vq (.slice a s.length c),vq (.int .i64 (j:Int)),vq (.int .i64 (p:Int)),vq (.pointer (some ⟨b2,o2+p*2,none⟩)),vq (.pointer (some ⟨b2,o2+p*2,none⟩)),vq (.int .u8 pI),vq (.pointer (some ⟨wr.heap.size,0,none⟩)),vq (.int .u8 kI),vq (.bool true),vq (.bool true)]) (fun W=>Ext w5 W) 52 (by kernel_rfl) rfl ?hVx ?hSx ?hS (Ao ?hop) ?hfin
     case hop =>
      refine ⟨?_,?k1,?_,?_,?_,?_,?_,?_,?_,?_,?_,?_,?_,trivial⟩
      all_goals
       intro A W hsz hS hdep hbase
       have l0:=Eq.trans (Below.cell hS (p:=⟨b2,o2+p*2,none⟩) hb25) HL5.out
       have d0:=Eq.trans (Below.cell hS (p:=⟨wr.heap.size,0,none⟩) (A5.1 HC5.out).1) (cell_of_row w5 wr.heap.size 0 _ _ (0,0) HC5.out)
       rw [show (#[.int .u8 kI,.int .i64 cI]:Array Value)[0]? = some (.int .u8 kI) from rfl] at d0
       have hpe:=HPE.out
       have hwp:=HWP.out
       rw [hpe] at hwp
       have h0:A.tmps.getD 0 undef=.slice a s.length c:=hbase 0 (by kernel_rfl)
       have h3:A.tmps.getD 3 undef=.int .i64 (j:Int):=hbase 3 (by kernel_rfl)
       have h4:A.tmps.getD 4 undef=.pointer (some ⟨wr.heap.size,0,none⟩):=hbase 4 (by kernel_rfl)
       clear hbase
       simp [Aa,Region.binds,Vs,vq] at hdep
      case k1 =>
       refine AZ rfl (.inl ⟨_,W,?_,rfl,Ext.refl _⟩)
       clear hsz hS;have hj9:=HJ.out;simp [go_sem,Act.eval, *]
       omega
      all_goals first
       | (refine AZ rfl (.inl ⟨_,W,?_,rfl,Ext.refl _⟩);clear hsz hS;simp [go_sem,Act.eval, *];done)
       | (refine Ad (j:=2) (d:=40) (b:=true) rfl (by kernel_rfl) (by simp only [hdep]) rfl (.inl ⟨_,W,?_,rfl,Ext.refl _⟩);clear hsz hS;simp [go_sem,Act.eval, *];done)
     case hVx=>exact Ac (by simp only [AU,List.not_mem_nil,or_false,forall_eq_or_imp,forall_eq];and_intros <;> exact AY _)
     case hSx=>exact fun W W' h hx=>Ext.trans h hx
     case hS=>exact Ext.refl _
     case hfin =>
      intro A W hsz hdf hS hv hbase
      obtain ⟨x,hx,hA⟩:=Af [38,39,40,41,42,43,44,45,46,47,48,49,50] (by kernel_rfl) hsz hdf hbase
      have e50:x 50=.bool true:=(hx 50).trans (hv 12 (by decide))
      rw [hA]
      simp only [List.foldl]
      rw [e50]
      clear e50
      simp only [Act.put,List.setIfInBounds_toArray,List.set_cons_succ,List.set_cons_zero]
      clear hA hx hv hbase hsz hdf
      have HS0:Hid (Ext w5 W):=hS
      clear hS
      go_wp2_with fail
      go_ret
      exact ⟨Ae HR.out.symm,HB.out.trans (Below.mono (Ext.trans HX5.out HS0.out) HB.out.size)⟩
    ·
     have HO:Hid (okC s j=true):=HOK.out.2 (by have:=HKI.out;have:=HCI.out;have:=HKY.out;have:=HPI.out;have:=HJ0.out;omega)
     go_wp2_with fail
     obtain ⟨w5,hw5⟩:∃ w5,wr.alloc (.cells #[.int .u8 kI,.int .i64 cI] 55)=w5:=⟨_,rfl⟩
     have HX5:Hid (Ext wr w5):=by show Ext _ _;rw [← hw5];exact (Below.refl _ _).alloc (A3 _) _
     have HC5:Hid (w5.heap[wr.heap.size]? = some (.cells #[.int .u8 kI,.int .i64 cI] 55 (0,0))):=by show _=_;rw [← hw5];exact heap_alloc_new _ _
     have HL5:Hid (w5.cell? ⟨b2,o2+p*2,none⟩=some (.int .u8 pI)):=Eq.trans (Below.cell HX5.out (p:=⟨b2,o2+p*2,none⟩) hb2) l0
     have hb25:b2<w5.heap.size:=A7 hb2 (Below.size HX5.out)
     rw [hw5]
     clear hw5 l0
     refine Ag (by kernel_rfl) (Vs [vq (.int .i64 (j:Int)),vq (.bool true),vq (.bool true),vq (.slice a s.length c),vq (.int .i64 (j:Int)),vq (.int .i64 (p:Int)),vq (.pointer (some ⟨b2,o2+p*2,none⟩)),vq (.pointer (some ⟨b2,o2+p*2,none⟩)),vq (.int .u8 pI),vq (.pointer (some ⟨wr.heap.size,0,none⟩)),vq (.int .u8 kI),vq (.bool false),vq (.bool false)]) (fun W=>Ext w5 W) 52 (by kernel_rfl) rfl ?hVx ?hSx ?hS (Ao ?hop) ?hfin
     case hop =>
      refine ⟨?_,?k1,?_,?_,?_,?_,?_,?_,?_,?_,?_,?_,?_,trivial⟩
      all_goals
       intro A W hsz hS hdep hbase
       have l0:=Eq.trans (Below.cell hS (p:=⟨b2,o2+p*2,none⟩) hb25) HL5.out
       have d0:=Eq.trans (Below.cell hS (p:=⟨wr.heap.size,0,none⟩) (A5.1 HC5.out).1) (cell_of_row w5 wr.heap.size 0 _ _ (0,0) HC5.out)
       rw [show (#[.int .u8 kI,.int .i64 cI]:Array Value)[0]? = some (.int .u8 kI) from rfl] at d0
       have hpe:=HPE.out
       have hwp:=HWP.out
       rw [hpe] at hwp
       have h0:A.tmps.getD 0 undef=.slice a s.length c:=hbase 0 (by kernel_rfl)
       have h3:A.tmps.getD 3 undef=.int .i64 (j:Int):=hbase 3 (by kernel_rfl)
       have h4:A.tmps.getD 4 undef=.pointer (some ⟨wr.heap.size,0,none⟩):=hbase 4 (by kernel_rfl)
       clear hbase
       simp [Aa,Region.binds,Vs,vq] at hdep
      case k1 =>
       refine AZ rfl (.inl ⟨_,W,?_,rfl,Ext.refl _⟩)
       clear hsz hS;have hj9:=HJ.out;simp [go_sem,Act.eval, *]
       omega
      all_goals first
       | (refine AZ rfl (.inl ⟨_,W,?_,rfl,Ext.refl _⟩);clear hsz hS;simp [go_sem,Act.eval, *];done)
       | (refine Ad (j:=2) (d:=40) (b:=true) rfl (by kernel_rfl) (by simp only [hdep]) rfl (.inl ⟨_,W,?_,rfl,Ext.refl _⟩);clear hsz hS;simp [go_sem,Act.eval, *];done)
     case hVx=>exact Ac (by simp only [AU,List.not_mem_nil,or_false,forall_eq_or_imp,forall_eq];and_intros <;> exact AY _)
     case hSx=>exact fun W W' h hx=>Ext.trans h hx
     case hS=>exact Ext.refl _
     case hfin =>
      intro A W hsz hdf hS hv hbase
      obtain ⟨x,hx,hA⟩:=Af [38,39,40,41,42,43,44,45,46,47,48,49,50] (by kernel_rfl) hsz hdf hbase
      have e50:x 50=.bool false:=(hx 50).trans (hv 12 (by decide))
      rw [hA]
      simp only [List.foldl]
      rw [e50]
      clear e50
      simp only [Act.put,List.setIfInBounds_toArray,List.set_cons_succ,List.set_cons_zero]
      clear hA hx hv hbase hsz hdf
      have HS0:Hid (Ext w5 W):=hS
      clear hS
      go_wp2_with fail
      go_roundg (s.length - (j+1))
      case measure=>have:=HGK.out;omega
      case rel=>exact ⟨j+1,by go_num,by omega,rfl,by rw [DQ,HALL.out,HO.out];rfl,HB.out.trans (Below.mono (Ext.trans HX5.out HS0.out) HB.out.size)⟩
  ·
   have HR:Hid (okS s=true):=by
    show _=_
    have e:j=s.length:=by omega
    have h:=HALL.out
    rw [e] at h
    unfold okS;rw [h];simp;omega
   go_wp2_with fail
   go_ret
   exact ⟨Ae HR.out.symm,HB.out⟩
def Da:Option Nat→Int
 | none=>1000000000
 | some c=>(c:Int)
def Hw (L:List Slt):Prop:=∀ s∈L,s.Pairwise fun a b=>a.key≠b.key
theorem Hw.drop {L:List Slt} (h:Hw L) (i:Nat):Hw (L.drop i):=fun s hs=>h s (List.mem_of_mem_drop hs)
theorem P5 {s:Slt} {x:Ch} {c:UInt8} (hd:(s ++ [x]).Pairwise fun a b=>a.key≠b.key):Dx (s ++ [x]) c=if x.key=c then some x.cost.toNat else Dx s c:=by
 unfold Dx
 rw [List.find?_append]
 by_cases hx:x.key=c
 ·
  rw [if_pos hx]
  have hn:s.find? (fun h=>h.key == c)=none:=by
   rw [List.find?_eq_none]
   intro y hy e
   have e2:y.key=c:=by simpa using e
   exact (List.pairwise_append.1 hd).2.2 y hy x (by simp) (by rw [e2,hx])
  rw [hn]
  simp [hx]
 ·
  rw [if_neg hx]
  simp [hx]
set_option maxHeartbeats 400000 in
theorem Bm (w:World):Calls Tryz.prog 38 #[] w fun e w'=>e=.returned (.int .i64 1000000000)∧w=w':=by
 go_enter Tryz.func38,Tryz.ntmps38
 go_wp2
 go_ret
 exact ⟨rfl,rfl⟩
set_option maxHeartbeats 3200000 in
set_option maxRecDepth 100000 in
theorem
    letters_ref_any (C:Nat) (L:List Slt) (s:ByteArray) (a:Option Addr) (cap:Nat) (w:World) (hX:Bc w a L) (hl:L.length≤9223372036854775807) (hB:Bq C L) (hC:C≤1000000) (hD:Hw L) (hs:s.size≤100) :
  Calls Tryz.prog 22 #[.slice a L.length cap,.string s] w fun e w'=>e=.returned (.int .i64 (Da (letsC L (bts s))))∧Below w.heap.size w w':=by
 have HX:=A0 hX;have HBD:=A0 hB;have HD:=A0 hD
 clear hX hB hD
 by_cases hlt0:L.length<s.size
 ·
  have hI:(L.length:Int)<(s.size:Int):=by omega
  have HR:Hid (letsC L (bts s)=none):=by
   show _=_
   cases e:letsC L (bts s) with
   | none=>rfl
   | some c=>have:=Dq e;rw [BB] at this;omega
  go_enter Tryz.func22,Tryz.ntmps22
  go_wp2_with fail
  refine (Bm w).mono ?_
  rintro e w1 ⟨rfl,rfl⟩
  go_wp2_with fail
  go_ret
  exact ⟨by rw [HR.out];rfl,Below.refl _ _⟩
 have hI:¬ (L.length:Int)<(s.size:Int):=by omega
 go_enter Tryz.func22,Tryz.ntmps22
 go_wp2_with fail
 go_loopg [5,6] s.size (fun g v5 v6 wr=>∃ i sum:Nat,v5=.int .i64 (sum:Int)∧v6=.int .i64 (i:Int)∧i≤s.size∧g=s.size - i∧sum≤i*C∧letsC L (bts s)=(letsC (L.drop i) ((bts s).drop i)).map (sum+·)∧Below w.heap.size w wr)
 case atStart=>exact ⟨0,0,rfl,rfl,Nat.zero_le _,rfl,Nat.zero_le _,by simp,Below.refl _ _⟩
 case round =>
  obtain ⟨i,sum,rfl,rfl,hi,hgk,hsum,hls,hB⟩:=hrel
  have HB:=A0 hB;have HGK:=A0 hgk;have HLS:=A0 hls;have HSUM:=A0 hsum
  clear hB hgk hls hsum
  by_cases hlt:i<s.size
  ·
   have hltL:i<L.length:=by omega
   obtain ⟨b1,o1,ha1,hb1,aa,cc,q0,hle,harc⟩:=(HX.out.later HB.out (A3 _)).at hltL
   have hi1:=FX a b1 o1 L.length cap i ha1 hltL
   have HLS2:Hid (letsC L (bts s)=match Dx L[i] s[i] with | none=>none | some x=>(letsC (L.drop (i+1)) ((bts s).drop (i+1))).map (sum+x+·)):=by
    show _=_
    have h1:L.drop i=L[i] :: L.drop (i+1):=AE hltL
    have h2:(bts s).drop i=s[i] :: (bts s).drop (i+1):=AE (by rw [BB];exact hlt)
    rw [HLS.out,h1,h2]
    simp only [letsC]
    cases Dx L[i] s[i] with
    | none=>rfl
    | some x =>
     simp only [Option.map_map]
     congr 1
     funext y
     simp only [Function.comp]
     omega
   have hsb:=HBD.out L[i] (AG hltL)
   have hsd:=HD.out L[i] (AG hltL)
   obtain ⟨t,ht⟩:∃ t,L[i]=t:=⟨_,rfl⟩
   rw [ht] at q0 hle harc HLS2 hsb hsd
   have HQ0:=A0 q0;have HARC:=A0 harc;have HSB:=A0 hsb;have HSD:=A0 hsd
   clear ha1 ht harc hsb hsd HLS
   go_wp2_with fail
   refine (Bm _).mono ?_
   rintro e w1 ⟨rfl,rfl⟩
   go_wp2_with fail
   clear q0
   obtain ⟨wo,hwo⟩:∃ wo:World,wo=wr:=⟨wr,rfl⟩
   subst hwo
   go_loopg [7,8] t.length (fun g v7 v8 wt=>∃ k:Nat,v7=.int .i64 (Da (Dx (t.take k) s[i]))∧v8=.int .i64 (k:Int)∧k≤t.length∧g=t.length - k∧Below wo.heap.size wo wt)
   case atStart=>exact ⟨0,rfl,rfl,Nat.zero_le _,rfl,Below.refl _ _⟩
   case round =>
    obtain ⟨k,rfl,rfl,hk,hgk,hb⟩:=hrel
    have HB2:=A0 hb;have HGK2:=A0 hgk
    have q0:=(HB2.out.cell (p:=⟨b1,o1+i,none⟩) hb1).trans HQ0.out
    have hb1':b1<wr.heap.size:=A7 hb1 hb.size
    have HBW:Hid (Below w.heap.size w wr):=HB.out.trans (hb.mono HB.out.size)
    clear hb hgk
    by_cases hlk:k<t.length
    ·
     obtain ⟨b2,o2,ha2,hb2,p0,p1⟩:=(HARC.out.later HB2.out (A3 _)).ch hlk
     have hi2:=Eg aa b2 o2 t.length cc k ha2 hlk
     have htk:t.take (k+1)=t.take k ++ [t[k]]:=AO hlk
     have HN:Hid (Dx (t.take (k+1)) s[i]=if t[k].key=s[i] then some t[k].cost.toNat else Dx (t.take k) s[i]):=by
      show _=_
      rw [htk]
      refine P5 ?_
      rw [← htk]
      exact List.Pairwise.sublist (List.take_sublist _ _) HSD.out
     have hx0:=HSB.out t[k] (AG hlk)
     obtain ⟨x,hx⟩:∃ x,t[k]=x:=⟨_,rfl⟩
     rw [hx] at p0 p1 HN hx0
     have HX0:=A0 hx0
     clear ha2 htk hx hx0
     by_cases hxe:x.key=s[i]
     ·
      have hcmp:((x.key.toNat:Int) == (s[i].toNat:Int))=true:=by rw [hxe];simp
      have HCO:Hid (Value.int .i64 x.cost=.int .i64 (Da (Dx (t.take (k+1)) s[i]))):=by
       show _=_
       rw [HN.out,if_pos hxe]
       have:=HX0.out
       simp only [Da]
       rw [Int.toNat_of_nonneg this.1]
      clear hxe
      go_wp2
      go_quiet (fail)
      go_wp2
      go_roundg (t.length - (k+1))
      case measure=>have:=HGK2.out;omega
      case rel=>exact ⟨k+1,HCO.out,by go_num,by omega,rfl,below_drewN HB2.out _⟩
     ·
      have hcmp:((x.key.toNat:Int) == (s[i].toNat:Int))=false:=by
       simp only [beq_eq_false_iff_ne,ne_eq]
       intro e
       exact hxe (UInt8.toNat_inj.1 (by omega))
      have HCO:Hid (Dx (t.take (k+1)) s[i]=Dx (t.take k) s[i]):=by
       show _=_
       rw [HN.out,if_neg hxe]
      clear hxe
      go_wp2
      go_quiet (fail)
      go_wp2
      go_roundg (t.length - (k+1))
      case measure=>have:=HGK2.out;omega
      case rel=>exact ⟨k+1,by rw [HCO.out],by go_num,by omega,rfl,below_drewN HB2.out _⟩
    ·
     have htk:t.take k=t:=AF (by omega)
     rw [htk]
     clear htk
     cases hlc:Dx t s[i] with
     | none =>
      have HR:Hid (letsC L (bts s)=none):=by show _=_;rw [HLS2.out,hlc]
      have hco:Da none=1000000000:=rfl
      rw [hco]
      clear hco hlc
      go_wp2_with fail
      refine (Bm _).mono ?_
      rintro e w1 ⟨rfl,rfl⟩
      go_wp2_with fail
      refine (Bm _).mono ?_
      rintro e w1 ⟨rfl,rfl⟩
      go_wp2_with fail
      go_ret
      exact ⟨by rw [HR.out];rfl,HBW.out⟩
     | some x =>
      have hxC:x≤C:=Kb HSB.out hlc
      have HLS3:Hid (letsC L (bts s)=(letsC (L.drop (i+1)) ((bts s).drop (i+1))).map (sum+x+·)):=by show _=_;rw [HLS2.out,hlc]
      have hco:Da (some x)=(x:Int):=rfl
      rw [hco]
      have hne:((x:Int) == 1000000000)=false:=by simp only [beq_eq_false_iff_ne,ne_eq];omega
      have HSUM2:Hid (sum+x≤(i+1)*C):=by show _≤_;have:=HSUM.out;rw [Nat.succ_mul];omega
      have hsum100:sum+x≤100*1000000:=A8 HSUM2.out (Nat.mul_le_mul (by omega) hC)
      clear hco hlc hxC
      go_wp2_with fail
      refine (Bm _).mono ?_
      rintro e w1 ⟨rfl,rfl⟩
      go_wp2_with fail
      go_roundg (s.size - (i+1))
      case measure=>have:=HGK.out;omega
      case rel=>exact ⟨i+1,sum+x,by go_num,by go_num,by omega,rfl,HSUM2.out,HLS3.out,HBW.out⟩
  ·
   have HR:Hid (letsC L (bts s)=some sum):=by
    show _=_
    have hd:(bts s).drop i=[]:=List.drop_eq_nil_of_le (by rw [BB];omega)
    rw [HLS.out,hd,FW]
    rfl
   go_wp2_with fail
   go_ret
   exact ⟨by rw [HR.out];rfl,HB.out⟩
def EV (o:Option Nat):Nat:=o.getD 1000000000
theorem L4 (o:Option Nat):Da o=(EV o:Int):=by cases o <;> rfl
def Ck (X:List UInt8) (n:Nat) (r:List UInt8):Option Nat:=if (X.drop n).take r.length=r then some (n+r.length) else none
theorem KH (X:List UInt8):RH (Ck X) where
 nil n:=by unfold Ck;simp
 app
   n a b:=by
  unfold Ck
  rw [AB,List.take_add,List.drop_drop]
  by_cases h:(X.drop n).take a.length=a
  ·
   rw [if_pos h,h]
   simp only [Option.bind_some]
   by_cases h2:(X.drop (n+a.length)).take b.length=b
   · rw [if_pos h2,if_pos (by rw [h2]),Nat.add_assoc]
   · rw [if_neg h2,if_neg (fun e=>h2 (List.append_cancel_left e))]
  ·
   rw [if_neg h]
   simp only [Option.bind_none]
   rw [if_neg]
   intro e
   refine h (List.append_inj_left e ?_)
   have h1:=congrArg List.length e
   rw [AB,AB] at h1
   have h2:((X.drop n).take a.length).length≤a.length:=List.length_take_le _ _
   have h3:((X.drop (n+a.length)).take b.length).length≤b.length:=List.length_take_le _ _
   omega
theorem Rz {X:List UInt8} {n m:Nat} {r:List UInt8} (hn:n≤X.length) (h:Ck X n r=some m):m≤X.length:=by
 unfold Ck at h
 split at h
 ·
  rename_i e
  cases h
  have h1:=congrArg List.length e
  rw [AM,List.length_drop] at h1
  omega
 · cases h
theorem Qn {X o:List UInt8} (h:Ck X 0 o=some X.length):o=X:=by
 unfold Ck at h
 split at h
 ·
  rename_i e
  injection h with h
  rw [List.drop_zero,AF (by omega)] at e
  exact e.symm
 · cases h
theorem P6 (X:List UInt8):Ck X 0 X=some X.length:=by unfold Ck;simp
theorem rtW {R:List Rl} {L:List Slt} {X:List UInt8} {i m c:Nat}:Rt R L (Ck X) i (m,X.length) c↔RtS R L i m X c:=by
 constructor
 ·
  intro h
  obtain ⟨o,h1,h2⟩:=SM (KH X) h
  rw [Qn h2] at h1
  exact h1
 ·
  intro h
  exact Pt (KH X) h (P6 X)
def Fu (K:Nat) (E:Ent) (m:Nat):List Nat:=(List.range K).map fun k=>EV (look E (m,k))
theorem JK (K:Nat) (E:Ent) (m:Nat):(Fu K E m).length=K:=by simp [Fu]
theorem JL {K:Nat} {E:Ent} {m k:Nat} (hk:k<(Fu K E m).length):(Fu K E m)[k]=EV (look E (m,k)):=by simp [Fu]
theorem Qo {K:Nat} {E:Ent} {m k c:Nat} (hk:k<K):Fu K (Co E (m,k) c) m=(Fu K E m).set k c:=by
 apply List.ext_getElem
 · simp [JK]
 ·
  intro j h1 h2
  rw [JL,List.getElem_set,D6]
  by_cases e:k=j
  · subst e;rw [if_pos rfl,if_pos rfl];rfl
  · rw [if_neg e,if_neg (fun h=>e (by injection h)),JL]
theorem NJ {K:Nat} {E:Ent} {m m' k c:Nat} (hm:m≠m'):Fu K (Co E (m,k) c) m'=Fu K E m':=by
 unfold Fu
 refine List.map_congr_left fun j _=>?_
 rw [D6,if_neg (fun h=>hm (by injection h))]
theorem IE (M:List Nat):M.flatMap BD.enc=M.map fun n=>.int .i64 (n:Int):=by
 induction M with
 | nil=>rfl
 | cons x r ih=>rw [List.flatMap_cons,ih];rfl
structure FK (w:World) (B P Mo K g0:Nat) (gp cp:Nat→Nat) (gb ck:Nat→Nat→Nat) (M:Nat→Ent):Prop where
 t0:∃ cs,w.heap[g0]? = some (.cells cs 146 (0,0))
 t1:∀ j,j<P→∃ cs,w.heap[gp j]? = some (.cells cs 79 (0,0))
 r0:∀ j,j<P→w.cell? ⟨g0,j,none⟩=some (.slice (some ⟨gp j,0,none⟩) Mo (cp j))
 r1:∀ j m,j<P→m<Mo→w.cell? ⟨gp j,m,none⟩=some (.slice (some ⟨gb j m,0,none⟩) K (ck j m))
 own:∀ j m,j<P→m<Mo→Ab BD w B (.slice (some ⟨gb j m,0,none⟩) K (ck j m)) (Fu K (M j) m)
 inj:∀ j m j' m',j<P→m<Mo→j'<P→m'<Mo→gb j m=gb j' m'→j=j'∧m=m'
section
variable {w w':World} {B P Mo K g0:Nat} {gp cp:Nat→Nat} {gb ck:Nat→Nat→Nat} {M:Nat→Ent}
theorem FK.kc (h:FK w B P Mo K g0 gp cp gb ck M) (hk:Kc w w'):FK w' B P Mo K g0 gp cp gb ck M :=
 ⟨h.t0.imp fun _ h=>hk.block _ _ _ _ h,fun j hj=>(h.t1 j hj).imp fun _ h=>hk.block _ _ _ _ h,fun j hj=>hk.cell (h.r0 j hj),fun j m hj hm=>hk.cell (h.r1 j m hj hm),fun j m hj hm=>(h.own j m hj hm).kc hk,h.inj⟩
theorem FK.at (h:FK w B P Mo K g0 gp cp gb ck M) {j m k:Nat} (hj:j<P) (hm:m<Mo) (hk:k<K):w.cell? ⟨gb j m,k,none⟩=some (.int .i64 (Da (look (M j) (m,k)))):=by
 have hk2:k<(Fu K (M j) m).length:=by rw [JK];exact hk
 obtain ⟨b,e,_,_,h1⟩:=(h.own j m hj hm).ints hk2
 injection e with e
 injection e with e _ _
 rw [← e,JL,← L4] at h1
 exact h1
theorem
    FK.put (h:FK w B P Mo K g0 gp cp gb ck M) {j m k c:Nat} (hj:j<P) (hm:m<Mo) (hk:k<K) :
  FK (w.setCell ⟨gb j m,k,none⟩ (.int .i64 (c:Int))) B P Mo K g0 gp cp gb ck (C8 M j (m,k) c):=by
 have hne:∀ q,q≠gb j m→(w.setCell ⟨gb j m,k,none⟩ (.int .i64 (c:Int))).heap[q]? = w.heap[q]?:=fun q hq=>Below.heap_setCell _ _ _ _ hq
 obtain ⟨cs,hcs⟩:=Ap (h.own j m hj hm) (g:=gb j m) rfl
 have hty:∀ {q t},(∃ cs,w.heap[q]? = some (.cells cs t (0,0)))→t≠BD.e→q≠gb j m:=fun {q t} hq ht e=>by
  obtain ⟨cs2,h2⟩:=hq
  rw [e,hcs] at h2
  injection h2 with h2
  injection h2 with _ h3
  exact ht h3.symm
 have n0:=hty h.t0 (by decide)
 have n1:∀ j',j'<P→gp j'≠gb j m:=fun j' hj'=>hty (h.t1 j' hj') (by decide)
 refine ⟨h.t0.imp fun _ h1=>(hne _ n0).trans h1,fun j' hj'=>(h.t1 j' hj').imp fun _ h1=>(hne _ (n1 j' hj')).trans h1,fun j' hj'=>?_,fun j' m' hj' hm'=>?_,fun j' m' hj' hm'=>?_,h.inj⟩
 ·
  have:=h.r0 j' hj'
  unfold World.cell? at this ⊢
  rw [hne _ n0];exact this
 ·
  have:=h.r1 j' m' hj' hm'
  unfold World.cell? at this ⊢
  rw [hne _ (n1 j' hj')];exact this
 ·
  by_cases e:j'=j∧m'=m
  ·
   obtain ⟨rfl,rfl⟩:=e
   unfold C8
   rw [if_pos rfl,Qo hk]
   refine (h.own j' m' hj' hm').setCell (by simp) ?_ (by rw [JK];show k<K*1;omega) ES
   rw [IE,IE,List.map_set]
  ·
   have e2:gb j' m'≠gb j m:=fun h1=>e (h.inj j' m' j m hj' hm' hj hm h1)
   have e3:Fu K (C8 M j (m,k) c j') m'=Fu K (M j') m':=by
    unfold C8
    split
    · rename_i e4;exact NJ fun h1=>e ⟨e4,h1.symm⟩
    · rfl
   rw [e3]
   exact (h.own j' m' hj' hm').keep fun q hq=>hne q (by cases hq;exact e2)
end
theorem
    slots_from {a:Option Addr} {L:List Slt} {c i:Nat} (hi:i≤L.length) (hc:L.length≤c) (ha:∀ b,a=some b→∃ b' o',b=⟨b',o',none⟩) (hn:a=none→L=[]):∃ a' c',(∀ W:World,(Instr.slice 39 (.slice a L.length c) (some (.int .i64 (i:Int))) none none).run Tryz.prog W=.ok (.slice a' (L.drop i).length c') W)∧(∀ W:World,Bc W a L→Bc W a' (L.drop i)):=by
 have h0:(0:Int)≤(i:Int):=by omega
 cases a with
 | none =>
  have hL:=hn rfl
  subst hL
  obtain rfl:i=0:=by simpa using hi
  refine ⟨none,c,fun W=>?_,fun W h=>h⟩
  simp [go_sem,Instr.slice,Instr.sliceBounds,Instr.sliceBound,asIntOf]
 | some b =>
  obtain ⟨b',o',rfl⟩:=ha b rfl
  have h1:(i:Int)≤(L.length:Int):=by omega
  have h2:(L.length:Int)≤(c:Int):=by omega
  refine ⟨some ⟨b',if c=i then o' else o'+i,none⟩,c - i,fun W=>?_,fun W h=>?_⟩
  ·
   rw [List.length_drop]
   simp [go_sem,Instr.slice,Instr.sliceBounds,Instr.sliceBound,asIntOf,h0,h1,h2,Addr.add,hi]
   by_cases e:c=i
   · simp [e]
   ·
    by_cases e2:i=0
    · subst e2;simp [e]
    · simp [e,e2]
  ·
   by_cases e:c=i
   · rw [if_pos e,List.drop_eq_nil_of_le (by omega)];exact Bc.nil _ _
   · rw [if_neg e];exact h.drop i
theorem L5 (b len cap k:Nat) (hk:k<len) (w:World) :
  (Instr.indexAt 143 (.slice (some ⟨b,0,none⟩) len cap) (.int .i64 (k:Int))).run Tryz.prog w=.ok (.pointer (some ⟨b,k,none⟩)) w:=by
 have h0:(0:Int)≤(k:Int):=by omega
 have h1:(k:Int)<(len:Int):=by omega
 simp [go_sem,h0,h1]
theorem L6 (b len cap k:Nat) (hk:k<len) (w:World) :
  (Instr.indexAt 146 (.slice (some ⟨b,0,none⟩) len cap) (.int .i64 (k:Int))).run Tryz.prog w=.ok (.pointer (some ⟨b,k,none⟩)) w:=by
 have h0:(0:Int)≤(k:Int):=by omega
 have h1:(k:Int)<(len:Int):=by omega
 simp [go_sem,h0,h1]
def IM (w:World) (gt:Nat) (modes acc:Int) (aR:Option Addr) (nR cR:Nat) (aL:Option Addr) (nL cL:Nat) (X:ByteArray) (g0 P c0:Nat):Prop :=
 w.heap[gt]? = some (.cells #[.int .i64 modes,.int .u8 acc,.slice aR nR cR,.slice aL nL cL,.string X,.slice (some ⟨g0,0,none⟩) P c0] 145 (0,0))
theorem IM.cells {w:World} {gt:Nat} {modes acc:Int} {aR:Option Addr} {nR cR:Nat} {aL:Option Addr} {nL cL:Nat} {X:ByteArray} {g0 P c0:Nat} (h:IM w gt modes acc aR nR cR aL nL cL X g0 P c0) :
  w.cell? ⟨gt,3,none⟩=some (.slice aL nL cL)∧w.cell? ⟨gt,4,none⟩=some (.string X)∧w.cell? ⟨gt,5,none⟩=some (.slice (some ⟨g0,0,none⟩) P c0):=by
 refine ⟨?_,?_,?_⟩ <;> (rw [cell_of_row w gt _ _ _ (0,0) h];rfl)
def Eo (R:List Rl) (L:List Slt) (X:List UInt8) (M:Nat→Ent) (i:Nat) (t:Stt) (r:Rl):Prop :=
 ∀ c t' d,look (M i) t=some c→Fz R L (Ck X) i t r t' d→∃ c',look (M (i+r.inp.size)) t'=some c'∧c'≤c+d
def ApP (R:List Rl) (L:List Slt) (X:List UInt8) (M:Nat→Ent) (gb:Nat→Nat→Nat) (i m k:Nat) (r:Rl) (w:World) (e:Ending) (w':World):Prop :=
 (e=.returned (.bool false)∧Ext w w'∧Eo R L X M i (m,k) r) ∨
 (e=.returned (.bool true)∧∃ c n' d W,look (M i) (m,k)=some c∧Fz R L (Ck X) i (m,k) r (r.dst.toNat,n') d∧n'≤X.length∧(∀ x,look (M (i+r.inp.size)) (r.dst.toNat,n')=some x→c+d<x)∧Ext w W∧w'=W.setCell ⟨gb (i+r.inp.size) r.dst.toNat,n',none⟩ (.int .i64 ((c+d:Nat):Int)))
theorem MJ (X:ByteArray) (a b:Nat):bts (X.extract a b)=((bts X).drop a).take (b - a):=by
 unfold bts
 rw [ByteArray.data_extract]
 simp [List.extract_eq_take_drop]
theorem S0 {a b:ByteArray} (h:bts a=bts b):a=b:=by
 unfold bts at h
 cases a;cases b
 simp only at h
 rw [Array.toList_inj.1 h]
theorem IF {X out:ByteArray} {k:Nat}:X.extract k (k+out.size)=out↔Ck (bts X) k (bts out)=some (k+out.size):=by
 have hl:=BB out
 have e:bts (X.extract k (k+out.size))=((bts X).drop k).take (bts out).length:=by rw [MJ,hl,Nat.add_sub_cancel_left]
 unfold Ck
 constructor
 ·
  intro h
  rw [if_pos (by rw [← e,h]),hl]
 ·
  intro h
  split at h
  ·
   rename_i h2
   exact S0 (e.trans h2)
  · cases h
theorem S1 (X:ByteArray) (a b:Nat) (h1:a≤b) (h2:b≤X.size) (w:World):(Instr.slice 9 (.string X) (some (.int .i64 (a:Int))) (some (.int .i64 (b:Int))) none).run Tryz.prog w=.ok (.string (X.extract a b)) w:=by
 have h0:(0:Int)≤(a:Int):=by omega
 have h01:(0:Int)≤(b:Int):=by omega
 have h3:(a:Int)≤(b:Int):=by omega
 have h4:(b:Int)≤(X.size:Int):=by omega
 simp [go_sem,Instr.slice,Instr.sliceBounds,Instr.sliceBound,asIntOf,h0,h01,h3,h4,h1,h2]
theorem MK {X out:ByteArray} {k n:Nat} (h:Ck (bts X) k (bts out)=some n):n=k+out.size:=by
 unfold Ck at h
 split at h
 · cases h;rw [BB]
 · cases h
set_option maxHeartbeats 6400000 in
set_option maxRecDepth 100000 in
theorem
    apply_any
         (R:List Rl) (L:List Slt) (X:ByteArray) (M:Nat→Ent) (C:Nat) (gt:Nat) (modes acc:Int) (aR:Option Addr) (nR cR:Nat) (aL:Option Addr) (cL:Nat) (g0 c0 Mo B:Nat) (gp cp:Nat→Nat) (gb ck:Nat→Nat→Nat) (i m m2 k cr:Nat) (inp out:ByteArray) (w:World)
  (hr:(⟨(m:Int),(m2:Int),inp,out,(cr:Int)⟩:Rl)∈R) (hf:Bu ⟨(m:Int),(m2:Int),inp,out,(cr:Int)⟩=true) (hm:m<Mo) (hm2:m2<Mo) (hout:out.size≤1000000) (hi:i≤L.length) (hk:k≤X.size) (hLl:L.length≤1000) (hXl:X.size≤1000) (hLc:L.length≤cL)
  (hT:IM w gt modes acc aR nR cR aL L.length cL X g0 (L.length+1) c0) (ht:FK w B (L.length+1) Mo (X.size+1) g0 gp cp gb ck M) (hL:Bc w aL L) (haL:(∀ b,aL=some b→∃ b' o',b=⟨b',o',none⟩)∧(aL=none→L=[])) (hB:Bq C L) (hC:C≤1000000) (hD:Hw L) (hbd:∀ c,look (M i) (m,k)=some c→c≤900000000) :
  Calls Tryz.prog 70 #[.pointer (some ⟨gt,0,none⟩),.agg #[.int .i64 (m:Int),.int .i64 (m2:Int),.string inp,.string out,.int .i64 (cr:Int)],.int .i64 (i:Int),.int .i64 (k:Int)] w fun e w'=>ApP R L (bts X) M gb i m k ⟨(m:Int),(m2:Int),inp,out,(cr:Int)⟩ w e w':=by
 have HR:=A0 hr;have HF:=A0 hf;have HT:=A0 hT;have HTB:=A0 ht;have HL:=A0 hL;have HBD:=A0 hB;have HD:=A0 hD;have HBN:=A0 hbd
 have hgt:gt<w.heap.size:=(A5.1 hT).1
 obtain ⟨a',c',hsl,hsd⟩:=slots_from hi hLc haL.1 haL.2
 have HSL:=A0 hsl;have HSD:=A0 hsd
 clear hr hf hT ht hL hB hD hbd haL hsl hsd
 go_enter Tryz.func70,Tryz.ntmps70
 go_wp2_with fail
 obtain ⟨w1,hw1⟩:∃ w1,w.alloc (.cells #[.int .i64 (m:Int),.int .i64 (m2:Int),.string inp,.string out,.int .i64 (cr:Int)] 64)=w1:=⟨_,rfl⟩
 rw [hw1]
 have HX1:Hid (Ext w w1):=by show Ext _ _;rw [← hw1];exact (Below.refl _ _).alloc (A3 _) _
 have HC1:Hid (w1.heap[w.heap.size]? = some (.cells #[.int .i64 (m:Int),.int .i64 (m2:Int),.string inp,.string out,.int .i64 (cr:Int)] 64 (0,0))):=by show _=_;rw [← hw1];exact heap_alloc_new _ _
 obtain ⟨gs,hgs⟩:∃ gs,w.heap.size=gs:=⟨_,rfl⟩
 rw [hgs] at HC1 ⊢
 clear hw1
 have HK1:Hid (Kc w w1):=Kc.of HX1.out (A3 _)
 have HT1:Hid (IM w1 gt modes acc aR nR cR aL L.length cL X g0 (L.length+1) c0):=HK1.out.block _ _ _ _ HT.out
 have HTB1:=A0 (HTB.out.kc HK1.out)
 have hi1:i<L.length+1:=by omega
 have hk1:k<X.size+1:=by omega
 obtain ⟨c3,c4,c5⟩:=HT1.out.cells
 obtain ⟨d0,d1,d2,d3,d4⟩:=Az HC1.out
 have r0:=HTB1.out.r0 i hi1
 have r1:=HTB1.out.r1 i m hi1 hm
 have r2:=HTB1.out.at hi1 hm hk1
 have x3:=L5 g0 (L.length+1) c0 i hi1
 have x2:=L6 (gp i) Mo (cp i) m hm
 have x1:=DT (gb i m) (X.size+1) (ck i m) k hk1
 go_quiet (fail)
 go_wp2_with fail
 clear c3 c4 c5 d0 d1 d2 d3 d4 r0 r1 r2 x3 x2 x1
 have HLT:=A0 (fun W hx=>letters_ref_any C (L.drop i) inp a' c' W (HSD.out W (HL.out.kp ((HK1.out.trans (Kc.of hx (A3 _)))))) (by rw [List.length_drop];omega) (HBD.out.drop i) hC (HD.out.drop i) (show inp.size≤100 by have:=BU.1 HF.out;simp only at this;omega))
 refine Ag (by kernel_rfl) (Vs [vq (.pointer (some ⟨gt,0,none⟩)),vq (.pointer (some ⟨gt,0,none⟩)),vq (.pointer (some ⟨gt,3,none⟩)),vq (.slice aL L.length cL),vq (.int .i64 (i:Int)),vq (.slice a' (L.drop i).length c'),vq (.pointer (some ⟨gs,2,none⟩)),vq (.string inp),vq (.int .i64 (Da (letsC (L.drop i) (bts inp)))),vq (.int .i64 (Da (letsC (L.drop i) (bts inp))))]) (fun W=>Ext w1 W) 102 (by kernel_rfl) rfl ?hVx ?hSx ?hS (Ao ?hop) ?hfin
 case hop =>
  refine ⟨?_,?_,?_,?_,?_,?_,?_,?_,?k8,?_,trivial⟩
  all_goals
   intro A W hsz hS hdep hbase
   have hk9:Kc w1 W:=Kc.of hS (A3 _)
   obtain ⟨c3,c4,c5⟩:=IM.cells (hk9.block _ _ _ _ HT1.out)
   obtain ⟨d0,d1,d2,d3,d4⟩:=Az (hk9.block _ _ _ _ HC1.out)
   clear hk9
   have hsl:=HSL.out
   have h0:A.tmps.getD 0 undef=.pointer (some ⟨gt,0,none⟩):=hbase 0 (by kernel_rfl)
   have h2:A.tmps.getD 2 undef=.int .i64 (i:Int):=hbase 2 (by kernel_rfl)
   have h5:A.tmps.getD 5 undef=.pointer (some ⟨gs,0,none⟩):=hbase 5 (by kernel_rfl)
   clear hbase
   simp [Aa,Region.binds,Vs,vq] at hdep
  case k8 =>
   refine AZ rfl (.inr ⟨22,#[.slice a' (L.drop i).length c',.string inp],W,by (clear hsz hS;simp [go_sem,Act.eval, *]),?_⟩)
   refine (HLT.out W hS).mono ?_
   rintro e w' ⟨rfl,hb⟩
   exact ⟨_,rfl,rfl,hb⟩
  all_goals first
   | (refine AZ rfl (.inl ⟨_,W,?_,rfl,Ext.refl _⟩);clear hsz hS;simp [go_sem,Act.eval, *];done)
 case hVx=>exact Ac (by simp only [AU,List.not_mem_nil,or_false,forall_eq_or_imp,forall_eq];and_intros <;> exact AY _)
 case hSx=>exact fun W W' h hx=>Ext.trans h hx
 case hS=>exact below_drewN (Below.refl _ _) _
 case hfin
      =>
  intro A W hsz hdf hS hv hbase
  obtain ⟨x,hx,hA⟩:=Af [28,29,30,31,32,33,34,35,36,10] (by kernel_rfl) hsz hdf hbase
  have e10:x 10=.int .i64 (Da (letsC (L.drop i) (bts inp))):=(hx 10).trans (hv 9 (by decide))
  rw [hA]
  simp only [List.foldl]
  rw [e10]
  clear e10
  simp only [Act.put,List.setIfInBounds_toArray,List.set_cons_succ,List.set_cons_zero]
  clear hA hx hv hbase hsz hdf
  have HS2:Hid (Ext w1 W):=hS
  have hk9:Kc w1 W:=Kc.of hS (A3 _)
  have HK2:Hid (Kc w1 W):=hk9
  obtain ⟨d0,d1,d2,d3,d4⟩:=Az (hk9.block _ _ _ _ HC1.out)
  clear hk9 hS
  have h64:inp.size≤4:=by have:=BU.1 HF.out;simp only at this;omega
  have hcr:cr≤1000:=by have:=BU.1 HF.out;simp only at this;omega
  go_wp2_with fail
  clear d0 d1 d2 d3 d4
  obtain ⟨w4,hw4⟩:∃ w4:World,w4=W:=⟨W,rfl⟩
  rw [← hw4]
  have HX4:Hid (Ext w1 w4):=by show Ext _ _;rw [hw4];exact HS2.out
  clear hw4
  cases hn:look (M i) (m,k) with
  | none =>
   have HNS:Hid (Eo R L (bts X) M i (m,k) ⟨(m:Int),(m2:Int),inp,out,(cr:Int)⟩):=fun c t' d hc=>by rw [hn] at hc;cases hc
   have hco:Da none=1000000000:=rfl
   rw [hco]
   clear hn hco
   refine Ag (by kernel_rfl) (Vs [vq (.int .i64 1000000000),vq (.int .i64 1000000000),vq (.bool true),vq (.bool true),vq (undef),vq (undef),vq (undef),vq (.bool true),vq (.bool true),vq (undef),vq (undef),vq (undef),vq (undef),vq (undef),vq (undef),vq (undef),vq (.bool true),vq (.bool true),vq (undef),vq (undef),vq (undef),vq (undef),vq (undef),vq (undef),vq (undef),vq (undef),vq (undef),vq (undef),vq (.bool true)]) (fun W=>Ext w1 W) 102 (by kernel_rfl) rfl ?hVx ?hSx ?hS (Ao ?hop) ?hfin
   case hop =>
    refine ⟨?_,?k1,?_,?_,?_,?_,?_,?_,?_,?_,?_,?_,?_,?_,?_,?_,?_,?_,?_,?_,?_,?_,?_,?_,?_,?_,?_,?_,?_,trivial⟩
    all_goals
     intro A W hsz hS hdep hbase
     have hk9:Kc w1 W:=Kc.of hS (A3 _)
     obtain ⟨c3,c4,c5⟩:=IM.cells (hk9.block _ _ _ _ HT1.out)
     obtain ⟨d0,d1,d2,d3,d4⟩:=Az (hk9.block _ _ _ _ HC1.out)
     clear hk9
     have h0:A.tmps.getD 0 undef=.pointer (some ⟨gt,0,none⟩):=hbase 0 (by kernel_rfl)
     have h3:A.tmps.getD 3 undef=.int .i64 (k:Int):=hbase 3 (by kernel_rfl)
     have h5:A.tmps.getD 5 undef=.pointer (some ⟨gs,0,none⟩):=hbase 5 (by kernel_rfl)
     have h9:A.tmps.getD 9 undef=.int .i64 1000000000:=hbase 9 (by kernel_rfl)
     have h10:A.tmps.getD 10 undef=.int .i64 (Da (letsC (L.drop i) (bts inp))):=hbase 10 (by kernel_rfl)
     have h11:A.tmps.getD 11 undef=.int .i64 ((k:Int)+(out.size:Int)):=hbase 11 (by kernel_rfl)
     clear hbase
     simp [Aa,Region.binds,Vs,vq] at hdep
    case k1 =>
     refine AZ rfl (.inr ⟨38,#[],W,by (clear hsz hS;simp [go_sem,Act.eval, *]),?_⟩)
     refine (Bm W).mono ?_
     rintro e w' ⟨rfl,rfl⟩
     exact ⟨_,rfl,rfl,Ext.refl _⟩
    all_goals first
     | (refine AZ rfl (.inl ⟨_,W,?_,rfl,Ext.refl _⟩);clear hsz hS;simp [go_sem,Act.eval, *];done)
     | exact Av (j:=3) (d:=45) (b:=true) rfl (by kernel_rfl) (by simp only [hdep]) rfl rfl
     | exact Av (j:=8) (d:=50) (b:=true) rfl (by kernel_rfl) (by simp only [hdep]) rfl rfl
     | exact Av (j:=17) (d:=59) (b:=true) rfl (by kernel_rfl) (by simp only [hdep]) rfl rfl
   case hVx=>exact Ac (by simp only [AU,List.not_mem_nil,or_false,forall_eq_or_imp,forall_eq];and_intros <;> exact AY _)
   case hSx=>exact fun W W' h hx=>Ext.trans h hx
   case hS=>exact HX4.out
   case hfin =>
    intro A W hsz hdf hS hv hbase
    obtain ⟨x,hx,hA⟩:=Af [42,43,44,45,46,47,48,49,50,51,52,53,54,55,56,57,58,59,60,61,62,63,64,65,66,67,68,69,70] (by kernel_rfl) hsz hdf hbase
    have e70:x 70=.bool true:=(hx 70).trans (hv 28 (by decide))
    rw [hA]
    simp only [List.foldl]
    rw [e70]
    clear e70
    simp only [Act.put,List.setIfInBounds_toArray,List.set_cons_succ,List.set_cons_zero]
    clear hA hx hv hbase hsz hdf
    have HS5:Hid (Ext w1 W):=hS
    clear hS
    go_wp2_with fail
    go_ret
    exact .inl ⟨rfl,Ext.trans HX1.out HS5.out,HNS.out⟩
  | some c =>
   have hcb:=HBN.out c hn
   have HLK:=A0 hn
   have hco:Da (some c)=(c:Int):=rfl
   rw [hco]
   have hne1:((c:Int) == 1000000000)=false:=by simp only [beq_eq_false_iff_ne,ne_eq];omega
   clear hn hco
   cases hlc:letsC (L.drop i) (bts inp) with
   | none =>
    have HNS:Hid (Eo R L (bts X) M i (m,k) ⟨(m:Int),(m2:Int),inp,out,(cr:Int)⟩):=fun c t' d hc hst=>by
     obtain ⟨_,_,_,k',n',h1,_⟩:=hst
     simp only at h1
     rw [hlc] at h1;cases h1
    have hco:Da none=1000000000:=rfl
    rw [hco]
    clear hlc hco
    refine Ag (by kernel_rfl) (Vs [vq (.int .i64 (c:Int)),vq (.int .i64 1000000000),vq (.bool false),vq (.bool false),vq (.int .i64 1000000000),vq (.int .i64 1000000000),vq (.bool true),vq (.bool true),vq (.bool true),vq (undef),vq (undef),vq (undef),vq (undef),vq (undef),vq (undef),vq (undef),vq (.bool true),vq (.bool true),vq (undef),vq (undef),vq (undef),vq (undef),vq (undef),vq (undef),vq (undef),vq (undef),vq (undef),vq (undef),vq (.bool true)]) (fun W=>Ext w1 W) 102 (by kernel_rfl) rfl ?hVx ?hSx ?hS (Ao ?hop) ?hfin
    case hop =>
     refine ⟨?_,?k1,?_,?_,?_,?k5,?_,?_,?_,?_,?_,?_,?_,?_,?_,?_,?_,?_,?_,?_,?_,?_,?_,?_,?_,?_,?_,?_,?_,trivial⟩
     all_goals
      intro A W hsz hS hdep hbase
      have hk9:Kc w1 W:=Kc.of hS (A3 _)
      obtain ⟨c3,c4,c5⟩:=IM.cells (hk9.block _ _ _ _ HT1.out)
      obtain ⟨d0,d1,d2,d3,d4⟩:=Az (hk9.block _ _ _ _ HC1.out)
      clear hk9
      have h0:A.tmps.getD 0 undef=.pointer (some ⟨gt,0,none⟩):=hbase 0 (by kernel_rfl)
      have h3:A.tmps.getD 3 undef=.int .i64 (k:Int):=hbase 3 (by kernel_rfl)
      have h5:A.tmps.getD 5 undef=.pointer (some ⟨gs,0,none⟩):=hbase 5 (by kernel_rfl)
      have h9:A.tmps.getD 9 undef=.int .i64 (c:Int):=hbase 9 (by kernel_rfl)
      have h10:A.tmps.getD 10 undef=.int .i64 1000000000:=hbase 10 (by kernel_rfl)
      have h11:A.tmps.getD 11 undef=.int .i64 ((k:Int)+(out.size:Int)):=hbase 11 (by kernel_rfl)
      clear hbase
      simp [Aa,Region.binds,Vs,vq] at hdep
     case k1 =>
      refine AZ rfl (.inr ⟨38,#[],W,by (clear hsz hS;simp [go_sem,Act.eval, *]),?_⟩)
      refine (Bm W).mono ?_
      rintro e w' ⟨rfl,rfl⟩
      exact ⟨_,rfl,rfl,Ext.refl _⟩
     case k5 =>
      refine Ad (j:=3) (d:=45) (b:=false) rfl (by kernel_rfl) (by simp only [hdep]) rfl (.inr ⟨38,#[],W,by (clear hsz hS;simp [go_sem,Act.eval, *]),?_⟩)
      refine (Bm W).mono ?_
      rintro e w' ⟨rfl,rfl⟩
      exact ⟨_,rfl,rfl,Ext.refl _⟩
     all_goals first
      | (refine AZ rfl (.inl ⟨_,W,?_,rfl,Ext.refl _⟩);clear hsz hS;simp [go_sem,Act.eval, *];done)
      | (refine Ad (j:=3) (d:=45) (b:=false) rfl (by kernel_rfl) (by simp only [hdep]) rfl (.inl ⟨_,W,?_,rfl,Ext.refl _⟩);clear hsz hS;simp [go_sem,Act.eval, *];done)
      | exact Av (j:=8) (d:=50) (b:=true) rfl (by kernel_rfl) (by simp only [hdep]) rfl rfl
      | exact Av (j:=17) (d:=59) (b:=true) rfl (by kernel_rfl) (by simp only [hdep]) rfl rfl
    case hVx=>exact Ac (by simp only [AU,List.not_mem_nil,or_false,forall_eq_or_imp,forall_eq];and_intros <;> exact AY _)
    case hSx=>exact fun W W' h hx=>Ext.trans h hx
    case hS=>exact HX4.out
    case hfin =>
     intro A W hsz hdf hS hv hbase
     obtain ⟨x,hx,hA⟩:=Af [42,43,44,45,46,47,48,49,50,51,52,53,54,55,56,57,58,59,60,61,62,63,64,65,66,67,68,69,70] (by kernel_rfl) hsz hdf hbase
     have e70:x 70=.bool true:=(hx 70).trans (hv 28 (by decide))
     rw [hA]
     simp only [List.foldl]
     rw [e70]
     clear e70
     simp only [Act.put,List.setIfInBounds_toArray,List.set_cons_succ,List.set_cons_zero]
     clear hA hx hv hbase hsz hdf
     have HS5:Hid (Ext w1 W):=hS
     clear hS
     go_wp2_with fail
     go_ret
     exact .inl ⟨rfl,Ext.trans HX1.out HS5.out,HNS.out⟩
   | some lc
        =>
    have hlb:lc≤4*1000000:=by
     have h1:=letsC_le (HBD.out.drop i) hlc
     rw [BB] at h1
     exact A8 h1 (Nat.mul_le_mul h64 hC)
    have hij:i+inp.size≤L.length:=by
     have h1:=Dq hlc
     rw [BB,List.length_drop] at h1
     omega
    have HLC:=A0 hlc
    have hco:Da (some lc)=(lc:Int):=rfl
    rw [hco]
    have hne2:((lc:Int) == 1000000000)=false:=by simp only [beq_eq_false_iff_ne,ne_eq];omega
    clear hlc hco
    by_cases hek:X.size<k+out.size
    ·
     have HNS:Hid (Eo R L (bts X) M i (m,k) ⟨(m:Int),(m2:Int),inp,out,(cr:Int)⟩):=fun c t' d hc hst=>by
      obtain ⟨_,_,_,k',n',h1,h2,_⟩:=hst
      simp only at h2
      have h3:=Rz (by rw [BB];exact hk) h2
      have h4:=MK h2
      rw [BB] at h3
      omega
     have hekI:(X.size:Int)<(k:Int)+(out.size:Int):=by omega
     refine Ag (by kernel_rfl) (Vs [vq (.int .i64 (c:Int)),vq (.int .i64 1000000000),vq (.bool false),vq (.bool false),vq (.int .i64 (lc:Int)),vq (.int .i64 1000000000),vq (.bool false),vq (.bool false),vq (.bool false),vq (.int .i64 ((k:Int)+(out.size:Int))),vq (.pointer (some ⟨gt,0,none⟩)),vq (.pointer (some ⟨gt,0,none⟩)),vq (.pointer (some ⟨gt,4,none⟩)),vq (.string X),vq (.int .i64 (X.size:Int)),vq (.bool true),vq (.bool true),vq (.bool true),vq (undef),vq (undef),vq (undef),vq (undef),vq (undef),vq (undef),vq (undef),vq (undef),vq (undef),vq (undef),vq (.bool true)]) (fun W=>Ext w1 W) 102 (by kernel_rfl) rfl ?hVx ?hSx ?hS (Ao ?hop) ?hfin
     case hop =>
      refine ⟨?_,?k1,?_,?_,?_,?k5,?_,?_,?_,?_,?_,?_,?_,?_,?_,?_,?_,?_,?_,?_,?_,?_,?_,?_,?_,?_,?_,?_,?_,trivial⟩
      all_goals
       intro A W hsz hS hdep hbase
       have hk9:Kc w1 W:=Kc.of hS (A3 _)
       obtain ⟨c3,c4,c5⟩:=IM.cells (hk9.block _ _ _ _ HT1.out)
       obtain ⟨d0,d1,d2,d3,d4⟩:=Az (hk9.block _ _ _ _ HC1.out)
       clear hk9
       have h0:A.tmps.getD 0 undef=.pointer (some ⟨gt,0,none⟩):=hbase 0 (by kernel_rfl)
       have h3:A.tmps.getD 3 undef=.int .i64 (k:Int):=hbase 3 (by kernel_rfl)
       have h5:A.tmps.getD 5 undef=.pointer (some ⟨gs,0,none⟩):=hbase 5 (by kernel_rfl)
       have h9:A.tmps.getD 9 undef=.int .i64 (c:Int):=hbase 9 (by kernel_rfl)
       have h10:A.tmps.getD 10 undef=.int .i64 (lc:Int):=hbase 10 (by kernel_rfl)
       have h11:A.tmps.getD 11 undef=.int .i64 ((k:Int)+(out.size:Int)):=hbase 11 (by kernel_rfl)
       clear hbase
       simp [Aa,Region.binds,Vs,vq] at hdep
      case k1 =>
       refine AZ rfl (.inr ⟨38,#[],W,by (clear hsz hS;simp [go_sem,Act.eval, *]),?_⟩)
       refine (Bm W).mono ?_
       rintro e w' ⟨rfl,rfl⟩
       exact ⟨_,rfl,rfl,Ext.refl _⟩
      case k5 =>
       refine Ad (j:=3) (d:=45) (b:=false) rfl (by kernel_rfl) (by simp only [hdep]) rfl (.inr ⟨38,#[],W,by (clear hsz hS;simp [go_sem,Act.eval, *]),?_⟩)
       refine (Bm W).mono ?_
       rintro e w' ⟨rfl,rfl⟩
       exact ⟨_,rfl,rfl,Ext.refl _⟩
      all_goals first
       | (refine AZ rfl (.inl ⟨_,W,?_,rfl,Ext.refl _⟩);clear hsz hS;simp [go_sem,Act.eval, *];done)
       | (refine Ad (j:=3) (d:=45) (b:=false) rfl (by kernel_rfl) (by simp only [hdep]) rfl (.inl ⟨_,W,?_,rfl,Ext.refl _⟩);clear hsz hS;simp [go_sem,Act.eval, *];done)
       | (refine Ad (j:=8) (d:=50) (b:=false) rfl (by kernel_rfl) (by simp only [hdep]) rfl (.inl ⟨_,W,?_,rfl,Ext.refl _⟩);clear hsz hS;simp [go_sem,Act.eval, *];done)
       | exact Av (j:=17) (d:=59) (b:=true) rfl (by kernel_rfl) (by simp only [hdep]) rfl rfl
     case hVx=>exact Ac (by simp only [AU,List.not_mem_nil,or_false,forall_eq_or_imp,forall_eq];and_intros <;> exact AY _)
     case hSx=>exact fun W W' h hx=>Ext.trans h hx
     case hS=>exact HX4.out
     case hfin =>
      intro A W hsz hdf hS hv hbase
      obtain ⟨x,hx,hA⟩:=Af [42,43,44,45,46,47,48,49,50,51,52,53,54,55,56,57,58,59,60,61,62,63,64,65,66,67,68,69,70] (by kernel_rfl) hsz hdf hbase
      have e70:x 70=.bool true:=(hx 70).trans (hv 28 (by decide))
      rw [hA]
      simp only [List.foldl]
      rw [e70]
      clear e70
      simp only [Act.put,List.setIfInBounds_toArray,List.set_cons_succ,List.set_cons_zero]
      clear hA hx hv hbase hsz hdf
      have HS5:Hid (Ext w1 W):=hS
      clear hS
      go_wp2_with fail
      go_ret
      exact .inl ⟨rfl,Ext.trans HX1.out HS5.out,HNS.out⟩
    ·
     have hekI:¬ (X.size:Int)<(k:Int)+(out.size:Int):=by omega
     have hsx:=S1 X k (k+out.size) (Nat.le_add_right _ _) (by omega)
     rw [Int.natCast_add] at hsx
     have HSX:=A0 hsx
     obtain ⟨y,hy⟩:∃ y,X.extract k (k+out.size)=y:=⟨_,rfl⟩
     have HY:=A0 hy
     rw [hy] at HSX
     clear hsx hy
     by_cases hyo:y=out
     ·
      have HFO:Hid (Ck (bts X) k (bts out)=some (k+out.size)):=IF.1 (HY.out.trans hyo)
      have hyb:(y.toList == out.toList)=true:=by rw [Ee];exact decide_eq_true hyo
      clear hyo
      refine Ag (by kernel_rfl) (Vs [vq (.int .i64 (c:Int)),vq (.int .i64 1000000000),vq (.bool false),vq (.bool false),vq (.int .i64 (lc:Int)),vq (.int .i64 1000000000),vq (.bool false),vq (.bool false),vq (.bool false),vq (.int .i64 ((k:Int)+(out.size:Int))),vq (.pointer (some ⟨gt,0,none⟩)),vq (.pointer (some ⟨gt,0,none⟩)),vq (.pointer (some ⟨gt,4,none⟩)),vq (.string X),vq (.int .i64 (X.size:Int)),vq (.bool false),vq (.bool false),vq (.bool false),vq (.pointer (some ⟨gt,0,none⟩)),vq (.pointer (some ⟨gt,0,none⟩)),vq (.pointer (some ⟨gt,4,none⟩)),vq (.string X),vq (.int .i64 (k:Int)),vq (.int .i64 ((k:Int)+(out.size:Int))),vq (.string y),vq (.pointer (some ⟨gs,3,none⟩)),vq (.string out),vq (.bool false),vq (.bool false)]) (fun W=>Ext w1 W) 102 (by kernel_rfl) rfl ?hVx ?hSx ?hS (Ao ?hop) ?hfin
      case hop =>
       refine ⟨?_,?k1,?_,?_,?_,?k5,?_,?_,?_,?_,?_,?_,?_,?_,?_,?_,?_,?_,?_,?_,?_,?_,?_,?_,?_,?_,?_,?_,?_,trivial⟩
       all_goals
        intro A W hsz hS hdep hbase
        have hk9:Kc w1 W:=Kc.of hS (A3 _)
        obtain ⟨c3,c4,c5⟩:=IM.cells (hk9.block _ _ _ _ HT1.out)
        obtain ⟨d0,d1,d2,d3,d4⟩:=Az (hk9.block _ _ _ _ HC1.out)
        clear hk9
        have hsx:=HSX.out
        have h0:A.tmps.getD 0 undef=.pointer (some ⟨gt,0,none⟩):=hbase 0 (by kernel_rfl)
        have h3:A.tmps.getD 3 undef=.int .i64 (k:Int):=hbase 3 (by kernel_rfl)
        have h5:A.tmps.getD 5 undef=.pointer (some ⟨gs,0,none⟩):=hbase 5 (by kernel_rfl)
        have h9:A.tmps.getD 9 undef=.int .i64 (c:Int):=hbase 9 (by kernel_rfl)
        have h10:A.tmps.getD 10 undef=.int .i64 (lc:Int):=hbase 10 (by kernel_rfl)
        have h11:A.tmps.getD 11 undef=.int .i64 ((k:Int)+(out.size:Int)):=hbase 11 (by kernel_rfl)
        clear hbase
        simp [Aa,Region.binds,Vs,vq] at hdep
       case k1 =>
        refine AZ rfl (.inr ⟨38,#[],W,by (clear hsz hS;simp [go_sem,Act.eval, *]),?_⟩)
        refine (Bm W).mono ?_
        rintro e w' ⟨rfl,rfl⟩
        exact ⟨_,rfl,rfl,Ext.refl _⟩
       case k5 =>
        refine Ad (j:=3) (d:=45) (b:=false) rfl (by kernel_rfl) (by simp only [hdep]) rfl (.inr ⟨38,#[],W,by (clear hsz hS;simp [go_sem,Act.eval, *]),?_⟩)
        refine (Bm W).mono ?_
        rintro e w' ⟨rfl,rfl⟩
        exact ⟨_,rfl,rfl,Ext.refl _⟩
       all_goals first
        | (refine AZ rfl (.inl ⟨_,W,?_,rfl,Ext.refl _⟩);clear hsz hS;simp [go_sem,Act.eval, *];done)
        | (refine Ad (j:=3) (d:=45) (b:=false) rfl (by kernel_rfl) (by simp only [hdep]) rfl (.inl ⟨_,W,?_,rfl,Ext.refl _⟩);clear hsz hS;simp [go_sem,Act.eval, *];done)
        | (refine Ad (j:=8) (d:=50) (b:=false) rfl (by kernel_rfl) (by simp only [hdep]) rfl (.inl ⟨_,W,?_,rfl,Ext.refl _⟩);clear hsz hS;simp [go_sem,Act.eval, *];done)
        | (refine Ad (j:=17) (d:=59) (b:=false) rfl (by kernel_rfl) (by simp only [hdep]) rfl (.inl ⟨_,W,?_,rfl,Ext.refl _⟩);clear hsz hS;simp [go_sem,Act.eval, *];done)
      case hVx=>exact Ac (by simp only [AU,List.not_mem_nil,or_false,forall_eq_or_imp,forall_eq];and_intros <;> exact AY _)
      case hSx=>exact fun W W' h hx=>Ext.trans h hx
      case hS=>exact HX4.out
      case hfin =>
       intro A W hsz hdf hS hv hbase
       obtain ⟨x,hx,hA⟩:=Af [42,43,44,45,46,47,48,49,50,51,52,53,54,55,56,57,58,59,60,61,62,63,64,65,66,67,68,69,70] (by kernel_rfl) hsz hdf hbase
       have e70:x 70=.bool false:=(hx 70).trans (hv 28 (by decide))
       rw [hA]
       simp only [List.foldl]
       rw [e70]
       clear e70
       simp only [Act.put,List.setIfInBounds_toArray,List.set_cons_succ,List.set_cons_zero]
       clear hA hx hv hbase hsz hdf
       have HS5:Hid (Ext w1 W):=hS
       have hk9:Kc w1 W:=Kc.of hS (A3 _)
       have HST:Hid (Fz R L (Ck (bts X)) i (m,k) ⟨(m:Int),(m2:Int),inp,out,(cr:Int)⟩ (m2,k+out.size) (cr+lc)):=⟨HR.out,HF.out,rfl,lc,k+out.size,HLC.out,HFO.out,rfl,rfl⟩
       have HUQ:Hid (∀ c' t' d,look (M i) (m,k)=some c'→Fz R L (Ck (bts X)) i (m,k) ⟨(m:Int),(m2:Int),inp,out,(cr:Int)⟩ t' d→c'=c∧t'=(m2,k+out.size)∧d=cr+lc):=fun c' t' d hc hst=>by
        obtain ⟨_,_,_,k',n',h1,h2,rfl,rfl⟩:=hst
        rw [HLK.out] at hc
        simp only at h1 h2
        rw [HLC.out] at h1
        rw [HFO.out] at h2
        cases hc;cases h1;cases h2
        exact ⟨rfl,rfl,rfl⟩
       have hj1:i+inp.size<L.length+1:=by omega
       have he1:k+out.size<X.size+1:=by omega
       have HTW:=A0 (HTB1.out.kc hk9)
       obtain ⟨c3,c4,c5⟩:=IM.cells (hk9.block _ _ _ _ HT1.out)
       obtain ⟨d0,d1,d2,d3,d4⟩:=Az (hk9.block _ _ _ _ HC1.out)
       have r0:=HTW.out.r0 _ hj1
       have r1:=HTW.out.r1 _ m2 hj1 hm2
       have r2:=HTW.out.at hj1 hm2 he1
       obtain ⟨csb,hcsb⟩:=Ap (HTW.out.own _ m2 hj1 hm2) (g:=gb (i+inp.size) m2) rfl
       have hfz:W.frozen? ⟨gb (i+inp.size) m2,k+out.size,none⟩=false:=by simp [World.frozen?,hcsb]
       have x3:=L5 g0 (L.length+1) c0 _ hj1
       have x2:=L6 (gp (i+inp.size)) Mo (cp (i+inp.size)) m2 hm2
       have x1:=DT (gb (i+inp.size) m2) (X.size+1) (ck (i+inp.size) m2) _ he1
       rw [Int.natCast_add] at x3 x1
       obtain ⟨o,ho⟩:∃ o,look (M (i+inp.size)) (m2,k+out.size)=o:=⟨_,rfl⟩
       rw [ho,L4] at r2
       have HLO:=A0 ho
       obtain ⟨j,hj⟩:∃ j,i+inp.size=j:=⟨_,rfl⟩
       rw [hj] at r0 r1 r2 x3 x2 x1 hfz HLO
       obtain ⟨e2,he2⟩:∃ e2,k+out.size=e2:=⟨_,rfl⟩
       have HJE:=A0 hj;have HEE:=A0 he2
       rw [he2] at r2 hfz HLO HST HUQ x1
       clear hcsb ho hj he2 hk9 hS
       obtain ⟨tn,htn⟩:∃ tn,EV o=tn:=⟨_,rfl⟩
       rw [htn] at r2
       have HTN:=A0 htn
       clear htn
       have htnb:tn≤1000000000∨True:=.inr trivial
       by_cases hge:tn≤c+(cr+lc)
       ·
        have HNS:Hid (Eo R L (bts X) M i (m,k) ⟨(m:Int),(m2:Int),inp,out,(cr:Int)⟩):=fun c' t' d hc hst=>by
         obtain ⟨rfl,rfl,rfl⟩:=HUQ.out c' t' d hc hst
         show ∃ c'',look (M (i+inp.size)) _=some c''∧_
         rw [HJE.out,HLO.out]
         have h:=HTN.out
         cases o with
         | none=>simp [EV] at h;omega
         | some x=>exact ⟨x,rfl,by simp [EV] at h;omega⟩
        have hgeI:(tn:Int)≤(c:Int)+(lc:Int)+(cr:Int):=by omega
        clear hge
        go_wp2_with fail
        go_quiet (fail)
        go_wp2_with fail
        go_ret
        exact .inl ⟨rfl,below_drewN (Ext.trans HX1.out HS5.out) _,HNS.out⟩
       ·
        have hgeI:¬ (tn:Int)≤(c:Int)+(lc:Int)+(cr:Int):=by omega
        clear hge
        go_wp2_with fail
        go_quiet (fail)
        go_wp2_with fail
        go_ret
        refine .inr ⟨rfl,c,e2,cr+lc,W.drewN nq,HLK.out,HST.out,?_,fun x hx=>?_,below_drewN (Ext.trans HX1.out HS5.out) _,?_⟩
        · rw [BB];have:=HEE.out;omega
        ·
         have hx2:look (M (i+inp.size)) (m2,e2)=some x:=hx
         rw [HJE.out,HLO.out] at hx2
         have h:=HTN.out
         rw [hx2] at h
         simp [EV] at h
         omega
        ·
         show _=(W.drewN nq).setCell ⟨gb (i+inp.size) m2,e2,none⟩ _
         rw [HJE.out,show ((c+(cr+lc):Nat):Int)=(c:Int)+(lc:Int)+(cr:Int) by omega]
     ·
      have HNS:Hid (Eo R L (bts X) M i (m,k) ⟨(m:Int),(m2:Int),inp,out,(cr:Int)⟩):=fun c t' d hc hst=>by
       obtain ⟨_,_,_,k',n',h1,h2,_⟩:=hst
       simp only at h2
       have h4:=MK h2
       rw [h4] at h2
       exact absurd (HY.out.symm.trans (IF.2 h2)) hyo
      have hyb:(y.toList == out.toList)=false:=by rw [Ee];exact decide_eq_false hyo
      clear hyo
      refine Ag (by kernel_rfl) (Vs [vq (.int .i64 (c:Int)),vq (.int .i64 1000000000),vq (.bool false),vq (.bool false),vq (.int .i64 (lc:Int)),vq (.int .i64 1000000000),vq (.bool false),vq (.bool false),vq (.bool false),vq (.int .i64 ((k:Int)+(out.size:Int))),vq (.pointer (some ⟨gt,0,none⟩)),vq (.pointer (some ⟨gt,0,none⟩)),vq (.pointer (some ⟨gt,4,none⟩)),vq (.string X),vq (.int .i64 (X.size:Int)),vq (.bool false),vq (.bool false),vq (.bool false),vq (.pointer (some ⟨gt,0,none⟩)),vq (.pointer (some ⟨gt,0,none⟩)),vq (.pointer (some ⟨gt,4,none⟩)),vq (.string X),vq (.int .i64 (k:Int)),vq (.int .i64 ((k:Int)+(out.size:Int))),vq (.string y),vq (.pointer (some ⟨gs,3,none⟩)),vq (.string out),vq (.bool true),vq (.bool true)]) (fun W=>Ext w1 W) 102 (by kernel_rfl) rfl ?hVx ?hSx ?hS (Ao ?hop) ?hfin
      case hop =>
       refine ⟨?_,?k1,?_,?_,?_,?k5,?_,?_,?_,?_,?_,?_,?_,?_,?_,?_,?_,?_,?_,?_,?_,?_,?_,?_,?_,?_,?_,?_,?_,trivial⟩
       all_goals
        intro A W hsz hS hdep hbase
        have hk9:Kc w1 W:=Kc.of hS (A3 _)
        obtain ⟨c3,c4,c5⟩:=IM.cells (hk9.block _ _ _ _ HT1.out)
        obtain ⟨d0,d1,d2,d3,d4⟩:=Az (hk9.block _ _ _ _ HC1.out)
        clear hk9
        have hsx:=HSX.out
        have h0:A.tmps.getD 0 undef=.pointer (some ⟨gt,0,none⟩):=hbase 0 (by kernel_rfl)
        have h3:A.tmps.getD 3 undef=.int .i64 (k:Int):=hbase 3 (by kernel_rfl)
        have h5:A.tmps.getD 5 undef=.pointer (some ⟨gs,0,none⟩):=hbase 5 (by kernel_rfl)
        have h9:A.tmps.getD 9 undef=.int .i64 (c:Int):=hbase 9 (by kernel_rfl)
        have h10:A.tmps.getD 10 undef=.int .i64 (lc:Int):=hbase 10 (by kernel_rfl)
        have h11:A.tmps.getD 11 undef=.int .i64 ((k:Int)+(out.size:Int)):=hbase 11 (by kernel_rfl)
        clear hbase
        simp [Aa,Region.binds,Vs,vq] at hdep
       case k1 =>
        refine AZ rfl (.inr ⟨38,#[],W,by (clear hsz hS;simp [go_sem,Act.eval, *]),?_⟩)
        refine (Bm W).mono ?_
        rintro e w' ⟨rfl,rfl⟩
        exact ⟨_,rfl,rfl,Ext.refl _⟩
       case k5 =>
        refine Ad (j:=3) (d:=45) (b:=false) rfl (by kernel_rfl) (by simp only [hdep]) rfl (.inr ⟨38,#[],W,by (clear hsz hS;simp [go_sem,Act.eval, *]),?_⟩)
        refine (Bm W).mono ?_
        rintro e w' ⟨rfl,rfl⟩
        exact ⟨_,rfl,rfl,Ext.refl _⟩
       all_goals first
        | (refine AZ rfl (.inl ⟨_,W,?_,rfl,Ext.refl _⟩);clear hsz hS;simp [go_sem,Act.eval, *];done)
        | (refine Ad (j:=3) (d:=45) (b:=false) rfl (by kernel_rfl) (by simp only [hdep]) rfl (.inl ⟨_,W,?_,rfl,Ext.refl _⟩);clear hsz hS;simp [go_sem,Act.eval, *];done)
        | (refine Ad (j:=8) (d:=50) (b:=false) rfl (by kernel_rfl) (by simp only [hdep]) rfl (.inl ⟨_,W,?_,rfl,Ext.refl _⟩);clear hsz hS;simp [go_sem,Act.eval, *];done)
        | (refine Ad (j:=17) (d:=59) (b:=false) rfl (by kernel_rfl) (by simp only [hdep]) rfl (.inl ⟨_,W,?_,rfl,Ext.refl _⟩);clear hsz hS;simp [go_sem,Act.eval, *];done)
      case hVx=>exact Ac (by simp only [AU,List.not_mem_nil,or_false,forall_eq_or_imp,forall_eq];and_intros <;> exact AY _)
      case hSx=>exact fun W W' h hx=>Ext.trans h hx
      case hS=>exact HX4.out
      case hfin =>
       intro A W hsz hdf hS hv hbase
       obtain ⟨x,hx,hA⟩:=Af [42,43,44,45,46,47,48,49,50,51,52,53,54,55,56,57,58,59,60,61,62,63,64,65,66,67,68,69,70] (by kernel_rfl) hsz hdf hbase
       have e70:x 70=.bool true:=(hx 70).trans (hv 28 (by decide))
       rw [hA]
       simp only [List.foldl]
       rw [e70]
       clear e70
       simp only [Act.put,List.setIfInBounds_toArray,List.set_cons_succ,List.set_cons_zero]
       clear hA hx hv hbase hsz hdf
       have HS5:Hid (Ext w1 W):=hS
       clear hS
       go_wp2_with fail
       go_ret
       exact .inl ⟨rfl,Ext.trans HX1.out HS5.out,HNS.out⟩
end Go.Proofs.YthjmdgejnakcmaaGreatDoor
