/- Texts that the claims share: K14, K16, K17, K21, K22, K23, K24, K26, K25, K27, K28, K29, K30, K15, K18, K19. -/
import Derived.Deep.QuietTactic
import Derived.BigQuiet
import Derived.Test.YthjmdgejnakcmaaDoorMK4
import Derived.Test.YthjmdgejnakcmaaDoorMK3
import Derived.Test.YthjmdgejnakcmaaDoorMK2
import Derived.Test.YthjmdgejnakcmaaDoorMD4
import Derived.Test.YthjmdgejnakcmaaDoorMD1
namespace Go.Proofs.YthjmdgejnakcmaaDoor
open Go.RowKit Go.WideShapes Fl
set_option linter.unusedVariables false
set_option linter.unusedSimpArgs false
def svS (x:SV):Value:=.slice x.a x.n x.c
def rowFnds:RowT SV:=⟨46,43,1,24,.slice none 0 0,fun x=>[.slice x.a x.n x.c]⟩
theorem rowFnds_ok:rowFnds.Ok:=⟨Tryd.underlying46,by kernel_rfl,rfl,by decide,fun _=>rfl,fun x u hu=>by obtain rfl:u=.slice x.a x.n x.c:=(List.mem_singleton.1 hu);rfl,by decide⟩
theorem OwnG.kc {α:Type} {T:RowT α} {w w':World} {B:Nat} {v:Value} {L:List α} (h:OwnG T w B v L) (hk:Kc w w'):OwnG T w' B v L:=h.keep fun g hg=>by
 obtain ⟨cs,hc⟩:=ownG_obj h hg
 rw [hk.block _ _ _ _ hc,hc]
theorem flatMap_rep {α:Type} (T:RowT α) (z0:α) (hz:T.enc z0=[T.z]):∀ n,(List.replicate n z0).flatMap T.enc=List.replicate n T.z
 | 0=>rfl
 | n+1=>by rw [List.replicate_succ,List.flatMap_cons,flatMap_rep T z0 hz n,hz,List.replicate_succ];rfl
theorem wpList_make_g {α:Type} {T:RowT α} (hT:T.Ok) (hk1:T.k=1) (z0:α) (hz:T.enc z0=[T.z]) (hzc:T.z.cells=#[T.z]) {w:World} {ops:Array Oper} {rest:List Oper} {o:Oper} {a:Act} {Q:Exit→Act→World→Prop}
  (hgd:o.guard=none) (l c:Operand) (hop:o.op=Op.makeSlice T.sl l c) (B n:Nat) (hl:a.eval l=.int .i64 (n:Int)) (hc:a.eval c=.int .i64 (n:Int)) (hn:n≤1000000) (hB:B≤w.heap.size)
  (hK:∀ w',OwnG T w' B (.slice (some ⟨w.heap.size,0,none⟩) n n) (List.replicate n z0)→Below w.heap.size w w'→wpList Tryd.prog ops Q rest (a.put o.dst (.slice (some ⟨w.heap.size,0,none⟩) n n)) w'):wpList Tryd.prog ops Q (o :: rest) a w:=by
 obtain ⟨i0,hi,hz0,hz1,hz2⟩:=info_parts hT.info
 have hb:i0.bytes*n≤64*1000000:=Nat.mul_le_mul (by rw [hz2];exact hT.b) hn
 refine wpList_make_full w hgd l c T.sl hop B T.e i0 T.z T.k hT.und hi hz0 hz1 .i64 .i64 (n:Int) (n:Int) n hl hc rfl rfl (by omega) (by unfold maxLen;omega) hB ?_
 intro w' hown hg
 refine hK w' ?_ ⟨hg.os,hg.tape,hg.output,hg.size,fun k hk=>hg.block k hk (by simp)⟩
 unfold OwnG
 rw [List.length_replicate]
 have e:(madeCells T.z.cells (n*T.k)).toList=(List.replicate n z0).flatMap T.enc:=by
  rw [hk1,Nat.mul_one,hzc]
  have h1:=flatMap_rep T z0 hz n
  rw [h1]
  apply List.ext_getElem
  · simp [madeCells]
  ·
   intro j h2 h3
   simp [madeCells,Nat.mod_one]
 rw [← e]
 exact hown
def FsOk (R:List Rl) (acc:Int) (L:List Slt) (W:List (List UInt8)) (B:Nat) (w:World) (Ls:List SV) (i:Nat):Prop :=
 ∀ (k:Nat) (h:k<Ls.length),k<i→∃ l,OwnG rowFnd w B (svS Ls[k]) l∧FndB R acc L W k l
theorem FsOk.kc {R:List Rl} {acc:Int} {L:List Slt} {W:List (List UInt8)} {B:Nat} {w w':World} {Ls:List SV} {i:Nat} (h:FsOk R acc L W B w Ls i) (hk:Kc w w'):FsOk R acc L W B w' Ls i:=fun k hl hi=>by
 obtain ⟨l,h1,h2⟩:=h k hl hi
 exact ⟨l,h1.kc hk,h2⟩
def EndsP (R:List Rl) (acc:Int) (L:List Slt) (W:List (List UInt8)) (B:Nat) (e:Ending) (w':World):Prop :=
 ∃ g Ls,e=.returned (.slice (some ⟨g,0,none⟩) (L.length+1) (L.length+1))∧OwnG rowFnds w' B (.slice (some ⟨g,0,none⟩) (L.length+1) (L.length+1)) Ls∧Ls.length=L.length+1∧FsOk R acc L W B w' Ls (L.length+1)
theorem ends_store {R:List Rl} {acc:Int} {L:List Slt} {W:List (List UInt8)} {B C g n i:Nat} {w:World} {Ls:List SV} {a:Option Addr} {l:List (Nat × Nat)} {c:Nat} (ho:OwnG rowFnds w C (.slice (some ⟨g,0,none⟩) n n) Ls) (hf:FsOk R acc L W B w Ls i) (hi:i<Ls.length)
  (hv:OwnG rowFnd w B (.slice a l.length c) l) (hl:FndB R acc L W i l) :
  OwnG rowFnds (w.setCell ⟨g,i,none⟩ (.slice a l.length c)) C (.slice (some ⟨g,0,none⟩) n n) (Ls.set i ⟨a,l.length,c⟩)∧FsOk R acc L W B (w.setCell ⟨g,i,none⟩ (.slice a l.length c)) (Ls.set i ⟨a,l.length,c⟩) (i+1):=by
 have hkeep:∀ {v:Value} {l2:List (Nat × Nat)},OwnG rowFnd w B v l2→OwnG rowFnd (w.setCell ⟨g,i,none⟩ (.slice a l.length c)) B v l2:=fun {v l2} h=>h.keep fun q hq=>Below.heap_setCell _ _ _ _ (by
  show q≠g
  intro e
  obtain ⟨cs,h1⟩:=ownG_obj h hq
  obtain ⟨cs2,h2⟩:=ownG_obj ho (g:=g) rfl
  rw [e,h2] at h1
  injection h1 with h1
  injection h1 with _ h3
  exact absurd h3 (by decide))
 refine ⟨ho.setCell (by simp) ?_ (by show i<Ls.length*1;omega) rowFnds_ok,fun k hk hki=>?_⟩
 ·
  have:∀ (M:List SV),M.flatMap rowFnds.enc=M.map fun x=>.slice x.a x.n x.c:=fun M=>by
   induction M with
   | nil=>rfl
   | cons x r ih=>rw [List.flatMap_cons,ih];rfl
  rw [this,this,List.map_set]
 ·
  have hk':k<Ls.length:=by simpa using hk
  rw [List.getElem_set]
  by_cases e:i=k
  ·
   subst e
   rw [if_pos rfl]
   exact ⟨l,hkeep hv,hl⟩
  ·
   rw [if_neg e]
   obtain ⟨l2,h1,h2⟩:=hf k hk' (by omega)
   exact ⟨l2,hkeep h1,h2⟩
structure SrI (R:List Rl) (L:List Slt) (T:List Bn) (gm:Nat→Nat) (i D:Nat) (M:Nat→Ent) (w:World):Prop where
 maps:∀ j,i≤j→j<i+5→MpG keyS w (gm (j % 5)) (M j)
 inv:Inv R L (folT T) i M
 bnd:Bnd T.length i (i*((8*T.length+1)*D)) D M
 out:∀ j,¬ j<i+5→M j=[]
theorem idx_fnds (b len cap k:Nat) (hk:k<len) (w:World) :
  (Instr.indexAt 46 (.slice (some ⟨b,0,none⟩) len cap) (.int .i64 (k:Int))).run Tryd.prog w=.ok (.pointer (some ⟨b,k,none⟩)) w:=by
 have h0:(0:Int)≤(k:Int):=by omega
 have h1:(k:Int)<(len:Int):=by omega
 simp [go_sem,h0,h1]
structure EnQ (R:List Rl) (acc:Int) (L:List Slt) (X:List (List UInt8)) (T:List Bn) (gm:Nat→Nat) (D:Nat) (w1 w2:World) (gE i:Nat) (w:World):Prop where
 sr:∃ M,SrI (R.filter fairB) L T gm i D M w
 row:∃ Ls,OwnG rowFnds w w2.heap.size (.slice (some ⟨gE,0,none⟩) (L.length+1) (L.length+1)) Ls∧Ls.length=L.length+1∧FsOk R acc L X w1.heap.size w Ls i
 kc:Kc w2 w
 bl:Below w1.heap.size w1 w
set_option maxHeartbeats 6400000 in
set_option maxRecDepth 100000 in
theorem
    ends_any (R:List Rl) (modes acc:Int) (aS:Option Addr) (cS:Nat) (D:List Nd) (aD:Option Addr) (cD:Nat) (aL:Option Addr) (L:List Slt) (cL C:Nat) (w:World) (hR:RulS w aS R) (hRl:R.length≤1000) (hO:∀ r∈R,r.out.size≤1000000) (hD:DawgS w aD D) (hDl:D.length≤9223372036854775807) (hC:CsOk D)
  (hl:(wordsF D).length≤1000) (hs:∀ x∈wordsF D,x.size≤20) (hinc:((wordsF D).map bts).Pairwise fun a b=>Op.bytesLess a b=true) (hL:SlotS w aL L) (hLl:L.length≤1000) (hBs:SlotsB C L) (hCc:C≤1000000)
  (hcost:∀ N i,N≤1+20*(wordsF D).length→i≤L.length→8*N*(i*((8*N+1)*(1000+4*C))+(8*N+1)*(1000+4*C)+2)≤900000000000) (ha0:0≤acc) (ha1:acc≤255) :
  Calls Tryd.prog 11 #[.agg #[.int .i64 modes,.int .u8 acc,.slice aS R.length cS],.slice aD D.length cD,.slice aL L.length cL] w fun e w'=>EndsP R acc L ((wordsF D).map bts) w.heap.size e w'∧Below w.heap.size w w':=by
 have HO:=Lib.hid hO;have HLS:=Lib.hid hL;have HBS:=Lib.hid hBs;have HCO:=Lib.hid hcost
 obtain ⟨X,hX⟩:∃ X,(wordsF D).map bts=X:=⟨_,rfl⟩
 have hXl:X.length=(wordsF D).length:=by rw [← hX,List.length_map]
 have HXL:=Lib.hid hXl;have HXE:=Lib.hid hX
 have hns:=fun w1 (hx:Ext w w1)=>newSearch_any R modes acc aS cS D aD cD aL L.length cL w1 (hR.later hx (Nat.le_refl _)) hRl (hD.later hx (Nat.le_refl _)) hDl hC hl hs hinc
 have HNS:=Lib.hid hns
 have hRf:(R.filter fairB).length≤1000:=Nat.le_trans (List.length_filter_le _ _) hRl
 have HRF:=Lib.hid hRf
 clear hR hO hD hC hs hinc hL hBs hcost hns hXl hRf
 go_enter Tryd.func11,Tryd.ntmps11
 go_wp2_with fail
 obtain ⟨w1,hw1⟩:∃ w1,w.alloc (.cells #[.int .i64 modes,.int .u8 acc,.slice aS R.length cS] 36)=w1:=⟨_,rfl⟩
 rw [hw1]
 have HX1:Hid (Ext w w1):=by
  show Ext _ _
  rw [← hw1];exact (Below.refl _ _).alloc (Nat.le_refl _) _
 clear hw1
 refine (HNS.out w1 HX1.out).mono ?_
 rintro e w2 ⟨⟨gx,aR,cR,aT,cT,gm,T,rfl,hsx,hru,hts,htw,hgm,hm0,hmr⟩,hb2⟩
 rw [hX] at htw
 have HSX:=Lib.hid hsx;have HRU:=Lib.hid hru;have HTS:=Lib.hid hts;have HTW:=Lib.hid htw;have HGM:=Lib.hid hgm;have HM0:=Lib.hid hm0;have HMR:=Lib.hid hmr;have HB2:=Lib.hid hb2
 have hTl:T.length≤1+20*(wordsF D).length:=by have:=htw.size;have:=HXL.out;omega
 have HTL:=Lib.hid hTl
 clear hX HNS hsx hru hts htw hgm hm0 hmr hb2 hTl
 go_wp2_with (at_make;go_loud (refine wpList_make_g rowFnds_ok rfl ⟨none,0,0⟩ rfl rfl rfl _ _ rfl w2.heap.size (L.length+1) (by go_num) (by go_num) (by omega) (Nat.le_refl _) ?_);intro w3 hown3 hb3;have HO3:=Lib.hid hown3;have HB3:=Lib.hid hb3;clear hown3 hb3)
 have HEQ:Hid (EnQ R acc L X T gm (1000+4*C) w1 w2 w2.heap.size 0 w3):=by
  refine ⟨⟨M0,⟨fun j h1 h2=>?_,inv0 _ _ _,by rw [Nat.zero_mul];exact bnd0 HTW.out.pos,fun j hj=>?_⟩⟩,⟨_,HO3.out,by rw [List.length_replicate],fun k _ hk=>absurd hk (Nat.not_lt_zero _)⟩,Kc.of HB3.out (Nat.le_refl _),HB2.out.trans (HB3.out.mono HB2.out.size)⟩
  ·
   have hj:j % 5=j:=Nat.mod_eq_of_lt (by omega)
   rw [hj]
   have hm:MpG keyS w2 (gm j) (M0 j):=by
    unfold M0
    split
    · rename_i e;subst e;exact HM0.out
    · rename_i e;exact HMR.out j (by omega) (by omega)
   exact hm.kept (HB3.out.block _ hm.lt)
  ·
   unfold M0
   rw [if_neg (by omega)]
 obtain ⟨gE,hgE⟩:∃ gE,w2.heap.size=gE:=⟨_,rfl⟩
 have HGE:Hid (w1.heap.size≤gE):=by have:=HB2.out.size;show _≤_;omega
 have HGE2:Hid (w2.heap.size≤gE):=by show _≤_;omega
 have HGX:Hid (gx<gE):=by have:=HSX.out.lt;show _<_;omega
 rw [hgE] at HEQ ⊢
 clear hgE HO3 HB3 HM0 HMR
 go_loopg [20] (L.length+1) (fun g v20 wr=>∃ i:Nat,v20=.int .i64 (i:Int)∧i≤L.length+1∧g=L.length+1 - i∧EnQ R acc L X T gm (1000+4*C) w1 w2 gE i wr)
 case atStart=>exact ⟨0,rfl,Nat.zero_le _,rfl,HEQ.out⟩
 case round =>
  clear HEQ
  obtain ⟨i,rfl,hi,hgk,heq⟩:=hrel
  have HEQ:=Lib.hid heq;have HGK:=Lib.hid hgk
  clear heq hgk
  by_cases hlt:i<L.length+1
  ·
   obtain ⟨M,hsr⟩:=HEQ.out.sr
   obtain ⟨Ls,hrow,hLs,hfs⟩:=HEQ.out.row
   have hkc:Kc w wr:=(Kc.of HX1.out (Nat.le_refl _)).trans ((Kc.of HB2.out (Nat.le_refl _)).trans HEQ.out.kc)
   have hvis:=svisit_any (R.filter fairB) L T C i (i*((8*T.length+1)*(1000+4*C))) (1000+4*C) w1.heap.size M (HSX.out.kp HEQ.out.kc) (RulS.kp HRU.out HEQ.out.kc) rfl HRF.out (fairs_filter R) (fun r hr=>HO.out r (List.mem_filter.1 hr).1)
    (HLS.out.kp hkc) rfl (by omega) (by omega) HBS.out hCc (HTS.out.kp HEQ.out.kc) rfl (by have:=HTL.out;omega) HTW.out.trIn HGM.out HEQ.out.bl.size hsr.maps hsr.inv hsr.bnd (Nat.le_refl _) (HCO.out T.length i HTL.out (by omega)) HTW.out.pos
   have HVIS:=Lib.hid hvis;have HROW:=Lib.hid hrow;have HFS:=Lib.hid hfs;have HLS2:=Lib.hid hLs;have HSR:=Lib.hid hsr
   clear hvis hrow hfs hLs hsr hkc
   go_wp2_with fail
   refine HVIS.out.mono ?_
   rintro e w4 ⟨rfl,M',hvp⟩
   have HVP:=Lib.hid hvp
   clear hvp HVIS
   have HM4:=Lib.hid (HVP.out.vx.maps i (Nat.le_refl _) (by omega))
   have HSX4:=Lib.hid (HSX.out.kp (HEQ.out.kc.trans HVP.out.vx.kp))
   have HBL4:Hid (Below w1.heap.size w1 w4):=HEQ.out.bl.trans HVP.out.vx.bl
   have HWI:Hid (WdIn T):=fun b hb=>by have h:=HTW.out.wd b hb;have:=HXL.out;omega
   have HFND:=Lib.hid (found_any T i (i % 5) (M' i) (by omega) rfl HSX4.out (HTS.out.kp (HEQ.out.kc.trans HVP.out.vx.kp)) rfl (by have:=HTL.out;omega) HWI.out HM4.out (HVP.out.bnd.rng i) ha0 ha1)
   go_wp2_with fail
   refine HFND.out.mono ?_
   rintro e w5 ⟨⟨v,l,rfl,hown,hfe⟩,hb5⟩
   obtain ⟨a5,c5,hv5,hc5, -⟩:=hown.form
   subst hv5
   have HFE:Hid (FndB R acc L X i l):=⟨(fnd_ok HTW.out HVP.out.inv HVP.out.shut (HVP.out.bnd.keys i) hfe).fair,fun p hp=>by
    obtain ⟨t,ht, -⟩:=((hfe.mem p.1 p.2).1 hp).1
    have h1:=HVP.out.bnd.here_le (look_of_mem (HVP.out.bnd.keys i) ht)
    have h2:=HCO.out T.length i HTL.out (by omega)
    have h3:=HTW.out.pos
    have h4:8*T.length*(1000+4*C)≤(8*T.length+1)*(1000+4*C):=Nat.mul_le_mul_right _ (Nat.le_succ _)
    have h5:i*((8*T.length+1)*(1000+4*C))+(8*T.length+1)*(1000+4*C)+2≤8*T.length*(i*((8*T.length+1)*(1000+4*C))+(8*T.length+1)*(1000+4*C)+2):=Nat.le_mul_of_pos_left _ (by omega)
    omega⟩
   have HK5:Hid (Kc wr w5):=HVP.out.vx.kp.trans (Kc.of hb5 (Nat.le_refl _))
   have HB5:=Lib.hid hb5
   have HO5:=Lib.hid (hown.mono HBL4.out.size)
   have HR5:=Lib.hid (HROW.out.kc HK5.out)
   have HF5:=Lib.hid (HFS.out.kc HK5.out)
   have hiL:i<Ls.length:=by have:=HLS2.out;omega
   have HST:=Lib.hid (ends_store HR5.out HF5.out hiL HO5.out HFE.out)
   obtain ⟨cs5,hcs5⟩:=ownG_obj HR5.out (g:=gE) rfl
   have hfz:w5.frozen? ⟨gE,i,none⟩=false:=by simp [World.frozen?,hcs5]
   have hcl:=HR5.out.cell rowFnds_ok hiL (j:=0) (by decide)
   have e1:i*rowFnds.k+0=i:=by show i*1+0=i;omega
   rw [e1] at hcl
   have hcl2:w5.cell? ⟨gE,i,none⟩=some (.slice Ls[i].a Ls[i].n Ls[i].c):=hcl
   have hix:=idx_fnds gE (L.length+1) (L.length+1) i hlt
   have HHP:Hid (∀ q,q≠gE→(w5.setCell ⟨gE,i,none⟩ (.slice a5 l.length c5)).heap[q]? = w5.heap[q]?):=fun q hq=>Below.heap_setCell _ _ _ _ hq
   have HCS:=Lib.hid hcs5
   clear hown hfe hb5 hcl e1 hcs5
   go_wp2_with fail
   obtain ⟨w6,hw6⟩:∃ w6,w5.setCell ⟨gE,i,none⟩ (.slice a5 l.length c5)=w6:=⟨_,rfl⟩
   rw [hw6] at HST HHP ⊢
   have HW6:=Lib.hid hw6
   clear hw6 hfz hcl2 hix
   have HSX6:Hid (SX w6 gx acc aR (R.filter fairB).length cR aT T.length cT aL L.length cL gm):=by
    have h:=HSX4.out.kp (Kc.of HB5.out (Nat.le_refl _))
    exact (HHP.out gx (by have:=HGX.out;omega)).trans h
   have HMK:Hid (∀ j,i≤j→j<i+5→MpG keyS w6 (gm (j % 5)) (M' j)):=fun j h1 h2=>by
    have h:=(HVP.out.vx.maps j h1 h2).kept (HB5.out.block _ (HVP.out.vx.maps j h1 h2).lt)
    refine h.kept (HHP.out _ fun e=>?_)
    obtain ⟨es,c,h3⟩:=h.obj
    rw [e,HCS.out] at h3
    cases h3
   have HM6:=Lib.hid (HMK.out i (Nat.le_refl _) (by omega))
   have hat:=at_any i (i % 5) (by omega) rfl HSX6.out
   refine hat.mono ?_
   clear hat
   rintro e w7 ⟨rfl,rfl⟩
   obtain ⟨w7,hrun,hm7,hg7⟩:=HM6.out.run_clear keyS_ok 0
   have HM7:=Lib.hid hm7;have HG7:=Lib.hid hg7
   clear hm7 hg7
   dsimp only [keyS] at hrun
   go_wp2_with fail
   clear hrun
   go_roundg (L.length+1 - (i+1))
   case measure=>have:=HGK.out;omega
   case rel =>
    have hK6:Kc w2 w6:=by
     have h:=HEQ.out.kc.trans HK5.out
     refine ⟨by rw [← HW6.out,World.size_setCell];exact h.size,fun q cs t f hq=>?_⟩
     have hlt2:=(Array.getElem?_eq_some_iff.1 hq).1
     exact (HHP.out q (by have:=HGE2.out;omega)).trans (h.block q cs t f hq)
    have hK7:Kc w6 w7:=Kc.map HG7.out HM6.out.obj
    have hb6:Below w1.heap.size w1 w6:=by
     rw [← HW6.out]
     exact (HBL4.out.trans (HB5.out.mono HBL4.out.size)).setCell (show w1.heap.size≤(⟨gE,i,none⟩:Addr).block from HGE.out) _
    refine ⟨i+1,by go_num,by omega,rfl,⟨⟨nextM i M',⟨fun j h1 h2=>?_,HVP.out.inv.nextM HVP.out.shut,by rw [Nat.succ_mul];exact HVP.out.bnd.nextM,fun j hj=>?_⟩⟩,⟨_,HST.out.1.kc hK7,by rw [List.length_set];exact HLS2.out,HST.out.2.kc hK7⟩,hK6.trans hK7,hb6.grown HG7.out hb6.size fun q hq=>?_⟩⟩
    ·
     unfold nextM
     rw [if_pos (show i<j by omega)]
     by_cases e:j=i+5
     ·
      subst e
      rw [show (i+5) % 5=i % 5 by omega,HVP.out.out _ (by omega),HSR.out.out _ (by omega)]
      exact HM7.out
     ·
      have h:=HMK.out j (by omega) (by omega)
      refine h.kept (HG7.out.block _ h.lt fun e2=>?_)
      injection e2 with e2
      have:=HGM.out.apart (j % 5) (i % 5) (Nat.mod_lt _ (by decide)) (Nat.mod_lt _ (by decide)) e2
      omega
    ·
     unfold nextM
     rw [if_pos (show i<j by omega),HVP.out.out _ (by omega),HSR.out.out _ (by omega)]
    ·
     injection hq with hq
     rw [← hq]
     exact HGM.out.ge _ (Nat.mod_lt _ (by decide))
  ·
   obtain rfl:i=L.length+1:=by omega
   obtain ⟨Ls,hrow,hLs,hfs⟩:=HEQ.out.row
   have HROW:=Lib.hid hrow;have HFS:=Lib.hid hfs
   clear hrow hfs
   go_wp2_with fail
   go_ret
   exact ⟨⟨gE,Ls,rfl,HROW.out.mono (Nat.le_trans HX1.out.size HB2.out.size),hLs,fun k h hk=>by obtain ⟨l,h1,h2⟩:=HFS.out k h hk;exact ⟨l,h1.mono HX1.out.size,by rw [HXE.out];exact h2⟩⟩,Below.trans HX1.out (HEQ.out.bl.mono HX1.out.size)⟩
def rowSlts:RowT SV:=⟨23,28,1,24,.slice none 0 0,fun x=>[.slice x.a x.n x.c]⟩
theorem rowSlts_ok:rowSlts.Ok:=⟨Tryd.underlying23,by kernel_rfl,rfl,by decide,fun _=>rfl,fun x u hu=>by obtain rfl:u=.slice x.a x.n x.c:=(List.mem_singleton.1 hu);rfl,by decide⟩
def rowCh:RowT Ch:=⟨28,25,2,16,.agg #[.int .u8 0,.int .i64 0],fun x=>[.int .u8 (x.key.toNat:Int),.int .i64 x.cost]⟩
theorem rowCh_ok:rowCh.Ok:=⟨Tryd.underlying28,by kernel_rfl,rfl,by decide,fun _=>rfl,fun x u hu=>by
 have h:u=.int .u8 (x.key.toNat:Int)∨u=.int .i64 x.cost:=by simpa [rowCh] using hu
 rcases h with rfl | rfl <;> rfl,by decide⟩
theorem OwnG.chs {w:World} {B:Nat} {a:Option Addr} {n c:Nat} {L:Slt} (h:OwnG rowCh w B (.slice a n c) L):ArcS w a (chA L)∧n=L.length∧L.length≤c:=by
 obtain ⟨a',c',he,hc,_⟩:=h.form
 injection he with e1 e2 e3
 refine ⟨fun k hk=>?_,e2,by omega⟩
 rw [chA_len] at hk
 rcases h.blk with ⟨_,rfl⟩ | ⟨g,c2,he2,_,hg,_⟩
 · simp at hk
 ·
  injection he2 with f1 f2 f3
  subst f1
  refine ⟨g,0,rfl,hg,?_,?_⟩
  ·
   have:=h.cell rowCh_ok hk (j:=0) (by decide)
   simpa [rowCh,chA] using this
  ·
   have:=h.cell rowCh_ok hk (j:=1) (by decide)
   simpa [rowCh,chA] using this
def ElS (w:World) (x:SV) (s:Slt):Prop:=OwnG rowCh w 0 (svS x) s
theorem ElS.kc {w w':World} {x:SV} {s:Slt} (h:ElS w x s) (hk:Kc w w'):ElS w' x s:=OwnG.kc h hk
theorem ElS.n {w:World} {x:SV} {s:Slt} (h:ElS w x s):x.n=s.length:=(OwnG.chs h).2.1
theorem ElS.arcs {w:World} {x:SV} {s:Slt} (h:ElS w x s):ArcS w x.a (chA s):=(OwnG.chs h).1
theorem ElS.le {w:World} {x:SV} {s:Slt} (h:ElS w x s):s.length≤9223372036854775807:=by
 obtain ⟨a,c,e,h1,h2⟩:=OwnG.form h
 unfold maxLen at h2
 omega
theorem ElS.of {w:World} {B:Nat} {x:SV} {s:Slt} (h:OwnG rowCh w B (svS x) s):ElS w x s:=h.mono (Nat.zero_le _)
theorem ElS.keep {w w':World} {x:SV} {s:Slt} {B:Nat} {v:Value} {Ls:List SV} (h:ElS w x s) (ho:OwnG rowSlts w B v Ls) (hk:∀ q,q<w.heap.size→v.ownBlock≠some q→w'.heap[q]? = w.heap[q]?):ElS w' x s:=OwnG.keep h fun q hq=>hk q (OwnG.lt h q hq) fun e=>by
 obtain ⟨cs,h1⟩:=ownG_obj h hq
 obtain ⟨cs2,h2⟩:=ownG_obj ho e
 rw [h2] at h1
 injection h1 with h1
 injection h1 with _ h4
 exact absurd h4 (by decide)
structure SltsR (w:World) (B:Nat) (v:Value) (Ls:List SV) (L:List Slt):Prop where
 own:OwnG rowSlts w B v Ls
 len:Ls.length=L.length
 el:∀ (k:Nat) (x:SV) (s:Slt),Ls[k]? = some x→L[k]? = some s→ElS w x s
def SltsG (w:World) (B:Nat) (v:Value) (L:List Slt):Prop:=∃ Ls,SltsR w B v Ls L
theorem SltsR.kc {w w':World} {B:Nat} {v:Value} {Ls:List SV} {L:List Slt} (h:SltsR w B v Ls L) (hk:Kc w w'):SltsR w' B v Ls L :=
 ⟨h.own.kc hk,h.len,fun k x s h1 h2=>(h.el k x s h1 h2).kc hk⟩
theorem SltsR.later {w w':World} {B C:Nat} {v:Value} {Ls:List SV} {L:List Slt} (h:SltsR w B v Ls L) (hb:Below C w w') (hC:w.heap.size≤C):SltsR w' B v Ls L:=h.kc (Kc.of hb hC)
theorem SltsR.mono {w:World} {B C:Nat} {v:Value} {Ls:List SV} {L:List Slt} (h:SltsR w B v Ls L) (hC:C≤B):SltsR w C v Ls L:=⟨h.own.mono hC,h.len,h.el⟩
theorem SltsR.push {w w':World} {B B':Nat} {v v':Value} {Ls:List SV} {L:List Slt} {x:SV} {s:Slt} (h:SltsR w B v Ls L) (ho:OwnG rowSlts w' B' v' (Ls ++ [x])) (hg:w.grownBy w' v.ownBlock) (hx:ElS w x s):SltsR w' B' v' (Ls ++ [x]) (L ++ [s]):=by
 have hk:∀ {y t},ElS w y t→ElS w' y t:=fun {y t} hy=>hy.keep h.own fun q hq hne=>hg.block q hq (Ne.symm hne)
 refine ⟨ho,by simp [h.len],fun k y t h1 h2=>?_⟩
 have hl:=h.len
 by_cases hlt:k<Ls.length
 ·
  rw [List.getElem?_append_left hlt] at h1
  rw [List.getElem?_append_left (by omega)] at h2
  exact hk (h.el k y t h1 h2)
 ·
  rw [List.getElem?_append_right (by omega)] at h1
  rw [List.getElem?_append_right (by omega)] at h2
  rw [hl] at h1
  cases e:k - L.length with
  | zero=>rw [e] at h1 h2;cases h1;cases h2;exact hk hx
  | succ n=>rw [e] at h1;simp at h1
theorem SltsR.slotS {w:World} {B:Nat} {a:Option Addr} {n c:Nat} {Ls:List SV} {L:List Slt} (h:SltsR w B (.slice a n c) Ls L):SlotS w a L∧n=L.length∧L.length≤c:=by
 obtain ⟨a',c',he,hc,_⟩:=h.own.form
 injection he with e1 e2 e3
 refine ⟨fun k hk=>?_,by rw [e2,h.len],by rw [← h.len];omega⟩
 have hk2:k<Ls.length:=by rw [h.len];exact hk
 rcases h.own.blk with ⟨_,e⟩ | ⟨g,c2,he2,_,hg,_⟩
 · rw [e] at hk2;simp at hk2
 ·
  injection he2 with f1 f2 f3
  subst f1
  have hel:=h.el k _ _ (List.getElem?_eq_getElem hk2) (List.getElem?_eq_getElem hk)
  have hc:=h.own.cell rowSlts_ok hk2 (j:=0) (by decide)
  refine ⟨g,0,rfl,hg,Ls[k].a,Ls[k].c,?_,hel.le,hel.arcs⟩
  rw [← hel.n]
  simpa [rowSlts] using hc
theorem SltsG.slotS {w:World} {B:Nat} {a:Option Addr} {n c:Nat} {L:List Slt} (h:SltsG w B (.slice a n c) L):SlotS w a L∧n=L.length∧L.length≤c:=by
 obtain ⟨Ls,h⟩:=h
 exact h.slotS
def typB (l:List UInt8):List Slt:=l.map fun c=>[⟨c,0⟩]
def typL (s:ByteArray):List Slt:=typB (bts s)
theorem typL_len (s:ByteArray):(typL s).length=s.size:=by simp [typL,typB,bts_len]
def TypedP (s:ByteArray) (w:World) (e:Ending) (w':World):Prop:=∃ a c,e=.returned (.slice a s.size c)∧SltsG w' w.heap.size (.slice a s.size c) (typL s)
theorem ownCh_one {w:World} {g B:Nat} {c:UInt8} (h:w.heap[g]? = some (.cells #[.int .u8 (c.toNat:Int),.int .i64 0] 25 (0,0))) (hB:B≤g):OwnG rowCh w B (.slice (some ⟨g,0,none⟩) 1 1) [⟨c,0⟩] :=
 OwnG.one rowCh_ok (x:=⟨c,0⟩) h hB
structure TyQ (s:ByteArray) (w0:World) (g i:Nat) (Ls:List SV) (w:World):Prop where
 own:OwnG rowSlts w w0.heap.size (.slice (some ⟨g,0,none⟩) s.size s.size) Ls
 len:Ls.length=s.size
 el:∀ (k:Nat) (x:SV) (t:Slt),k<i→Ls[k]? = some x→(typL s)[k]? = some t→OwnG rowCh w w0.heap.size (svS x) t
 bl:Below w0.heap.size w0 w
theorem typL_get {s:ByteArray} {i:Nat} (hi:i<s.size):(typL s)[i]? = some [⟨s[i],0⟩]:=by
 unfold typL typB
 rw [List.getElem?_map,List.getElem?_eq_getElem (by rw [bts_len];exact hi),bts_get hi];rfl
theorem TyQ.put {s:ByteArray} {w0 w:World} {g i:Nat} {Ls:List SV} (h:TyQ s w0 g i Ls w) (hg:w0.heap.size≤g) (hi:i<s.size) :
  TyQ s w0 g (i+1) (Ls.set i ⟨some ⟨w.heap.size,0,none⟩,1,1⟩) ((w.setCell ⟨g,i,none⟩ (.slice (some ⟨w.heap.size,0,none⟩) 1 1)).alloc (.cells #[.int .u8 (s[i].toNat:Int),.int .i64 0] 25)):=by
 obtain ⟨cs,hcs⟩:=ownG_obj h.own (g:=g) rfl
 obtain ⟨w1,hw1⟩:∃ w1,w.setCell ⟨g,i,none⟩ (.slice (some ⟨w.heap.size,0,none⟩) 1 1)=w1:=⟨_,rfl⟩
 have hsz:w1.heap.size=w.heap.size:=by rw [← hw1,World.size_setCell]
 have ho1:OwnG rowSlts w1 w0.heap.size (.slice (some ⟨g,0,none⟩) s.size s.size) (Ls.set i ⟨some ⟨w.heap.size,0,none⟩,1,1⟩):=by
  rw [← hw1]
  refine h.own.setCell (by simp) ?_ (by show i<Ls.length*1;rw [h.len];omega) rowSlts_ok
  have:∀ (M:List SV),M.flatMap rowSlts.enc=M.map fun x=>.slice x.a x.n x.c:=fun M=>by
   induction M with
   | nil=>rfl
   | cons x r ih=>rw [List.flatMap_cons,ih];rfl
  rw [this,this,List.map_set]
 have hne:∀ q,q≠g→w1.heap[q]? = w.heap[q]?:=fun q hq=>by rw [← hw1];exact Below.heap_setCell _ _ _ _ hq
 have hx:Ext w1 (w1.alloc (.cells #[.int .u8 (s[i].toNat:Int),.int .i64 0] 25)):=(Below.refl _ _).alloc (Nat.le_refl _) _
 have hb1:Below w0.heap.size w0 w1:=by rw [← hw1];exact h.bl.setCell (show w0.heap.size≤(⟨g,i,none⟩:Addr).block from hg) _
 rw [hw1]
 refine ⟨ho1.later hx (Nat.le_refl _),by rw [List.length_set];exact h.len,fun k x t hk h1 h2=>?_,hb1.trans (hx.mono hb1.size)⟩
 rw [List.getElem?_set] at h1
 by_cases e:i=k
 ·
  subst e
  rw [if_pos rfl,if_pos (by rw [h.len];exact hi)] at h1
  cases h1
  rw [typL_get hi] at h2
  cases h2
  refine ownCh_one (g:=w.heap.size) ?_ h.bl.size
  rw [← hsz]
  exact heap_alloc_new _ _
 ·
  rw [if_neg e] at h1
  refine ((h.el k x t (by omega) h1 h2).keep fun q hq=>hne q fun e2=>?_).later hx (Nat.le_refl _)
  obtain ⟨cs2,h3⟩:=ownG_obj (h.el k x t (by omega) h1 h2) hq
  rw [e2,hcs] at h3
  injection h3 with h3
  injection h3 with _ h4
  exact absurd h4 (by decide)
theorem TyQ.done {s:ByteArray} {w0 w:World} {g:Nat} {Ls:List SV} (h:TyQ s w0 g s.size Ls w):SltsG w w0.heap.size (.slice (some ⟨g,0,none⟩) s.size s.size) (typL s) :=
 ⟨Ls,h.own,by rw [h.len,typL_len],fun k x t h1 h2=>ElS.of (h.el k x t (by have:=(List.getElem?_eq_some_iff.1 h2).1;rw [typL_len] at this;exact this) h1 h2)⟩
theorem idx_slts (b len cap k:Nat) (hk:k<len) (w:World) :
  (Instr.indexAt 23 (.slice (some ⟨b,0,none⟩) len cap) (.int .i64 (k:Int))).run Tryd.prog w=.ok (.pointer (some ⟨b,k,none⟩)) w:=by
 have h0:(0:Int)≤(k:Int):=by omega
 have h1:(k:Int)<(len:Int):=by omega
 simp [go_sem,h0,h1]
set_option maxHeartbeats 6400000 in
set_option maxRecDepth 100000 in
theorem ltyped_any (s:ByteArray) (w:World) (hs:s.size≤1000000) :
  Calls Tryd.prog 10 #[.string s] w fun e w'=>TypedP s w e w'∧Below w.heap.size w w':=by
 go_enter Tryd.func10,Tryd.ntmps10
 go_wp2_with (at_make;go_loud (refine wpList_make_g rowSlts_ok rfl ⟨none,0,0⟩ rfl rfl rfl _ _ rfl w.heap.size s.size (by go_num) (by go_num) (by omega) (Nat.le_refl _) ?_);intro w3 hown3 hb3;have HO3:=Lib.hid hown3;have HB3:=Lib.hid hb3;clear hown3 hb3)
 go_loopg [10] s.size (fun g v10 wr=>∃ (i:Nat) (Ls:List SV),v10=.int .i64 (i:Int)∧i≤s.size∧g=s.size - i∧TyQ s w w.heap.size i Ls wr)
 case atStart=>exact ⟨0,_,rfl,Nat.zero_le _,rfl,HO3.out,by simp,fun k _ _ hk=>absurd hk (Nat.not_lt_zero _),HB3.out⟩
 case round =>
  obtain ⟨i,Ls,rfl,hi,hgk,hq⟩:=hrel
  have HQ:=Lib.hid hq;have HGK:=Lib.hid hgk
  clear hq hgk
  by_cases hlt:i<s.size
  ·
   have hiL:i<Ls.length:=by have:=HQ.out.len;omega
   obtain ⟨cs5,hcs5⟩:=ownG_obj HQ.out.own (g:=w.heap.size) rfl
   have hgl:=(Array.getElem?_eq_some_iff.1 hcs5).1
   have hfz:wr.frozen? ⟨w.heap.size,i,none⟩=false:=by simp [World.frozen?,hcs5]
   have hcl:=HQ.out.own.cell rowSlts_ok hiL (j:=0) (by decide)
   have e1:i*rowSlts.k+0=i:=by show i*1+0=i;omega
   rw [e1] at hcl
   have hcl2:wr.cell? ⟨w.heap.size,i,none⟩=some (.slice Ls[i].a Ls[i].n Ls[i].c):=hcl
   have hix:=idx_slts w.heap.size s.size s.size i hlt
   have HPT:=Lib.hid (HQ.out.put (Nat.le_refl _) hlt)
   clear hcl e1 hcs5
   go_wp2_with fail
   go_roundg (s.size - (i+1))
   case measure=>have:=HGK.out;omega
   case rel=>exact ⟨i+1,_,by go_num,by omega,rfl,HPT.out⟩
  ·
   obtain rfl:i=s.size:=by omega
   go_wp2_with fail
   go_ret
   exact ⟨⟨_,_,rfl,HQ.out.done⟩,HQ.out.bl⟩
def kyA (s:Slt) (k:Nat):Nat:=((s[k]?).map fun c=>c.key.toNat).getD 0
def okC (s:Slt) (k:Nat):Bool:=match s[k]? with
 | none=>true
 | some c=>decide (97≤c.key.toNat) && (decide (c.key.toNat≤122) && (decide (0≤c.cost) && (decide (c.cost≤1000) && (decide (k=0) || decide (kyA s (k - 1)<c.key.toNat)))))
def okS (s:Slt):Bool:=decide (1≤s.length) && (decide (s.length≤8) && (List.range s.length).all (okC s))
def validB (L:List Slt):Bool:=decide (L.length≤40) && L.all okS
theorem okC_iff {s:Slt} {k:Nat} (hk:k<s.length):okC s k=true↔97≤s[k].key.toNat∧s[k].key.toNat≤122∧0≤s[k].cost∧s[k].cost≤1000∧(k=0∨kyA s (k - 1)<s[k].key.toNat):=by
 unfold okC
 rw [List.getElem?_eq_getElem hk]
 simp only [Bool.and_eq_true,Bool.or_eq_true,decide_eq_true_eq]
theorem kyA_at {s:Slt} {k:Nat} (hk:k<s.length):kyA s k=s[k].key.toNat:=by
 unfold kyA;rw [List.getElem?_eq_getElem hk];rfl
theorem rangeAll_succ {p:Nat→Bool} {n:Nat}:(List.range (n+1)).all p=((List.range n).all p && p n):=by
 rw [List.range_succ,List.all_append];simp
theorem rangeAll_false {p:Nat→Bool} {n k:Nat} (hk:k<n) (h:p k=false):(List.range n).all p=false:=by
 cases e:(List.range n).all p with
 | false=>rfl
 | true=>rw [List.all_eq_true] at e;rw [e k (List.mem_range.2 hk)] at h;cases h
theorem okS_bad {s:Slt} {k:Nat} (hk:k<s.length) (h:okC s k=false):okS s=false:=by
 unfold okS;rw [rangeAll_false hk h];simp
theorem chA_key {s:Slt} {k:Nat} (hk:k<(chA s).length):(chA s)[k].c=((s[k]'(by rw [chA_len] at hk;exact hk)).key.toNat:Int):=by simp [chA]
theorem chA_cost {s:Slt} {k:Nat} (hk:k<(chA s).length):(chA s)[k].t=(s[k]'(by rw [chA_len] at hk;exact hk)).cost:=by simp [chA]
theorem ArcS.ch {w:World} {a:Option Addr} {s:Slt} (h:ArcS w a (chA s)) {k:Nat} (hk:k<s.length) :
  ∃ b o,a=some ⟨b,o,none⟩∧b<w.heap.size∧w.cell? ⟨b,o+k*2,none⟩=some (.int .u8 (s[k].key.toNat:Int))∧w.cell? ⟨b,o+k*2+1,none⟩=some (.int .i64 s[k].cost):=by
 have hk2:k<(chA s).length:=by rw [chA_len];exact hk
 obtain ⟨b,o,h1,h2,h3,h4⟩:=h k hk2
 rw [chA_key hk2] at h3
 rw [chA_cost hk2] at h4
 exact ⟨b,o,h1,h2,h3,h4⟩
set_option maxHeartbeats 6400000 in
set_option maxRecDepth 100000 in
theorem
    vslot_any (s:Slt) (a:Option Addr) (c:Nat) (w:World) (hA:ArcS w a (chA s)) (hl:s.length≤9223372036854775807) :
  Calls Tryd.prog 15 #[.slice a s.length c] w fun e w'=>e=.returned (.bool (okS s))∧Below w.heap.size w w':=by
 have HA:=Lib.hid hA
 clear hA
 by_cases h1:s.length<1
 ·
  have HR:Hid (okS s=false):=by show _=_;unfold okS;simp;omega
  have h1I:(s.length:Int)<1:=by omega
  go_enter Tryd.func15,Tryd.ntmps15
  go_wp2_with fail
  go_ret
  exact ⟨ret_bool HR.out.symm,Below.refl _ _⟩
 have h1I:¬ (s.length:Int)<1:=by omega
 by_cases h2:8<s.length
 ·
  have HR:Hid (okS s=false):=by show _=_;unfold okS;simp;omega
  have h2I:(8:Int)<(s.length:Int):=by omega
  go_enter Tryd.func15,Tryd.ntmps15
  go_wp2_with fail
  go_ret
  exact ⟨ret_bool HR.out.symm,Below.refl _ _⟩
 have h2I:¬ (8:Int)<(s.length:Int):=by omega
 go_enter Tryd.func15,Tryd.ntmps15
 go_wp2_with fail
 go_loopg [15] s.length (fun g v15 wr=>∃ j:Nat,v15=.int .i64 (j:Int)∧j≤s.length∧g=s.length - j∧(List.range j).all (okC s)=true∧Below w.heap.size w wr)
 case atStart=>exact ⟨0,rfl,Nat.zero_le _,rfl,rfl,Below.refl _ _⟩
 case round =>
  obtain ⟨j,rfl,hj,hgk,hall,hb⟩:=hrel
  have HALL:=Lib.hid hall;have HB:=Lib.hid hb;have HGK:=Lib.hid hgk
  clear hall hb hgk
  by_cases hlt:j<s.length
  ·
   obtain ⟨
       b1,o1,ha1,hb1,q0,q1⟩:=(HA.out.later HB.out (Nat.le_refl _)).ch hlt
   have hi1:=idx_chs a b1 o1 s.length c j ha1 hlt
   have HOK:=Lib.hid (okC_iff hlt)
   obtain ⟨kI,hkI⟩:∃ kI:Int,(s[j].key.toNat:Int)=kI:=⟨_,rfl⟩
   obtain ⟨cI,hcI⟩:∃ cI:Int,s[j].cost=cI:=⟨_,rfl⟩
   rw [hkI] at q0
   rw [hcI] at q1
   have HKI:=Lib.hid hkI;have HCI:=Lib.hid hcI
   clear hkI hcI ha1
   by_cases g1:kI<97
   ·
    have HR:Hid (okS s=false):=okS_bad hlt (by
     cases e:okC s j with
     | false=>rfl
     | true=>have:=HOK.out.1 e;have:=HKI.out;omega)
    go_wp2_with fail
    go_ret
    exact ⟨ret_bool HR.out.symm,HB.out.trans (((Below.refl _ _).alloc (Nat.le_refl _) _).mono HB.out.size)⟩
   by_cases g2:122<kI
   ·
    have HR:Hid (okS s=false):=okS_bad hlt (by
     cases e:okC s j with
     | false=>rfl
     | true=>have:=HOK.out.1 e;have:=HKI.out;omega)
    go_wp2_with fail
    go_ret
    exact ⟨ret_bool HR.out.symm,HB.out.trans (((Below.refl _ _).alloc (Nat.le_refl _) _).mono HB.out.size)⟩
   by_cases g3:cI<0
   ·
    have HR:Hid (okS s=false):=okS_bad hlt (by
     cases e:okC s j with
     | false=>rfl
     | true=>have:=HOK.out.1 e;have:=HCI.out;omega)
    go_wp2_with fail
    go_ret
    exact ⟨ret_bool HR.out.symm,HB.out.trans (((Below.refl _ _).alloc (Nat.le_refl _) _).mono HB.out.size)⟩
   by_cases g4:1000<cI
   ·
    have HR:Hid (okS s=false):=okS_bad hlt (by
     cases e:okC s j with
     | false=>rfl
     | true=>have:=HOK.out.1 e;have:=HCI.out;omega)
    go_wp2_with fail
    go_ret
    exact ⟨ret_bool HR.out.symm,HB.out.trans (((Below.refl _ _).alloc (Nat.le_refl _) _).mono HB.out.size)⟩
   have hK0:0≤kI:=by omega
   by_cases hj0:j=0
   ·
    have HO:Hid (okC s j=true):=HOK.out.2 (by have:=HKI.out;have:=HCI.out;omega)
    have HJ:Hid (¬ (0:Int)<(j:Int)):=by show ¬ _;omega
    clear hj0
    go_wp2_with fail
    obtain ⟨w5,hw5⟩:∃ w5,wr.alloc (.cells #[.int .u8 kI,.int .i64 cI] 25)=w5:=⟨_,rfl⟩
    have HX5:Hid (Ext wr w5):=by show Ext _ _;rw [← hw5];exact (Below.refl _ _).alloc (Nat.le_refl _) _
    rw [hw5]
    clear hw5
    refine wp_region_rv (by kernel_rfl) (Vs [vq (.int .i64 (j:Int)),vq (.bool false),vq (.bool false),vq (undef),vq (undef),vq (undef),vq (undef),vq (undef),vq (undef),vq (undef),vq (undef),vq (undef),vq (.bool false)]) (fun W=>Ext w5 W) 52 (by kernel_rfl) rfl ?hVx ?hSx ?hS (opsOk_all ?hop) ?hfin
    case hop =>
     refine ⟨?_,?k1,?_,?_,?_,?_,?_,?_,?_,?_,?_,?_,?_,trivial⟩
     all_goals
      intro A W hsz hS hdep hbase
      skip
      have h0:A.tmps.getD 0 undef=.slice a s.length c:=hbase 0 (by kernel_rfl)
      have h3:A.tmps.getD 3 undef=.int .i64 (j:Int):=hbase 3 (by kernel_rfl)
      have h4:A.tmps.getD 4 undef=.pointer (some ⟨wr.heap.size,0,none⟩):=hbase 4 (by kernel_rfl)
      clear hbase
      simp [slotOf,Region.binds,Vs,vq] at hdep
     case k1 =>
      refine opOk_run rfl (.inl ⟨_,W,?_,rfl,Ext.refl _⟩)
      clear hsz hS;have hj9:=HJ.out;simp [go_sem,Act.eval, *]
      omega
     all_goals first
      | (refine opOk_run rfl (.inl ⟨_,W,?_,rfl,Ext.refl _⟩);clear hsz hS;simp [go_sem,Act.eval, *];done)
      | exact opOk_skip (j:=2) (d:=40) (b:=false) rfl (by kernel_rfl) (by simp only [hdep]) rfl rfl
    case hVx=>exact vs_stays (by simp only [List.mem_cons,List.not_mem_nil,or_false,forall_eq_or_imp,forall_eq];and_intros <;> exact stays_const _)
    case hSx=>exact fun W W' h hx=>Ext.trans h hx
    case hS=>exact Ext.refl _
    case hfin =>
     intro A W hsz hdf hS hv hbase
     obtain ⟨x,hx,hA⟩:=act_puts [38,39,40,41,42,43,44,45,46,47,48,49,50] (by kernel_rfl) hsz hdf hbase
     have e50:x 50=.bool false:=(hx 50).trans (hv 12 (by decide))
     rw [hA]
     simp only [List.foldl]
     rw [e50]
     clear e50
     simp only [Act.put,List.setIfInBounds_toArray,List.set_cons_succ,List.set_cons_zero]
     clear hA hx hv hbase hsz hdf
     have HS0:Hid (Ext w5 W):=hS
     clear hS
     go_wp2_with fail
     go_roundg (s.length - (j+1))
     case measure=>have:=HGK.out;omega
     case rel=>exact ⟨j+1,by go_num,by omega,rfl,by rw [rangeAll_succ,HALL.out,HO.out];rfl,HB.out.trans (Below.mono (Ext.trans HX5.out HS0.out) HB.out.size)⟩
   ·
    obtain ⟨p,hpj⟩:∃ p,j=p+1:=⟨j - 1,by omega⟩
    have hp:p<s.length:=by omega
    have hpe:(j:Int) - 1=(p:Int):=by omega
    have hwp:IntKind.i64.wrap ((j:Int) - 1)=(p:Int):=by rw [hpe];exact IntWalk.i64_in _ (by omega)
    obtain ⟨b2,o2,ha2,hb2,l0, -⟩:=(HA.out.later HB.out (Nat.le_refl _)).ch hp
    have hi2:=idx_chs a b2 o2 s.length c p ha2 hp
    obtain ⟨pI,hpI⟩:∃ pI:Int,(s[p].key.toNat:Int)=pI:=⟨_,rfl⟩
    rw [hpI] at l0
    have hky:kyA s (j - 1)=s[p].key.toNat:=by rw [hpj];exact kyA_at hp
    have HKY:=Lib.hid hky;have HPI:=Lib.hid hpI;have HPE:=Lib.hid hpe;have HWP:=Lib.hid hwp
    have HJ:Hid ((0:Int)<(j:Int)):=by show _<_;omega
    have hj0':¬ j=0:=hj0
    have HJ0:=Lib.hid hj0'
    clear ha2 hpe hwp hky hpI hpj hj0 hj0'
    by_cases g5:kI≤pI
    ·
     have HR:Hid (okS s=false):=okS_bad hlt (by
      cases e:okC s j with
      | false=>rfl
      | true=>have:=HOK.out.1 e;have:=HKI.out;have:=HKY.out;have:=HPI.out;have:=HJ0.out;omega)
     go_wp2_with fail
     obtain ⟨w5,hw5⟩:∃ w5,wr.alloc (.cells #[.int .u8 kI,.int .i64 cI] 25)=w5:=⟨_,rfl⟩
     have HX5:Hid (Ext wr w5):=by show Ext _ _;rw [← hw5];exact (Below.refl _ _).alloc (Nat.le_refl _) _
     have HC5:Hid (w5.heap[wr.heap.size]? = some (.cells #[.int .u8 kI,.int .i64 cI] 25 (0,0))):=by show _=_;rw [← hw5];exact heap_alloc_new _ _
     have HL5:Hid (w5.cell? ⟨b2,o2+p*2,none⟩=some (.int .u8 pI)):=Eq.trans (Below.cell HX5.out (p:=⟨b2,o2+p*2,none⟩) hb2) l0
     have hb25:b2<w5.heap.size:=Nat.lt_of_lt_of_le hb2 (Below.size HX5.out)
     rw [hw5]
     clear hw5 l0
     refine wp_region_rv (by kernel_rfl) (Vs [vq (.int .i64 (j:Int)),vq (.bool true),vq (.bool true),vq (.slice a s.length c),vq (.int .i64 (j:Int)),vq (.int .i64 (p:Int)),vq (.pointer (some ⟨b2,o2+p*2,none⟩)),vq (.pointer (some ⟨b2,o2+p*2,none⟩)),vq (.int .u8 pI),vq (.pointer (some ⟨wr.heap.size,0,none⟩)),vq (.int .u8 kI),vq (.bool true),vq (.bool true)]) (fun W=>Ext w5 W) 52 (by kernel_rfl) rfl ?hVx ?hSx ?hS (opsOk_all ?hop) ?hfin
     case hop =>
      refine ⟨?_,?k1,?_,?_,?_,?_,?_,?_,?_,?_,?_,?_,?_,trivial⟩
      all_goals
       intro A W hsz hS hdep hbase
       have l0:=Eq.trans (Below.cell hS (p:=⟨b2,o2+p*2,none⟩) hb25) HL5.out
       have d0:=Eq.trans (Below.cell hS (p:=⟨wr.heap.size,0,none⟩) (Array.getElem?_eq_some_iff.1 HC5.out).1) (cell_of_row w5 wr.heap.size 0 _ _ (0,0) HC5.out)
       rw [show (#[.int .u8 kI,.int .i64 cI]:Array Value)[0]? = some (.int .u8 kI) from rfl] at d0
       have hpe:=HPE.out
       have hwp:=HWP.out
       rw [hpe] at hwp
       have h0:A.tmps.getD 0 undef=.slice a s.length c:=hbase 0 (by kernel_rfl)
       have h3:A.tmps.getD 3 undef=.int .i64 (j:Int):=hbase 3 (by kernel_rfl)
       have h4:A.tmps.getD 4 undef=.pointer (some ⟨wr.heap.size,0,none⟩):=hbase 4 (by kernel_rfl)
       clear hbase
       simp [slotOf,Region.binds,Vs,vq] at hdep
      case k1 =>
       refine opOk_run rfl (.inl ⟨_,W,?_,rfl,Ext.refl _⟩)
       clear hsz hS;have hj9:=HJ.out;simp [go_sem,Act.eval, *]
       omega
      all_goals first
       | (refine opOk_run rfl (.inl ⟨_,W,?_,rfl,Ext.refl _⟩);clear hsz hS;simp [go_sem,Act.eval, *];done)
       | (refine opOk_runG (j:=2) (d:=40) (b:=true) rfl (by kernel_rfl) (by simp only [hdep]) rfl (.inl ⟨_,W,?_,rfl,Ext.refl _⟩);clear hsz hS;simp [go_sem,Act.eval, *];done)
     case hVx=>exact vs_stays (by simp only [List.mem_cons,List.not_mem_nil,or_false,forall_eq_or_imp,forall_eq];and_intros <;> exact stays_const _)
     case hSx=>exact fun W W' h hx=>Ext.trans h hx
     case hS=>exact Ext.refl _
     case hfin =>
      intro A W hsz hdf hS hv hbase
      obtain ⟨x,hx,hA⟩:=act_puts [38,39,40,41,42,43,44,45,46,47,48,49,50] (by kernel_rfl) hsz hdf hbase
      have e50:x 50=.bool true:=(hx 50).trans (hv 12 (by decide))
      rw [hA]
      simp only [List.foldl]
      rw [e50]
      clear e50
      simp only [Act.put,List.setIfInBounds_toArray,List.set_cons_succ,List.set_cons_zero]
      clear hA hx hv hbase hsz hdf
      have HS0:Hid (Ext w5 W):=hS
      clear hS
      go_wp2_with fail
      go_ret
      exact ⟨ret_bool HR.out.symm,HB.out.trans (Below.mono (Ext.trans HX5.out HS0.out) HB.out.size)⟩
    ·
     have HO:Hid (okC s j=true):=HOK.out.2 (by have:=HKI.out;have:=HCI.out;have:=HKY.out;have:=HPI.out;have:=HJ0.out;omega)
     go_wp2_with fail
     obtain ⟨w5,hw5⟩:∃ w5,wr.alloc (.cells #[.int .u8 kI,.int .i64 cI] 25)=w5:=⟨_,rfl⟩
     have HX5:Hid (Ext wr w5):=by show Ext _ _;rw [← hw5];exact (Below.refl _ _).alloc (Nat.le_refl _) _
     have HC5:Hid (w5.heap[wr.heap.size]? = some (.cells #[.int .u8 kI,.int .i64 cI] 25 (0,0))):=by show _=_;rw [← hw5];exact heap_alloc_new _ _
     have HL5:Hid (w5.cell? ⟨b2,o2+p*2,none⟩=some (.int .u8 pI)):=Eq.trans (Below.cell HX5.out (p:=⟨b2,o2+p*2,none⟩) hb2) l0
     have hb25:b2<w5.heap.size:=Nat.lt_of_lt_of_le hb2 (Below.size HX5.out)
     rw [hw5]
     clear hw5 l0
     refine wp_region_rv (by kernel_rfl) (Vs [vq (.int .i64 (j:Int)),vq (.bool true),vq (.bool true),vq (.slice a s.length c),vq (.int .i64 (j:Int)),vq (.int .i64 (p:Int)),vq (.pointer (some ⟨b2,o2+p*2,none⟩)),vq (.pointer (some ⟨b2,o2+p*2,none⟩)),vq (.int .u8 pI),vq (.pointer (some ⟨wr.heap.size,0,none⟩)),vq (.int .u8 kI),vq (.bool false),vq (.bool false)]) (fun W=>Ext w5 W) 52 (by kernel_rfl) rfl ?hVx ?hSx ?hS (opsOk_all ?hop) ?hfin
     case hop =>
      refine ⟨?_,?k1,?_,?_,?_,?_,?_,?_,?_,?_,?_,?_,?_,trivial⟩
      all_goals
       intro A W hsz hS hdep hbase
       have l0:=Eq.trans (Below.cell hS (p:=⟨b2,o2+p*2,none⟩) hb25) HL5.out
       have d0:=Eq.trans (Below.cell hS (p:=⟨wr.heap.size,0,none⟩) (Array.getElem?_eq_some_iff.1 HC5.out).1) (cell_of_row w5 wr.heap.size 0 _ _ (0,0) HC5.out)
       rw [show (#[.int .u8 kI,.int .i64 cI]:Array Value)[0]? = some (.int .u8 kI) from rfl] at d0
       have hpe:=HPE.out
       have hwp:=HWP.out
       rw [hpe] at hwp
       have h0:A.tmps.getD 0 undef=.slice a s.length c:=hbase 0 (by kernel_rfl)
       have h3:A.tmps.getD 3 undef=.int .i64 (j:Int):=hbase 3 (by kernel_rfl)
       have h4:A.tmps.getD 4 undef=.pointer (some ⟨wr.heap.size,0,none⟩):=hbase 4 (by kernel_rfl)
       clear hbase
       simp [slotOf,Region.binds,Vs,vq] at hdep
      case k1 =>
       refine opOk_run rfl (.inl ⟨_,W,?_,rfl,Ext.refl _⟩)
       clear hsz hS;have hj9:=HJ.out;simp [go_sem,Act.eval, *]
       omega
      all_goals first
       | (refine opOk_run rfl (.inl ⟨_,W,?_,rfl,Ext.refl _⟩);clear hsz hS;simp [go_sem,Act.eval, *];done)
       | (refine opOk_runG (j:=2) (d:=40) (b:=true) rfl (by kernel_rfl) (by simp only [hdep]) rfl (.inl ⟨_,W,?_,rfl,Ext.refl _⟩);clear hsz hS;simp [go_sem,Act.eval, *];done)
     case hVx=>exact vs_stays (by simp only [List.mem_cons,List.not_mem_nil,or_false,forall_eq_or_imp,forall_eq];and_intros <;> exact stays_const _)
     case hSx=>exact fun W W' h hx=>Ext.trans h hx
     case hS=>exact Ext.refl _
     case hfin =>
      intro A W hsz hdf hS hv hbase
      obtain ⟨x,hx,hA⟩:=act_puts [38,39,40,41,42,43,44,45,46,47,48,49,50] (by kernel_rfl) hsz hdf hbase
      have e50:x 50=.bool false:=(hx 50).trans (hv 12 (by decide))
      rw [hA]
      simp only [List.foldl]
      rw [e50]
      clear e50
      simp only [Act.put,List.setIfInBounds_toArray,List.set_cons_succ,List.set_cons_zero]
      clear hA hx hv hbase hsz hdf
      have HS0:Hid (Ext w5 W):=hS
      clear hS
      go_wp2_with fail
      go_roundg (s.length - (j+1))
      case measure=>have:=HGK.out;omega
      case rel=>exact ⟨j+1,by go_num,by omega,rfl,by rw [rangeAll_succ,HALL.out,HO.out];rfl,HB.out.trans (Below.mono (Ext.trans HX5.out HS0.out) HB.out.size)⟩
  ·
   have HR:Hid (okS s=true):=by
    show _=_
    have e:j=s.length:=by omega
    have h:=HALL.out
    rw [e] at h
    unfold okS;rw [h];simp;omega
   go_wp2_with fail
   go_ret
   exact ⟨ret_bool HR.out.symm,HB.out⟩
def DisL (L:List Slt):Prop:=∀ s∈L,s.Pairwise fun a b=>a.key≠b.key
theorem sch_cells {w:World} {g:Nat} {m a:Int} {b:Option Addr} {n c:Nat} (h:w.heap[g]? = some (.cells #[.int .i64 m,.int .u8 a,.slice b n c] 36 (0,0))) :
  w.cell? ⟨g,0,none⟩=some (.int .i64 m)∧w.cell? ⟨g,1,none⟩=some (.int .u8 a)∧w.cell? ⟨g,2,none⟩=some (.slice b n c):=by
 refine ⟨?_,?_,?_⟩ <;> (rw [cell_of_row w g _ _ _ (0,0) h];rfl)
def slC (z:Int) (k:Nat):Ch:=⟨UInt8.ofNat (97+k),(z / 7*(k:Int)) % 12⟩
def slHas (z:Int) (k:Nat):Bool:=(1+z % 7) / 2 ^ k % 2 == 1
def slTo (z:Int) (k:Nat):Slt:=((List.range k).filter (slHas z)).map (slC z)
def slotF (z:Int):Slt:=slTo z 3
def slotsF (Z:Nat→Int) (n:Nat):List Slt:=(List.range n).map fun i=>slotF (Z i)
theorem slTo_succ (z:Int) (k:Nat):slTo z (k+1)=slTo z k ++ (if slHas z k=true then [slC z k] else []):=by
 unfold slTo
 rw [List.range_succ,List.filter_append,List.map_append]
 by_cases h:slHas z k=true
 · simp [h]
 · simp [h]
theorem slTo_len (z:Int) (k:Nat):(slTo z k).length≤k:=by
 unfold slTo
 rw [List.length_map]
 exact Nat.le_trans (List.length_filter_le _ _) (by simp)
theorem slotsF_succ (Z:Nat→Int) (n:Nat):slotsF Z (n+1)=slotsF Z n ++ [slotF (Z n)]:=by simp [slotsF,List.range_succ]
theorem slotsF_len (Z:Nat→Int) (n:Nat):(slotsF Z n).length=n:=by simp [slotsF]
theorem i64_one (x:Nat) (h:x<8):bits .and .i64 (x:Int) 1=((x % 2:Nat):Int):=by
 rcases (show x=0∨x=1∨x=2∨x=3∨x=4∨x=5∨x=6∨x=7 by omega) with rfl | rfl | rfl | rfl | rfl | rfl | rfl | rfl <;> decide
theorem sl_one (z:Int) (k:Nat) (z0:0≤z):(bits .and .i64 ((1+z % 7) / 2 ^ k) 1 == 1)=slHas z k:=by
 obtain ⟨n,hn⟩:=Int.eq_ofNat_of_zero_le (show 0≤1+z % 7 by omega)
 have h8:n<8:=by omega
 unfold slHas
 rw [hn]
 have hd:((n:Int) / 2 ^ k)=((n / 2 ^ k:Nat):Int):=by simp
 rw [hd,i64_one _ (Nat.lt_of_le_of_lt (Nat.div_le_self _ _) h8),Bool.eq_iff_iff]
 simp only [beq_iff_eq]
 omega
set_option maxHeartbeats 6400000 in
set_option maxRecDepth 100000 in
theorem
    slots_any
         (Z:Nat→Int) (a:Option Addr) (len cap n:Nat) (w:World) (hZ:IsBytes w a len Z) (hl:len≤9223372036854775807) (hn:n≤1000) :
  Calls Tryd.prog 5 #[.slice a len cap,.int .i64 (n:Int)] w fun e w'=>∃ v,e=.returned v∧SltsG w' w.heap.size v (slotsF Z (min len n))∧v≠.slice none 0 0∧Below w.heap.size w w':=by
 have HZ:=Lib.hid hZ;clear hZ
 go_enter Tryd.func5,Tryd.ntmps5
 go_wp2_with fail
 have HS0:Hid (SltsR (w.alloc (.cells #[] 28)) w.heap.size (.slice (some ⟨w.heap.size,0,none⟩) 0 0) [] []):=⟨OwnG.empty rowSlts (heap_alloc_new _ _) (Nat.le_refl _),rfl,fun k x s h=>by simp at h⟩
 have HB0:Hid (Below w.heap.size w (w.alloc (.cells #[] 28))):=(Below.refl _ _).alloc (Nat.le_refl _) _
 go_loopg [5,6] n (fun g v5 v6 wr=>∃ i:Nat,v6=.int .i64 (i:Int)∧i≤n∧i≤len∧g=n - i∧SltsG wr w.heap.size v5 (slotsF Z i)∧v5≠.slice none 0 0∧Below w.heap.size w wr)
 case atStart=>exact ⟨0,rfl,Nat.zero_le _,Nat.zero_le _,rfl,⟨_,HS0.out⟩,by simp,HB0.out⟩
 case round =>
  clear HS0 HB0
  obtain ⟨i,rfl,hi,hil,hgk,⟨Ls,hq⟩,hnn,hb⟩:=hrel
  obtain ⟨a5,c5,hv5, -, -⟩:=hq.own.form
  subst hv5
  have HQ:=Lib.hid hq;have HGK:=Lib.hid hgk;have HB:=Lib.hid hb;have HNN:=Lib.hid hnn
  have hll:Ls.length=i:=by rw [hq.len,slotsF_len]
  have HLL:=Lib.hid hll
  clear hq hgk hb hll hnn
  by_cases hlt:i<len
  ·
   by_cases hin:i<n
   ·
    have hinI
         : (i:Int)<(n:Int):=by omega
    obtain ⟨b,o,ha,hb,h0,z0,z1⟩:=(HZ.out.later HB.out (Nat.le_refl _)).at hlt
    have hidx:=idx_bytes a b o len cap i ha hlt
    have HSU:=Lib.hid (slotsF_succ Z i)
    obtain ⟨z,hz⟩:∃ z,Z i=z:=⟨_,rfl⟩
    rw [hz] at h0 z0 z1 HSU
    clear hz ha
    have hzm:z.tmod 7=z % 7:=Int.tmod_eq_emod_of_nonneg z0
    have hzd:z.tdiv 7=z / 7:=Int.tdiv_eq_ediv_of_nonneg z0
    have HM:=Lib.hid hzm;have HD:=Lib.hid hzd
    have HH0:=Lib.hid h0
    obtain ⟨wo,hwo⟩:∃ wo:World,wo=wr:=⟨wr,rfl⟩
    subst hwo
    have hblt:=(Lib.hid hb)
    go_wp2_with fail
    have HIN:Hid (OwnG rowCh (wo.alloc (.cells #[] 25)) wo.heap.size (.slice (some ⟨wo.heap.size,0,none⟩) 0 0) []):=OwnG.empty rowCh (heap_alloc_new _ _) (Nat.le_refl _)
    have HBI:Hid (Below wo.heap.size wo (wo.alloc (.cells #[] 25))):=(Below.refl _ _).alloc (Nat.le_refl _) _
    clear hzm hzd h0
    go_loopg [8,9] 3 (fun g v8 v9 wr=>∃ k:Nat,v9=.int .i64 (k:Int)∧k≤3∧g=3 - k∧OwnG rowCh wr wo.heap.size v8 (slTo z k)∧Below wo.heap.size wo wr)
    case atStart=>exact ⟨0,rfl,Nat.zero_le _,rfl,HIN.out,HBI.out⟩
    case round =>
     clear HIN HBI
     obtain ⟨k,rfl,hk,hgk2,hin2,hbi⟩:=hrel
     obtain ⟨a8,c8,hv8, -, -⟩:=hin2.form
     subst hv8
     have HIN:=Lib.hid hin2;have HBI:=Lib.hid hbi;have HGK2:=Lib.hid hgk2
     have h0:=(hbi.cell (p:=⟨b,o+i,none⟩) hblt.out).trans HH0.out
     have hlen:=slTo_len z k
     have HTS:=Lib.hid (slTo_succ z k)
     obtain ⟨T,hT⟩:∃ T,slTo z k=T:=⟨_,rfl⟩
     rw [hT] at HIN HTS hlen ⊢
     have HT:=Lib.hid hT
     clear hin2 hbi hgk2 hT
     by_cases hk3:k<3
     ·
      have hk3I:(k:Int)<3:=by omega
      have hsh:=sl_one z k z0
      cases hhs:slHas z k with
      | false =>
       rw [hhs] at hsh HTS
       have HE:Hid (slTo z (k+1)=T):=by show _=_;rw [HTS.out];simp
       clear hhs
       go_wp2_with fail
       go_roundg (3 - (k+1))
       case measure=>have:=HGK2.out;omega
       case rel=>exact ⟨k+1,by go_num,by omega,rfl,by rw [HE.out];exact HIN.out,HBI.out⟩
      | true =>
       rw [hhs] at hsh HTS
       have HE:Hid (slTo z (k+1)=T ++ [slC z k]):=by show _=_;rw [HTS.out];rfl
       have hzd:=HD.out
       have hzq:(wrap64 (z / 7*(k:Int))).tmod 12=z / 7*(k:Int) % 12:=by
        have h1:0≤z / 7*(k:Int):=Int.mul_nonneg (Int.ediv_nonneg z0 (by decide)) (by omega)
        have h2:z / 7*(k:Int)≤36*3:=Int.mul_le_mul (by omega) (by omega) (by omega) (by decide)
        rw [show wrap64 (z / 7*(k:Int))=z / 7*(k:Int) by unfold wrap64;omega,Int.tmod_eq_emod_of_nonneg h1]
       have henc:([slC z k].flatMap rowCh.enc).toArray=#[.int .u8 (97+(k:Int)),.int .i64 (z / 7*(k:Int) % 12)]:=by
        have e:((UInt8.ofNat (97+k)).toNat:Int)=97+(k:Int):=by
         rw [UInt8.toNat_ofNat'];omega
        show #[Value.int .u8 ((UInt8.ofNat (97+k)).toNat:Int),.int .i64 (z / 7*(k:Int) % 12)]=_
        rw [e]
       have HENC:=Lib.hid henc
       obtain ⟨cq,hcq⟩:∃ cq,z / 7*(k:Int) % 12=cq:=⟨_,rfl⟩
       rw [hcq] at hzq HENC
       clear hhs henc hcq
       go_wp2_with (at_builtin;go_loud (refine wpList_append_g (v:=.slice a8 T.length c8) rowCh_ok rfl _ _ rfl rfl (HIN.out.later ((Below.refl _ _).alloc (Nat.le_refl _) _) (Nat.le_refl _)) ⟨wr.heap.size,0,none⟩ 1 [slC z k] rfl (cells_built (by rw [HENC.out];exact heap_alloc_new _ _)) (by simp only [List.length_singleton];omega) (by have:=HBI.out.size;simp only [World.size_alloc];omega) ?_);intro v16 w16 hown16 hgrow16 hat16;have HO16:=Lib.hid hown16;have HG16:=Lib.hid hgrow16;clear hown16 hgrow16 hat16)
       go_roundg (3 - (k+1))
       case measure=>have:=HGK2.out;omega
       case rel=>exact ⟨k+1,by go_num,by omega,rfl,by rw [HE.out];exact HO16.out,(HBI.out.trans (((Below.refl _ _).alloc (Nat.le_refl _) _).mono HBI.out.size)).grown HG16.out (by have:=HBI.out.size;simp only [World.size_alloc];omega) fun q hq=>HIN.out.ge q hq⟩
     ·
      obtain rfl:k=3:=by omega
      have HE:Hid (slotF z=T):=HT.out
      have hx8:ElS wr ⟨a8,T.length,c8⟩ T:=ElS.of HIN.out
      have HX8:=Lib.hid hx8
      have HQ8:=Lib.hid (HQ.out.later HBI.out (Nat.le_refl _))
      have HB8:Hid (Below w.heap.size w wr):=HB.out.trans (HBI.out.mono HB.out.size)
      clear hx8
      go_wp2_with (at_builtin;go_loud (refine wpList_append_g (v:=.slice a5 Ls.length c5) rowSlts_ok rfl _ _ rfl rfl (HQ8.out.own.later ((Below.refl _ _).alloc (Nat.le_refl _) _) (Nat.le_refl _)) ⟨wr.heap.size,0,none⟩ 1 [⟨a8,T.length,c8⟩] rfl (cells_built (heap_alloc_new _ _)) (by have:=HLL.out;simp only [List.length_singleton];omega) (by have:=HB8.out.size;simp only [World.size_alloc];omega) ?_);intro v16 w16 hown16 hgrow16 hat16;have HO16:=Lib.hid hown16;have HG16:=Lib.hid hgrow16;clear hown16 hgrow16 hat16)
      go_roundg (n - (i+1))
      case measure=>have:=HGK.out;omega
      case rel =>
       have hxa:Ext wr (wr.alloc (.cells #[.slice a8 T.length c8] 28)):=(Below.refl _ _).alloc (Nat.le_refl _) _
       have hq16:=SltsR.push (HQ8.out.later hxa (Nat.le_refl _)) HO16.out HG16.out (HX8.out.kc (Kc.of hxa (Nat.le_refl _)))
       have hsu:=HSU.out
       rw [HE.out] at hsu
       rw [← hsu] at hq16
       exact ⟨i+1,by go_num,by omega,by omega,rfl,⟨_,hq16⟩,(fun e=>by
        have h9:=hq16.len
        rcases hq16.own.blk with ⟨_,h⟩ | ⟨g,c,h,_⟩
        · simp at h
        · rw [h] at e;simp at e),(HB8.out.trans (hxa.mono HB8.out.size)).grown HG16.out (by have:=HB8.out.size;have:=hxa.size;omega) fun q hq=>HQ8.out.own.ge q hq⟩
   ·
    have hinI:¬ (i:Int)<(n:Int):=by omega
    have HR:Hid (slotsF Z (min len n)=slotsF Z i):=by show _=_;rw [show min len n=i by omega]
    go_wp2_with fail
    go_ret
    exact ⟨_,rfl,by rw [HR.out];exact ⟨_,HQ.out⟩,HNN.out,HB.out⟩
  ·
   have HR:Hid (slotsF Z (min len n)=slotsF Z i):=by show _=_;rw [show min len n=i by omega]
   go_wp2_with fail
   go_ret
   exact ⟨_,rfl,by rw [HR.out];exact ⟨_,HQ.out⟩,HNN.out,HB.out⟩
def WordsP (R:List Rl) (acc:Int) (L:List Slt) (X:List (List UInt8)) (B:Nat) (e:Ending) (w':World):Prop :=
 ∃ a c l,e=.returned (.slice a l.length c)∧OwnG rowFnd w' B (.slice a l.length c) l∧FndB R acc L X L.length l
set_option maxHeartbeats 6400000 in
set_option maxRecDepth 100000 in
theorem lwords_any (R:List Rl) (modes acc:Int) (aS:Option Addr) (cS:Nat) (D:List Nd) (aD:Option Addr) (cD:Nat) (aL:Option Addr) (L:List Slt) (cL C:Nat) (w:World) (hR:RulS w aS R) (hRl:R.length≤1000) (hO:∀ r∈R,r.out.size≤1000000) (hD:DawgS w aD D) (hDl:D.length≤9223372036854775807) (hC:CsOk D)
  (hl:(wordsF D).length≤1000) (hs:∀ x∈wordsF D,x.size≤20) (hinc:((wordsF D).map bts).Pairwise fun a b=>Op.bytesLess a b=true) (hL:SlotS w aL L) (hLl:L.length≤1000) (hBs:SlotsB C L) (hCc:C≤1000000)
  (hcost:∀ N i,N≤1+20*(wordsF D).length→i≤L.length→8*N*(i*((8*N+1)*(1000+4*C))+(8*N+1)*(1000+4*C)+2)≤900000000000) (ha0:0≤acc) (ha1:acc≤255) :
  Calls Tryd.prog 9 #[.agg #[.int .i64 modes,.int .u8 acc,.slice aS R.length cS],.slice aD D.length cD,.slice aL L.length cL] w fun e w'=>WordsP R acc L ((wordsF D).map bts) w.heap.size e w'∧Below w.heap.size w w':=by
 obtain ⟨X,hX⟩:∃ X,(wordsF D).map bts=X:=⟨_,rfl⟩
 have hns:=fun w1 (hx:Ext w w1)=>ends_any R modes acc aS cS D aD cD aL L cL C w1 (hR.later hx (Nat.le_refl _)) hRl hO (hD.later hx (Nat.le_refl _)) hDl hC hl hs hinc (hL.later hx (Nat.le_refl _)) hLl hBs hCc hcost ha0 ha1
 rw [hX] at hns ⊢
 have HNS:=Lib.hid hns
 clear hR hO hD hC hs hinc hL hBs hcost hns hX
 go_enter Tryd.func9,Tryd.ntmps9
 go_wp2_with fail
 obtain ⟨w1,hw1⟩:∃ w1,w.alloc (.cells #[.int .i64 modes,.int .u8 acc,.slice aS R.length cS] 36)=w1:=⟨_,rfl⟩
 rw [hw1]
 have HX1:Hid (Ext w w1):=by
  show Ext _ _
  rw [← hw1];exact (Below.refl _ _).alloc (Nat.le_refl _) _
 clear hw1
 refine (HNS.out w1 HX1.out).mono ?_
 rintro e w2 ⟨⟨g,Ls,rfl,hrow,hLs,hfs⟩,hb2⟩
 have hk:L.length<Ls.length:=by omega
 have hcl:=hrow.cell rowFnds_ok hk (j:=0) (by decide)
 have e1:L.length*rowFnds.k+0=L.length:=by show L.length*1+0=_;omega
 rw [e1] at hcl
 have hcl2:w2.cell? ⟨g,L.length,none⟩=some (.slice Ls[L.length].a Ls[L.length].n Ls[L.length].c):=hcl
 have hix:=idx_fnds g (L.length+1) (L.length+1) L.length (Nat.lt_succ_self _)
 obtain ⟨l,ho,hf⟩:=hfs L.length hk (Nat.lt_succ_self _)
 obtain ⟨a,c,he, -⟩:=ho.form
 have HO:=Lib.hid ho;have HF:=Lib.hid hf;have HE:=Lib.hid he;have HB:=Lib.hid hb2
 clear hrow hfs hLs hcl e1 ho hf he hb2
 go_wp2_with fail
 go_ret
 have he:(.slice Ls[L.length].a Ls[L.length].n Ls[L.length].c:Value)=.slice a l.length c:=HE.out
 rw [he]
 have ho:=HO.out
 rw [show svS Ls[L.length]=_ from he] at ho
 exact ⟨⟨a,c,l,rfl,ho.mono HX1.out.size,HF.out⟩,Below.trans HX1.out (HB.out.mono HX1.out.size)⟩
set_option maxHeartbeats 1600000 in
theorem valid1_any (s:Slt) (a:Option Addr) (c:Nat) (w:World) (hA:ArcS w a (chA s)) (hl:s.length≤9223372036854775807) :
  Calls Tryd.prog 14 #[.slice a s.length c] w fun e w'=>e=.returned (.bool (!okS s))∧Below w.heap.size w w':=by
 have hv:=vslot_any s a c w hA hl
 have HV:=Lib.hid hv
 clear hA hv
 go_enter Tryd.func14,Tryd.ntmps14
 go_wp2_with fail
 refine HV.out.mono ?_
 rintro e w1 ⟨rfl,hb⟩
 have HB:=Lib.hid hb
 clear hb
 obtain ⟨r,hr⟩:∃ r,okS s=r:=⟨_,rfl⟩
 rw [hr]
 have HR:=Lib.hid hr
 clear hr
 cases r with
 | true =>
  go_wp2_with fail
  go_ret
  exact ⟨ret_bool (by rw [HR.out];rfl),HB.out⟩
 | false =>
  go_wp2_with fail
  go_ret
  exact ⟨ret_bool (by rw [HR.out];rfl),HB.out⟩
set_option maxHeartbeats 1600000 in
theorem
    idx_valid_any (L:List Slt) (a:Option Addr) (cap:Nat) (w:World) (hX:SlotS w a L) (hl:L.length≤9223372036854775807) :
  Calls Tryd.prog 23 #[.slice a L.length cap,.func (.func 14) #[] #[]] w fun e w'=>(∃ i:Int,e=.returned (.int .i64 i)∧decide (0≤i)=!L.all okS)∧Below w.heap.size w w':=by
 have HX:=Lib.hid hX;clear hX
 go_enter Tryd.func23,Tryd.ntmps23
 go_wp2
 go_loopg [8] L.length (fun g v8 wr=>∃ j:Nat,v8=.int .i64 (j:Int)∧j≤L.length∧g=L.length - j∧(L.take j).all okS=true∧Below w.heap.size w wr)
 case atStart=>exact ⟨0,rfl,Nat.zero_le _,rfl,rfl,Below.refl _ _⟩
 case round =>
  obtain ⟨j,rfl,hj,hgk,ht,hB⟩:=hrel
  have HT:=Lib.hid ht;have HB:=Lib.hid hB;have HGK:=Lib.hid hgk
  clear ht hB hgk
  by_cases hlj:j<L.length
  ·
   obtain ⟨b1,o1,ha1,hb1,aa,cc,q0,hle,harc⟩:=(HX.out.later HB.out (Nat.le_refl _)).at hlj
   have hi1:=idx_slots a b1 o1 L.length cap j ha1 hlj
   have hv:=valid1_any L[j] aa cc wr harc hle
   have HTK:Hid (L.take (j+1)=L.take j ++ [L[j]]):=List.take_succ_eq_append_getElem hlj
   have HME:Hid (L[j]∈L):=List.getElem_mem hlj
   obtain ⟨s,hs⟩:∃ s,L[j]=s:=⟨_,rfl⟩
   rw [hs] at hv q0 HTK HME
   have HV:=Lib.hid hv
   clear ha1 hs harc hv hle
   go_wp2_with fail
   refine HV.out.mono ?_
   rintro e w1 ⟨rfl,hb⟩
   have HB1:Hid (Below w.heap.size w w1):=HB.out.trans (hb.mono HB.out.size)
   clear hb
   obtain ⟨r,hr⟩:∃ r,okS s=r:=⟨_,rfl⟩
   rw [hr]
   have HR:=Lib.hid hr
   clear hr
   cases r with
   | false =>
    have HN:Hid (L.all okS=false):=by
     show _=_
     cases e:L.all okS with
     | false=>rfl
     | true=>have:=List.all_eq_true.1 e s HME.out;rw [HR.out] at this;cases this
    go_wp2_with fail
    go_ret
    exact ⟨⟨_,rfl,by rw [HN.out];simp⟩,HB1.out⟩
   | true =>
    go_wp2_with fail
    go_roundg (L.length - (j+1))
    case measure=>have:=HGK.out;omega
    case rel=>exact ⟨j+1,by go_num,by omega,rfl,by rw [HTK.out,List.all_append,HT.out];simp [HR.out],HB1.out⟩
  ·
   have HN:Hid (L.all okS=true):=by
    have h:=HT.out
    rw [List.take_of_length_le (by omega)] at h
    exact h
   go_wp2_with fail
   go_ret
   exact ⟨⟨_,rfl,by rw [HN.out];rfl⟩,HB.out⟩
set_option maxHeartbeats 1600000 in
theorem cont_valid_any (L:List Slt) (a:Option Addr) (cap:Nat) (w:World) (hX:SlotS w a L) (hl:L.length≤9223372036854775807) :
  Calls Tryd.prog 13 #[.slice a L.length cap,.func (.func 14) #[] #[]] w fun e w'=>e=.returned (.bool (!L.all okS))∧Below w.heap.size w w':=by
 have hv:=idx_valid_any L a cap w hX hl
 have HV:=Lib.hid hv
 clear hX hv
 go_enter Tryd.func13,Tryd.ntmps13
 go_wp2_with fail
 refine HV.out.mono ?_
 rintro e w1 ⟨⟨i,rfl,hi⟩,hb⟩
 have HB:=Lib.hid hb;have HI:=Lib.hid hi
 clear hb hi
 go_wp2_with fail
 go_ret
 exact ⟨ret_bool HI.out,HB.out⟩
set_option maxHeartbeats 1600000 in
theorem lvalid_any (L:List Slt) (a:Option Addr) (cap:Nat) (w:World) (hX:SlotS w a L) (hl:L.length≤9223372036854775807) :
  Calls Tryd.prog 6 #[.slice a L.length cap] w fun e w'=>e=.returned (.bool (validB L))∧Below w.heap.size w w':=by
 have hv:=cont_valid_any L a cap w hX hl
 have HV:=Lib.hid hv
 clear hX hv
 by_cases h40:40<L.length
 ·
  have h40I:(40:Int)<(L.length:Int):=by omega
  have HR:Hid (validB L=false):=by show _=_;unfold validB;simp;omega
  go_enter Tryd.func6,Tryd.ntmps6
  go_wp2_with fail
  go_ret
  exact ⟨ret_bool HR.out.symm,Below.refl _ _⟩
 ·
  have h40I:¬ (40:Int)<(L.length:Int):=by omega
  have HR:Hid (validB L=L.all okS):=by show _=_;unfold validB;rw [decide_eq_true (by omega)];rfl
  go_enter Tryd.func6,Tryd.ntmps6
  go_wp2_with fail
  refine HV.out.mono ?_
  rintro e w1 ⟨rfl,hb⟩
  have HB:=Lib.hid hb
  clear hb
  obtain ⟨r,hr⟩:∃ r,L.all okS=r:=⟨_,rfl⟩
  have HR2:Hid (validB L=r):=HR.out.trans hr
  rw [hr]
  clear hr HV HR
  cases r with
  | true =>
   go_wp2_with fail
   go_ret
   exact ⟨ret_bool HR2.out.symm,HB.out⟩
  | false =>
   go_wp2_with fail
   go_ret
   exact ⟨ret_bool HR2.out.symm,HB.out⟩
def FndS (w:World) (a:Option Addr) (l:List (Nat × Nat)):Prop:=∀ k (hk:k<l.length),∃ b o,a=some ⟨b,o,none⟩∧b<w.heap.size∧w.cell? ⟨b,o+k*2,none⟩=some (.int .i64 (l[k].1:Int))∧w.cell? ⟨b,o+k*2+1,none⟩=some (.int .i64 (l[k].2:Int))
theorem FndS.kp {w w1:World} {a:Option Addr} {l:List (Nat × Nat)} (h:FndS w a l) (hk:Kc w w1):FndS w1 a l:=fun k hl=>by
 obtain ⟨b,o,ha,h1,h2,h3⟩:=h k hl
 exact ⟨b,o,ha,Nat.lt_of_lt_of_le h1 hk.size,hk.cell h2,hk.cell h3⟩
theorem FndS.later {w w1:World} {a:Option Addr} {l:List (Nat × Nat)} {B:Nat} (h:FndS w a l) (hb:Below B w w1) (hB:w.heap.size≤B):FndS w1 a l:=h.kp (Kc.of hb hB)
theorem FndS.at {w:World} {a:Option Addr} {l:List (Nat × Nat)} (h:FndS w a l) {k:Nat} (hk:k<l.length):∃ b o,a=some ⟨b,o,none⟩∧b<w.heap.size∧w.cell? ⟨b,o+k*2,none⟩=some (.int .i64 (l[k].1:Int))∧w.cell? ⟨b,o+k*2+1,none⟩=some (.int .i64 (l[k].2:Int)):=h k hk
theorem OwnG.fnds {w:World} {B:Nat} {a:Option Addr} {n c:Nat} {L:List (Nat × Nat)} (h:OwnG rowFnd w B (.slice a n c) L):FndS w a L∧n=L.length∧L.length≤c:=by
 obtain ⟨a',c',he,hc,_⟩:=h.form
 injection he with e1 e2 e3
 refine ⟨fun k hk=>?_,e2,by omega⟩
 rcases h.blk with ⟨_,rfl⟩ | ⟨g,c2,he2,_,hg,_⟩
 · simp at hk
 ·
  injection he2 with f1 f2 f3
  subst f1
  refine ⟨g,0,rfl,hg,?_,?_⟩
  ·
   have:=h.cell rowFnd_ok hk (j:=0) (by decide)
   simpa [rowFnd] using this
  ·
   have:=h.cell rowFnd_ok hk (j:=1) (by decide)
   simpa [rowFnd] using this
theorem idx_fnd (a:Option Addr) (b o len cap k:Nat) (ha:a=some ⟨b,o,none⟩) (hk:k<len) (w:World) :
  (Instr.indexAt 43 (.slice a len cap) (.int .i64 (k:Int))).run Tryd.prog w=.ok (.pointer (some ⟨b,o+k*2,none⟩)) w:=by
 subst ha
 have h0:(0:Int)≤(k:Int):=by omega
 have h1:(k:Int)<(len:Int):=by omega
 simp [go_sem,h0,h1]
set_option maxHeartbeats 3200000 in
set_option maxRecDepth 100000 in
theorem
    fsame_any (D E:List (Nat × Nat)) (a b:Option Addr) (c d:Nat) (w:World) (hX:FndS w a D) (hY:FndS w b E) (hl1:D.length≤9223372036854775807) (hl2:E.length≤9223372036854775807) :
  Calls Tryd.prog 12 #[.slice a D.length c,.slice b E.length d] w fun e w'=>e=.returned (.bool (decide (D=E)))∧Below w.heap.size w w':=by
 have HX:=Lib.hid hX;have HY:=Lib.hid hY;clear hX hY
 by_cases hl:D.length=E.length
 ·
  have hlI:((D.length:Int) != (E.length:Int))=false:=by simp [hl]
  have HL:=Lib.hid hl
  clear hl
  go_enter Tryd.func12,Tryd.ntmps12
  go_wp2
  go_loopg [5] D.length (fun g v5 wr=>∃ k:Nat,v5=.int .i64 (k:Int)∧k≤D.length∧g=D.length - k∧D.take k=E.take k∧Below w.heap.size w wr)
  case atStart=>exact ⟨0,rfl,Nat.zero_le _,rfl,rfl,Below.refl _ _⟩
  case round =>
   obtain ⟨k,rfl,hk,hgk,ht,hB⟩:=hrel
   have HT:=Lib.hid ht;have HB:=Lib.hid hB;have HGK:=Lib.hid hgk
   clear ht hB hgk
   by_cases hlt:k<D.length
   ·
    have hlt2:k<E.length:=by have:=HL.out;omega
    obtain ⟨b1,o1,ha1,hb1,q0,q1⟩:=(HX.out.later HB.out (Nat.le_refl _)).at hlt
    obtain ⟨b2,o2,ha2,hb2,p0,p1⟩:=(HY.out.later HB.out (Nat.le_refl _)).at hlt2
    have hi1:=idx_fnd a b1 o1 D.length c k ha1 hlt
    have hi2:=idx_fnd b b2 o2 E.length d k ha2 hlt2
    have HT1:Hid (D.take (k+1)=D.take k ++ [D[k]]):=List.take_succ_eq_append_getElem hlt
    have HT2:Hid (E.take (k+1)=E.take k ++ [E[k]]):=List.take_succ_eq_append_getElem hlt2
    have HNO:Hid (D[k]≠E[k]→decide (D=E)=false):=fun hne=>decide_eq_false fun h=>by
     subst h;exact hne rfl
    obtain ⟨⟨x1,x2⟩,hx⟩:∃ x,D[k]=x:=⟨_,rfl⟩
    obtain ⟨⟨y1,y2⟩,hy⟩:∃ y,E[k]=y:=⟨_,rfl⟩
    rw [hx] at q0 q1 HT1 HNO
    rw [hy] at p0 p1 HT2 HNO
    simp only at q0 q1 p0 p1
    clear ha1 ha2 hx hy
    by_cases hf:x1=y1
    ·
     subst hf
     by_cases hg:x2=y2
     ·
      subst hg
      go_wp2
      go_quiet (fail)
      go_wp2
      go_roundg (D.length - (k+1))
      case measure=>have:=HGK.out;omega
      case rel=>exact ⟨k+1,by go_num,by omega,rfl,by rw [HT1.out,HT2.out,HT.out],below_drewN HB.out _⟩
     ·
      have hg2:((x2:Int) == (y2:Int))=false:=by simpa using fun h=>hg (by omega)
      have HR:=Lib.hid (HNO.out fun e=>hg (by injection e))
      go_wp2
      go_quiet (fail)
      go_wp2
      go_ret
      exact ⟨ret_bool HR.out.symm,below_drewN HB.out _⟩
    ·
     have hg2:((x1:Int) == (y1:Int))=false:=by simpa using fun h=>hf (by omega)
     have HR:=Lib.hid (HNO.out fun e=>hf (by injection e))
     go_wp2
     go_quiet (fail)
     go_wp2
     go_ret
     exact ⟨ret_bool HR.out.symm,below_drewN HB.out _⟩
   ·
    have HR:Hid (decide (D=E)=true):=decide_eq_true (by
     have h:=HT.out
     have h2:=HL.out
     rw [List.take_of_length_le (by omega),List.take_of_length_le (by omega)] at h
     exact h)
    go_wp2
    go_ret
    exact ⟨ret_bool HR.out.symm,HB.out⟩
 ·
  have hlI:((D.length:Int) == (E.length:Int))=false:=by simpa using fun h=>hl (by omega)
  have HR:Hid (decide (D=E)=false):=decide_eq_false fun h=>hl (by rw [h])
  go_enter Tryd.func12,Tryd.ntmps12
  go_wp2
  go_ret
  exact ⟨ret_bool HR.out.symm,Below.refl _ _⟩
end Go.Proofs.YthjmdgejnakcmaaDoor
