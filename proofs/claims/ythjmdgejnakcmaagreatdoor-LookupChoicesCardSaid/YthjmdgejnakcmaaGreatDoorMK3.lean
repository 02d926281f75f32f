/- Texts that the claims share: K6. -/
import Derived.Deep.LoopGhost
import Derived.Test.YthjmdgejnakcmaaGreatDoorMK2
namespace Go.Proofs.YthjmdgejnakcmaaGreatDoor
open Go.RowKit Go.WideShapes Fl
set_option linter.unusedVariables false
set_option linter.unusedSimpArgs false
theorem steps_mem {R:List Rl} {L:List Slt} {i m C:Nat} {s:Rl} (hF:Fairs R) (hB:SlotsB C L) (h:s∈stepsF R L i m):s.frm=(m:Int)∧0≤s.dst∧s.dst<8∧s.inp.size≤4∧0≤s.cost∧s.cost≤1000+4*(C:Int)∧∃ r∈R,s.out=r.out:=by
 obtain ⟨h1,h2⟩:=List.mem_filter.1 h
 obtain ⟨r,k,hr,hk,rfl⟩:=mem_fits.1 h1
 have hf:=fairB_iff.1 (hF r hr)
 have hc:=letsC_le (hB.drop i) hk
 rw [bts_len] at hc
 have hc2:r.inp.size*C≤4*C:=Nat.mul_le_mul_right C hf.2.2.2.2.1
 refine ⟨of_decide_eq_true h2,hf.2.2.1,hf.2.2.2.1,hf.2.2.2.2.1,?_,?_,r,hr,rfl⟩
 · show 0≤r.cost+(k:Int);omega
 · show r.cost+(k:Int)≤_;omega
theorem stt_cells {w:World} {g:Nat} {a b:Int} {t:TypeId} (h:w.heap[g]? = some (.cells #[.int .i64 a,.int .i64 b] t (0,0))):w.cell? ⟨g,0,none⟩=some (.int .i64 a)∧w.cell? ⟨g,1,none⟩=some (.int .i64 b):=by
 refine ⟨?_,?_⟩ <;> (rw [cell_of_row w g _ _ _ (0,0) h];rfl)
structure VisitP (R:List Rl) (L:List Slt) (T:List Bn) (i B0 D B:Nat) (gm:Nat→Nat) (M:Nat→Ent) (w w':World) (M':Nat→Ent):Prop where
 vx:VX w B gm i M' w'
 inv:Inv R L (folT T) i M'
 shut:∀ t,Shut R L (folT T) i M' t
 bnd:Bnd T.length i B0 D M'
 out:∀ j,¬ (i≤j∧j<i+5)→M' j=M j
structure VQ (w2:World) (B:Nat) (gm:Nat→Nat) (i:Nat) (M0 M:Nat→Ent) (q:List Stt) (v:Value) (w:World):Prop where
 vx:VX w2 B gm i M w
 own:OwnG rowStt w w2.heap.size v q
 out:∀ j,¬ (i≤j∧j<i+5)→M j=M0 j
theorem VQ.ext {w2 w w':World} {B i:Nat} {gm:Nat→Nat} {M0 M:Nat→Ent} {q:List Stt} {v:Value} (h:VQ w2 B gm i M0 M q v w) (hx:Ext w w') (hB:B≤w2.heap.size):VQ w2 B gm i M0 M q v w' :=
 ⟨h.vx.ext hx hB,h.own.later hx (Nat.le_refl _),h.out⟩
def PutT (w14:World) (g:Nat) (t:Stt) (E:Ent) (c:Nat) (b:Bool) (W:World):Prop:=match b with | false=>Ext w14 W | true=>PutP w14 W g t E c
theorem PutT.kp {w14 W:World} {g:Nat} {t:Stt} {E:Ent} {c:Nat} (hm:MpG keyS w14 g E):∀ {b:Bool},PutT w14 g t E c b W→Kc w14 W
 | false,h=>Kc.of h (Nat.le_refl _)
 | true,h=>PutP.kp h hm
section
variable {w w':World} {gx:Nat} {acc:Int} {aR:Option Addr} {nR cR:Nat} {aT:Option Addr} {nT cT:Nat} {aL:Option Addr} {nL cL:Nat} {gm:Nat→Nat}
set_option maxHeartbeats 6400000 in
set_option maxRecDepth 100000 in
theorem
    svisit_any (
          R
           :
            List Rl) (L:List Slt) (T:List Bn) (C i B0 D B:Nat) (M:Nat→Ent) (hx:SX w gx acc aR nR cR aT nT cT aL nL cL gm) (hR:RulS w aR R) (hnR:nR=R.length) (hRl:nR≤1000) (hF:Fairs R) (hO:∀ r∈R,r.out.size≤1000000)
  (hL:SlotS w aL L) (hn:nL=L.length) (hnl:nL≤100000) (hi:i≤L.length) (hBs:SlotsB C L) (hC:C≤1000000) (hT:TreeS w aT T) (hnT:nT=T.length) (hTl:nT≤100000) (hIn:TrIn T)
  (hG:GmOk B gm) (hBw:B≤w.heap.size) (hm:∀ j,i≤j→j<i+5→MpG keyS w (gm (j % 5)) (M j)) (hinv:Inv R L (folT T) i M) (hb:Bnd T.length i B0 D M) (hD:1000+4*C≤D) (hcost:8*T.length*(B0+(8*T.length+1)*D+2)≤900000000000) (hT0:0<T.length) :
  Calls Tryz.prog 33 #[.pointer (some ⟨gx,0,none⟩),.int .i64 (i:Int)] w fun e w'=>e=.returned (.tuple #[])∧∃ M',VisitP R L T i B0 D B gm M w w' M':=by
 subst hn hnR hnT
 have HX:=Lib.hid hx;have HR:=Lib.hid hR;have HF:=Lib.hid hF;have HO:=Lib.hid hO;have HL:=Lib.hid hL;have HBS:=Lib.hid hBs;have HT:=Lib.hid hT;have HIN:=Lib.hid hIn;have HG:=Lib.hid hG
 have HM:=Lib.hid hm;have HINV:=Lib.hid hinv;have HBD:=Lib.hid hb;have HCO:=Lib.hid hcost
 have hgx:=hx.lt
 clear hx hR hF hO hL hBs hT hIn hG hm hinv hb hcost
 have hsteps:=steps_any R L C i HX.out HR.out rfl hRl HF.out HL.out rfl (by omega) hi HBS.out hC
 have HSTEPS:=Lib.hid hsteps
 clear hsteps
 go_enter Tryz.func33,Tryz.ntmps33
 go_wp2_with fail
 refine HSTEPS.out.mono ?_
 rintro e w1 ⟨⟨va,vc,he,hrw⟩,hb1⟩
 obtain ⟨F,hFe⟩:∃ F,stepsF R L i=F:=⟨_,rfl⟩
 rw [hFe] at he hrw
 obtain rfl:e=.returned (.agg #[.slice (va 0) (F 0).length (vc 0),.slice (va 1) (F 1).length (vc 1),.slice (va 2) (F 2).length (vc 2),.slice (va 3) (F 3).length (vc 3),.slice (va 4) (F 4).length (vc 4),.slice (va 5) (F 5).length (vc 5),.slice (va 6) (F 6).length (vc 6),.slice (va 7) (F 7).length (vc 7)]):=he
 have HFE:=Lib.hid hFe
 clear hFe
 have HRW:=Lib.hid hrw;have HB1:=Lib.hid hb1
 clear hrw hb1
 go_upto_region 1 with fail
 obtain ⟨g4,hg4⟩:∃ g4,w1.heap.size=g4:=⟨_,rfl⟩
 obtain ⟨w2,hw2⟩:∃ w2,w1.alloc (.cells #[.slice (va 0) (F 0).length (vc 0),.slice (va 1) (F 1).length (vc 1),.slice (va 2) (F 2).length (vc 2),.slice (va 3) (F 3).length (vc 3),.slice (va 4) (F 4).length (vc 4),.slice (va 5) (F 5).length (vc 5),.slice (va 6) (F 6).length (vc 6),.slice (va 7) (F 7).length (vc 7)] 125)=w2:=⟨_,rfl⟩
 rw [hw2,hg4]
 have HG4:Hid (w2.heap[g4]? = some (.cells (st8 (slV va vc F)) 125 (0,0))):=by
  show _=_
  rw [← hw2,← hg4];exact heap_alloc_new _ _
 have HX12:Hid (Below w1.heap.size w1 w2):=by
  show Below _ _ _
  rw [← hw2];exact (Below.refl _ _).alloc (Nat.le_refl _) _
 have HB2:Hid (Below w.heap.size w w2):=HB1.out.trans (HX12.out.mono HB1.out.size)
 have HK2:Hid (Kc w w2):=Kc.of HB2.out (Nat.le_refl _)
 have HRW2:Hid (∀ m,m<8→RulS w2 (va m) (F m)):=fun m hm=>RulS.later (HRW.out m hm) HX12.out (Nat.le_refl _)
 have HM2:Hid (∀ j,i≤j→j<i+5→MpG keyS w2 (gm (j % 5)) (M j)):=fun j h1 h2=>(HM.out j h1 h2).kept (HB2.out.block _ (HM.out j h1 h2).lt)
 have hB2:B≤w2.heap.size:=Nat.le_trans hBw HB2.out.size
 obtain ⟨jh,hjh⟩:∃ jh,i % 5=jh:=⟨_,rfl⟩
 have HJH:=Lib.hid hjh
 have hmi:=HM2.out i (Nat.le_refl _) (by omega)
 rw [hjh] at hmi
 have HMI:=Lib.hid hmi
 have hat:=at_any i jh (by omega) hjh (HX.out.kp HK2.out)
 have HAT:=Lib.hid hat
 have HIN2:Hid ((M i).length≤8*T.length):=HBD.out.len i
 clear hg4 hw2 hjh hmi hat
 go_wp2_with fail
 refine HAT.out.mono ?_
 rintro e w2' ⟨rfl,rfl⟩
 go_wp2_with (at_range;refine wpList_range_g keyS_ok HMI.out rfl _ rfl rfl ?_;intro w3 hrg3 hb3 hs3)
 go_frame
 have HRG3:=Lib.hid hrg3;have HB3:=Lib.hid hb3;have HS3:=Lib.hid hs3
 clear hrg3 hb3 hs3
 go_loopg [6] (M i).length (fun g v6 wr=>∃ (q:List Stt) (rest:List (Stt × Nat)),OwnG rowStt wr w2.heap.size v6 q∧RgG keyS wr (gm jh) w2.heap.size (M i) rest∧rest.length=g∧q.length+rest.length≤(M i).length∧rest.Nodup∧(∀ t,t∈q↔∃ c,(t,c)∈M i∧(t,c) ∉ rest)∧Below w2.heap.size w2 wr)
 case atStart =>
  refine ⟨[],M i,OwnG.nil _ _ _,HRG3.out,rfl,by simp,?_,fun t=>?_,HB3.out⟩
  · exact (List.pairwise_map.1 ((keysN_iff _).1 (HBD.out.keys i))).imp fun hne e=>hne (by rw [e])
  · simp
 case round =>
  obtain ⟨q,rest,hown,hrg,hgk,hlen,hnd,hq,hbl⟩:=hrel
  obtain ⟨qa,qc,hqa, -, -⟩:=hown.form
  subst hqa
  have HOW:=Lib.hid hown;have HRG:=Lib.hid hrg;have HLEN:=Lib.hid hlen;have HND:=Lib.hid hnd;have HQ:=Lib.hid hq;have HBL:=Lib.hid hbl;have HGK:=Lib.hid hgk
  have hz3:=hbl.size
  clear hown hrg hlen hnd hq hbl hgk
  go_wp2_with (at_next;refine wpList_next_g keyS_ok HRG.out rfl _ rfl rfl ?_ ?_)
  ·
   intro
      h0
   have hvis:Vis R L (folT T) i T.length B0 D q 0 M:=VisIn.start HINV.out HBD.out fun t=>by
    rw [HQ.out,h0]
    constructor
    · rintro ⟨c,h1,_⟩;exact ⟨c,look_of_mem (HBD.out.keys i) h1⟩
    · rintro ⟨c,h1⟩;exact ⟨c,look_mem h1,List.not_mem_nil⟩
   have hvq:VQ w2 B gm i M M q (.slice qa q.length qc) wr:=⟨(VX.refl HM2.out).ext HBL.out hB2,HOW.out,fun _ _=>rfl⟩
   have HVIS:=Lib.hid hvis;have HVQ:=Lib.hid hvq
   obtain ⟨Cm,hCm⟩:∃ Cm,B0+(8*T.length+1)*D=Cm:=⟨_,rfl⟩
   have hpot0:q.length+pot T.length Cm (M i)≤999999999999:=by
    have h1:pot T.length Cm (M i)≤8*T.length*(Cm+1):=pot_le (HBD.out.keys i) (HBD.out.rng i) fun p hp=>by
     have h2:=HBD.out.here p hp
     have h3:(M i).length*D≤8*T.length*D:=Nat.mul_le_mul_right D HIN2.out
     rw [← hCm,Nat.add_mul];omega
    have h4:=HLEN.out
    have h5:=HCO.out
    rw [hCm] at h5
    have h6:8*T.length*(Cm+2)=8*T.length*(Cm+1)+8*T.length:=by rw [show Cm+2=(Cm+1)+1 by omega,Nat.mul_add,Nat.mul_one]
    have:=HIN2.out
    omega
   have hCmb:Cm≤900000000000:=by
    have h5:=HCO.out
    rw [hCm] at h5
    have h6:1*(Cm+2)≤8*T.length*(Cm+2):=Nat.mul_le_mul_right _ (by omega)
    omega
   have HCM:=Lib.hid hCm;have HPOT:=Lib.hid hpot0
   clear h0 hvis hvq hCm hpot0
   go_wp2_with fail
   go_loopg [6,8] (q.length+pot T.length Cm (M i)) (fun g v6 v8 wr=>∃ (n:Nat) (q:List Stt) (M':Nat→Ent),v8=.int .i64 (n:Int)∧n≤q.length∧VQ w2 B gm i M M' q v6 wr∧Vis R L (folT T) i T.length B0 D q n M'∧(q.length - n)+pot T.length Cm (M' i)=g∧q.length+pot T.length Cm (M' i)≤999999999999)
   case atStart=>exact ⟨0,q,M,rfl,Nat.zero_le _,HVQ.out,HVIS.out,rfl,HPOT.out⟩
   case round =>
    clear HVQ HVIS HPOT
    obtain ⟨n,q2,M2,rfl,hn,hvq,hvis,hgk,hpot⟩:=hrel
    obtain ⟨qa2,qc2,hqa2, -, -⟩:=hvq.own.form
    subst hqa2
    have HVQ:=Lib.hid hvq;have HVIS:=Lib.hid hvis;have HGK2:=Lib.hid hgk;have HPOT:=Lib.hid hpot
    clear hvq hvis hgk hpot
    have hnb:n≤999999999999:=by have:=HPOT.out;omega
    by_cases hlt:n<q2.length
    ·
     obtain ⟨
         bq,
           hbq,hbq1,hbq2,q0,q1⟩:=HVQ.out.own.stt hlt
     subst hbq
     obtain ⟨ct,hct⟩:=HVIS.out.qs q2[n] (List.getElem_mem hlt)
     have hrt:=HVIS.out.bnd.rng i _ (look_mem hct)
     have hen:=HVIS.out.enter hlt rfl hct
     have hct2:=HVIS.out.bnd.here_le hct
     obtain ⟨t,ht⟩:∃ t,q2[n]=t:=⟨_,rfl⟩
     rw [ht] at q0 q1 hct hrt hen
     obtain ⟨m,nd⟩:=t
     simp only at q0 q1 hrt
     obtain ⟨hm8,hndN⟩:=hrt
     have hidx:=idx_stt bq q2.length qc2 n hlt
     have HEN:=Lib.hid hen
     have hg4c:wr.cell? ⟨g4,m,none⟩=some (.slice (va m) (F m).length (vc m)):=HVQ.out.vx.kp.cell (by rw [cell_of_row w2 g4 _ _ _ (0,0) HG4.out,st8_get _ hm8];rfl)
     have hg4l:g4<wr.heap.size:=Nat.lt_of_lt_of_le (Array.getElem?_eq_some_iff.1 HG4.out).1 HVQ.out.vx.kp.size
     have hm8I:(m:Int)<8:=by omega
     have hm0I:(0:Int)≤(m:Int):=by omega
     have hFl:(F m).length≤1000:=by
      have:=stepsF_len (R:=R) (L:=L) (i:=i) (m:=m)
      rw [HFE.out] at this;omega
     have hct3:ct+D≤Cm:=by
      have h1:=HCM.out
      rw [Nat.add_mul] at h1
      omega
     obtain ⟨Fm,hFm⟩:∃ Fm,F m=Fm:=⟨_,rfl⟩
     have hrw:=HRW2.out m hm8
     rw [hFm] at hg4c hFl hrw
     have HRM:=Lib.hid hrw
     have HFS:Hid (stepsF R L i m=Fm):=by show _=_;rw [HFE.out,hFm]
     obtain ⟨am,ham⟩:∃ am,va m=am:=⟨_,rfl⟩
     obtain ⟨cm,hcm⟩:∃ cm,vc m=cm:=⟨_,rfl⟩
     rw [ham] at hg4c HRM
     rw [hcm] at hg4c
     have HQT:=Lib.hid ht
     clear hct hen hct2 ht hFm ham hcm hrw
     go_upto_region 12 with fail
     obtain ⟨w9,hw9⟩:∃ w9,wr.alloc (.cells #[.int .i64 (m:Int),.int .i64 (nd:Int)] 124)=w9:=⟨_,rfl⟩
     rw [hw9]
     have HX9:Hid (Ext wr w9):=by
      show Ext _ _
      rw [← hw9];exact (Below.refl _ _).alloc (Nat.le_refl _) _
     have HC9:Hid (w9.heap[wr.heap.size]? = some (.cells #[.int .i64 (m:Int),.int .i64 (nd:Int)] 124 (0,0))):=by
      show _=_
      rw [← hw9];exact heap_alloc_new _ _
     have HVQ9:=Lib.hid (HVQ.out.ext HX9.out hB2)
     have HN9:Hid ((.slice (some ⟨bq,0,none⟩) q2.length qc2:Value).ownBlock≠some wr.heap.size):=fun e=>by
      have:=HVQ.out.own.lt _ e;omega
     obtain ⟨g9,hg9⟩:∃ g9,wr.heap.size=g9:=⟨_,rfl⟩
     rw [hg9] at HC9 HN9 ⊢
     clear hw9 hg9 q0 q1 hidx hg4c hg4l hbq1 hbq2
     go_loopg [6,46] Fm.length (fun g v6 v46 wr=>∃ (k:Nat) (q3:List Stt) (M3:Nat→Ent),v46=.int .i64 (k:Int)∧k≤Fm.length∧g=Fm.length - k∧VQ w2 B gm i M M3 q3 v6 wr∧VisIn R L (folT T) i T.length B0 D q3 n M3 (m,nd) ct (Fm.take k)∧q3.length+pot T.length Cm (M3 i)≤q2.length+pot T.length Cm (M2 i)∧n<q3.length∧wr.heap[g9]? = some (.cells #[.int .i64 (m:Int),.int .i64 (nd:Int)] 124 (0,0))∧v6.ownBlock≠some g9)
     case atStart=>exact ⟨0,q2,M2,rfl,Nat.zero_le _,rfl,HVQ9.out,HEN.out,Nat.le_refl _,hlt,HC9.out,HN9.out⟩
     case round =>
      obtain ⟨k,q3,M3,rfl,hk,hgk,hvq,hvi,hpp,hnq,hg9,hn9⟩:=hrel
      obtain ⟨qa3,qc3,hqa3, -, -⟩:=hvq.own.form
      subst hqa3
      have HVQ3:=Lib.hid hvq;have HVI:=Lib.hid hvi;have HPP:=Lib.hid hpp;have HGK3:=Lib.hid hgk;have HG9:=Lib.hid hg9;have HN9:=Lib.hid hn9
      clear hvq hvi hpp hgk hg9 hn9
      by_cases hlk:k<Fm.length
      ·
       have hsm:Fm[k]∈stepsF R L i m:=by rw [HFS.out];exact List.getElem_mem hlk
       obtain ⟨hf1,hd0,hd8,hin4,hc0,hcD,r,hrR,hro⟩:=steps_mem HF.out HBS.out hsm
       have hout:Fm[k].out.size≤1000000:=by rw [hro];exact HO.out r hrR
       obtain ⟨b1,o1,ha1,hb1,r0,r1,r2,r3,r4⟩:=(RulS.kp HRM.out HVQ3.out.vx.kp).at hlk
       have hi1:=idx_rules am b1 o1 Fm.length cm k ha1 hlk
       have htk:Fm.take (k+1)=Fm.take k ++ [Fm[k]]:=List.take_succ_eq_append_getElem hlk
       obtain ⟨s,hs⟩:∃ s,Fm[k]=s:=⟨_,rfl⟩
       rw [hs] at hsm hf1 hd0 hd8 hin4 hc0 hcD hro hout r0 r1 r2 r3 r4 htk
       obtain ⟨frm,dst,inp,out,cost⟩:=s
       simp only at hf1 hd0 hd8 hin4 hc0 hcD hout r0 r1 r2 r3 r4
       obtain ⟨d0,rfl⟩:∃ d0:Nat,dst=(d0:Int):=⟨dst.toNat,by omega⟩
       obtain ⟨c0,rfl⟩:∃ c0:Nat,cost=(c0:Int):=⟨cost.toNat,by omega⟩
       have HSM:=Lib.hid hsm;have HTK:=Lib.hid htk
       have hd8':d0<8:=by omega
       have hcD':c0≤D:=by omega
       clear hsm hf1 hd0 hd8 hro ha1 hs htk hrR hcD
       go_upto_region 14 with fail
       obtain ⟨w11,hw11⟩:∃ w11,wr.alloc (.cells #[.int .i64 frm,.int .i64 (d0:Int),.string inp,.string out,.int .i64 (c0:Int)] 64)=w11:=⟨_,rfl⟩
       rw [hw11]
       have HX11:Hid (Ext wr w11):=by
        show Ext _ _
        rw [← hw11];exact (Below.refl _ _).alloc (Nat.le_refl _) _
       have HC11:Hid (w11.heap[wr.heap.size]? = some (.cells #[.int .i64 frm,.int .i64 (d0:Int),.string inp,.string out,.int .i64 (c0:Int)] 64 (0,0))):=by
        show _=_
        rw [← hw11];exact heap_alloc_new _ _
       obtain ⟨g11,hg11⟩:∃ g11,wr.heap.size=g11:=⟨_,rfl⟩
       rw [hg11] at HC11 ⊢
       have HKW:Hid (Kc w w11):=(HK2.out.trans HVQ3.out.vx.kp).trans (Kc.of HX11.out (Nat.le_refl _))
       obtain ⟨y0,y1,y2,y3,y4⟩:=rul_cells HC11.out
       have HC9b:Hid (w11.heap[g9]? = some (.cells #[.int .i64 (m:Int),.int .i64 (nd:Int)] 124 (0,0))):=(Kc.of HX11.out (Nat.le_refl _)).block _ _ _ _ HG9.out
       obtain ⟨x0,x1⟩:=stt_cells HC9b.out
       have hfol:=follow_any T nd out (HX.out.kp HKW.out) (HT.out.kp HKW.out) rfl (by omega) hndN hout HIN.out
       obtain ⟨lf,hlf⟩:∃ lf,folT T nd (bts out)=lf:=⟨_,rfl⟩
       have HLF:=Lib.hid hlf
       rw [hlf] at hfol
       have HFOL:=Lib.hid hfol
       clear hw11 hg11 hfol hlf r0 r1 r2 r3 r4 hi1 hb1
       cases lf with
       | none =>
        go_wp2_with fail
        refine HFOL.out.mono ?_
        rintro e w12 ⟨he,hb12⟩
        obtain rfl:e=_:=he
        have HE12:Hid (Ext wr w12):=Ext.trans HX11.out hb12
        obtain ⟨z0,z1,z2,z3,z4⟩:=rul_cells ((hb12.block g11 (Array.getElem?_eq_some_iff.1 HC11.out).1).trans HC11.out)
        have HEX:Hid (∀ o,Ext wr (w12.alloc o)):=fun o=>Ext.trans HE12.out ((Below.refl _ _).alloc (Nat.le_refl _) _)
        clear hb12 x0 x1 y0 y1 y2 y3 y4
        go_wp2_with fail
        go_roundg (Fm.length - (k+1))
        case measure=>have:=HGK3.out;omega
        case rel=>exact ⟨k+1,q3,M3,by go_num,by omega,rfl,HVQ3.out.ext (HEX.out _) hB2,by rw [HTK.out];exact HVI.out.skip HLF.out,HPP.out,hnq,(Kc.of (HEX.out _) (Nat.le_refl _)).block _ _ _ _ HG9.out,HN9.out⟩
       | some n2
            =>
        have hn2:n2<T.length:=folT_lt HIN.out hndN HLF.out
        go_wp2_with fail
        refine HFOL.out.mono ?_
        rintro e w12 ⟨he,hb12⟩
        obtain rfl:e=_:=he
        have HE12:Hid (Ext wr w12):=Ext.trans HX11.out hb12
        have HC11b:Hid (w12.heap[g11]? = some (.cells #[.int .i64 frm,.int .i64 (d0:Int),.string inp,.string out,.int .i64 (c0:Int)] 64 (0,0))):=(hb12.block g11 (Array.getElem?_eq_some_iff.1 HC11.out).1).trans HC11.out
        obtain ⟨z0,z1,z2,z3,z4⟩:=rul_cells HC11b.out
        clear hb12 x0 x1 y0 y1 y2 y3 y4
        go_upto_region 16 with fail
        obtain ⟨w14,hw14⟩:∃ w14,w12.alloc (.cells #[.int .i64 (d0:Int),.int .i64 (n2:Int)] 124)=w14:=⟨_,rfl⟩
        rw [hw14]
        have HX14a:Hid (Ext w12 w14):=by
         show Ext _ _
         rw [← hw14];exact (Below.refl _ _).alloc (Nat.le_refl _) _
        have HC14:Hid (w14.heap[w12.heap.size]? = some (.cells #[.int .i64 (d0:Int),.int .i64 (n2:Int)] 124 (0,0))):=by
         show _=_
         rw [← hw14];exact heap_alloc_new _ _
        obtain ⟨g14,hg14⟩:∃ g14,w12.heap.size=g14:=⟨_,rfl⟩
        rw [hg14] at HC14 ⊢
        have HE14:Hid (Ext wr w14):=Ext.trans HE12.out HX14a.out
        have HK14:Hid (Kc w w14):=(HK2.out.trans HVQ3.out.vx.kp).trans (Kc.of HE14.out (Nat.le_refl _))
        have HC11c:Hid (w14.heap[g11]? = some (.cells #[.int .i64 frm,.int .i64 (d0:Int),.string inp,.string out,.int .i64 (c0:Int)] 64 (0,0))):=(Below.block HX14a.out g11 (Array.getElem?_eq_some_iff.1 HC11b.out).1).trans HC11b.out
        have HC9c:Hid (w14.heap[g9]? = some (.cells #[.int .i64 (m:Int),.int .i64 (nd:Int)] 124 (0,0))):=(Kc.of HE14.out (Nat.le_refl _)).block _ _ _ _ HG9.out
        have HVQ14:=Lib.hid (HVQ3.out.ext HE14.out hB2)
        have HLH:=Lib.hid HVI.out.here
        obtain ⟨jn,hjn⟩:∃ jn,(i+inp.size) % 5=jn:=⟨_,rfl⟩
        have HJN:=Lib.hid hjn
        have hmp:=HVQ14.out.vx.maps (i+inp.size) (by omega) (by omega)
        have hmh:=HVQ14.out.vx.maps i (Nat.le_refl _) (by omega)
        rw [hjn] at hmp
        rw [HJH.out] at hmh
        have HMP:=Lib.hid hmp;have HMH:=Lib.hid hmh
        have HL1:Hid ((M3 (i+inp.size)).length<1000000):=by show _<_;have:=HVI.out.bnd.len (i+inp.size);omega
        have HOKT:Hid (keyS.ok (m,nd)):=⟨by show m<1000000;omega,by show nd<1000000;omega⟩
        have HOKN:Hid (keyS.ok (d0,n2)):=⟨by show d0<1000000;omega,by show n2<1000000;omega⟩
        obtain ⟨z0',z1',z2',z3',z4'⟩:=rul_cells HC11c.out
        obtain ⟨x0',x1'⟩:=stt_cells HC9c.out
        obtain ⟨u0',u1'⟩:=stt_cells HC14.out
        clear hw14 hg14 hjn hmp hmh z0 z1 z2 z3 z4
        have hw1:IntKind.i64.wrap ((i:Int)+(inp.size:Int))=(i:Int)+(inp.size:Int):=IntWalk.i64_in _ (by omega)
        have hw2:IntKind.i64.wrap ((ct:Int)+(c0:Int))=(ct:Int)+(c0:Int):=IntWalk.i64_in _ (by omega)
        have hcmp:=cmp_stt d0 n2 m nd
        by_cases hz:inp.size=0
        ·
         have hzI:(
               (inp.size:Int) == 0)=true:=by rw [hz];rfl
         by_cases hs:(d0,n2)=(m,nd)
         ·
          have HSA:Hid (VisIn R L (folT T) i T.length B0 D q3 n M3 (m,nd) ct (Fm.take k ++ [⟨frm,(d0:Int),inp,out,(c0:Int)⟩])):=HVI.out.same (n':=n2) (old:=ct) HLF.out (by show look (M3 (i+inp.size)) (d0,n2)=_;rw [hz,hs];exact HLH.out) (Nat.le_add_right _ _)
          have hsb:decide ((d0,n2)=(m,nd))=true:=decide_eq_true hs
          rw [hsb] at hcmp
          clear hsb hz hs
          go_wp2_with fail
          go_roundg (Fm.length - (k+1))
          case measure=>have:=HGK3.out;omega
          case rel=>exact ⟨k+1,q3,M3,by go_num,by omega,rfl,HVQ14.out,by rw [HTK.out];exact HSA.out,HPP.out,hnq,HC9c.out,HN9.out⟩
         ·
          have hsb:decide ((d0,n2)=(m,nd))=false:=decide_eq_false hs
          rw [hsb] at hcmp
          have HZ:=Lib.hid hz
          have HNE:Hid (inp.size=0→(d0,n2)≠(m,nd)):=fun _=>hs
          clear hsb hz hs
          go_wp2_with fail
          clear hcmp x0' x1' u0' u1' z0' z1' z2' z3' z4'
          obtain ⟨po,hpo⟩:∃ po,look (M3 (i+inp.size)) (d0,n2)=po:=⟨_,rfl⟩
          by_cases hlow:∃ old,po=some old∧old≤ct+c0
          ·
           obtain ⟨old,rfl,hol⟩:=hlow
           have HPO:=Lib.hid hpo;have HOL:=Lib.hid hol
           have HSA:Hid (VisIn R L (folT T) i T.length B0 D q3 n M3 (m,nd) ct (Fm.take k ++ [⟨frm,(d0:Int),inp,out,(c0:Int)⟩])):=HVI.out.same (n':=n2) (old:=old) HLF.out HPO.out HOL.out
           clear hpo hol
           refine wp_region_st (by kernel_rfl) (Vs [fun v _=>v=.pointer (some ⟨gx,0,none⟩),fun v _=>v=.int .i64 (i:Int),fun v _=>v=.pointer (some ⟨g11,2,none⟩),fun v _=>v=.string inp,fun v _=>v=.int .i64 (inp.size:Int),fun v _=>v=.int .i64 ((i:Int)+(inp.size:Int)),fun v _=>v=.agg #[.int .i64 (d0:Int),.int .i64 (n2:Int)],fun v _=>v=.map (some (gm jh)),fun v _=>v=.agg #[.int .i64 (m:Int),.int .i64 (nd:Int)],fun v _=>v=.int .i64 (ct:Int),fun v _=>v=.pointer (some ⟨g11,4,none⟩),fun v _=>v=.int .i64 (c0:Int),fun v _=>v=.int .i64 ((ct:Int)+(c0:Int)),fun v _=>v=.bool false,fun v _=>v=.bool false,fun v _=>v=undef,fun v _=>v=undef,fun v _=>v=undef,fun v _=>v=undef,fun v _=>v=.bool false]) (Xs [Ext,Ext,Ext,Ext,Ext,Ext,Ext,Ext,Ext,Ext,Ext,Ext,Ext,Ext,Ext,Ext,Ext,Ext,Ext,Ext]) (fun fL=>(fun W=>Ext w14 W) ) [0,0,0,4,12,30,0,0,0,384,0,1024,3968,8191,16383,32767,65535,131071,262143,524287] 101 20 (by kernel_rfl) rfl ?hV ?hS ?hop ?hfin ?hlast
           case hV =>
            refine xs_stays (vs_stays (by simp only [List.mem_cons,List.not_mem_nil,or_false,forall_eq_or_imp,forall_eq];exact ⟨stays_const _,stays_const _,stays_const _,stays_const _,stays_const _,stays_const _,stays_const _,stays_const _,stays_const _,stays_const _,stays_const _,stays_const _,stays_const _,stays_const _,stays_const _,stays_const _,stays_const _,stays_const _,stays_const _,stays_const _⟩)) ?_
            exact ⟨.inl rfl,.inl rfl,.inl rfl,.inl rfl,.inl rfl,.inl rfl,.inl rfl,.inl rfl,.inl rfl,.inl rfl,.inl rfl,.inl rfl,.inl rfl,.inl rfl,.inl rfl,.inl rfl,.inl rfl,.inl rfl,.inl rfl,.inl rfl,trivial⟩
           case hS =>
            intro fL hf
            show (fun W=>Ext w14 W)  _
            first | exact Ext.refl _ | exact drew_ext _
           case hop =>
            refine ⟨?_,?_,?_,?_,?_,?_,?_,?_,?_,?c9,?_,?_,?_,?c13,?_,?c15,?c16,?c17,?c18,?_,trivial⟩
            all_goals first | rw [if_neg (by decide)] | rw [if_pos (by decide)]
            all_goals try intro ac W fL hsz hfi hms hdn hS0 hdep hbase hund
            all_goals try have hS:(fun W=>Ext w14 W)  W:=hS0
            all_goals try (
             have hk9:Kc w14 W:=Kc.of hS0 (Nat.le_refl _)
             obtain ⟨z0,z1,z2,z3,z4⟩:=rul_cells (hk9.block _ _ _ _ HC11c.out)
             obtain ⟨x0,x1⟩:=stt_cells (hk9.block _ _ _ _ HC9c.out)
             obtain ⟨u0,u1⟩:=stt_cells (hk9.block _ _ _ _ HC14.out)
             clear hk9)
            all_goals try (have h0:ac.tmps.getD 0 undef=.pointer (some ⟨gx,0,none⟩):=hbase 0 (by kernel_rfl);have hh0:=h0;rw [Array.getD_eq_getD_getElem?] at hh0)
            all_goals try (have h1:ac.tmps.getD 1 undef=.int .i64 (i:Int):=hbase 1 (by kernel_rfl);have hh1:=h1;rw [Array.getD_eq_getD_getElem?] at hh1)
            all_goals try (have h5:ac.tmps.getD 5 undef=.map (some (gm jh)):=hbase 5 (by kernel_rfl);have hh5:=h5;rw [Array.getD_eq_getD_getElem?] at hh5)
            all_goals try (have h9:ac.tmps.getD 9 undef=.pointer (some ⟨g9,0,none⟩):=hbase 9 (by kernel_rfl);have hh9:=h9;rw [Array.getD_eq_getD_getElem?] at hh9)
            all_goals try (have h11:ac.tmps.getD 11 undef=.pointer (some ⟨g11,0,none⟩):=hbase 11 (by kernel_rfl);have hh11:=h11;rw [Array.getD_eq_getD_getElem?] at hh11)
            all_goals try (have h14:ac.tmps.getD 14 undef=.pointer (some ⟨g14,0,none⟩):=hbase 14 (by kernel_rfl);have hh14:=h14;rw [Array.getD_eq_getD_getElem?] at hh14)
            all_goals try (have d76:ac.tmps.getD 76 undef=.pointer (some ⟨gx,0,none⟩):=hdep 0 (by decide);have dd76:=d76;rw [Array.getD_eq_getD_getElem?] at dd76)
            all_goals try (have d77:ac.tmps.getD 77 undef=.int .i64 (i:Int):=hdep 1 (by decide);have dd77:=d77;rw [Array.getD_eq_getD_getElem?] at dd77)
            all_goals try (have d78:ac.tmps.getD 78 undef=.pointer (some ⟨g11,2,none⟩):=hdep 2 (by decide);have dd78:=d78;rw [Array.getD_eq_getD_getElem?] at dd78)
            all_goals try (have d79:ac.tmps.getD 79 undef=.string inp:=hdep 3 (by decide);have dd79:=d79;rw [Array.getD_eq_getD_getElem?] at dd79)
            all_goals try (have d80:ac.tmps.getD 80 undef=.int .i64 (inp.size:Int):=hdep 4 (by decide);have dd80:=d80;rw [Array.getD_eq_getD_getElem?] at dd80)
            all_goals try (have d81:ac.tmps.getD 81 undef=.int .i64 ((i:Int)+(inp.size:Int)):=hdep 5 (by decide);have dd81:=d81;rw [Array.getD_eq_getD_getElem?] at dd81)
            all_goals try (have d82:ac.tmps.getD 82 undef=.agg #[.int .i64 (d0:Int),.int .i64 (n2:Int)]:=hdep 6 (by decide);have dd82:=d82;rw [Array.getD_eq_getD_getElem?] at dd82)
            all_goals try (have d83:ac.tmps.getD 83 undef=.map (some (gm jh)):=hdep 7 (by decide);have dd83:=d83;rw [Array.getD_eq_getD_getElem?] at dd83)
            all_goals try (have d84:ac.tmps.getD 84 undef=.agg #[.int .i64 (m:Int),.int .i64 (nd:Int)]:=hdep 8 (by decide);have dd84:=d84;rw [Array.getD_eq_getD_getElem?] at dd84)
            all_goals try (have d85:ac.tmps.getD 85 undef=.int .i64 (ct:Int):=hdep 9 (by decide);have dd85:=d85;rw [Array.getD_eq_getD_getElem?] at dd85)
            all_goals try (have d86:ac.tmps.getD 86 undef=.pointer (some ⟨g11,4,none⟩):=hdep 10 (by decide);have dd86:=d86;rw [Array.getD_eq_getD_getElem?] at dd86)
            all_goals try (have d87:ac.tmps.getD 87 undef=.int .i64 (c0:Int):=hdep 11 (by decide);have dd87:=d87;rw [Array.getD_eq_getD_getElem?] at dd87)
            all_goals try (have d88:ac.tmps.getD 88 undef=.int .i64 ((ct:Int)+(c0:Int)):=hdep 12 (by decide);have dd88:=d88;rw [Array.getD_eq_getD_getElem?] at dd88)
            all_goals try (have d89:ac.tmps.getD 89 undef=.bool false:=hdep 13 (by decide);have dd89:=d89;rw [Array.getD_eq_getD_getElem?] at dd89)
            all_goals try (have d90:ac.tmps.getD 90 undef=.bool false:=hdep 14 (by decide);have dd90:=d90;rw [Array.getD_eq_getD_getElem?] at dd90)
            all_goals try (have d91:ac.tmps.getD 91 undef=undef:=hdep 15 (by decide);have dd91:=d91;rw [Array.getD_eq_getD_getElem?] at dd91)
            all_goals try (have d92:ac.tmps.getD 92 undef=undef:=hdep 16 (by decide);have dd92:=d92;rw [Array.getD_eq_getD_getElem?] at dd92)
            all_goals try (have d93:ac.tmps.getD 93 undef=undef:=hdep 17 (by decide);have dd93:=d93;rw [Array.getD_eq_getD_getElem?] at dd93)
            all_goals try (have d94:ac.tmps.getD 94 undef=undef:=hdep 18 (by decide);have dd94:=d94;rw [Array.getD_eq_getD_getElem?] at dd94)
            all_goals try clear hbase hdep hms hdn hund
            case c9 =>
             have hS1:(fun W=>Ext w14 W)  W:=hS0
             have hl85:=(HMH.out.kept (Below.block hS _ HMH.out.lt)).look keyS_ok (x:=(m,nd)) HOKT.out
             rw [HLH.out] at hl85
             simp only [keyS,sttV,Option.getD] at hl85
             refine opOk_run rfl (.inl ⟨_,W,?_,rfl,Ext.refl _,hS1⟩)
             clear hsz hS hS0 hS1 hfi;simp [go_sem,Act.eval, *]
            case c13 =>
             have hS1:(fun W=>Ext w14 W)  W:=hS0
             have hput:=put_no (i+inp.size) jn d0 n2 (ct+c0) (M3 (i+inp.size)) (by omega) HJN.out ((HX.out.kp HK14.out).kp (Kc.of hS (Nat.le_refl _))) (HMP.out.kept (Below.block hS _ HMP.out.lt)) HOKN.out HL1.out (by omega) old HPO.out HOL.out
             rw [show ((i+inp.size:Nat):Int)=(i:Int)+(inp.size:Int) by omega,show ((ct+c0:Nat):Int)=(ct:Int)+(c0:Int) by omega] at hput
             refine opOk_run rfl (.inr ⟨64,#[.pointer (some ⟨gx,0,none⟩),.int .i64 ((i:Int)+(inp.size:Int)),.agg #[.int .i64 (d0:Int),.int .i64 (n2:Int)],.int .i64 ((ct:Int)+(c0:Int))],W,by (clear hsz hS hS0 hS1 hfi hput;simp [go_sem,Act.eval, *]),?_⟩)
             refine hput.mono ?_
             rintro e w' ⟨rfl,hp⟩
             exact ⟨_,rfl,⟨rfl,hp,Ext.trans hS0 hp⟩⟩
            case c15=>exact opOk_skip (j:=14) (d:=90) (b:=false) rfl (by kernel_rfl) dd90 rfl ⟨rfl,hS0⟩
            case c16=>exact opOk_skip (j:=14) (d:=90) (b:=false) rfl (by kernel_rfl) dd90 rfl ⟨rfl,hS0⟩
            case c17=>exact opOk_skip (j:=14) (d:=90) (b:=false) rfl (by kernel_rfl) dd90 rfl ⟨rfl,hS0⟩
            case c18=>exact opOk_skip (j:=14) (d:=90) (b:=false) rfl (by kernel_rfl) dd90 rfl ⟨rfl,hS0⟩
            all_goals (refine opOk_run rfl (.inl ⟨_,W,?_,rfl,Ext.refl _,hS0⟩);clear hsz hS hS0 hfi;simp [go_sem,Act.eval, *];done)
           case hlast =>
            intro h;exact absurd rfl h
           case hfin =>
            intro _ ac W hsz hdf fL hf hS0 hv hbase
            have hS:(fun W=>Ext w14 W)  W:=hS0
            clear hS0
            obtain ⟨sx,hsx,hsA⟩:=act_puts [76,77,78,79,80,81,82,83,84,85,86,87,88,89,90,91,92,93,94,95] (by kernel_rfl) hsz hdf hbase
            have e95:sx 95=.bool false:=(hsx 95).trans (hv 19 (by decide))
            rw [hsA]
            simp only [List.foldl]
            rw [e95]
            clear e95
            simp only [Act.put,List.setIfInBounds_toArray,List.set_cons_succ,List.set_cons_zero]
            clear hsA hsx hv hbase hsz hdf hf
            have HEW:Hid (Ext wr W):=Ext.trans HE14.out hS
            clear hS
            go_wp2_with fail
            go_roundg (Fm.length - (k+1))
            case measure=>have:=HGK3.out;omega
            case rel=>exact ⟨k+1,q3,M3,by go_num,by omega,rfl,HVQ3.out.ext HEW.out hB2,by rw [HTK.out];exact HSA.out,HPP.out,hnq,(Kc.of HEW.out (Nat.le_refl _)).block _ _ _ _ HG9.out,HN9.out⟩
          ·
           have HLT:Hid (∀ x,look (M3 (i+inp.size)) (d0,n2)=some x→ct+c0<x):=fun x hx=>by
            rw [hpo] at hx
            exact Nat.lt_of_not_le fun h9=>hlow ⟨x,hx,h9⟩
           have hput:VisIn R L (folT T) i T.length B0 D (if inp.size=0 then q3 ++ [(d0,n2)] else q3) n (putM M3 (i+inp.size) (d0,n2) (ct+c0)) (m,nd) ct (Fm.take k ++ [⟨frm,(d0:Int),inp,out,(c0:Int)⟩]):=HVI.out.put (m:=d0) HSM.out HF.out HLF.out hn2 hcD' rfl hnq HLT.out HNE.out
           have hpt:=pot_putM (q:=q3) (C:=Cm) (j:=i+inp.size) (c:=ct+c0) HVI.out.bnd (by omega) hd8' hn2 (by omega) HLT.out
           rw [if_pos HZ.out] at hput
           rw [if_pos (by have:=HZ.out;omega)] at hpt
           rw [Nat.add_comm] at hpt
           rw [Nat.add_comm (pot T.length Cm (M3 i))] at hpt
           have HPU:=Lib.hid hput;have HPT:=Lib.hid hpt
           clear hpo hlow hput hpt
           refine wp_region_st (by kernel_rfl) (Vs [fun v _=>v=.pointer (some ⟨gx,0,none⟩),fun v _=>v=.int .i64 (i:Int),fun v _=>v=.pointer (some ⟨g11,2,none⟩),fun v _=>v=.string inp,fun v _=>v=.int .i64 (inp.size:Int),fun v _=>v=.int .i64 ((i:Int)+(inp.size:Int)),fun v _=>v=.agg #[.int .i64 (d0:Int),.int .i64 (n2:Int)],fun v _=>v=.map (some (gm jh)),fun v _=>v=.agg #[.int .i64 (m:Int),.int .i64 (nd:Int)],fun v _=>v=.int .i64 (ct:Int),fun v _=>v=.pointer (some ⟨g11,4,none⟩),fun v _=>v=.int .i64 (c0:Int),fun v _=>v=.int .i64 ((ct:Int)+(c0:Int)),fun v _=>v=.bool true,fun v _=>v=.bool true,fun v _=>v=.pointer (some ⟨g11,2,none⟩),fun v _=>v=.string inp,fun v _=>v=.int .i64 (inp.size:Int),fun v _=>v=.bool true,fun v _=>v=.bool true]) (Xs [Ext,Ext,Ext,Ext,Ext,Ext,Ext,Ext,Ext,Ext,Ext,Ext,Ext,(fun _ _=>True),Ext,Ext,Ext,Ext,Ext,Ext]) (fun fL=>(PutT w14 (gm jn) (d0,n2) (M3 (i+inp.size)) (ct+c0)) (fL 13)) [0,0,0,4,12,30,0,0,0,384,0,1024,3968,8191,16383,32767,65535,131071,262143,524287] 101 20 (by kernel_rfl) rfl ?hV ?hS ?hop ?hfin ?hlast
           case hV =>
            refine xs_stays (vs_stays (by simp only [List.mem_cons,List.not_mem_nil,or_false,forall_eq_or_imp,forall_eq];exact ⟨stays_const _,stays_const _,stays_const _,stays_const _,stays_const _,stays_const _,stays_const _,stays_const _,stays_const _,stays_const _,stays_const _,stays_const _,stays_const _,stays_const _,stays_const _,stays_const _,stays_const _,stays_const _,stays_const _,stays_const _⟩)) ?_
            exact ⟨.inl rfl,.inl rfl,.inl rfl,.inl rfl,.inl rfl,.inl rfl,.inl rfl,.inl rfl,.inl rfl,.inl rfl,.inl rfl,.inl rfl,.inl rfl,.inr (staysM_all ⟨fun _ _=>fun _ _ _ h _=>h,fun _ _=>fun _ _ _ h _=>h,fun _ _=>fun _ _ _ h _=>h,fun _ _=>fun _ _ _ h _=>h,fun _ _=>fun _ _ _ h _=>h,fun _ _=>fun _ _ _ h _=>h,fun _ _=>fun _ _ _ h _=>h,fun _ _=>fun _ _ _ h _=>h,fun _ _=>fun _ _ _ h _=>h,fun _ _=>fun _ _ _ h _=>h,fun _ _=>fun _ _ _ h _=>h,fun _ _=>fun _ _ _ h _=>h,fun _ _=>fun _ _ _ h _=>h,fun h=>absurd rfl h,fun _ h=>absurd h (by decide),fun _ h=>absurd h (by decide),fun _ h=>absurd h (by decide),fun _ h=>absurd h (by decide),fun _ h=>absurd h (by decide),fun _ h=>absurd h (by decide),trivial⟩),.inl rfl,.inl rfl,.inl rfl,.inl rfl,.inl rfl,.inl rfl,trivial⟩
           case hS =>
            intro fL hf
            show (PutT w14 (gm jn) (d0,n2) (M3 (i+inp.size)) (ct+c0)) (fL 13) _
            rw [hf 13 (by decide)]
            first | exact Ext.refl _ | exact drew_ext _
           case hop =>
            refine ⟨?_,?_,?_,?_,?_,?_,?_,?_,?_,?c9,?_,?_,?_,?c13,?_,?c15,?c16,?c17,?c18,?_,trivial⟩
            all_goals first | rw [if_neg (by decide)] | rw [if_pos (by decide)]
            all_goals try intro ac W fL hsz hfi hms hdn hS0 hdep hbase hund
            all_goals try have hS:(PutT w14 (gm jn) (d0,n2) (M3 (i+inp.size)) (ct+c0)) (fL 13) W:=hS0
            all_goals try (have hfl13:fL 13=true:=hms 13 (by decide);rw [hfl13] at hS)
            all_goals try (have hfl13:fL 13=false:=(by first | exact hfi | exact hdn 13 (by decide) (by decide));rw [hfl13] at hS)
            all_goals try (
             have hk9:Kc w14 W:=PutT.kp HMP.out hS0
             obtain ⟨z0,z1,z2,z3,z4⟩:=rul_cells (hk9.block _ _ _ _ HC11c.out)
             obtain ⟨x0,x1⟩:=stt_cells (hk9.block _ _ _ _ HC9c.out)
             obtain ⟨u0,u1⟩:=stt_cells (hk9.block _ _ _ _ HC14.out)
             clear hk9)
            all_goals try (have h0:ac.tmps.getD 0 undef=.pointer (some ⟨gx,0,none⟩):=hbase 0 (by kernel_rfl);have hh0:=h0;rw [Array.getD_eq_getD_getElem?] at hh0)
            all_goals try (have h1:ac.tmps.getD 1 undef=.int .i64 (i:Int):=hbase 1 (by kernel_rfl);have hh1:=h1;rw [Array.getD_eq_getD_getElem?] at hh1)
            all_goals try (have h5:ac.tmps.getD 5 undef=.map (some (gm jh)):=hbase 5 (by kernel_rfl);have hh5:=h5;rw [Array.getD_eq_getD_getElem?] at hh5)
            all_goals try (have h9:ac.tmps.getD 9 undef=.pointer (some ⟨g9,0,none⟩):=hbase 9 (by kernel_rfl);have hh9:=h9;rw [Array.getD_eq_getD_getElem?] at hh9)
            all_goals try (have h11:ac.tmps.getD 11 undef=.pointer (some ⟨g11,0,none⟩):=hbase 11 (by kernel_rfl);have hh11:=h11;rw [Array.getD_eq_getD_getElem?] at hh11)
            all_goals try (have h14:ac.tmps.getD 14 undef=.pointer (some ⟨g14,0,none⟩):=hbase 14 (by kernel_rfl);have hh14:=h14;rw [Array.getD_eq_getD_getElem?] at hh14)
            all_goals try (have d76:ac.tmps.getD 76 undef=.pointer (some ⟨gx,0,none⟩):=hdep 0 (by decide);have dd76:=d76;rw [Array.getD_eq_getD_getElem?] at dd76)
            all_goals try (have d77:ac.tmps.getD 77 undef=.int .i64 (i:Int):=hdep 1 (by decide);have dd77:=d77;rw [Array.getD_eq_getD_getElem?] at dd77)
            all_goals try (have d78:ac.tmps.getD 78 undef=.pointer (some ⟨g11,2,none⟩):=hdep 2 (by decide);have dd78:=d78;rw [Array.getD_eq_getD_getElem?] at dd78)
            all_goals try (have d79:ac.tmps.getD 79 undef=.string inp:=hdep 3 (by decide);have dd79:=d79;rw [Array.getD_eq_getD_getElem?] at dd79)
            all_goals try (have d80:ac.tmps.getD 80 undef=.int .i64 (inp.size:Int):=hdep 4 (by decide);have dd80:=d80;rw [Array.getD_eq_getD_getElem?] at dd80)
            all_goals try (have d81:ac.tmps.getD 81 undef=.int .i64 ((i:Int)+(inp.size:Int)):=hdep 5 (by decide);have dd81:=d81;rw [Array.getD_eq_getD_getElem?] at dd81)
            all_goals try (have d82:ac.tmps.getD 82 undef=.agg #[.int .i64 (d0:Int),.int .i64 (n2:Int)]:=hdep 6 (by decide);have dd82:=d82;rw [Array.getD_eq_getD_getElem?] at dd82)
            all_goals try (have d83:ac.tmps.getD 83 undef=.map (some (gm jh)):=hdep 7 (by decide);have dd83:=d83;rw [Array.getD_eq_getD_getElem?] at dd83)
            all_goals try (have d84:ac.tmps.getD 84 undef=.agg #[.int .i64 (m:Int),.int .i64 (nd:Int)]:=hdep 8 (by decide);have dd84:=d84;rw [Array.getD_eq_getD_getElem?] at dd84)
            all_goals try (have d85:ac.tmps.getD 85 undef=.int .i64 (ct:Int):=hdep 9 (by decide);have dd85:=d85;rw [Array.getD_eq_getD_getElem?] at dd85)
            all_goals try (have d86:ac.tmps.getD 86 undef=.pointer (some ⟨g11,4,none⟩):=hdep 10 (by decide);have dd86:=d86;rw [Array.getD_eq_getD_getElem?] at dd86)
            all_goals try (have d87:ac.tmps.getD 87 undef=.int .i64 (c0:Int):=hdep 11 (by decide);have dd87:=d87;rw [Array.getD_eq_getD_getElem?] at dd87)
            all_goals try (have d88:ac.tmps.getD 88 undef=.int .i64 ((ct:Int)+(c0:Int)):=hdep 12 (by decide);have dd88:=d88;rw [Array.getD_eq_getD_getElem?] at dd88)
            all_goals try (have d89:ac.tmps.getD 89 undef=.bool true:=hdep 13 (by decide);have dd89:=d89;rw [Array.getD_eq_getD_getElem?] at dd89)
            all_goals try (have d90:ac.tmps.getD 90 undef=.bool true:=hdep 14 (by decide);have dd90:=d90;rw [Array.getD_eq_getD_getElem?] at dd90)
            all_goals try (have d91:ac.tmps.getD 91 undef=.pointer (some ⟨g11,2,none⟩):=hdep 15 (by decide);have dd91:=d91;rw [Array.getD_eq_getD_getElem?] at dd91)
            all_goals try (have d92:ac.tmps.getD 92 undef=.string inp:=hdep 16 (by decide);have dd92:=d92;rw [Array.getD_eq_getD_getElem?] at dd92)
            all_goals try (have d93:ac.tmps.getD 93 undef=.int .i64 (inp.size:Int):=hdep 17 (by decide);have dd93:=d93;rw [Array.getD_eq_getD_getElem?] at dd93)
            all_goals try (have d94:ac.tmps.getD 94 undef=.bool true:=hdep 18 (by decide);have dd94:=d94;rw [Array.getD_eq_getD_getElem?] at dd94)
            all_goals try clear hbase hdep hms hdn hund
            case c9 =>
             have hS1:(PutT w14 (gm jn) (d0,n2) (M3 (i+inp.size)) (ct+c0)) ((upd fL 9) 13) W:=hS0
             have hl85:=(HMH.out.kept (Below.block hS _ HMH.out.lt)).look keyS_ok (x:=(m,nd)) HOKT.out
             rw [HLH.out] at hl85
             simp only [keyS,sttV,Option.getD] at hl85
             refine opOk_run rfl (.inl ⟨_,W,?_,rfl,Ext.refl _,hS1⟩)
             clear hsz hS hS0 hS1 hfi;simp [go_sem,Act.eval, *]
            case c13 =>
             have hput:=put_yes (i+inp.size) jn d0 n2 (ct+c0) (M3 (i+inp.size)) (by omega) HJN.out ((HX.out.kp HK14.out).kp (Kc.of hS (Nat.le_refl _))) (HMP.out.kept (Below.block hS _ HMP.out.lt)) HOKN.out HL1.out (by omega) HLT.out
             rw [show ((i+inp.size:Nat):Int)=(i:Int)+(inp.size:Int) by omega,show ((ct+c0:Nat):Int)=(ct:Int)+(c0:Int) by omega] at hput
             refine opOk_run rfl (.inr ⟨64,#[.pointer (some ⟨gx,0,none⟩),.int .i64 ((i:Int)+(inp.size:Int)),.agg #[.int .i64 (d0:Int),.int .i64 (n2:Int)],.int .i64 ((ct:Int)+(c0:Int))],W,by (clear hsz hS hS0 hfi hput;simp [go_sem,Act.eval, *]),?_⟩)
             refine hput.mono ?_
             rintro e w' ⟨rfl,hp⟩
             refine ⟨_,rfl,rfl,trivial,?_⟩
             show PutT w14 (gm jn) (d0,n2) (M3 (i+inp.size)) (ct+c0) (upd fL 13 13) w'
             rw [show upd fL 13 13=true from if_pos rfl]
             exact PutP.of_ext hS hp
            case c15=>refine opOk_runG (j:=14) (d:=90) (b:=true) rfl (by kernel_rfl) dd90 rfl (.inl ⟨_,W,?_,rfl,Ext.refl _,hS0⟩);clear hsz hS hS0 hfi;simp [go_sem,Act.eval, *]
            case c16=>refine opOk_runG (j:=14) (d:=90) (b:=true) rfl (by kernel_rfl) dd90 rfl (.inl ⟨_,W,?_,rfl,Ext.refl _,hS0⟩);clear hsz hS hS0 hfi;simp [go_sem,Act.eval, *]
            case c17=>refine opOk_runG (j:=14) (d:=90) (b:=true) rfl (by kernel_rfl) dd90 rfl (.inl ⟨_,W,?_,rfl,Ext.refl _,hS0⟩);clear hsz hS hS0 hfi;simp [go_sem,Act.eval, *]
            case c18=>refine opOk_runG (j:=14) (d:=90) (b:=true) rfl (by kernel_rfl) dd90 rfl (.inl ⟨_,W,?_,rfl,Ext.refl _,hS0⟩);clear hsz hS hS0 hfi;simp [go_sem,Act.eval, *]
            all_goals (refine opOk_run rfl (.inl ⟨_,W,?_,rfl,Ext.refl _,hS0⟩);clear hsz hS hS0 hfi;simp [go_sem,Act.eval, *];done)
           case hlast =>
            intro h;exact absurd rfl h
           case hfin =>
            intro _ ac W hsz hdf fL hf hS0 hv hbase
            have hS:(PutT w14 (gm jn) (d0,n2) (M3 (i+inp.size)) (ct+c0)) (fL 13) W:=hS0
            clear hS0
            rw [hf 13 (by decide)] at hS
            obtain ⟨sx,hsx,hsA⟩:=act_puts [76,77,78,79,80,81,82,83,84,85,86,87,88,89,90,91,92,93,94,95] (by kernel_rfl) hsz hdf hbase
            have e95:sx 95=.bool true:=(hsx 95).trans (hv 19 (by decide))
            rw [hsA]
            simp only [List.foldl]
            rw [e95]
            clear e95
            simp only [Act.put,List.setIfInBounds_toArray,List.set_cons_succ,List.set_cons_zero]
            clear hsA hsx hv hbase hsz hdf hf
            have hvq15:VX w2 B gm i (putM M3 (i+inp.size) (d0,n2) (ct+c0)) W:=HVQ14.out.vx.put HG.out (by omega) (by omega) (by rw [HJN.out];exact hS) hB2
            have hown15:=HVQ14.out.own.put_keep HMP.out hS
            have HG15:Hid (W.heap[g9]? = some (.cells #[.int .i64 (m:Int),.int .i64 (nd:Int)] 124 (0,0))):=(PutP.kp hS HMP.out).block _ _ _ _ HC9c.out
            have HVX15:=Lib.hid hvq15;have HOW15:=Lib.hid hown15
            have HOUT15:Hid (∀ j,¬ (i≤j∧j<i+5)→putM M3 (i+inp.size) (d0,n2) (ct+c0) j=M j):=fun j hj=>by
             unfold putM
             rw [if_neg (by omega)]
             exact HVQ3.out.out j hj
            obtain ⟨u0,u1⟩:=stt_cells ((PutP.kp hS HMP.out).block _ _ _ _ HC14.out)
            clear hS hvq15 hown15
            go_wp2_with (at_builtin;go_loud (refine wpList_append_g (v:=.slice qa3 q3.length qc3) rowStt_ok rfl _ _ rfl rfl (HOW15.out.later ((Below.refl _ _).alloc (Nat.le_refl _) _) (Nat.le_refl _)) ⟨W.heap.size,0,none⟩ 1 [(d0,n2)] rfl (cells_built (heap_alloc_new _ _)) (by have:=HPP.out;have:=HPOT.out;simp only [List.length_singleton];omega) (by have:=HVX15.out.kp.size;simp only [World.size_alloc];omega) ?_);intro v16 w16 hown16 hgrow16 hat16;have HO16:=Lib.hid hown16;have HG16:=Lib.hid hgrow16;have HAT16:=Lib.hid hat16;clear hown16 hgrow16 hat16)
            go_roundg (Fm.length - (k+1))
            case measure=>have:=HGK3.out;omega
            case rel =>
             have hx16:Ext W (W.alloc (.cells #[.int .i64 (d0:Int),.int .i64 (n2:Int)] 124)):=(Below.refl _ _).alloc (Nat.le_refl _) _
             exact ⟨k+1,q3 ++ [(d0,n2)],_,by go_num,by omega,rfl,⟨(HVX15.out.ext hx16 hB2).grown (HOW15.out.later hx16 (Nat.le_refl _)) HG16.out hB2,HO16.out,HOUT15.out⟩,by rw [HTK.out];exact HPU.out,Nat.le_trans HPT.out HPP.out,by rw [List.length_append];omega,(HG16.out.block g9 (by have:=(Array.getElem?_eq_some_iff.1 HG15.out).1;simp only [World.size_alloc];omega) fun e=>HN9.out e.symm).trans ((Kc.of hx16 (Nat.le_refl _)).block _ _ _ _ HG15.out),fun e=>by
              rcases HAT16.out with h1 | h1
              · exact HN9.out (h1.symm.trans e)
              ·
               rw [h1] at e
               injection e with e
               have:=(Array.getElem?_eq_some_iff.1 HG15.out).1
               simp only [World.size_alloc] at e
               omega⟩
        ·
         have hzI:((inp.size:Int) == 0)=false:=by simpa using hz
         have HZ:=Lib.hid hz
         have HNE:Hid (inp.size=0→(d0,n2)≠(m,nd)):=fun h=>absurd h HZ.out
         clear hz
         go_wp2_with fail
         clear hcmp x0' x1' u0' u1' z0' z1' z2' z3' z4'
         obtain ⟨po,hpo⟩:∃ po,look (M3 (i+inp.size)) (d0,n2)=po:=⟨_,rfl⟩
         by_cases hlow:∃ old,po=some old∧old≤ct+c0
         ·
          obtain ⟨old,rfl,hol⟩:=hlow
          have HPO:=Lib.hid hpo;have HOL:=Lib.hid hol
          have HSA:Hid (VisIn R L (folT T) i T.length B0 D q3 n M3 (m,nd) ct (Fm.take k ++ [⟨frm,(d0:Int),inp,out,(c0:Int)⟩])):=HVI.out.same (n':=n2) (old:=old) HLF.out HPO.out HOL.out
          clear hpo hol
          refine wp_region_st (by kernel_rfl) (Vs [fun v _=>v=.pointer (some ⟨gx,0,none⟩),fun v _=>v=.int .i64 (i:Int),fun v _=>v=.pointer (some ⟨g11,2,none⟩),fun v _=>v=.string inp,fun v _=>v=.int .i64 (inp.size:Int),fun v _=>v=.int .i64 ((i:Int)+(inp.size:Int)),fun v _=>v=.agg #[.int .i64 (d0:Int),.int .i64 (n2:Int)],fun v _=>v=.map (some (gm jh)),fun v _=>v=.agg #[.int .i64 (m:Int),.int .i64 (nd:Int)],fun v _=>v=.int .i64 (ct:Int),fun v _=>v=.pointer (some ⟨g11,4,none⟩),fun v _=>v=.int .i64 (c0:Int),fun v _=>v=.int .i64 ((ct:Int)+(c0:Int)),fun v _=>v=.bool false,fun v _=>v=.bool false,fun v _=>v=undef,fun v _=>v=undef,fun v _=>v=undef,fun v _=>v=undef,fun v _=>v=.bool false]) (Xs [Ext,Ext,Ext,Ext,Ext,Ext,Ext,Ext,Ext,Ext,Ext,Ext,Ext,Ext,Ext,Ext,Ext,Ext,Ext,Ext]) (fun fL=>(fun W=>Ext w14 W) ) [0,0,0,4,12,30,0,0,0,384,0,1024,3968,8191,16383,32767,65535,131071,262143,524287] 101 20 (by kernel_rfl) rfl ?hV ?hS ?hop ?hfin ?hlast
          case hV =>
           refine xs_stays (vs_stays (by simp only [List.mem_cons,List.not_mem_nil,or_false,forall_eq_or_imp,forall_eq];exact ⟨stays_const _,stays_const _,stays_const _,stays_const _,stays_const _,stays_const _,stays_const _,stays_const _,stays_const _,stays_const _,stays_const _,stays_const _,stays_const _,stays_const _,stays_const _,stays_const _,stays_const _,stays_const _,stays_const _,stays_const _⟩)) ?_
           exact ⟨.inl rfl,.inl rfl,.inl rfl,.inl rfl,.inl rfl,.inl rfl,.inl rfl,.inl rfl,.inl rfl,.inl rfl,.inl rfl,.inl rfl,.inl rfl,.inl rfl,.inl rfl,.inl rfl,.inl rfl,.inl rfl,.inl rfl,.inl rfl,trivial⟩
          case hS =>
           intro fL hf
           show (fun W=>Ext w14 W)  _
           first | exact Ext.refl _ | exact drew_ext _
          case hop =>
           refine ⟨?_,?_,?_,?_,?_,?_,?_,?_,?_,?c9,?_,?_,?_,?c13,?_,?c15,?c16,?c17,?c18,?_,trivial⟩
           all_goals first | rw [if_neg (by decide)] | rw [if_pos (by decide)]
           all_goals try intro ac W fL hsz hfi hms hdn hS0 hdep hbase hund
           all_goals try have hS:(fun W=>Ext w14 W)  W:=hS0
           all_goals try (
            have hk9:Kc w14 W:=Kc.of hS0 (Nat.le_refl _)
            obtain ⟨z0,z1,z2,z3,z4⟩:=rul_cells (hk9.block _ _ _ _ HC11c.out)
            obtain ⟨x0,x1⟩:=stt_cells (hk9.block _ _ _ _ HC9c.out)
            obtain ⟨u0,u1⟩:=stt_cells (hk9.block _ _ _ _ HC14.out)
            clear hk9)
           all_goals try (have h0:ac.tmps.getD 0 undef=.pointer (some ⟨gx,0,none⟩):=hbase 0 (by kernel_rfl);have hh0:=h0;rw [Array.getD_eq_getD_getElem?] at hh0)
           all_goals try (have h1:ac.tmps.getD 1 undef=.int .i64 (i:Int):=hbase 1 (by kernel_rfl);have hh1:=h1;rw [Array.getD_eq_getD_getElem?] at hh1)
           all_goals try (have h5:ac.tmps.getD 5 undef=.map (some (gm jh)):=hbase 5 (by kernel_rfl);have hh5:=h5;rw [Array.getD_eq_getD_getElem?] at hh5)
           all_goals try (have h9:ac.tmps.getD 9 undef=.pointer (some ⟨g9,0,none⟩):=hbase 9 (by kernel_rfl);have hh9:=h9;rw [Array.getD_eq_getD_getElem?] at hh9)
           all_goals try (have h11:ac.tmps.getD 11 undef=.pointer (some ⟨g11,0,none⟩):=hbase 11 (by kernel_rfl);have hh11:=h11;rw [Array.getD_eq_getD_getElem?] at hh11)
           all_goals try (have h14:ac.tmps.getD 14 undef=.pointer (some ⟨g14,0,none⟩):=hbase 14 (by kernel_rfl);have hh14:=h14;rw [Array.getD_eq_getD_getElem?] at hh14)
           all_goals try (have d76:ac.tmps.getD 76 undef=.pointer (some ⟨gx,0,none⟩):=hdep 0 (by decide);have dd76:=d76;rw [Array.getD_eq_getD_getElem?] at dd76)
           all_goals try (have d77:ac.tmps.getD 77 undef=.int .i64 (i:Int):=hdep 1 (by decide);have dd77:=d77;rw [Array.getD_eq_getD_getElem?] at dd77)
           all_goals try (have d78:ac.tmps.getD 78 undef=.pointer (some ⟨g11,2,none⟩):=hdep 2 (by decide);have dd78:=d78;rw [Array.getD_eq_getD_getElem?] at dd78)
           all_goals try (have d79:ac.tmps.getD 79 undef=.string inp:=hdep 3 (by decide);have dd79:=d79;rw [Array.getD_eq_getD_getElem?] at dd79)
           all_goals try (have d80:ac.tmps.getD 80 undef=.int .i64 (inp.size:Int):=hdep 4 (by decide);have dd80:=d80;rw [Array.getD_eq_getD_getElem?] at dd80)
           all_goals try (have d81:ac.tmps.getD 81 undef=.int .i64 ((i:Int)+(inp.size:Int)):=hdep 5 (by decide);have dd81:=d81;rw [Array.getD_eq_getD_getElem?] at dd81)
           all_goals try (have d82:ac.tmps.getD 82 undef=.agg #[.int .i64 (d0:Int),.int .i64 (n2:Int)]:=hdep 6 (by decide);have dd82:=d82;rw [Array.getD_eq_getD_getElem?] at dd82)
           all_goals try (have d83:ac.tmps.getD 83 undef=.map (some (gm jh)):=hdep 7 (by decide);have dd83:=d83;rw [Array.getD_eq_getD_getElem?] at dd83)
           all_goals try (have d84:ac.tmps.getD 84 undef=.agg #[.int .i64 (m:Int),.int .i64 (nd:Int)]:=hdep 8 (by decide);have dd84:=d84;rw [Array.getD_eq_getD_getElem?] at dd84)
           all_goals try (have d85:ac.tmps.getD 85 undef=.int .i64 (ct:Int):=hdep 9 (by decide);have dd85:=d85;rw [Array.getD_eq_getD_getElem?] at dd85)
           all_goals try (have d86:ac.tmps.getD 86 undef=.pointer (some ⟨g11,4,none⟩):=hdep 10 (by decide);have dd86:=d86;rw [Array.getD_eq_getD_getElem?] at dd86)
           all_goals try (have d87:ac.tmps.getD 87 undef=.int .i64 (c0:Int):=hdep 11 (by decide);have dd87:=d87;rw [Array.getD_eq_getD_getElem?] at dd87)
           all_goals try (have d88:ac.tmps.getD 88 undef=.int .i64 ((ct:Int)+(c0:Int)):=hdep 12 (by decide);have dd88:=d88;rw [Array.getD_eq_getD_getElem?] at dd88)
           all_goals try (have d89:ac.tmps.getD 89 undef=.bool false:=hdep 13 (by decide);have dd89:=d89;rw [Array.getD_eq_getD_getElem?] at dd89)
           all_goals try (have d90:ac.tmps.getD 90 undef=.bool false:=hdep 14 (by decide);have dd90:=d90;rw [Array.getD_eq_getD_getElem?] at dd90)
           all_goals try (have d91:ac.tmps.getD 91 undef=undef:=hdep 15 (by decide);have dd91:=d91;rw [Array.getD_eq_getD_getElem?] at dd91)
           all_goals try (have d92:ac.tmps.getD 92 undef=undef:=hdep 16 (by decide);have dd92:=d92;rw [Array.getD_eq_getD_getElem?] at dd92)
           all_goals try (have d93:ac.tmps.getD 93 undef=undef:=hdep 17 (by decide);have dd93:=d93;rw [Array.getD_eq_getD_getElem?] at dd93)
           all_goals try (have d94:ac.tmps.getD 94 undef=undef:=hdep 18 (by decide);have dd94:=d94;rw [Array.getD_eq_getD_getElem?] at dd94)
           all_goals try clear hbase hdep hms hdn hund
           case c9 =>
            have hS1:(fun W=>Ext w14 W)  W:=hS0
            have hl85:=(HMH.out.kept (Below.block hS _ HMH.out.lt)).look keyS_ok (x:=(m,nd)) HOKT.out
            rw [HLH.out] at hl85
            simp only [keyS,sttV,Option.getD] at hl85
            refine opOk_run rfl (.inl ⟨_,W,?_,rfl,Ext.refl _,hS1⟩)
            clear hsz hS hS0 hS1 hfi;simp [go_sem,Act.eval, *]
           case c13 =>
            have hS1:(fun W=>Ext w14 W)  W:=hS0
            have hput:=put_no (i+inp.size) jn d0 n2 (ct+c0) (M3 (i+inp.size)) (by omega) HJN.out ((HX.out.kp HK14.out).kp (Kc.of hS (Nat.le_refl _))) (HMP.out.kept (Below.block hS _ HMP.out.lt)) HOKN.out HL1.out (by omega) old HPO.out HOL.out
            rw [show ((i+inp.size:Nat):Int)=(i:Int)+(inp.size:Int) by omega,show ((ct+c0:Nat):Int)=(ct:Int)+(c0:Int) by omega] at hput
            refine opOk_run rfl (.inr ⟨64,#[.pointer (some ⟨gx,0,none⟩),.int .i64 ((i:Int)+(inp.size:Int)),.agg #[.int .i64 (d0:Int),.int .i64 (n2:Int)],.int .i64 ((ct:Int)+(c0:Int))],W,by (clear hsz hS hS0 hS1 hfi hput;simp [go_sem,Act.eval, *]),?_⟩)
            refine hput.mono ?_
            rintro e w' ⟨rfl,hp⟩
            exact ⟨_,rfl,⟨rfl,hp,Ext.trans hS0 hp⟩⟩
           case c15=>exact opOk_skip (j:=14) (d:=90) (b:=false) rfl (by kernel_rfl) dd90 rfl ⟨rfl,hS0⟩
           case c16=>exact opOk_skip (j:=14) (d:=90) (b:=false) rfl (by kernel_rfl) dd90 rfl ⟨rfl,hS0⟩
           case c17=>exact opOk_skip (j:=14) (d:=90) (b:=false) rfl (by kernel_rfl) dd90 rfl ⟨rfl,hS0⟩
           case c18=>exact opOk_skip (j:=14) (d:=90) (b:=false) rfl (by kernel_rfl) dd90 rfl ⟨rfl,hS0⟩
           all_goals (refine opOk_run rfl (.inl ⟨_,W,?_,rfl,Ext.refl _,hS0⟩);clear hsz hS hS0 hfi;simp [go_sem,Act.eval, *];done)
          case hlast =>
           intro h;exact absurd rfl h
          case hfin =>
           intro _ ac W hsz hdf fL hf hS0 hv hbase
           have hS:(fun W=>Ext w14 W)  W:=hS0
           clear hS0
           obtain ⟨sx,hsx,hsA⟩:=act_puts [76,77,78,79,80,81,82,83,84,85,86,87,88,89,90,91,92,93,94,95] (by kernel_rfl) hsz hdf hbase
           have e95:sx 95=.bool false:=(hsx 95).trans (hv 19 (by decide))
           rw [hsA]
           simp only [List.foldl]
           rw [e95]
           clear e95
           simp only [Act.put,List.setIfInBounds_toArray,List.set_cons_succ,List.set_cons_zero]
           clear hsA hsx hv hbase hsz hdf hf
           have HEW:Hid (Ext wr W):=Ext.trans HE14.out hS
           clear hS
           go_wp2_with fail
           go_roundg (Fm.length - (k+1))
           case measure=>have:=HGK3.out;omega
           case rel=>exact ⟨k+1,q3,M3,by go_num,by omega,rfl,HVQ3.out.ext HEW.out hB2,by rw [HTK.out];exact HSA.out,HPP.out,hnq,(Kc.of HEW.out (Nat.le_refl _)).block _ _ _ _ HG9.out,HN9.out⟩
         ·
          have HLT:Hid (∀ x,look (M3 (i+inp.size)) (d0,n2)=some x→ct+c0<x):=fun x hx=>by
           rw [hpo] at hx
           exact Nat.lt_of_not_le fun h9=>hlow ⟨x,hx,h9⟩
          have hput:VisIn R L (folT T) i T.length B0 D (if inp.size=0 then q3 ++ [(d0,n2)] else q3) n (putM M3 (i+inp.size) (d0,n2) (ct+c0)) (m,nd) ct (Fm.take k ++ [⟨frm,(d0:Int),inp,out,(c0:Int)⟩]):=HVI.out.put (m:=d0) HSM.out HF.out HLF.out hn2 hcD' rfl hnq HLT.out HNE.out
          have hpt:=pot_putM (q:=q3) (C:=Cm) (j:=i+inp.size) (c:=ct+c0) HVI.out.bnd (by omega) hd8' hn2 (by omega) HLT.out
          rw [if_neg HZ.out] at hput
          rw [if_neg (by have:=HZ.out;omega)] at hpt
          rw [Nat.add_comm] at hpt
          rw [Nat.add_comm (pot T.length Cm (M3 i))] at hpt
          have HPU:=Lib.hid hput;have HPT:=Lib.hid hpt
          clear hpo hlow hput hpt
          refine wp_region_st (by kernel_rfl) (Vs [fun v _=>v=.pointer (some ⟨gx,0,none⟩),fun v _=>v=.int .i64 (i:Int),fun v _=>v=.pointer (some ⟨g11,2,none⟩),fun v _=>v=.string inp,fun v _=>v=.int .i64 (inp.size:Int),fun v _=>v=.int .i64 ((i:Int)+(inp.size:Int)),fun v _=>v=.agg #[.int .i64 (d0:Int),.int .i64 (n2:Int)],fun v _=>v=.map (some (gm jh)),fun v _=>v=.agg #[.int .i64 (m:Int),.int .i64 (nd:Int)],fun v _=>v=.int .i64 (ct:Int),fun v _=>v=.pointer (some ⟨g11,4,none⟩),fun v _=>v=.int .i64 (c0:Int),fun v _=>v=.int .i64 ((ct:Int)+(c0:Int)),fun v _=>v=.bool true,fun v _=>v=.bool true,fun v _=>v=.pointer (some ⟨g11,2,none⟩),fun v _=>v=.string inp,fun v _=>v=.int .i64 (inp.size:Int),fun v _=>v=.bool false,fun v _=>v=.bool false]) (Xs [Ext,Ext,Ext,Ext,Ext,Ext,Ext,Ext,Ext,Ext,Ext,Ext,Ext,(fun _ _=>True),Ext,Ext,Ext,Ext,Ext,Ext]) (fun fL=>(PutT w14 (gm jn) (d0,n2) (M3 (i+inp.size)) (ct+c0)) (fL 13)) [0,0,0,4,12,30,0,0,0,384,0,1024,3968,8191,16383,32767,65535,131071,262143,524287] 101 20 (by kernel_rfl) rfl ?hV ?hS ?hop ?hfin ?hlast
          case hV =>
           refine xs_stays (vs_stays (by simp only [List.mem_cons,List.not_mem_nil,or_false,forall_eq_or_imp,forall_eq];exact ⟨stays_const _,stays_const _,stays_const _,stays_const _,stays_const _,stays_const _,stays_const _,stays_const _,stays_const _,stays_const _,stays_const _,stays_const _,stays_const _,stays_const _,stays_const _,stays_const _,stays_const _,stays_const _,stays_const _,stays_const _⟩)) ?_
           exact ⟨.inl rfl,.inl rfl,.inl rfl,.inl rfl,.inl rfl,.inl rfl,.inl rfl,.inl rfl,.inl rfl,.inl rfl,.inl rfl,.inl rfl,.inl rfl,.inr (staysM_all ⟨fun _ _=>fun _ _ _ h _=>h,fun _ _=>fun _ _ _ h _=>h,fun _ _=>fun _ _ _ h _=>h,fun _ _=>fun _ _ _ h _=>h,fun _ _=>fun _ _ _ h _=>h,fun _ _=>fun _ _ _ h _=>h,fun _ _=>fun _ _ _ h _=>h,fun _ _=>fun _ _ _ h _=>h,fun _ _=>fun _ _ _ h _=>h,fun _ _=>fun _ _ _ h _=>h,fun _ _=>fun _ _ _ h _=>h,fun _ _=>fun _ _ _ h _=>h,fun _ _=>fun _ _ _ h _=>h,fun h=>absurd rfl h,fun _ h=>absurd h (by decide),fun _ h=>absurd h (by decide),fun _ h=>absurd h (by decide),fun _ h=>absurd h (by decide),fun _ h=>absurd h (by decide),fun _ h=>absurd h (by decide),trivial⟩),.inl rfl,.inl rfl,.inl rfl,.inl rfl,.inl rfl,.inl rfl,trivial⟩
          case hS =>
           intro fL hf
           show (PutT w14 (gm jn) (d0,n2) (M3 (i+inp.size)) (ct+c0)) (fL 13) _
           rw [hf 13 (by decide)]
           first | exact Ext.refl _ | exact drew_ext _
          case hop =>
           refine ⟨?_,?_,?_,?_,?_,?_,?_,?_,?_,?c9,?_,?_,?_,?c13,?_,?c15,?c16,?c17,?c18,?_,trivial⟩
           all_goals first | rw [if_neg (by decide)] | rw [if_pos (by decide)]
           all_goals try intro ac W fL hsz hfi hms hdn hS0 hdep hbase hund
           all_goals try have hS:(PutT w14 (gm jn) (d0,n2) (M3 (i+inp.size)) (ct+c0)) (fL 13) W:=hS0
           all_goals try (have hfl13:fL 13=true:=hms 13 (by decide);rw [hfl13] at hS)
           all_goals try (have hfl13:fL 13=false:=(by first | exact hfi | exact hdn 13 (by decide) (by decide));rw [hfl13] at hS)
           all_goals try (
            have hk9:Kc w14 W:=PutT.kp HMP.out hS0
            obtain ⟨z0,z1,z2,z3,z4⟩:=rul_cells (hk9.block _ _ _ _ HC11c.out)
            obtain ⟨x0,x1⟩:=stt_cells (hk9.block _ _ _ _ HC9c.out)
            obtain ⟨u0,u1⟩:=stt_cells (hk9.block _ _ _ _ HC14.out)
            clear hk9)
           all_goals try (have h0:ac.tmps.getD 0 undef=.pointer (some ⟨gx,0,none⟩):=hbase 0 (by kernel_rfl);have hh0:=h0;rw [Array.getD_eq_getD_getElem?] at hh0)
           all_goals try (have h1:ac.tmps.getD 1 undef=.int .i64 (i:Int):=hbase 1 (by kernel_rfl);have hh1:=h1;rw [Array.getD_eq_getD_getElem?] at hh1)
           all_goals try (have h5:ac.tmps.getD 5 undef=.map (some (gm jh)):=hbase 5 (by kernel_rfl);have hh5:=h5;rw [Array.getD_eq_getD_getElem?] at hh5)
           all_goals try (have h9:ac.tmps.getD 9 undef=.pointer (some ⟨g9,0,none⟩):=hbase 9 (by kernel_rfl);have hh9:=h9;rw [Array.getD_eq_getD_getElem?] at hh9)
           all_goals try (have h11:ac.tmps.getD 11 undef=.pointer (some ⟨g11,0,none⟩):=hbase 11 (by kernel_rfl);have hh11:=h11;rw [Array.getD_eq_getD_getElem?] at hh11)
           all_goals try (have h14:ac.tmps.getD 14 undef=.pointer (some ⟨g14,0,none⟩):=hbase 14 (by kernel_rfl);have hh14:=h14;rw [Array.getD_eq_getD_getElem?] at hh14)
           all_goals try (have d76:ac.tmps.getD 76 undef=.pointer (some ⟨gx,0,none⟩):=hdep 0 (by decide);have dd76:=d76;rw [Array.getD_eq_getD_getElem?] at dd76)
           all_goals try (have d77:ac.tmps.getD 77 undef=.int .i64 (i:Int):=hdep 1 (by decide);have dd77:=d77;rw [Array.getD_eq_getD_getElem?] at dd77)
           all_goals try (have d78:ac.tmps.getD 78 undef=.pointer (some ⟨g11,2,none⟩):=hdep 2 (by decide);have dd78:=d78;rw [Array.getD_eq_getD_getElem?] at dd78)
           all_goals try (have d79:ac.tmps.getD 79 undef=.string inp:=hdep 3 (by decide);have dd79:=d79;rw [Array.getD_eq_getD_getElem?] at dd79)
           all_goals try (have d80:ac.tmps.getD 80 undef=.int .i64 (inp.size:Int):=hdep 4 (by decide);have dd80:=d80;rw [Array.getD_eq_getD_getElem?] at dd80)
           all_goals try (have d81:ac.tmps.getD 81 undef=.int .i64 ((i:Int)+(inp.size:Int)):=hdep 5 (by decide);have dd81:=d81;rw [Array.getD_eq_getD_getElem?] at dd81)
           all_goals try (have d82:ac.tmps.getD 82 undef=.agg #[.int .i64 (d0:Int),.int .i64 (n2:Int)]:=hdep 6 (by decide);have dd82:=d82;rw [Array.getD_eq_getD_getElem?] at dd82)
           all_goals try (have d83:ac.tmps.getD 83 undef=.map (some (gm jh)):=hdep 7 (by decide);have dd83:=d83;rw [Array.getD_eq_getD_getElem?] at dd83)
           all_goals try (have d84:ac.tmps.getD 84 undef=.agg #[.int .i64 (m:Int),.int .i64 (nd:Int)]:=hdep 8 (by decide);have dd84:=d84;rw [Array.getD_eq_getD_getElem?] at dd84)
           all_goals try (have d85:ac.tmps.getD 85 undef=.int .i64 (ct:Int):=hdep 9 (by decide);have dd85:=d85;rw [Array.getD_eq_getD_getElem?] at dd85)
           all_goals try (have d86:ac.tmps.getD 86 undef=.pointer (some ⟨g11,4,none⟩):=hdep 10 (by decide);have dd86:=d86;rw [Array.getD_eq_getD_getElem?] at dd86)
           all_goals try (have d87:ac.tmps.getD 87 undef=.int .i64 (c0:Int):=hdep 11 (by decide);have dd87:=d87;rw [Array.getD_eq_getD_getElem?] at dd87)
           all_goals try (have d88:ac.tmps.getD 88 undef=.int .i64 ((ct:Int)+(c0:Int)):=hdep 12 (by decide);have dd88:=d88;rw [Array.getD_eq_getD_getElem?] at dd88)
           all_goals try (have d89:ac.tmps.getD 89 undef=.bool true:=hdep 13 (by decide);have dd89:=d89;rw [Array.getD_eq_getD_getElem?] at dd89)
           all_goals try (have d90:ac.tmps.getD 90 undef=.bool true:=hdep 14 (by decide);have dd90:=d90;rw [Array.getD_eq_getD_getElem?] at dd90)
           all_goals try (have d91:ac.tmps.getD 91 undef=.pointer (some ⟨g11,2,none⟩):=hdep 15 (by decide);have dd91:=d91;rw [Array.getD_eq_getD_getElem?] at dd91)
           all_goals try (have d92:ac.tmps.getD 92 undef=.string inp:=hdep 16 (by decide);have dd92:=d92;rw [Array.getD_eq_getD_getElem?] at dd92)
           all_goals try (have d93:ac.tmps.getD 93 undef=.int .i64 (inp.size:Int):=hdep 17 (by decide);have dd93:=d93;rw [Array.getD_eq_getD_getElem?] at dd93)
           all_goals try (have d94:ac.tmps.getD 94 undef=.bool false:=hdep 18 (by decide);have dd94:=d94;rw [Array.getD_eq_getD_getElem?] at dd94)
           all_goals try clear hbase hdep hms hdn hund
           case c9 =>
            have hS1:(PutT w14 (gm jn) (d0,n2) (M3 (i+inp.size)) (ct+c0)) ((upd fL 9) 13) W:=hS0
            have hl85:=(HMH.out.kept (Below.block hS _ HMH.out.lt)).look keyS_ok (x:=(m,nd)) HOKT.out
            rw [HLH.out] at hl85
            simp only [keyS,sttV,Option.getD] at hl85
            refine opOk_run rfl (.inl ⟨_,W,?_,rfl,Ext.refl _,hS1⟩)
            clear hsz hS hS0 hS1 hfi;simp [go_sem,Act.eval, *]
           case c13 =>
            have hput:=put_yes (i+inp.size) jn d0 n2 (ct+c0) (M3 (i+inp.size)) (by omega) HJN.out ((HX.out.kp HK14.out).kp (Kc.of hS (Nat.le_refl _))) (HMP.out.kept (Below.block hS _ HMP.out.lt)) HOKN.out HL1.out (by omega) HLT.out
            rw [show ((i+inp.size:Nat):Int)=(i:Int)+(inp.size:Int) by omega,show ((ct+c0:Nat):Int)=(ct:Int)+(c0:Int) by omega] at hput
            refine opOk_run rfl (.inr ⟨64,#[.pointer (some ⟨gx,0,none⟩),.int .i64 ((i:Int)+(inp.size:Int)),.agg #[.int .i64 (d0:Int),.int .i64 (n2:Int)],.int .i64 ((ct:Int)+(c0:Int))],W,by (clear hsz hS hS0 hfi hput;simp [go_sem,Act.eval, *]),?_⟩)
            refine hput.mono ?_
            rintro e w' ⟨rfl,hp⟩
            refine ⟨_,rfl,rfl,trivial,?_⟩
            show PutT w14 (gm jn) (d0,n2) (M3 (i+inp.size)) (ct+c0) (upd fL 13 13) w'
            rw [show upd fL 13 13=true from if_pos rfl]
            exact PutP.of_ext hS hp
           case c15=>refine opOk_runG (j:=14) (d:=90) (b:=true) rfl (by kernel_rfl) dd90 rfl (.inl ⟨_,W,?_,rfl,Ext.refl _,hS0⟩);clear hsz hS hS0 hfi;simp [go_sem,Act.eval, *]
           case c16=>refine opOk_runG (j:=14) (d:=90) (b:=true) rfl (by kernel_rfl) dd90 rfl (.inl ⟨_,W,?_,rfl,Ext.refl _,hS0⟩);clear hsz hS hS0 hfi;simp [go_sem,Act.eval, *]
           case c17=>refine opOk_runG (j:=14) (d:=90) (b:=true) rfl (by kernel_rfl) dd90 rfl (.inl ⟨_,W,?_,rfl,Ext.refl _,hS0⟩);clear hsz hS hS0 hfi;simp [go_sem,Act.eval, *]
           case c18=>refine opOk_runG (j:=14) (d:=90) (b:=true) rfl (by kernel_rfl) dd90 rfl (.inl ⟨_,W,?_,rfl,Ext.refl _,hS0⟩);clear hsz hS hS0 hfi;simp [go_sem,Act.eval, *]
           all_goals (refine opOk_run rfl (.inl ⟨_,W,?_,rfl,Ext.refl _,hS0⟩);clear hsz hS hS0 hfi;simp [go_sem,Act.eval, *];done)
          case hlast =>
           intro h;exact absurd rfl h
          case hfin =>
           intro _ ac W hsz hdf fL hf hS0 hv hbase
           have hS:(PutT w14 (gm jn) (d0,n2) (M3 (i+inp.size)) (ct+c0)) (fL 13) W:=hS0
           clear hS0
           rw [hf 13 (by decide)] at hS
           obtain ⟨sx,hsx,hsA⟩:=act_puts [76,77,78,79,80,81,82,83,84,85,86,87,88,89,90,91,92,93,94,95] (by kernel_rfl) hsz hdf hbase
           have e95:sx 95=.bool false:=(hsx 95).trans (hv 19 (by decide))
           rw [hsA]
           simp only [List.foldl]
           rw [e95]
           clear e95
           simp only [Act.put,List.setIfInBounds_toArray,List.set_cons_succ,List.set_cons_zero]
           clear hsA hsx hv hbase hsz hdf hf
           have hvq15:VX w2 B gm i (putM M3 (i+inp.size) (d0,n2) (ct+c0)) W:=HVQ14.out.vx.put HG.out (by omega) (by omega) (by rw [HJN.out];exact hS) hB2
           have hown15:=HVQ14.out.own.put_keep HMP.out hS
           have HG15:Hid (W.heap[g9]? = some (.cells #[.int .i64 (m:Int),.int .i64 (nd:Int)] 124 (0,0))):=(PutP.kp hS HMP.out).block _ _ _ _ HC9c.out
           have HVX15:=Lib.hid hvq15;have HOW15:=Lib.hid hown15
           have HOUT15:Hid (∀ j,¬ (i≤j∧j<i+5)→putM M3 (i+inp.size) (d0,n2) (ct+c0) j=M j):=fun j hj=>by
            unfold putM
            rw [if_neg (by omega)]
            exact HVQ3.out.out j hj
           clear hS hvq15 hown15
           go_wp2_with fail
           go_roundg (Fm.length - (k+1))
           case measure=>have:=HGK3.out;omega
           case rel=>exact ⟨k+1,q3,_,by go_num,by omega,rfl,⟨HVX15.out,HOW15.out,HOUT15.out⟩,by rw [HTK.out];exact HPU.out,Nat.le_trans HPT.out HPP.out,hnq,HG15.out,HN9.out⟩
      ·
       have hFk:Fm.take k=Fm:=List.take_of_length_le (by omega)
       have hvi:=HVI.out
       rw [hFk,← HFS.out] at hvi
       have HLV:=Lib.hid hvi.leave
       clear hvi hFk
       go_wp2_with fail
       go_roundg ((q3.length - (n+1))+pot T.length Cm (M3 i))
       case measure=>have:=HGK2.out;have:=HPP.out;omega
       case rel=>exact ⟨n+1,q3,M3,by go_num,by omega,HVQ3.out,HLV.out,rfl,by have:=HPP.out;have:=HPOT.out;omega⟩
    ·
     have HSH:=Lib.hid (HVIS.out.done hlt)
     go_wp2_with fail
     refine bodyPost_end (results_none rfl _ _ _) rfl ?_
     exact ⟨rfl,M2,⟨HVQ.out.vx.maps,HK2.out.trans HVQ.out.vx.kp,(HB2.out.mono hBw).trans HVQ.out.vx.bl⟩,HVIS.out.inv,HSH.out,HVIS.out.bnd,HVQ.out.out⟩
  ·
   intro
      m
       n c w4 hp hrg4 hg4 hs4 hlt4 hen
   dsimp only [keyS,sttV] at hen ⊢
   have HP:=Lib.hid hp;have HRG4:=Lib.hid hrg4;have HG4':=Lib.hid hg4
   have HB4:Hid (Below w2.heap.size w2 w4):=by
    show Below _ _ _
    exact HBL.out.grown hg4 (by omega) fun k hk=>by injection hk with hk;omega
   have HOW4:Hid (OwnG rowStt w4 w2.heap.size (.slice qa q.length qc) q):=by
    show OwnG _ _ _ _ _
    refine HOW.out.keep fun g hg=>hg4.block g (HOW.out.lt g hg) fun e=>?_
    injection e with e
    obtain ⟨D9,l9,c9,hr9,_⟩:=HRG.out
    obtain ⟨es,clock,since,seen,c0,_,_,_,_,hr,_⟩:=hr9
    rcases HOW.out.2 with ⟨h9,_⟩ | ⟨g',cap,cur,h9,_,h10,_⟩
    · rw [h9] at hg;cases hg
    ·
     rw [h9] at hg
     injection hg with hg
     have e2:g'=w2.heap.size:=hg.trans e
     rw [e2,hr] at h10
     cases h10
   have hcb:((w4.alloc (.cells #[.int .i64 (m:Int),.int .i64 (n:Int)] 124)).alloc (.cells #[.int .i64 (m:Int),.int .i64 (n:Int)] 124)).heap[w4.heap.size+1]? = some (.cells (rowStt.enc (m,n)).toArray 124 (0,0)):=by
    have h:=heap_alloc_new (w4.alloc (.cells #[.int .i64 (m:Int),.int .i64 (n:Int)] 124)) (.cells #[.int .i64 (m:Int),.int .i64 (n:Int)] 124)
    rw [World.size_alloc] at h
    exact h
   have HCB:=Lib.hid hcb
   have HE4:Hid (Ext w4 ((w4.alloc (.cells #[.int .i64 (m:Int),.int .i64 (n:Int)] 124)).alloc (.cells #[.int .i64 (m:Int),.int .i64 (n:Int)] 124))):=Ext.trans ((Below.refl _ _).alloc (Nat.le_refl _) _) ((Below.refl _ _).alloc (Nat.le_refl _) _)
   clear hp hrg4 hg4 hcb hlt4
   go_wp2_with (at_builtin;go_loud (refine wpList_append_g (v:=.slice qa q.length qc) rowStt_ok rfl _ _ rfl rfl (HOW4.out.later HE4.out (Nat.le_refl _)) ⟨w4.heap.size+1,0,none⟩ 1 [(m,n)] rfl (cells_built HCB.out) (by have:=HLEN.out;have:=HIN2.out;simp only [List.length_singleton];omega) (by simp only [World.size_alloc];omega) ?_);intro v5 w5 hown5 hgrow5 hat5)
   have HROW:Hid (∀ q9,(Value.slice qa q.length qc).ownBlock=some q9→some (gm jh)≠some q9∧some w2.heap.size≠some q9):=fun q9 h9=>⟨fun e=>(HRG4.out.map.kept (HE4.out.block _ HRG4.out.map.lt)).not_row (HOW4.out.later HE4.out (Nat.le_refl _)) (h9.trans e.symm),fun e=>by
    injection e with e
    have h8:=HOW4.out.lt _ h9
    obtain ⟨D9,l9,c9,hr9,_⟩:=HRG4.out
    obtain ⟨es,clock,since,seen,c0,_,_,_,_,hr,_⟩:=hr9
    rcases HOW4.out.2 with ⟨h7,_⟩ | ⟨g',cap,cur,h7,_,h10,_⟩
    · rw [h7] at h9;cases h9
    ·
     rw [h7] at h9
     injection h9 with h9
     have e2:g'=w2.heap.size:=h9.trans e.symm
     rw [e2,hr] at h10
     cases h10⟩
   have HFIL:Hid ((strike rest ((m,n),c)).length<rest.length):=by
    exact strike_lt HP.out
   go_roundg (strike rest ((m,n),c)).length
   case measure=>rw [← HGK.out];exact HFIL.out
   case rel =>
    refine ⟨q ++ [(m,n)],_,hown5,?_,rfl,?_,HND.out.filter _,fun t=>?_,?_⟩
    ·
     have h1:=HRG4.out.below HE4.out
     cases hob:(Value.slice qa q.length qc).ownBlock with
     | none=>rw [hob] at hgrow5;exact h1.kept hgrow5 (by simp) (by simp)
     | some q9=>rw [hob] at hgrow5;exact h1.kept hgrow5 (HROW.out q9 hob).1 (HROW.out q9 hob).2
    · have:=HFIL.out;have:=HLEN.out;rw [List.length_append,List.length_singleton];omega
    ·
     rw [List.mem_append,List.mem_singleton,HQ.out]
     constructor
     ·
      rintro (⟨c9,h1,h2⟩ | rfl)
      · exact ⟨c9,h1,fun h3=>h2 (mem_strike.1 h3).1⟩
      · exact ⟨c,HRG.out.sub _ HP.out,fun h3=>(mem_strike.1 h3).2 rfl⟩
     ·
      rintro ⟨c9,h1,h2⟩
      by_cases e:(t,c9)=((m,n),c)
      ·
       injection e with e1 e2
       exact .inr e1
      · exact .inl ⟨c9,h1,fun h3=>h2 (mem_strike.2 ⟨h3,e⟩)⟩
    ·
     have h1:Below w2.heap.size w2 ((w4.alloc (.cells #[.int .i64 (m:Int),.int .i64 (n:Int)] 124)).alloc (.cells #[.int .i64 (m:Int),.int .i64 (n:Int)] 124)):=HB4.out.trans (Below.mono HE4.out HB4.out.size)
     exact h1.grown hgrow5 h1.size fun k hk=>HOW4.out.ge k hk
end
end Go.Proofs.YthjmdgejnakcmaaGreatDoor
