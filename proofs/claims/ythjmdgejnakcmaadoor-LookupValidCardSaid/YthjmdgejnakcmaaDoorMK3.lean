/- Texts that the claims share: K6, K8. -/
import Derived.Deep.LoopGhost
import Derived.Laws.BitsAllLaws
import Derived.Test.YthjmdgejnakcmaaDoorMK2
namespace Go.Proofs.YthjmdgejnakcmaaDoor
open Go.RowKit Go.WideShapes Fl
set_option linter.unusedVariables false
set_option linter.unusedSimpArgs false
theorem steps_mem {R:List Rl} {L:List Slt} {i m C:Nat} {s:Rl} (hF:Fairs R) (hB:SlotsB C L) (h:s∈stepsF R L i m):s.frm=(m:Int)∧0≤s.dst∧s.dst<8∧s.inp.size≤4∧0≤s.cost∧s.cost≤1000+4*(C:Int)∧∃ r∈R,s.out=r.out:=by
 obtain ⟨h1,h2⟩:=List.mem_filter.1 h
 obtain ⟨r,k,hr,hk,rfl⟩:=mem_fits.1 h1
 have hf:=fairB_iff.1 (hF r hr)
 have hc:=letsC_le (hB.drop i) hk
 rw [bts_len] at hc
 have hc2:r.inp.size*C≤4*C:=Nat.mul_le_mul_right C hf.2.2.2.2.1
 refine ⟨of_decide_eq_true h2,hf.2.2.1,hf.2.2.2.1,hf.2.2.2.2.1,?_,?_,r,hr,rfl⟩
 · show 0≤r.cost+(k:Int);omega
 · show r.cost+(k:Int)≤_;omega
theorem stt_cells {w:World} {g:Nat} {a b:Int} {t:TypeId} (h:w.heap[g]? = some (.cells #[.int .i64 a,.int .i64 b] t (0,0))):w.cell? ⟨g,0,none⟩=some (.int .i64 a)∧w.cell? ⟨g,1,none⟩=some (.int .i64 b):=by
 refine ⟨?_,?_⟩ <;> (rw [cell_of_row w g _ _ _ (0,0) h];rfl)
structure VisitP (R:List Rl) (L:List Slt) (T:List Bn) (i B0 D B:Nat) (gm:Nat→Nat) (M:Nat→Ent) (w w':World) (M':Nat→Ent):Prop where
 vx:VX w B gm i M' w'
 inv:Inv R L (folT T) i M'
 shut:∀ t,Shut R L (folT T) i M' t
 bnd:Bnd T.length i B0 D M'
 out:∀ j,¬ (i≤j∧j<i+5)→M' j=M j
structure VQ (w2:World) (B:Nat) (gm:Nat→Nat) (i:Nat) (M0 M:Nat→Ent) (q:List Stt) (v:Value) (w:World):Prop where
 vx:VX w2 B gm i M w
 own:OwnG rowStt w w2.heap.size v q
 out:∀ j,¬ (i≤j∧j<i+5)→M j=M0 j
theorem VQ.ext {w2 w w':World} {B i:Nat} {gm:Nat→Nat} {M0 M:Nat→Ent} {q:List Stt} {v:Value} (h:VQ w2 B gm i M0 M q v w) (hx:Ext w w') (hB:B≤w2.heap.size):VQ w2 B gm i M0 M q v w' :=
 ⟨h.vx.ext hx hB,h.own.later hx (Nat.le_refl _),h.out⟩
def PutT (w14:World) (g:Nat) (t:Stt) (E:Ent) (c:Nat) (b:Bool) (W:World):Prop:=match b with | false=>Ext w14 W | true=>PutP w14 W g t E c
theorem PutT.kp {w14 W:World} {g:Nat} {t:Stt} {E:Ent} {c:Nat} (hm:MpG keyS w14 g E):∀ {b:Bool},PutT w14 g t E c b W→Kc w14 W
 | false,h=>Kc.of h (Nat.le_refl _)
 | true,h=>PutP.kp h hm
section
variable {w w':World} {gx:Nat} {acc:Int} {aR:Option Addr} {nR cR:Nat} {aT:Option Addr} {nT cT:Nat} {aL:Option Addr} {nL cL:Nat} {gm:Nat→Nat}
set_option maxHeartbeats 6400000 in
set_option maxRecDepth 100000 in
theorem
    svisit_any (
          R
           :
            List Rl) (L:List Slt) (T:List Bn) (C i B0 D B:Nat) (M:Nat→Ent) (hx:SX w gx acc aR nR cR aT nT cT aL nL cL gm) (hR:RulS w aR R) (hnR:nR=R.length) (hRl:nR≤1000) (hF:Fairs R) (hO:∀ r∈R,r.out.size≤1000000)
  (hL:SlotS w aL L) (hn:nL=L.length) (hnl:nL≤100000) (hi:i≤L.length) (hBs:SlotsB C L) (hC:C≤1000000) (hT:TreeS w aT T) (hnT:nT=T.length) (hTl:nT≤100000) (hIn:TrIn T)
  (hG:GmOk B gm) (hBw:B≤w.heap.size) (hm:∀ j,i≤j→j<i+5→MpG keyS w (gm (j % 5)) (M j)) (hinv:Inv R L (folT T) i M) (hb:Bnd T.length i B0 D M) (hD:1000+4*C≤D) (hcost:8*T.length*(B0+(8*T.length+1)*D+2)≤900000000000) (hT0:0<T.length) :
  Calls Tryd.prog 20 #[.pointer (some ⟨gx,0,none⟩),.int .i64 (i:Int)] w fun e w'=>e=.returned (.tuple #[])∧∃ M',VisitP R L T i B0 D B gm M w w' M':=by
 subst hn hnR hnT
 have HX:=Lib.hid hx;have HR:=Lib.hid hR;have HF:=Lib.hid hF;have HO:=Lib.hid hO;have HL:=Lib.hid hL;have HBS:=Lib.hid hBs;have HT:=Lib.hid hT;have HIN:=Lib.hid hIn;have HG:=Lib.hid hG
 have HM:=Lib.hid hm;have HINV:=Lib.hid hinv;have HBD:=Lib.hid hb;have HCO:=Lib.hid hcost
 have hgx:=hx.lt
 clear hx hR hF hO hL hBs hT hIn hG hm hinv hb hcost
 have hsteps:=steps_any R L C i HX.out HR.out rfl hRl HF.out HL.out rfl (by omega) hi HBS.out hC
 have HSTEPS:=Lib.hid hsteps
 clear hsteps
 go_enter Tryd.func20,Tryd.ntmps20
 go_wp2_with fail
 refine HSTEPS.out.mono ?_
 rintro e w1 ⟨⟨va,vc,he,hrw⟩,hb1⟩
 obtain ⟨F,hFe⟩:∃ F,stepsF R L i=F:=⟨_,rfl⟩
 rw [hFe] at he hrw
 obtain rfl:e=.returned (.agg #[.slice (va 0) (F 0).length (vc 0),.slice (va 1) (F 1).length (vc 1),.slice (va 2) (F 2).length (vc 2),.slice (va 3) (F 3).length (vc 3),.slice (va 4) (F 4).length (vc 4),.slice (va 5) (F 5).length (vc 5),.slice (va 6) (F 6).length (vc 6),.slice (va 7) (F 7).length (vc 7)]):=he
 have HFE:=Lib.hid hFe
 clear hFe
 have HRW:=Lib.hid hrw;have HB1:=Lib.hid hb1
 clear hrw hb1
 go_upto_region 1 with fail
 obtain ⟨g4,hg4⟩:∃ g4,w1.heap.size=g4:=⟨_,rfl⟩
 obtain ⟨w2,hw2⟩:∃ w2,w1.alloc (.cells #[.slice (va 0) (F 0).length (vc 0),.slice (va 1) (F 1).length (vc 1),.slice (va 2) (F 2).length (vc 2),.slice (va 3) (F 3).length (vc 3),.slice (va 4) (F 4).length (vc 4),.slice (va 5) (F 5).length (vc 5),.slice (va 6) (F 6).length (vc 6),.slice (va 7) (F 7).length (vc 7)] 87)=w2:=⟨_,rfl⟩
 rw [hw2,hg4]
 have HG4:Hid (w2.heap[g4]? = some (.cells (st8 (slV va vc F)) 87 (0,0))):=by
  show _=_
  rw [← hw2,← hg4];exact heap_alloc_new _ _
 have HX12:Hid (Below w1.heap.size w1 w2):=by
  show Below _ _ _
  rw [← hw2];exact (Below.refl _ _).alloc (Nat.le_refl _) _
 have HB2:Hid (Below w.heap.size w w2):=HB1.out.trans (HX12.out.mono HB1.out.size)
 have HK2:Hid (Kc w w2):=Kc.of HB2.out (Nat.le_refl _)
 have HRW2:Hid (∀ m,m<8→RulS w2 (va m) (F m)):=fun m hm=>RulS.later (HRW.out m hm) HX12.out (Nat.le_refl _)
 have HM2:Hid (∀ j,i≤j→j<i+5→MpG keyS w2 (gm (j % 5)) (M j)):=fun j h1 h2=>(HM.out j h1 h2).kept (HB2.out.block _ (HM.out j h1 h2).lt)
 have hB2:B≤w2.heap.size:=Nat.le_trans hBw HB2.out.size
 obtain ⟨jh,hjh⟩:∃ jh,i % 5=jh:=⟨_,rfl⟩
 have HJH:=Lib.hid hjh
 have hmi:=HM2.out i (Nat.le_refl _) (by omega)
 rw [hjh] at hmi
 have HMI:=Lib.hid hmi
 have hat:=at_any i jh (by omega) hjh (HX.out.kp HK2.out)
 have HAT:=Lib.hid hat
 have HIN2:Hid ((M i).length≤8*T.length):=HBD.out.len i
 clear hg4 hw2 hjh hmi hat
 go_wp2_with fail
 refine HAT.out.mono ?_
 rintro e w2' ⟨rfl,rfl⟩
 go_wp2_with (at_range;refine wpList_range_g keyS_ok HMI.out rfl _ rfl rfl ?_;intro w3 hrg3 hb3 hs3)
 go_frame
 have HRG3:=Lib.hid hrg3;have HB3:=Lib.hid hb3;have HS3:=Lib.hid hs3
 clear hrg3 hb3 hs3
 go_loopg [6] (M i).length (fun g v6 wr=>∃ (q:List Stt) (rest:List (Stt × Nat)),OwnG rowStt wr w2.heap.size v6 q∧RgG keyS wr (gm jh) w2.heap.size (M i) rest∧rest.length=g∧q.length+rest.length≤(M i).length∧rest.Nodup∧(∀ t,t∈q↔∃ c,(t,c)∈M i∧(t,c) ∉ rest)∧Below w2.heap.size w2 wr)
 case atStart =>
  refine ⟨[],M i,OwnG.nil _ _ _,HRG3.out,rfl,by simp,?_,fun t=>?_,HB3.out⟩
  · exact (List.pairwise_map.1 ((keysN_iff _).1 (HBD.out.keys i))).imp fun hne e=>hne (by rw [e])
  · simp
 case round =>
  obtain ⟨q,rest,hown,hrg,hgk,hlen,hnd,hq,hbl⟩:=hrel
  obtain ⟨qa,qc,hqa, -, -⟩:=hown.form
  subst hqa
  have HOW:=Lib.hid hown;have HRG:=Lib.hid hrg;have HLEN:=Lib.hid hlen;have HND:=Lib.hid hnd;have HQ:=Lib.hid hq;have HBL:=Lib.hid hbl;have HGK:=Lib.hid hgk
  have hz3:=hbl.size
  clear hown hrg hlen hnd hq hbl hgk
  go_wp2_with (at_next;refine wpList_next_g keyS_ok HRG.out rfl _ rfl rfl ?_ ?_)
  ·
   intro
      h0
   have hvis:Vis R L (folT T) i T.length B0 D q 0 M:=VisIn.start HINV.out HBD.out fun t=>by
    rw [HQ.out,h0]
    constructor
    · rintro ⟨c,h1,_⟩;exact ⟨c,look_of_mem (HBD.out.keys i) h1⟩
    · rintro ⟨c,h1⟩;exact ⟨c,look_mem h1,List.not_mem_nil⟩
   have hvq:VQ w2 B gm i M M q (.slice qa q.length qc) wr:=⟨(VX.refl HM2.out).ext HBL.out hB2,HOW.out,fun _ _=>rfl⟩
   have HVIS:=Lib.hid hvis;have HVQ:=Lib.hid hvq
   obtain ⟨Cm,hCm⟩:∃ Cm,B0+(8*T.length+1)*D=Cm:=⟨_,rfl⟩
   have hpot0:q.length+pot T.length Cm (M i)≤999999999999:=by
    have h1:pot T.length Cm (M i)≤8*T.length*(Cm+1):=pot_le (HBD.out.keys i) (HBD.out.rng i) fun p hp=>by
     have h2:=HBD.out.here p hp
     have h3:(M i).length*D≤8*T.length*D:=Nat.mul_le_mul_right D HIN2.out
     rw [← hCm,Nat.add_mul];omega
    have h4:=HLEN.out
    have h5:=HCO.out
    rw [hCm] at h5
    have h6:8*T.length*(Cm+2)=8*T.length*(Cm+1)+8*T.length:=by rw [show Cm+2=(Cm+1)+1 by omega,Nat.mul_add,Nat.mul_one]
    have:=HIN2.out
    omega
   have hCmb:Cm≤900000000000:=by
    have h5:=HCO.out
    rw [hCm] at h5
    have h6:1*(Cm+2)≤8*T.length*(Cm+2):=Nat.mul_le_mul_right _ (by omega)
    omega
   have HCM:=Lib.hid hCm;have HPOT:=Lib.hid hpot0
   clear h0 hvis hvq hCm hpot0
   go_wp2_with fail
   go_loopg [6,8] (q.length+pot T.length Cm (M i)) (fun g v6 v8 wr=>∃ (n:Nat) (q:List Stt) (M':Nat→Ent),v8=.int .i64 (n:Int)∧n≤q.length∧VQ w2 B gm i M M' q v6 wr∧Vis R L (folT T) i T.length B0 D q n M'∧(q.length - n)+pot T.length Cm (M' i)=g∧q.length+pot T.length Cm (M' i)≤999999999999)
   case atStart=>exact ⟨0,q,M,rfl,Nat.zero_le _,HVQ.out,HVIS.out,rfl,HPOT.out⟩
   case round =>
    clear HVQ HVIS HPOT
    obtain ⟨n,q2,M2,rfl,hn,hvq,hvis,hgk,hpot⟩:=hrel
    obtain ⟨qa2,qc2,hqa2, -, -⟩:=hvq.own.form
    subst hqa2
    have HVQ:=Lib.hid hvq;have HVIS:=Lib.hid hvis;have HGK2:=Lib.hid hgk;have HPOT:=Lib.hid hpot
    clear hvq hvis hgk hpot
    have hnb:n≤999999999999:=by have:=HPOT.out;omega
    by_cases hlt:n<q2.length
    ·
     obtain ⟨
         bq,
           hbq,hbq1,hbq2,q0,q1⟩:=HVQ.out.own.stt hlt
     subst hbq
     obtain ⟨ct,hct⟩:=HVIS.out.qs q2[n] (List.getElem_mem hlt)
     have hrt:=HVIS.out.bnd.rng i _ (look_mem hct)
     have hen:=HVIS.out.enter hlt rfl hct
     have hct2:=HVIS.out.bnd.here_le hct
     obtain ⟨t,ht⟩:∃ t,q2[n]=t:=⟨_,rfl⟩
     rw [ht] at q0 q1 hct hrt hen
     obtain ⟨m,nd⟩:=t
     simp only at q0 q1 hrt
     obtain ⟨hm8,hndN⟩:=hrt
     have hidx:=idx_stt bq q2.length qc2 n hlt
     have HEN:=Lib.hid hen
     have hg4c:wr.cell? ⟨g4,m,none⟩=some (.slice (va m) (F m).length (vc m)):=HVQ.out.vx.kp.cell (by rw [cell_of_row w2 g4 _ _ _ (0,0) HG4.out,st8_get _ hm8];rfl)
     have hg4l:g4<wr.heap.size:=Nat.lt_of_lt_of_le (Array.getElem?_eq_some_iff.1 HG4.out).1 HVQ.out.vx.kp.size
     have hm8I:(m:Int)<8:=by omega
     have hm0I:(0:Int)≤(m:Int):=by omega
     have hFl:(F m).length≤1000:=by
      have:=stepsF_len (R:=R) (L:=L) (i:=i) (m:=m)
      rw [HFE.out] at this;omega
     have hct3:ct+D≤Cm:=by
      have h1:=HCM.out
      rw [Nat.add_mul] at h1
      omega
     obtain ⟨Fm,hFm⟩:∃ Fm,F m=Fm:=⟨_,rfl⟩
     have hrw:=HRW2.out m hm8
     rw [hFm] at hg4c hFl hrw
     have HRM:=Lib.hid hrw
     have HFS:Hid (stepsF R L i m=Fm):=by show _=_;rw [HFE.out,hFm]
     obtain ⟨am,ham⟩:∃ am,va m=am:=⟨_,rfl⟩
     obtain ⟨cm,hcm⟩:∃ cm,vc m=cm:=⟨_,rfl⟩
     rw [ham] at hg4c HRM
     rw [hcm] at hg4c
     have HQT:=Lib.hid ht
     clear hct hen hct2 ht hFm ham hcm hrw
     go_upto_region 12 with fail
     obtain ⟨w9,hw9⟩:∃ w9,wr.alloc (.cells #[.int .i64 (m:Int),.int .i64 (nd:Int)] 86)=w9:=⟨_,rfl⟩
     rw [hw9]
     have HX9:Hid (Ext wr w9):=by
      show Ext _ _
      rw [← hw9];exact (Below.refl _ _).alloc (Nat.le_refl _) _
     have HC9:Hid (w9.heap[wr.heap.size]? = some (.cells #[.int .i64 (m:Int),.int .i64 (nd:Int)] 86 (0,0))):=by
      show _=_
      rw [← hw9];exact heap_alloc_new _ _
     have HVQ9:=Lib.hid (HVQ.out.ext HX9.out hB2)
     have HN9:Hid ((.slice (some ⟨bq,0,none⟩) q2.length qc2:Value).ownBlock≠some wr.heap.size):=fun e=>by
      have:=HVQ.out.own.lt _ e;omega
     obtain ⟨g9,hg9⟩:∃ g9,wr.heap.size=g9:=⟨_,rfl⟩
     rw [hg9] at HC9 HN9 ⊢
     clear hw9 hg9 q0 q1 hidx hg4c hg4l hbq1 hbq2
     go_loopg [6,46] Fm.length (fun g v6 v46 wr=>∃ (k:Nat) (q3:List Stt) (M3:Nat→Ent),v46=.int .i64 (k:Int)∧k≤Fm.length∧g=Fm.length - k∧VQ w2 B gm i M M3 q3 v6 wr∧VisIn R L (folT T) i T.length B0 D q3 n M3 (m,nd) ct (Fm.take k)∧q3.length+pot T.length Cm (M3 i)≤q2.length+pot T.length Cm (M2 i)∧n<q3.length∧wr.heap[g9]? = some (.cells #[.int .i64 (m:Int),.int .i64 (nd:Int)] 86 (0,0))∧v6.ownBlock≠some g9)
     case atStart=>exact ⟨0,q2,M2,rfl,Nat.zero_le _,rfl,HVQ9.out,HEN.out,Nat.le_refl _,hlt,HC9.out,HN9.out⟩
     case round =>
      obtain ⟨k,q3,M3,rfl,hk,hgk,hvq,hvi,hpp,hnq,hg9,hn9⟩:=hrel
      obtain ⟨qa3,qc3,hqa3, -, -⟩:=hvq.own.form
      subst hqa3
      have HVQ3:=Lib.hid hvq;have HVI:=Lib.hid hvi;have HPP:=Lib.hid hpp;have HGK3:=Lib.hid hgk;have HG9:=Lib.hid hg9;have HN9:=Lib.hid hn9
      clear hvq hvi hpp hgk hg9 hn9
      by_cases hlk:k<Fm.length
      ·
       have hsm:Fm[k]∈stepsF R L i m:=by rw [HFS.out];exact List.getElem_mem hlk
       obtain ⟨hf1,hd0,hd8,hin4,hc0,hcD,r,hrR,hro⟩:=steps_mem HF.out HBS.out hsm
       have hout:Fm[k].out.size≤1000000:=by rw [hro];exact HO.out r hrR
       obtain ⟨b1,o1,ha1,hb1,r0,r1,r2,r3,r4⟩:=(RulS.kp HRM.out HVQ3.out.vx.kp).at hlk
       have hi1:=idx_rules am b1 o1 Fm.length cm k ha1 hlk
       have htk:Fm.take (k+1)=Fm.take k ++ [Fm[k]]:=List.take_succ_eq_append_getElem hlk
       obtain ⟨s,hs⟩:∃ s,Fm[k]=s:=⟨_,rfl⟩
       rw [hs] at hsm hf1 hd0 hd8 hin4 hc0 hcD hro hout r0 r1 r2 r3 r4 htk
       obtain ⟨frm,dst,inp,out,cost⟩:=s
       simp only at hf1 hd0 hd8 hin4 hc0 hcD hout r0 r1 r2 r3 r4
       obtain ⟨d0,rfl⟩:∃ d0:Nat,dst=(d0:Int):=⟨dst.toNat,by omega⟩
       obtain ⟨c0,rfl⟩:∃ c0:Nat,cost=(c0:Int):=⟨cost.toNat,by omega⟩
       have HSM:=Lib.hid hsm;have HTK:=Lib.hid htk
       have hd8':d0<8:=by omega
       have hcD':c0≤D:=by omega
       clear hsm hf1 hd0 hd8 hro ha1 hs htk hrR hcD
       go_upto_region 14 with fail
       obtain ⟨w11,hw11⟩:∃ w11,wr.alloc (.cells #[.int .i64 frm,.int .i64 (d0:Int),.string inp,.string out,.int .i64 (c0:Int)] 33)=w11:=⟨_,rfl⟩
       rw [hw11]
       have HX11:Hid (Ext wr w11):=by
        show Ext _ _
        rw [← hw11];exact (Below.refl _ _).alloc (Nat.le_refl _) _
       have HC11:Hid (w11.heap[wr.heap.size]? = some (.cells #[.int .i64 frm,.int .i64 (d0:Int),.string inp,.string out,.int .i64 (c0:Int)] 33 (0,0))):=by
        show _=_
        rw [← hw11];exact heap_alloc_new _ _
       obtain ⟨g11,hg11⟩:∃ g11,wr.heap.size=g11:=⟨_,rfl⟩
       rw [hg11] at HC11 ⊢
       have HKW:Hid (Kc w w11):=(HK2.out.trans HVQ3.out.vx.kp).trans (Kc.of HX11.out (Nat.le_refl _))
       obtain ⟨y0,y1,y2,y3,y4⟩:=rul_cells HC11.out
       have HC9b:Hid (w11.heap[g9]? = some (.cells #[.int .i64 (m:Int),.int .i64 (nd:Int)] 86 (0,0))):=(Kc.of HX11.out (Nat.le_refl _)).block _ _ _ _ HG9.out
       obtain ⟨x0,x1⟩:=stt_cells HC9b.out
       have hfol:=follow_any T nd out (HX.out.kp HKW.out) (HT.out.kp HKW.out) rfl (by omega) hndN hout HIN.out
       obtain ⟨lf,hlf⟩:∃ lf,folT T nd (bts out)=lf:=⟨_,rfl⟩
       have HLF:=Lib.hid hlf
       rw [hlf] at hfol
       have HFOL:=Lib.hid hfol
       clear hw11 hg11 hfol hlf r0 r1 r2 r3 r4 hi1 hb1
       cases lf with
       | none =>
        go_wp2_with fail
        refine HFOL.out.mono ?_
        rintro e w12 ⟨he,hb12⟩
        obtain rfl:e=_:=he
        have HE12:Hid (Ext wr w12):=Ext.trans HX11.out hb12
        obtain ⟨z0,z1,z2,z3,z4⟩:=rul_cells ((hb12.block g11 (Array.getElem?_eq_some_iff.1 HC11.out).1).trans HC11.out)
        have HEX:Hid (∀ o,Ext wr (w12.alloc o)):=fun o=>Ext.trans HE12.out ((Below.refl _ _).alloc (Nat.le_refl _) _)
        clear hb12 x0 x1 y0 y1 y2 y3 y4
        go_wp2_with fail
        go_roundg (Fm.length - (k+1))
        case measure=>have:=HGK3.out;omega
        case rel=>exact ⟨k+1,q3,M3,by go_num,by omega,rfl,HVQ3.out.ext (HEX.out _) hB2,by rw [HTK.out];exact HVI.out.skip HLF.out,HPP.out,hnq,(Kc.of (HEX.out _) (Nat.le_refl _)).block _ _ _ _ HG9.out,HN9.out⟩
       | some n2
            =>
        have hn2:n2<T.length:=folT_lt HIN.out hndN HLF.out
        go_wp2_with fail
        refine HFOL.out.mono ?_
        rintro e w12 ⟨he,hb12⟩
        obtain rfl:e=_:=he
        have HE12:Hid (Ext wr w12):=Ext.trans HX11.out hb12
        have HC11b:Hid (w12.heap[g11]? = some (.cells #[.int .i64 frm,.int .i64 (d0:Int),.string inp,.string out,.int .i64 (c0:Int)] 33 (0,0))):=(hb12.block g11 (Array.getElem?_eq_some_iff.1 HC11.out).1).trans HC11.out
        obtain ⟨z0,z1,z2,z3,z4⟩:=rul_cells HC11b.out
        clear hb12 x0 x1 y0 y1 y2 y3 y4
        go_upto_region 16 with fail
        obtain ⟨w14,hw14⟩:∃ w14,w12.alloc (.cells #[.int .i64 (d0:Int),.int .i64 (n2:Int)] 86)=w14:=⟨_,rfl⟩
        rw [hw14]
        have HX14a:Hid (Ext w12 w14):=by
         show Ext _ _
         rw [← hw14];exact (Below.refl _ _).alloc (Nat.le_refl _) _
        have HC14:Hid (w14.heap[w12.heap.size]? = some (.cells #[.int .i64 (d0:Int),.int .i64 (n2:Int)] 86 (0,0))):=by
         show _=_
         rw [← hw14];exact heap_alloc_new _ _
        obtain ⟨g14,hg14⟩:∃ g14,w12.heap.size=g14:=⟨_,rfl⟩
        rw [hg14] at HC14 ⊢
        have HE14:Hid (Ext wr w14):=Ext.trans HE12.out HX14a.out
        have HK14:Hid (Kc w w14):=(HK2.out.trans HVQ3.out.vx.kp).trans (Kc.of HE14.out (Nat.le_refl _))
        have HC11c:Hid (w14.heap[g11]? = some (.cells #[.int .i64 frm,.int .i64 (d0:Int),.string inp,.string out,.int .i64 (c0:Int)] 33 (0,0))):=(Below.block HX14a.out g11 (Array.getElem?_eq_some_iff.1 HC11b.out).1).trans HC11b.out
        have HC9c:Hid (w14.heap[g9]? = some (.cells #[.int .i64 (m:Int),.int .i64 (nd:Int)] 86 (0,0))):=(Kc.of HE14.out (Nat.le_refl _)).block _ _ _ _ HG9.out
        have HVQ14:=Lib.hid (HVQ3.out.ext HE14.out hB2)
        have HLH:=Lib.hid HVI.out.here
        obtain ⟨jn,hjn⟩:∃ jn,(i+inp.size) % 5=jn:=⟨_,rfl⟩
        have HJN:=Lib.hid hjn
        have hmp:=HVQ14.out.vx.maps (i+inp.size) (by omega) (by omega)
        have hmh:=HVQ14.out.vx.maps i (Nat.le_refl _) (by omega)
        rw [hjn] at hmp
        rw [HJH.out] at hmh
        have HMP:=Lib.hid hmp;have HMH:=Lib.hid hmh
        have HL1:Hid ((M3 (i+inp.size)).length<1000000):=by show _<_;have:=HVI.out.bnd.len (i+inp.size);omega
        have HOKT:Hid (keyS.ok (m,nd)):=⟨by show m<1000000;omega,by show nd<1000000;omega⟩
        have HOKN:Hid (keyS.ok (d0,n2)):=⟨by show d0<1000000;omega,by show n2<1000000;omega⟩
        obtain ⟨z0',z1',z2',z3',z4'⟩:=rul_cells HC11c.out
        obtain ⟨x0',x1'⟩:=stt_cells HC9c.out
        obtain ⟨u0',u1'⟩:=stt_cells HC14.out
        clear hw14 hg14 hjn hmp hmh z0 z1 z2 z3 z4
        have hw1:IntKind.i64.wrap ((i:Int)+(inp.size:Int))=(i:Int)+(inp.size:Int):=IntWalk.i64_in _ (by omega)
        have hw2:IntKind.i64.wrap ((ct:Int)+(c0:Int))=(ct:Int)+(c0:Int):=IntWalk.i64_in _ (by omega)
        have hcmp:=cmp_stt d0 n2 m nd
        by_cases hz:inp.size=0
        ·
         have hzI:(
               (inp.size:Int) == 0)=true:=by rw [hz];rfl
         by_cases hs:(d0,n2)=(m,nd)
         ·
          have HSA:Hid (VisIn R L (folT T) i T.length B0 D q3 n M3 (m,nd) ct (Fm.take k ++ [⟨frm,(d0:Int),inp,out,(c0:Int)⟩])):=HVI.out.same (n':=n2) (old:=ct) HLF.out (by show look (M3 (i+inp.size)) (d0,n2)=_;rw [hz,hs];exact HLH.out) (Nat.le_add_right _ _)
          have hsb:decide ((d0,n2)=(m,nd))=true:=decide_eq_true hs
          rw [hsb] at hcmp
          clear hsb hz hs
          go_wp2_with fail
          go_roundg (Fm.length - (k+1))
          case measure=>have:=HGK3.out;omega
          case rel=>exact ⟨k+1,q3,M3,by go_num,by omega,rfl,HVQ14.out,by rw [HTK.out];exact HSA.out,HPP.out,hnq,HC9c.out,HN9.out⟩
         ·
          have hsb:decide ((d0,n2)=(m,nd))=false:=decide_eq_false hs
          rw [hsb] at hcmp
          have HZ:=Lib.hid hz
          have HNE:Hid (inp.size=0→(d0,n2)≠(m,nd)):=fun _=>hs
          clear hsb hz hs
          go_wp2_with fail
          clear hcmp x0' x1' u0' u1' z0' z1' z2' z3' z4'
          obtain ⟨po,hpo⟩:∃ po,look (M3 (i+inp.size)) (d0,n2)=po:=⟨_,rfl⟩
          by_cases hlow:∃ old,po=some old∧old≤ct+c0
          ·
           obtain ⟨old,rfl,hol⟩:=hlow
           have HPO:=Lib.hid hpo;have HOL:=Lib.hid hol
           have HSA:Hid (VisIn R L (folT T) i T.length B0 D q3 n M3 (m,nd) ct (Fm.take k ++ [⟨frm,(d0:Int),inp,out,(c0:Int)⟩])):=HVI.out.same (n':=n2) (old:=old) HLF.out HPO.out HOL.out
           clear hpo hol
           refine wp_region_st (by kernel_rfl) (Vs [vq (.pointer (some ⟨gx,0,none⟩)),vq (.int .i64 (i:Int)),vq (.pointer (some ⟨g11,2,none⟩)),vq (.string inp),vq (.int .i64 (inp.size:Int)),vq (.int .i64 ((i:Int)+(inp.size:Int))),vq (.agg #[.int .i64 (d0:Int),.int .i64 (n2:Int)]),vq (.map (some (gm jh))),vq (.agg #[.int .i64 (m:Int),.int .i64 (nd:Int)]),vq (.int .i64 (ct:Int)),vq (.pointer (some ⟨g11,4,none⟩)),vq (.int .i64 (c0:Int)),vq (.int .i64 ((ct:Int)+(c0:Int))),vq (.bool false),vq (.bool false),vq (undef),vq (undef),vq (undef),vq (undef),vq (.bool false)]) (Xs []) (fun fL=>(fun W=>Ext w14 W) ) [0,0,0,4,12,30,0,0,0,384,0,1024,3968,8191,16383,32767,65535,131071,262143,524287] 101 20 (by kernel_rfl) rfl ?hV ?hS ?hop ?hfin ?hlast
           case hV =>
            refine xs_stays (vs_stays (by simp only [List.mem_cons,List.not_mem_nil,or_false,forall_eq_or_imp,forall_eq];and_intros <;> exact stays_const _)) ?_
            exact trivial
           case hS =>
            intro fL hf
            show (fun W=>Ext w14 W)  _
            first | exact Ext.refl _ | exact drew_ext _
           case hop =>
            refine ⟨?_,?_,?_,?_,?_,?_,?_,?_,?_,?c9,?_,?_,?_,?c13,?_,?_,?_,?_,?_,?_,trivial⟩
            all_goals first | rw [if_neg (by decide)] | rw [if_pos (by decide)]
            all_goals try intro ac W fL hsz hfi hms hdn hS0 hdep hbase hund
            all_goals try have hS:(fun W=>Ext w14 W)  W:=hS0
            all_goals try (
             have hk9:Kc w14 W:=Kc.of hS0 (Nat.le_refl _)
             obtain ⟨z0,z1,z2,z3,z4⟩:=rul_cells (hk9.block _ _ _ _ HC11c.out)
             obtain ⟨x0,x1⟩:=stt_cells (hk9.block _ _ _ _ HC9c.out)
             obtain ⟨u0,u1⟩:=stt_cells (hk9.block _ _ _ _ HC14.out)
             clear hk9)
            all_goals try have hh0:=gdA ac 0 (.pointer (some ⟨gx,0,none⟩)) (hbase 0 (by kernel_rfl))
            all_goals try have hh1:=gdA ac 1 (.int .i64 (i:Int)) (hbase 1 (by kernel_rfl))
            all_goals try have hh5:=gdA ac 5 (.map (some (gm jh))) (hbase 5 (by kernel_rfl))
            all_goals try have hh9:=gdA ac 9 (.pointer (some ⟨g9,0,none⟩)) (hbase 9 (by kernel_rfl))
            all_goals try have hh11:=gdA ac 11 (.pointer (some ⟨g11,0,none⟩)) (hbase 11 (by kernel_rfl))
            all_goals try have hh14:=gdA ac 14 (.pointer (some ⟨g14,0,none⟩)) (hbase 14 (by kernel_rfl))
            all_goals try (have hdep:=depL hdep;simp [DepL,slotOf,vq] at hdep)
            all_goals try clear hbase hms hdn hund
            case c9 =>
             have hS1:(fun W=>Ext w14 W)  W:=hS0
             have hl85:=(HMH.out.kept (Below.block hS _ HMH.out.lt)).look keyS_ok (x:=(m,nd)) HOKT.out
             rw [HLH.out] at hl85
             simp only [keyS,sttV,Option.getD] at hl85
             refine opOk_run rfl (.inl ⟨_,W,?_,rfl,Ext.refl _,hS1⟩)
             clear hsz hS hS0 hS1 hfi;simp [go_sem,Act.eval, *]
            case c13 =>
             have hS1:(fun W=>Ext w14 W)  W:=hS0
             have hput:=put_no (i+inp.size) jn d0 n2 (ct+c0) (M3 (i+inp.size)) (by omega) HJN.out ((HX.out.kp HK14.out).kp (Kc.of hS (Nat.le_refl _))) (HMP.out.kept (Below.block hS _ HMP.out.lt)) HOKN.out HL1.out (by omega) old HPO.out HOL.out
             rw [show ((i+inp.size:Nat):Int)=(i:Int)+(inp.size:Int) by omega,show ((ct+c0:Nat):Int)=(ct:Int)+(c0:Int) by omega] at hput
             refine opOk_run rfl (.inr ⟨30,#[.pointer (some ⟨gx,0,none⟩),.int .i64 ((i:Int)+(inp.size:Int)),.agg #[.int .i64 (d0:Int),.int .i64 (n2:Int)],.int .i64 ((ct:Int)+(c0:Int))],W,by (clear hsz hS hS0 hS1 hfi hput;simp [go_sem,Act.eval, *]),?_⟩)
             refine hput.mono ?_
             rintro e w' ⟨rfl,hp⟩
             exact ⟨_,rfl,⟨rfl,hp,Ext.trans hS0 hp⟩⟩
            all_goals try exact opOk_skip (j:=14) (d:=90) (b:=false) rfl (by kernel_rfl) (by simp only [hdep]) rfl ⟨rfl,hS0⟩
            all_goals (refine opOk_run rfl (.inl ⟨_,W,?_,rfl,Ext.refl _,hS0⟩);clear hsz hS hS0 hfi;simp [go_sem,Act.eval, *];done)
           case hlast =>
            intro h;exact absurd rfl h
           case hfin =>
            intro _ ac W hsz hdf fL hf hS0 hv hbase
            have hS:(fun W=>Ext w14 W)  W:=hS0
            clear hS0
            obtain ⟨sx,hsx,hsA⟩:=act_puts [76,77,78,79,80,81,82,83,84,85,86,87,88,89,90,91,92,93,94,95] (by kernel_rfl) hsz hdf hbase
            have e95:sx 95=.bool false:=(hsx 95).trans (hv 19 (by decide))
            rw [hsA]
            simp only [List.foldl]
            rw [e95]
            clear e95
            simp only [Act.put,List.setIfInBounds_toArray,List.set_cons_succ,List.set_cons_zero]
            clear hsA hsx hv hbase hsz hdf hf
            have HEW:Hid (Ext wr W):=Ext.trans HE14.out hS
            clear hS
            go_wp2_with fail
            go_roundg (Fm.length - (k+1))
            case measure=>have:=HGK3.out;omega
            case rel=>exact ⟨k+1,q3,M3,by go_num,by omega,rfl,HVQ3.out.ext HEW.out hB2,by rw [HTK.out];exact HSA.out,HPP.out,hnq,(Kc.of HEW.out (Nat.le_refl _)).block _ _ _ _ HG9.out,HN9.out⟩
          ·
           have HLT:Hid (∀ x,look (M3 (i+inp.size)) (d0,n2)=some x→ct+c0<x):=fun x hx=>by
            rw [hpo] at hx
            exact Nat.lt_of_not_le fun h9=>hlow ⟨x,hx,h9⟩
           have hput:VisIn R L (folT T) i T.length B0 D (if inp.size=0 then q3 ++ [(d0,n2)] else q3) n (putM M3 (i+inp.size) (d0,n2) (ct+c0)) (m,nd) ct (Fm.take k ++ [⟨frm,(d0:Int),inp,out,(c0:Int)⟩]):=HVI.out.put (m:=d0) HSM.out HF.out HLF.out hn2 hcD' rfl hnq HLT.out HNE.out
           have hpt:=pot_putM (q:=q3) (C:=Cm) (j:=i+inp.size) (c:=ct+c0) HVI.out.bnd (by omega) hd8' hn2 (by omega) HLT.out
           rw [if_pos HZ.out] at hput
           rw [if_pos (by have:=HZ.out;omega)] at hpt
           rw [Nat.add_comm] at hpt
           rw [Nat.add_comm (pot T.length Cm (M3 i))] at hpt
           have HPU:=Lib.hid hput;have HPT:=Lib.hid hpt
           clear hpo hlow hput hpt
           refine wp_region_st (by kernel_rfl) (Vs [vq (.pointer (some ⟨gx,0,none⟩)),vq (.int .i64 (i:Int)),vq (.pointer (some ⟨g11,2,none⟩)),vq (.string inp),vq (.int .i64 (inp.size:Int)),vq (.int .i64 ((i:Int)+(inp.size:Int))),vq (.agg #[.int .i64 (d0:Int),.int .i64 (n2:Int)]),vq (.map (some (gm jh))),vq (.agg #[.int .i64 (m:Int),.int .i64 (nd:Int)]),vq (.int .i64 (ct:Int)),vq (.pointer (some ⟨g11,4,none⟩)),vq (.int .i64 (c0:Int)),vq (.int .i64 ((ct:Int)+(c0:Int))),vq (.bool true),vq (.bool true),vq (.pointer (some ⟨g11,2,none⟩)),vq (.string inp),vq (.int .i64 (inp.size:Int)),vq (.bool true),vq (.bool true)]) (Xs [Ext,Ext,Ext,Ext,Ext,Ext,Ext,Ext,Ext,Ext,Ext,Ext,Ext,(fun _ _=>True),Ext,Ext,Ext,Ext,Ext,Ext]) (fun fL=>(PutT w14 (gm jn) (d0,n2) (M3 (i+inp.size)) (ct+c0)) (fL 13)) [0,0,0,4,12,30,0,0,0,384,0,1024,3968,8191,16383,32767,65535,131071,262143,524287] 101 20 (by kernel_rfl) rfl ?hV ?hS ?hop ?hfin ?hlast
           case hV =>
            refine xs_stays (vs_stays (by simp only [List.mem_cons,List.not_mem_nil,or_false,forall_eq_or_imp,forall_eq];and_intros <;> exact stays_const _)) ?_
            exact ⟨.inl rfl,.inl rfl,.inl rfl,.inl rfl,.inl rfl,.inl rfl,.inl rfl,.inl rfl,.inl rfl,.inl rfl,.inl rfl,.inl rfl,.inl rfl,.inr (staysM_all ⟨fun _ _=>fun _ _ _ h _=>h,fun _ _=>fun _ _ _ h _=>h,fun _ _=>fun _ _ _ h _=>h,fun _ _=>fun _ _ _ h _=>h,fun _ _=>fun _ _ _ h _=>h,fun _ _=>fun _ _ _ h _=>h,fun _ _=>fun _ _ _ h _=>h,fun _ _=>fun _ _ _ h _=>h,fun _ _=>fun _ _ _ h _=>h,fun _ _=>fun _ _ _ h _=>h,fun _ _=>fun _ _ _ h _=>h,fun _ _=>fun _ _ _ h _=>h,fun _ _=>fun _ _ _ h _=>h,fun h=>absurd rfl h,fun _ h=>absurd h (by decide),fun _ h=>absurd h (by decide),fun _ h=>absurd h (by decide),fun _ h=>absurd h (by decide),fun _ h=>absurd h (by decide),fun _ h=>absurd h (by decide),trivial⟩),.inl rfl,.inl rfl,.inl rfl,.inl rfl,.inl rfl,.inl rfl,trivial⟩
           case hS =>
            intro fL hf
            show (PutT w14 (gm jn) (d0,n2) (M3 (i+inp.size)) (ct+c0)) (fL 13) _
            rw [hf 13 (by decide)]
            first | exact Ext.refl _ | exact drew_ext _
           case hop =>
            refine ⟨?_,?_,?_,?_,?_,?_,?_,?_,?_,?c9,?_,?_,?_,?c13,?_,?_,?_,?_,?_,?_,trivial⟩
            all_goals first | rw [if_neg (by decide)] | rw [if_pos (by decide)]
            all_goals try intro ac W fL hsz hfi hms hdn hS0 hdep hbase hund
            all_goals try have hS:(PutT w14 (gm jn) (d0,n2) (M3 (i+inp.size)) (ct+c0)) (fL 13) W:=hS0
            all_goals try (have hfl13:fL 13=true:=hms 13 (by decide);rw [hfl13] at hS)
            all_goals try (have hfl13:fL 13=false:=(by first | exact hfi | exact hdn 13 (by decide) (by decide));rw [hfl13] at hS)
            all_goals try (
             have hk9:Kc w14 W:=PutT.kp HMP.out hS0
             obtain ⟨z0,z1,z2,z3,z4⟩:=rul_cells (hk9.block _ _ _ _ HC11c.out)
             obtain ⟨x0,x1⟩:=stt_cells (hk9.block _ _ _ _ HC9c.out)
             obtain ⟨u0,u1⟩:=stt_cells (hk9.block _ _ _ _ HC14.out)
             clear hk9)
            all_goals try have hh0:=gdA ac 0 (.pointer (some ⟨gx,0,none⟩)) (hbase 0 (by kernel_rfl))
            all_goals try have hh1:=gdA ac 1 (.int .i64 (i:Int)) (hbase 1 (by kernel_rfl))
            all_goals try have hh5:=gdA ac 5 (.map (some (gm jh))) (hbase 5 (by kernel_rfl))
            all_goals try have hh9:=gdA ac 9 (.pointer (some ⟨g9,0,none⟩)) (hbase 9 (by kernel_rfl))
            all_goals try have hh11:=gdA ac 11 (.pointer (some ⟨g11,0,none⟩)) (hbase 11 (by kernel_rfl))
            all_goals try have hh14:=gdA ac 14 (.pointer (some ⟨g14,0,none⟩)) (hbase 14 (by kernel_rfl))
            all_goals try (have hdep:=depL hdep;simp [DepL,slotOf,vq] at hdep)
            all_goals try clear hbase hms hdn hund
            case c9 =>
             have hS1:(PutT w14 (gm jn) (d0,n2) (M3 (i+inp.size)) (ct+c0)) ((upd fL 9) 13) W:=hS0
             have hl85:=(HMH.out.kept (Below.block hS _ HMH.out.lt)).look keyS_ok (x:=(m,nd)) HOKT.out
             rw [HLH.out] at hl85
             simp only [keyS,sttV,Option.getD] at hl85
             refine opOk_run rfl (.inl ⟨_,W,?_,rfl,Ext.refl _,hS1⟩)
             clear hsz hS hS0 hS1 hfi;simp [go_sem,Act.eval, *]
            case c13 =>
             have hput:=put_yes (i+inp.size) jn d0 n2 (ct+c0) (M3 (i+inp.size)) (by omega) HJN.out ((HX.out.kp HK14.out).kp (Kc.of hS (Nat.le_refl _))) (HMP.out.kept (Below.block hS _ HMP.out.lt)) HOKN.out HL1.out (by omega) HLT.out
             rw [show ((i+inp.size:Nat):Int)=(i:Int)+(inp.size:Int) by omega,show ((ct+c0:Nat):Int)=(ct:Int)+(c0:Int) by omega] at hput
             refine opOk_run rfl (.inr ⟨30,#[.pointer (some ⟨gx,0,none⟩),.int .i64 ((i:Int)+(inp.size:Int)),.agg #[.int .i64 (d0:Int),.int .i64 (n2:Int)],.int .i64 ((ct:Int)+(c0:Int))],W,by (clear hsz hS hS0 hfi hput;simp [go_sem,Act.eval, *]),?_⟩)
             refine hput.mono ?_
             rintro e w' ⟨rfl,hp⟩
             refine ⟨_,rfl,rfl,trivial,?_⟩
             show PutT w14 (gm jn) (d0,n2) (M3 (i+inp.size)) (ct+c0) (upd fL 13 13) w'
             rw [show upd fL 13 13=true from if_pos rfl]
             exact PutP.of_ext hS hp
            all_goals try (refine opOk_runG (j:=14) (d:=90) (b:=true) rfl (by kernel_rfl) (by simp only [hdep]) rfl (.inl ⟨_,W,?_,rfl,Ext.refl _,hS0⟩);clear hsz hS hS0 hfi;simp [go_sem,Act.eval, *];done)
            all_goals (refine opOk_run rfl (.inl ⟨_,W,?_,rfl,Ext.refl _,hS0⟩);clear hsz hS hS0 hfi;simp [go_sem,Act.eval, *];done)
           case hlast =>
            intro h;exact absurd rfl h
           case hfin =>
            intro _ ac W hsz hdf fL hf hS0 hv hbase
            have hS:(PutT w14 (gm jn) (d0,n2) (M3 (i+inp.size)) (ct+c0)) (fL 13) W:=hS0
            clear hS0
            rw [hf 13 (by decide)] at hS
            obtain ⟨sx,hsx,hsA⟩:=act_puts [76,77,78,79,80,81,82,83,84,85,86,87,88,89,90,91,92,93,94,95] (by kernel_rfl) hsz hdf hbase
            have e95:sx 95=.bool true:=(hsx 95).trans (hv 19 (by decide))
            rw [hsA]
            simp only [List.foldl]
            rw [e95]
            clear e95
            simp only [Act.put,List.setIfInBounds_toArray,List.set_cons_succ,List.set_cons_zero]
            clear hsA hsx hv hbase hsz hdf hf
            have hvq15:VX w2 B gm i (putM M3 (i+inp.size) (d0,n2) (ct+c0)) W:=HVQ14.out.vx.put HG.out (by omega) (by omega) (by rw [HJN.out];exact hS) hB2
            have hown15:=HVQ14.out.own.put_keep HMP.out hS
            have HG15:Hid (W.heap[g9]? = some (.cells #[.int .i64 (m:Int),.int .i64 (nd:Int)] 86 (0,0))):=(PutP.kp hS HMP.out).block _ _ _ _ HC9c.out
            have HVX15:=Lib.hid hvq15;have HOW15:=Lib.hid hown15
            have HOUT15:Hid (∀ j,¬ (i≤j∧j<i+5)→putM M3 (i+inp.size) (d0,n2) (ct+c0) j=M j):=fun j hj=>by
             unfold putM
             rw [if_neg (by omega)]
             exact HVQ3.out.out j hj
            obtain ⟨u0,u1⟩:=stt_cells ((PutP.kp hS HMP.out).block _ _ _ _ HC14.out)
            clear hS hvq15 hown15
            go_wp2_with (at_builtin;go_loud (refine wpList_append_g (v:=.slice qa3 q3.length qc3) rowStt_ok rfl _ _ rfl rfl (HOW15.out.later ((Below.refl _ _).alloc (Nat.le_refl _) _) (Nat.le_refl _)) ⟨W.heap.size,0,none⟩ 1 [(d0,n2)] rfl (cells_built (heap_alloc_new _ _)) (by have:=HPP.out;have:=HPOT.out;simp only [List.length_singleton];omega) (by have:=HVX15.out.kp.size;simp only [World.size_alloc];omega) ?_);intro v16 w16 hown16 hgrow16 hat16;have HO16:=Lib.hid hown16;have HG16:=Lib.hid hgrow16;have HAT16:=Lib.hid hat16;clear hown16 hgrow16 hat16)
            go_roundg (Fm.length - (k+1))
            case measure=>have:=HGK3.out;omega
            case rel =>
             have hx16:Ext W (W.alloc (.cells #[.int .i64 (d0:Int),.int .i64 (n2:Int)] 86)):=(Below.refl _ _).alloc (Nat.le_refl _) _
             exact ⟨k+1,q3 ++ [(d0,n2)],_,by go_num,by omega,rfl,⟨(HVX15.out.ext hx16 hB2).grown (HOW15.out.later hx16 (Nat.le_refl _)) HG16.out hB2,HO16.out,HOUT15.out⟩,by rw [HTK.out];exact HPU.out,Nat.le_trans HPT.out HPP.out,by rw [List.length_append];omega,(HG16.out.block g9 (by have:=(Array.getElem?_eq_some_iff.1 HG15.out).1;simp only [World.size_alloc];omega) fun e=>HN9.out e.symm).trans ((Kc.of hx16 (Nat.le_refl _)).block _ _ _ _ HG15.out),fun e=>by
              rcases HAT16.out with h1 | h1
              · exact HN9.out (h1.symm.trans e)
              ·
               rw [h1] at e
               injection e with e
               have:=(Array.getElem?_eq_some_iff.1 HG15.out).1
               simp only [World.size_alloc] at e
               omega⟩
        ·
         have hzI:((inp.size:Int) == 0)=false:=by simpa using hz
         have HZ:=Lib.hid hz
         have HNE:Hid (inp.size=0→(d0,n2)≠(m,nd)):=fun h=>absurd h HZ.out
         clear hz
         go_wp2_with fail
         clear hcmp x0' x1' u0' u1' z0' z1' z2' z3' z4'
         obtain ⟨po,hpo⟩:∃ po,look (M3 (i+inp.size)) (d0,n2)=po:=⟨_,rfl⟩
         by_cases hlow:∃ old,po=some old∧old≤ct+c0
         ·
          obtain ⟨old,rfl,hol⟩:=hlow
          have HPO:=Lib.hid hpo;have HOL:=Lib.hid hol
          have HSA:Hid (VisIn R L (folT T) i T.length B0 D q3 n M3 (m,nd) ct (Fm.take k ++ [⟨frm,(d0:Int),inp,out,(c0:Int)⟩])):=HVI.out.same (n':=n2) (old:=old) HLF.out HPO.out HOL.out
          clear hpo hol
          refine wp_region_st (by kernel_rfl) (Vs [vq (.pointer (some ⟨gx,0,none⟩)),vq (.int .i64 (i:Int)),vq (.pointer (some ⟨g11,2,none⟩)),vq (.string inp),vq (.int .i64 (inp.size:Int)),vq (.int .i64 ((i:Int)+(inp.size:Int))),vq (.agg #[.int .i64 (d0:Int),.int .i64 (n2:Int)]),vq (.map (some (gm jh))),vq (.agg #[.int .i64 (m:Int),.int .i64 (nd:Int)]),vq (.int .i64 (ct:Int)),vq (.pointer (some ⟨g11,4,none⟩)),vq (.int .i64 (c0:Int)),vq (.int .i64 ((ct:Int)+(c0:Int))),vq (.bool false),vq (.bool false),vq (undef),vq (undef),vq (undef),vq (undef),vq (.bool false)]) (Xs []) (fun fL=>(fun W=>Ext w14 W) ) [0,0,0,4,12,30,0,0,0,384,0,1024,3968,8191,16383,32767,65535,131071,262143,524287] 101 20 (by kernel_rfl) rfl ?hV ?hS ?hop ?hfin ?hlast
          case hV =>
           refine xs_stays (vs_stays (by simp only [List.mem_cons,List.not_mem_nil,or_false,forall_eq_or_imp,forall_eq];and_intros <;> exact stays_const _)) ?_
           exact trivial
          case hS =>
           intro fL hf
           show (fun W=>Ext w14 W)  _
           first | exact Ext.refl _ | exact drew_ext _
          case hop =>
           refine ⟨?_,?_,?_,?_,?_,?_,?_,?_,?_,?c9,?_,?_,?_,?c13,?_,?_,?_,?_,?_,?_,trivial⟩
           all_goals first | rw [if_neg (by decide)] | rw [if_pos (by decide)]
           all_goals try intro ac W fL hsz hfi hms hdn hS0 hdep hbase hund
           all_goals try have hS:(fun W=>Ext w14 W)  W:=hS0
           all_goals try (
            have hk9:Kc w14 W:=Kc.of hS0 (Nat.le_refl _)
            obtain ⟨z0,z1,z2,z3,z4⟩:=rul_cells (hk9.block _ _ _ _ HC11c.out)
            obtain ⟨x0,x1⟩:=stt_cells (hk9.block _ _ _ _ HC9c.out)
            obtain ⟨u0,u1⟩:=stt_cells (hk9.block _ _ _ _ HC14.out)
            clear hk9)
           all_goals try have hh0:=gdA ac 0 (.pointer (some ⟨gx,0,none⟩)) (hbase 0 (by kernel_rfl))
           all_goals try have hh1:=gdA ac 1 (.int .i64 (i:Int)) (hbase 1 (by kernel_rfl))
           all_goals try have hh5:=gdA ac 5 (.map (some (gm jh))) (hbase 5 (by kernel_rfl))
           all_goals try have hh9:=gdA ac 9 (.pointer (some ⟨g9,0,none⟩)) (hbase 9 (by kernel_rfl))
           all_goals try have hh11:=gdA ac 11 (.pointer (some ⟨g11,0,none⟩)) (hbase 11 (by kernel_rfl))
           all_goals try have hh14:=gdA ac 14 (.pointer (some ⟨g14,0,none⟩)) (hbase 14 (by kernel_rfl))
           all_goals try (have hdep:=depL hdep;simp [DepL,slotOf,vq] at hdep)
           all_goals try clear hbase hms hdn hund
           case c9 =>
            have hS1:(fun W=>Ext w14 W)  W:=hS0
            have hl85:=(HMH.out.kept (Below.block hS _ HMH.out.lt)).look keyS_ok (x:=(m,nd)) HOKT.out
            rw [HLH.out] at hl85
            simp only [keyS,sttV,Option.getD] at hl85
            refine opOk_run rfl (.inl ⟨_,W,?_,rfl,Ext.refl _,hS1⟩)
            clear hsz hS hS0 hS1 hfi;simp [go_sem,Act.eval, *]
           case c13 =>
            have hS1:(fun W=>Ext w14 W)  W:=hS0
            have hput:=put_no (i+inp.size) jn d0 n2 (ct+c0) (M3 (i+inp.size)) (by omega) HJN.out ((HX.out.kp HK14.out).kp (Kc.of hS (Nat.le_refl _))) (HMP.out.kept (Below.block hS _ HMP.out.lt)) HOKN.out HL1.out (by omega) old HPO.out HOL.out
            rw [show ((i+inp.size:Nat):Int)=(i:Int)+(inp.size:Int) by omega,show ((ct+c0:Nat):Int)=(ct:Int)+(c0:Int) by omega] at hput
            refine opOk_run rfl (.inr ⟨30,#[.pointer (some ⟨gx,0,none⟩),.int .i64 ((i:Int)+(inp.size:Int)),.agg #[.int .i64 (d0:Int),.int .i64 (n2:Int)],.int .i64 ((ct:Int)+(c0:Int))],W,by (clear hsz hS hS0 hS1 hfi hput;simp [go_sem,Act.eval, *]),?_⟩)
            refine hput.mono ?_
            rintro e w' ⟨rfl,hp⟩
            exact ⟨_,rfl,⟨rfl,hp,Ext.trans hS0 hp⟩⟩
           all_goals try exact opOk_skip (j:=14) (d:=90) (b:=false) rfl (by kernel_rfl) (by simp only [hdep]) rfl ⟨rfl,hS0⟩
           all_goals (refine opOk_run rfl (.inl ⟨_,W,?_,rfl,Ext.refl _,hS0⟩);clear hsz hS hS0 hfi;simp [go_sem,Act.eval, *];done)
          case hlast =>
           intro h;exact absurd rfl h
          case hfin =>
           intro _ ac W hsz hdf fL hf hS0 hv hbase
           have hS:(fun W=>Ext w14 W)  W:=hS0
           clear hS0
           obtain ⟨sx,hsx,hsA⟩:=act_puts [76,77,78,79,80,81,82,83,84,85,86,87,88,89,90,91,92,93,94,95] (by kernel_rfl) hsz hdf hbase
           have e95:sx 95=.bool false:=(hsx 95).trans (hv 19 (by decide))
           rw [hsA]
           simp only [List.foldl]
           rw [e95]
           clear e95
           simp only [Act.put,List.setIfInBounds_toArray,List.set_cons_succ,List.set_cons_zero]
           clear hsA hsx hv hbase hsz hdf hf
           have HEW:Hid (Ext wr W):=Ext.trans HE14.out hS
           clear hS
           go_wp2_with fail
           go_roundg (Fm.length - (k+1))
           case measure=>have:=HGK3.out;omega
           case rel=>exact ⟨k+1,q3,M3,by go_num,by omega,rfl,HVQ3.out.ext HEW.out hB2,by rw [HTK.out];exact HSA.out,HPP.out,hnq,(Kc.of HEW.out (Nat.le_refl _)).block _ _ _ _ HG9.out,HN9.out⟩
         ·
          have HLT:Hid (∀ x,look (M3 (i+inp.size)) (d0,n2)=some x→ct+c0<x):=fun x hx=>by
           rw [hpo] at hx
           exact Nat.lt_of_not_le fun h9=>hlow ⟨x,hx,h9⟩
          have hput:VisIn R L (folT T) i T.length B0 D (if inp.size=0 then q3 ++ [(d0,n2)] else q3) n (putM M3 (i+inp.size) (d0,n2) (ct+c0)) (m,nd) ct (Fm.take k ++ [⟨frm,(d0:Int),inp,out,(c0:Int)⟩]):=HVI.out.put (m:=d0) HSM.out HF.out HLF.out hn2 hcD' rfl hnq HLT.out HNE.out
          have hpt:=pot_putM (q:=q3) (C:=Cm) (j:=i+inp.size) (c:=ct+c0) HVI.out.bnd (by omega) hd8' hn2 (by omega) HLT.out
          rw [if_neg HZ.out] at hput
          rw [if_neg (by have:=HZ.out;omega)] at hpt
          rw [Nat.add_comm] at hpt
          rw [Nat.add_comm (pot T.length Cm (M3 i))] at hpt
          have HPU:=Lib.hid hput;have HPT:=Lib.hid hpt
          clear hpo hlow hput hpt
          refine wp_region_st (by kernel_rfl) (Vs [vq (.pointer (some ⟨gx,0,none⟩)),vq (.int .i64 (i:Int)),vq (.pointer (some ⟨g11,2,none⟩)),vq (.string inp),vq (.int .i64 (inp.size:Int)),vq (.int .i64 ((i:Int)+(inp.size:Int))),vq (.agg #[.int .i64 (d0:Int),.int .i64 (n2:Int)]),vq (.map (some (gm jh))),vq (.agg #[.int .i64 (m:Int),.int .i64 (nd:Int)]),vq (.int .i64 (ct:Int)),vq (.pointer (some ⟨g11,4,none⟩)),vq (.int .i64 (c0:Int)),vq (.int .i64 ((ct:Int)+(c0:Int))),vq (.bool true),vq (.bool true),vq (.pointer (some ⟨g11,2,none⟩)),vq (.string inp),vq (.int .i64 (inp.size:Int)),vq (.bool false),vq (.bool false)]) (Xs [Ext,Ext,Ext,Ext,Ext,Ext,Ext,Ext,Ext,Ext,Ext,Ext,Ext,(fun _ _=>True),Ext,Ext,Ext,Ext,Ext,Ext]) (fun fL=>(PutT w14 (gm jn) (d0,n2) (M3 (i+inp.size)) (ct+c0)) (fL 13)) [0,0,0,4,12,30,0,0,0,384,0,1024,3968,8191,16383,32767,65535,131071,262143,524287] 101 20 (by kernel_rfl) rfl ?hV ?hS ?hop ?hfin ?hlast
          case hV =>
           refine xs_stays (vs_stays (by simp only [List.mem_cons,List.not_mem_nil,or_false,forall_eq_or_imp,forall_eq];and_intros <;> exact stays_const _)) ?_
           exact ⟨.inl rfl,.inl rfl,.inl rfl,.inl rfl,.inl rfl,.inl rfl,.inl rfl,.inl rfl,.inl rfl,.inl rfl,.inl rfl,.inl rfl,.inl rfl,.inr (staysM_all ⟨fun _ _=>fun _ _ _ h _=>h,fun _ _=>fun _ _ _ h _=>h,fun _ _=>fun _ _ _ h _=>h,fun _ _=>fun _ _ _ h _=>h,fun _ _=>fun _ _ _ h _=>h,fun _ _=>fun _ _ _ h _=>h,fun _ _=>fun _ _ _ h _=>h,fun _ _=>fun _ _ _ h _=>h,fun _ _=>fun _ _ _ h _=>h,fun _ _=>fun _ _ _ h _=>h,fun _ _=>fun _ _ _ h _=>h,fun _ _=>fun _ _ _ h _=>h,fun _ _=>fun _ _ _ h _=>h,fun h=>absurd rfl h,fun _ h=>absurd h (by decide),fun _ h=>absurd h (by decide),fun _ h=>absurd h (by decide),fun _ h=>absurd h (by decide),fun _ h=>absurd h (by decide),fun _ h=>absurd h (by decide),trivial⟩),.inl rfl,.inl rfl,.inl rfl,.inl rfl,.inl rfl,.inl rfl,trivial⟩
          case hS =>
           intro fL hf
           show (PutT w14 (gm jn) (d0,n2) (M3 (i+inp.size)) (ct+c0)) (fL 13) _
           rw [hf 13 (by decide)]
           first | exact Ext.refl _ | exact drew_ext _
          case hop =>
           refine ⟨?_,?_,?_,?_,?_,?_,?_,?_,?_,?c9,?_,?_,?_,?c13,?_,?_,?_,?_,?_,?_,trivial⟩
           all_goals first | rw [if_neg (by decide)] | rw [if_pos (by decide)]
           all_goals try intro ac W fL hsz hfi hms hdn hS0 hdep hbase hund
           all_goals try have hS:(PutT w14 (gm jn) (d0,n2) (M3 (i+inp.size)) (ct+c0)) (fL 13) W:=hS0
           all_goals try (have hfl13:fL 13=true:=hms 13 (by decide);rw [hfl13] at hS)
           all_goals try (have hfl13:fL 13=false:=(by first | exact hfi | exact hdn 13 (by decide) (by decide));rw [hfl13] at hS)
           all_goals try (
            have hk9:Kc w14 W:=PutT.kp HMP.out hS0
            obtain ⟨z0,z1,z2,z3,z4⟩:=rul_cells (hk9.block _ _ _ _ HC11c.out)
            obtain ⟨x0,x1⟩:=stt_cells (hk9.block _ _ _ _ HC9c.out)
            obtain ⟨u0,u1⟩:=stt_cells (hk9.block _ _ _ _ HC14.out)
            clear hk9)
           all_goals try have hh0:=gdA ac 0 (.pointer (some ⟨gx,0,none⟩)) (hbase 0 (by kernel_rfl))
           all_goals try have hh1:=gdA ac 1 (.int .i64 (i:Int)) (hbase 1 (by kernel_rfl))
           all_goals try have hh5:=gdA ac 5 (.map (some (gm jh))) (hbase 5 (by kernel_rfl))
           all_goals try have hh9:=gdA ac 9 (.pointer (some ⟨g9,0,none⟩)) (hbase 9 (by kernel_rfl))
           all_goals try have hh11:=gdA ac 11 (.pointer (some ⟨g11,0,none⟩)) (hbase 11 (by kernel_rfl))
           all_goals try have hh14:=gdA ac 14 (.pointer (some ⟨g14,0,none⟩)) (hbase 14 (by kernel_rfl))
           all_goals try (have hdep:=depL hdep;simp [DepL,slotOf,vq] at hdep)
           all_goals try clear hbase hms hdn hund
           case c9 =>
            have hS1:(PutT w14 (gm jn) (d0,n2) (M3 (i+inp.size)) (ct+c0)) ((upd fL 9) 13) W:=hS0
            have hl85:=(HMH.out.kept (Below.block hS _ HMH.out.lt)).look keyS_ok (x:=(m,nd)) HOKT.out
            rw [HLH.out] at hl85
            simp only [keyS,sttV,Option.getD] at hl85
            refine opOk_run rfl (.inl ⟨_,W,?_,rfl,Ext.refl _,hS1⟩)
            clear hsz hS hS0 hS1 hfi;simp [go_sem,Act.eval, *]
           case c13 =>
            have hput:=put_yes (i+inp.size) jn d0 n2 (ct+c0) (M3 (i+inp.size)) (by omega) HJN.out ((HX.out.kp HK14.out).kp (Kc.of hS (Nat.le_refl _))) (HMP.out.kept (Below.block hS _ HMP.out.lt)) HOKN.out HL1.out (by omega) HLT.out
            rw [show ((i+inp.size:Nat):Int)=(i:Int)+(inp.size:Int) by omega,show ((ct+c0:Nat):Int)=(ct:Int)+(c0:Int) by omega] at hput
            refine opOk_run rfl (.inr ⟨30,#[.pointer (some ⟨gx,0,none⟩),.int .i64 ((i:Int)+(inp.size:Int)),.agg #[.int .i64 (d0:Int),.int .i64 (n2:Int)],.int .i64 ((ct:Int)+(c0:Int))],W,by (clear hsz hS hS0 hfi hput;simp [go_sem,Act.eval, *]),?_⟩)
            refine hput.mono ?_
            rintro e w' ⟨rfl,hp⟩
            refine ⟨_,rfl,rfl,trivial,?_⟩
            show PutT w14 (gm jn) (d0,n2) (M3 (i+inp.size)) (ct+c0) (upd fL 13 13) w'
            rw [show upd fL 13 13=true from if_pos rfl]
            exact PutP.of_ext hS hp
           all_goals try (refine opOk_runG (j:=14) (d:=90) (b:=true) rfl (by kernel_rfl) (by simp only [hdep]) rfl (.inl ⟨_,W,?_,rfl,Ext.refl _,hS0⟩);clear hsz hS hS0 hfi;simp [go_sem,Act.eval, *];done)
           all_goals (refine opOk_run rfl (.inl ⟨_,W,?_,rfl,Ext.refl _,hS0⟩);clear hsz hS hS0 hfi;simp [go_sem,Act.eval, *];done)
          case hlast =>
           intro h;exact absurd rfl h
          case hfin =>
           intro _ ac W hsz hdf fL hf hS0 hv hbase
           have hS:(PutT w14 (gm jn) (d0,n2) (M3 (i+inp.size)) (ct+c0)) (fL 13) W:=hS0
           clear hS0
           rw [hf 13 (by decide)] at hS
           obtain ⟨sx,hsx,hsA⟩:=act_puts [76,77,78,79,80,81,82,83,84,85,86,87,88,89,90,91,92,93,94,95] (by kernel_rfl) hsz hdf hbase
           have e95:sx 95=.bool false:=(hsx 95).trans (hv 19 (by decide))
           rw [hsA]
           simp only [List.foldl]
           rw [e95]
           clear e95
           simp only [Act.put,List.setIfInBounds_toArray,List.set_cons_succ,List.set_cons_zero]
           clear hsA hsx hv hbase hsz hdf hf
           have hvq15:VX w2 B gm i (putM M3 (i+inp.size) (d0,n2) (ct+c0)) W:=HVQ14.out.vx.put HG.out (by omega) (by omega) (by rw [HJN.out];exact hS) hB2
           have hown15:=HVQ14.out.own.put_keep HMP.out hS
           have HG15:Hid (W.heap[g9]? = some (.cells #[.int .i64 (m:Int),.int .i64 (nd:Int)] 86 (0,0))):=(PutP.kp hS HMP.out).block _ _ _ _ HC9c.out
           have HVX15:=Lib.hid hvq15;have HOW15:=Lib.hid hown15
           have HOUT15:Hid (∀ j,¬ (i≤j∧j<i+5)→putM M3 (i+inp.size) (d0,n2) (ct+c0) j=M j):=fun j hj=>by
            unfold putM
            rw [if_neg (by omega)]
            exact HVQ3.out.out j hj
           clear hS hvq15 hown15
           go_wp2_with fail
           go_roundg (Fm.length - (k+1))
           case measure=>have:=HGK3.out;omega
           case rel=>exact ⟨k+1,q3,_,by go_num,by omega,rfl,⟨HVX15.out,HOW15.out,HOUT15.out⟩,by rw [HTK.out];exact HPU.out,Nat.le_trans HPT.out HPP.out,hnq,HG15.out,HN9.out⟩
      ·
       have hFk:Fm.take k=Fm:=List.take_of_length_le (by omega)
       have hvi:=HVI.out
       rw [hFk,← HFS.out] at hvi
       have HLV:=Lib.hid hvi.leave
       clear hvi hFk
       go_wp2_with fail
       go_roundg ((q3.length - (n+1))+pot T.length Cm (M3 i))
       case measure=>have:=HGK2.out;have:=HPP.out;omega
       case rel=>exact ⟨n+1,q3,M3,by go_num,by omega,HVQ3.out,HLV.out,rfl,by have:=HPP.out;have:=HPOT.out;omega⟩
    ·
     have HSH:=Lib.hid (HVIS.out.done hlt)
     go_wp2_with fail
     refine bodyPost_end (results_none rfl _ _ _) rfl ?_
     exact ⟨rfl,M2,⟨HVQ.out.vx.maps,HK2.out.trans HVQ.out.vx.kp,(HB2.out.mono hBw).trans HVQ.out.vx.bl⟩,HVIS.out.inv,HSH.out,HVIS.out.bnd,HVQ.out.out⟩
  ·
   intro
      m
       n c w4 hp hrg4 hg4 hs4 hlt4 hen
   dsimp only [keyS,sttV] at hen ⊢
   have HP:=Lib.hid hp;have HRG4:=Lib.hid hrg4;have HG4':=Lib.hid hg4
   have HB4:Hid (Below w2.heap.size w2 w4):=by
    show Below _ _ _
    exact HBL.out.grown hg4 (by omega) fun k hk=>by injection hk with hk;omega
   have HOW4:Hid (OwnG rowStt w4 w2.heap.size (.slice qa q.length qc) q):=by
    show OwnG _ _ _ _ _
    refine HOW.out.keep fun g hg=>hg4.block g (HOW.out.lt g hg) fun e=>?_
    injection e with e
    obtain ⟨D9,l9,c9,hr9,_⟩:=HRG.out
    obtain ⟨es,clock,since,seen,c0,_,_,_,_,hr,_⟩:=hr9
    rcases HOW.out.2 with ⟨h9,_⟩ | ⟨g',cap,cur,h9,_,h10,_⟩
    · rw [h9] at hg;cases hg
    ·
     rw [h9] at hg
     injection hg with hg
     have e2:g'=w2.heap.size:=hg.trans e
     rw [e2,hr] at h10
     cases h10
   have hcb:((w4.alloc (.cells #[.int .i64 (m:Int),.int .i64 (n:Int)] 86)).alloc (.cells #[.int .i64 (m:Int),.int .i64 (n:Int)] 86)).heap[w4.heap.size+1]? = some (.cells (rowStt.enc (m,n)).toArray 86 (0,0)):=by
    have h:=heap_alloc_new (w4.alloc (.cells #[.int .i64 (m:Int),.int .i64 (n:Int)] 86)) (.cells #[.int .i64 (m:Int),.int .i64 (n:Int)] 86)
    rw [World.size_alloc] at h
    exact h
   have HCB:=Lib.hid hcb
   have HE4:Hid (Ext w4 ((w4.alloc (.cells #[.int .i64 (m:Int),.int .i64 (n:Int)] 86)).alloc (.cells #[.int .i64 (m:Int),.int .i64 (n:Int)] 86))):=Ext.trans ((Below.refl _ _).alloc (Nat.le_refl _) _) ((Below.refl _ _).alloc (Nat.le_refl _) _)
   clear hp hrg4 hg4 hcb hlt4
   go_wp2_with (at_builtin;go_loud (refine wpList_append_g (v:=.slice qa q.length qc) rowStt_ok rfl _ _ rfl rfl (HOW4.out.later HE4.out (Nat.le_refl _)) ⟨w4.heap.size+1,0,none⟩ 1 [(m,n)] rfl (cells_built HCB.out) (by have:=HLEN.out;have:=HIN2.out;simp only [List.length_singleton];omega) (by simp only [World.size_alloc];omega) ?_);intro v5 w5 hown5 hgrow5 hat5)
   have HROW:Hid (∀ q9,(Value.slice qa q.length qc).ownBlock=some q9→some (gm jh)≠some q9∧some w2.heap.size≠some q9):=fun q9 h9=>⟨fun e=>(HRG4.out.map.kept (HE4.out.block _ HRG4.out.map.lt)).not_row (HOW4.out.later HE4.out (Nat.le_refl _)) (h9.trans e.symm),fun e=>by
    injection e with e
    have h8:=HOW4.out.lt _ h9
    obtain ⟨D9,l9,c9,hr9,_⟩:=HRG4.out
    obtain ⟨es,clock,since,seen,c0,_,_,_,_,hr,_⟩:=hr9
    rcases HOW4.out.2 with ⟨h7,_⟩ | ⟨g',cap,cur,h7,_,h10,_⟩
    · rw [h7] at h9;cases h9
    ·
     rw [h7] at h9
     injection h9 with h9
     have e2:g'=w2.heap.size:=h9.trans e.symm
     rw [e2,hr] at h10
     cases h10⟩
   have HFIL:Hid ((strike rest ((m,n),c)).length<rest.length):=by
    exact strike_lt HP.out
   go_roundg (strike rest ((m,n),c)).length
   case measure=>rw [← HGK.out];exact HFIL.out
   case rel =>
    refine ⟨q ++ [(m,n)],_,hown5,?_,rfl,?_,HND.out.filter _,fun t=>?_,?_⟩
    ·
     have h1:=HRG4.out.below HE4.out
     cases hob:(Value.slice qa q.length qc).ownBlock with
     | none=>rw [hob] at hgrow5;exact h1.kept hgrow5 (by simp) (by simp)
     | some q9=>rw [hob] at hgrow5;exact h1.kept hgrow5 (HROW.out q9 hob).1 (HROW.out q9 hob).2
    · have:=HFIL.out;have:=HLEN.out;rw [List.length_append,List.length_singleton];omega
    ·
     rw [List.mem_append,List.mem_singleton,HQ.out]
     constructor
     ·
      rintro (⟨c9,h1,h2⟩ | rfl)
      · exact ⟨c9,h1,fun h3=>h2 (mem_strike.1 h3).1⟩
      · exact ⟨c,HRG.out.sub _ HP.out,fun h3=>(mem_strike.1 h3).2 rfl⟩
     ·
      rintro ⟨c9,h1,h2⟩
      by_cases e:(t,c9)=((m,n),c)
      ·
       injection e with e1 e2
       exact .inr e1
      · exact .inl ⟨c9,h1,fun h3=>h2 (mem_strike.2 ⟨h3,e⟩)⟩
    ·
     have h1:Below w2.heap.size w2 ((w4.alloc (.cells #[.int .i64 (m:Int),.int .i64 (n:Int)] 86)).alloc (.cells #[.int .i64 (m:Int),.int .i64 (n:Int)] 86)):=HB4.out.trans (Below.mono HE4.out HB4.out.size)
     exact h1.grown hgrow5 h1.size fun k hk=>HOW4.out.ge k hk
end
end Go.Proofs.YthjmdgejnakcmaaDoor
namespace Go.Proofs.YthjmdgejnakcmaaDoor
open Go.RowKit Go.WideShapes Fl
set_option linter.unusedVariables false
set_option linter.unusedSimpArgs false
def wordT (T:List Bn) (n:Nat):Int:=match T[n]? with | none=>-1 | some b=>b.word
def Lst (T:List Bn) (acc:Int) (P:List (Stt × Nat)) (k c:Nat):Prop:=Least (fun d=>∃ t,(t,d)∈P∧wordT T t.2=(k:Int)∧accB acc t.1=true) c
structure LeaM (T:List Bn) (acc:Int) (P:List (Stt × Nat)) (E:List (Nat × Nat)):Prop where
 keys:KeysN E
 iff:∀ k c,look E k=some c↔Lst T acc P k c
section
variable {T:List Bn} {acc:Int} {P:List (Stt × Nat)} {E:List (Nat × Nat)} {t:Stt} {c k:Nat}
theorem LeaM.nil (T:List Bn) (acc:Int):LeaM T acc [] []:=⟨List.Pairwise.nil,fun k c=>⟨fun h=>(by cases h),fun h=>(by obtain ⟨t,h1,_⟩:=h.1;cases h1)⟩⟩
theorem
    LeaM.skip (h:LeaM T acc P E) (hn:¬ (∃ k:Nat,wordT T t.2=(k:Int)∧accB acc t.1=true)):LeaM T acc ((t,c) :: P) E :=
 ⟨h.keys,fun k d=>by
  rw [h.iff]
  have e:∀ d,(∃ u,(u,d)∈(t,c) :: P∧wordT T u.2=(k:Int)∧accB acc u.1=true)↔∃ u,(u,d)∈P∧wordT T u.2=(k:Int)∧accB acc u.1=true:=fun d=>by
   constructor
   ·
    rintro ⟨u,h1,h2⟩
    rcases List.mem_cons.1 h1 with e | h1
    ·
     injection e with e1 e2
     subst e1
     exact absurd ⟨k,h2⟩ hn
    · exact ⟨u,h1,h2⟩
   · rintro ⟨u,h1,h2⟩;exact ⟨u,List.mem_cons_of_mem _ h1,h2⟩
  exact ⟨fun h9=>h9.congr fun d=>(e d).symm,fun h9=>h9.congr e⟩⟩
theorem
    LeaM.hit (h:LeaM T acc P E) (hw:wordT T t.2=(k:Int)) (ha:accB acc t.1=true) {E':List (Nat × Nat)} (hk:KeysN E') {b:Nat}
  (h1:∀ j,j≠k→look E' j=look E j) (h2:look E' k=some b) (h3:b≤c) (h4:∀ d,look E k=some d→b≤d) (h5:b=c∨look E k=some b):LeaM T acc ((t,c) :: P) E' :=
 ⟨hk,fun j d=>by
  have e:∀ d,(∃ u,(u,d)∈(t,c) :: P∧wordT T u.2=(j:Int)∧accB acc u.1=true)↔(j=k∧d=c)∨∃ u,(u,d)∈P∧wordT T u.2=(j:Int)∧accB acc u.1=true:=fun d=>by
   constructor
   ·
    rintro ⟨u,h6,h7,h8⟩
    rcases List.mem_cons.1 h6 with e | h6
    ·
     injection e with e1 e2
     subst e1
     refine .inl ⟨?_,e2⟩
     rw [hw] at h7;omega
    · exact .inr ⟨u,h6,h7,h8⟩
   ·
    rintro (⟨rfl,rfl⟩ | ⟨u,h6,h7⟩)
    · exact ⟨t,List.mem_cons_self,hw,ha⟩
    · exact ⟨u,List.mem_cons_of_mem _ h6,h7⟩
  by_cases hj:j=k
  ·
   subst
      hj
   have hl:Lst T acc ((t,c) :: P) j b:=by
    refine ⟨(e b).2 ?_,fun d hd=>?_⟩
    ·
     rcases h5 with h5 | h5
     · exact .inl ⟨rfl,h5⟩
     · exact .inr ((h.iff j b).1 h5).1
    ·
     rcases (e d).1 hd with ⟨_,rfl⟩ | h9
     · exact h3
     ·
      obtain ⟨b2,hb2⟩:=least_ex (p:=fun d=>∃ u,(u,d)∈P∧wordT T u.2=(j:Int)∧accB acc u.1=true) ⟨d,h9⟩
      exact Nat.le_trans (h4 b2 ((h.iff j b2).2 hb2)) (hb2.2 d h9)
   rw [h2]
   exact ⟨fun h9=>by injection h9 with h9;rw [← h9];exact hl,fun h9=>by rw [hl.uniq h9]⟩
  ·
   rw [h1 j hj,h.iff]
   have e2:∀ d,(∃ u,(u,d)∈(t,c) :: P∧wordT T u.2=(j:Int)∧accB acc u.1=true)↔∃ u,(u,d)∈P∧wordT T u.2=(j:Int)∧accB acc u.1=true:=fun d=>by
    rw [e d]
    exact ⟨fun h9=>h9.resolve_left fun h8=>hj h8.1,.inr⟩
   exact ⟨fun h9=>h9.congr fun d=>(e2 d).symm,fun h9=>h9.congr e2⟩⟩
theorem LeaM.put (h:LeaM T acc P E) (hw:wordT T t.2=(k:Int)) (ha:accB acc t.1=true) (hlt:∀ d,look E k=some d→c<d):LeaM T acc ((t,c) :: P) (putE E k c) :=
 h.hit hw ha (h.keys.put k c) (fun j hj=>by rw [look_put,if_neg fun e=>hj e.symm]) (by rw [look_put,if_pos rfl]) (Nat.le_refl _) (fun d hd=>Nat.le_of_lt (hlt d hd)) (.inl rfl)
theorem LeaM.same (h:LeaM T acc P E) (hw:wordT T t.2=(k:Int)) (ha:accB acc t.1=true) {old:Nat} (ho:look E k=some old) (hle:old≤c):LeaM T acc ((t,c) :: P) E :=
 h.hit hw ha h.keys (fun _ _=>rfl) ho hle (fun d hd=>by rw [ho] at hd;injection hd with hd;omega) (.inr ho)
end
structure FndE (T:List Bn) (acc:Int) (P:List (Stt × Nat)) (l:List (Nat × Nat)):Prop where
 sorted:l.Pairwise fun a b=>a.1<b.1
 mem:∀ k c,(k,c)∈l↔Lst T acc P k c
theorem fnd_of {T:List Bn} {acc:Int} {P P':List (Stt × Nat)} {E:List (Nat × Nat)} {ks:List Nat} (h:LeaM T acc P E) (hP:∀ p,p∈P↔p∈P') (hs:ks.Pairwise (·<·)) (hm:∀ k,k∈ks↔(look E k).isSome=true) :
  FndE T acc P' (ks.map fun k=>(k,(look E k).getD 0)) where
 sorted:=by rw [List.pairwise_map];exact hs
 mem
   k c:=by
  rw [List.mem_map]
  have e:∀ d,(∃ u,(u,d)∈P∧wordT T u.2=(k:Int)∧accB acc u.1=true)↔∃ u,(u,d)∈P'∧wordT T u.2=(k:Int)∧accB acc u.1=true:=fun d =>
   ⟨fun ⟨u,h1,h2⟩=>⟨u,(hP _).1 h1,h2⟩,fun ⟨u,h1,h2⟩=>⟨u,(hP _).2 h1,h2⟩⟩
  constructor
  ·
   rintro ⟨j,hj,e9⟩
   injection e9 with e1 e2
   subst e1
   obtain ⟨d,hd⟩:=Option.isSome_iff_exists.1 ((hm j).1 hj)
   rw [hd] at e2
   simp only [Option.getD_some] at e2
   subst e2
   exact ((h.iff j d).1 hd).congr e
  ·
   intro hl
   have h1:=(h.iff k c).2 (hl.congr fun d=>(e d).symm)
   exact ⟨k,(hm k).2 (by rw [h1];rfl),by rw [h1];rfl⟩
theorem acc_low (A:Int) (m:Nat) (h0:0≤A) (hA:A≤255):(bits .and .u8 (A / 2 ^ m) 1 == 0)=!accB A m:=by
 obtain ⟨n,rfl⟩:=Int.eq_ofNat_of_zero_le h0
 have hd:((n:Int) / 2 ^ m)=((n / 2 ^ m:Nat):Int):=by simp
 have hlt:n / 2 ^ m<256:=Nat.lt_of_le_of_lt (Nat.div_le_self _ _) (by omega)
 have h1:bits .and .u8 (((n / 2 ^ m:Nat):Int)) ((1:Nat):Int)=((n / 2 ^ m &&& 1:Nat):Int):=u8_and_nat _ _ hlt (by omega)
 unfold accB
 rw [hd,show (1:Int)=((1:Nat):Int) from rfl,h1,Nat.and_one_is_mod,Bool.eq_iff_iff]
 simp only [beq_iff_eq,Bool.not_eq_true',beq_eq_false_iff_ne,ne_eq]
 omega
def rowFnd:RowT (Nat × Nat):=⟨43,50,2,16,.agg #[.int .i64 0,.int .i64 0],fun t=>[.int .i64 (t.1:Int),.int .i64 (t.2:Int)]⟩
theorem rowFnd_ok:rowFnd.Ok:=⟨Tryd.underlying43,by kernel_rfl,rfl,by decide,fun _=>rfl,fun x u hu=>by
 have h:u=.int .i64 (x.1:Int)∨u=.int .i64 (x.2:Int):=by simpa [rowFnd] using hu
 rcases h with rfl | rfl <;> rfl,by decide⟩
def WdIn (T:List Bn):Prop:=∀ b∈T,b.word<1000000
def FoundP (T:List Bn) (acc:Int) (E:Ent) (B:Nat) (e:Ending) (w':World):Prop:=∃ v l,e=.returned v∧OwnG rowFnd w' B v l∧FndE T acc E l
structure FQ (w0:World) (T:List Bn) (acc:Int) (E:Ent) (gmj gl r:Nat) (P rest:List (Stt × Nat)) (E2:List (Nat × Nat)) (w:World):Prop where
 rg:RgG keyS w gmj r E rest
 low:MpG keyI w gl E2
 lea:LeaM T acc P E2
 all:∀ p,p∈E↔p∈P∨p∈rest
 bl:Below w0.heap.size w0 w
 glt:w0.heap.size≤gl
 rge:w0.heap.size≤r
 ne:r≠gl
 len:E2.length+rest.length≤E.length
section
variable {w w':World} {gx:Nat} {acc:Int} {aR:Option Addr} {nR cR:Nat} {aT:Option Addr} {nT cT:Nat} {aL:Option Addr} {nL cL:Nat} {gm:Nat→Nat}
set_option maxHeartbeats 6400000 in
set_option maxRecDepth 100000 in
theorem
    found_any
         (T:List Bn) (i j:Nat) (E:Ent) (hi:i≤1000000) (hj:i % 5=j) (hx:SX w gx acc aR nR cR aT nT cT aL nL cL gm) (hT:TreeS w aT T) (hnT:nT=T.length) (hTl:nT≤100000) (hWd:WdIn T) (hM:MpG keyS w (gm j) E) (hRng:RngE T.length E) (ha0:0≤acc) (ha1:acc≤255) :
  Calls Tryd.prog 21 #[.pointer (some ⟨gx,0,none⟩),.int .i64 (i:Int)] w fun e w'=>FoundP T acc E w.heap.size e w'∧Below w.heap.size w w':=by
 subst hnT
 have HX:=Lib.hid hx;have HT:=Lib.hid hT;have HWD:=Lib.hid hWd;have HM:=Lib.hid hM;have HRN:=Lib.hid hRng;have HJ:=Lib.hid hj
 have hgx:=hx.lt
 obtain ⟨c0,c1,c2,c3⟩:=hx.cells
 have HC0:=Lib.hid c0;have HC2:=Lib.hid c2
 have hEl:=rng_len hM.keys hRng
 have hmm:=@run_makeMap Tryd.prog
 clear hx hT hWd hM hRng hj c0 c1 c2 c3
 have HX1:Hid (Ext w (w.alloc (.map #[] 0))):=(Below.refl _ _).alloc (Nat.le_refl _) _
 have HAT:=Lib.hid (at_any i j hi HJ.out (HX.out.kp (Kc.of HX1.out (Nat.le_refl _))))
 have HM1:=Lib.hid (HM.out.kept (Below.block HX1.out _ HM.out.lt))
 have HL1:=Lib.hid (MpG.new keyI w)
 go_enter Tryd.func21,Tryd.ntmps21
 go_wp2_with fail
 refine HAT.out.mono ?_
 rintro e w1' ⟨rfl,rfl⟩
 go_wp2_with (at_range;refine wpList_range_g keyS_ok HM1.out rfl _ rfl rfl ?_;intro w3 hrg3 hb3 hs3)
 go_frame
 have HZ:Hid ((w.alloc (.map #[] 0)).heap.size=w.heap.size+1):=by show _=_;simp
 have HFQ:Hid (FQ w T acc E (gm j) w.heap.size (w.heap.size+1) [] E [] w3):=⟨by rw [← HZ.out];exact hrg3,HL1.out.kept (hb3.block _ HL1.out.lt),LeaM.nil _ _,fun p=>by simp,Below.trans HX1.out (hb3.mono (by rw [HZ.out];omega)),Nat.le_refl _,Nat.le_succ _,by omega,by simp⟩
 clear hrg3 hb3 hs3 hmm
 simp only [World.size_alloc]
 go_loopg [8] E.length (fun g v8 wr=>∃ (P rest:List (Stt × Nat)) (E2:List (Nat × Nat)),FQ w T acc E (gm j) w.heap.size (w.heap.size+1) P rest E2 wr∧rest.length=g)
 case atStart=>exact ⟨[],E,[],HFQ.out,rfl⟩
 case round =>
  clear HFQ
  obtain ⟨P,rest,E2,hfq,hgk⟩:=hrel
  have HQ:=Lib.hid hfq;have HGK:=Lib.hid hgk
  have hz3:=hfq.bl.size
  have hri:=hfq.rg.lt
  clear hfq hgk
  go_wp2_with (at_next;refine wpList_next_g keyS_ok HQ.out.rg rfl _ rfl rfl ?_ ?_)
  ·
   intro
      h0
   have HFN:=Lib.hid (fun ks=>fnd_of (P':=E) (ks:=ks) HQ.out.lea (fun p=>by rw [HQ.out.all p,h0];simp))
   have hE2:E2.length≤1000000:=by have:=HQ.out.len;omega
   have HSO:=Lib.hid (sorted_any HQ.out.low hE2)
   clear h0
   go_wp2_with fail
   refine (mapsKeys_any _ _).mono ?_
   rintro e w7 ⟨rfl,rfl⟩
   go_wp2_with fail
   refine HSO.out.mono ?_
   rintro e w8 ⟨⟨v,ks,rfl,hown8,hps,hmem⟩,hb8⟩
   obtain ⟨a8,c8,hv8,hkc8, -⟩:=hown8.form
   subst hv8
   have HO8:=Lib.hid hown8;have HB8:=Lib.hid hb8;have HPS:=Lib.hid hps;have HME:=Lib.hid hmem
   have HLOW8:=Lib.hid (HQ.out.low.kept (hb8.block _ HQ.out.low.lt))
   have HBW8:Hid (Below w.heap.size w w8):=HQ.out.bl.trans (hb8.mono HQ.out.bl.size)
   have hkl:ks.length≤1000000:=by
    have h1:=nodup_bound 1000000 ks (hps.imp fun h=>Nat.ne_of_lt h) fun x hx=>by
     obtain ⟨d,hd⟩:=Option.isSome_iff_exists.1 ((hmem x).1 hx)
     exact (HQ.out.low.okk _ (look_mem hd)).1
    exact h1
   clear hown8 hb8 hps hmem
   go_wp2_with fail
   go_loopg [11,66] ks.length (fun g v11 v66 wr=>∃ k:Nat,v66=.int .i64 (k:Int)∧k≤ks.length∧g=ks.length - k∧OwnG rowFnd wr w8.heap.size v11 ((ks.take k).map fun x=>(x,(look E2 x).getD 0))∧Below w8.heap.size w8 wr)
   case atStart=>exact ⟨0,rfl,Nat.zero_le _,rfl,OwnG.nil _ _ _,Below.refl _ _⟩
   case round =>
    obtain ⟨k,rfl,hk,hgk,hown,hbl⟩:=hrel
    obtain ⟨a11,c11,hv11,hc11, -⟩:=hown.form
    subst hv11
    have HO:=Lib.hid hown;have HBL:=Lib.hid hbl;have HGK2:=Lib.hid hgk
    clear hown hbl hgk
    obtain ⟨Lk,hLk⟩:∃ Lk,(ks.take k).map (fun x=>(x,(look E2 x).getD 0))=Lk:=⟨_,rfl⟩
    have hLl:Lk.length=k:=by rw [← hLk,List.length_map,List.length_take];omega
    rw [hLk] at HO hc11 ⊢
    have HLK:=Lib.hid hLk;have HLL:=Lib.hid hLl
    clear hLk hLl
    by_cases hlt:k<ks.length
    ·
     obtain ⟨b8,hb8,hB8,hs8,q0⟩:=(HO8.out.later HBL.out (Nat.le_refl _)).ints hlt
     subst hb8
     have hi8:=idx_ints b8 ks.length c8 k hlt
     have hlow:MpG keyI wr w.heap.size E2:=HLOW8.out.kept (HBL.out.block _ HLOW8.out.lt)
     have hxm:=(HME.out ks[k]).1 (List.getElem_mem hlt)
     obtain ⟨d,hd⟩:=Option.isSome_iff_exists.1 hxm
     have hxok:=(hlow.okk _ (look_mem hd)).1
     have hlk:=hlow.look keyI_ok hxok
     rw [hd] at hlk
     simp only [keyI,Option.getD_some] at hlk
     have htk:ks.take (k+1)=ks.take k ++ [ks[k]]:=List.take_succ_eq_append_getElem hlt
     have HN:Hid ((ks.take (k+1)).map (fun x=>(x,(look E2 x).getD 0))=Lk ++ [(ks[k],d)]):=by
      show _=_
      rw [htk,List.map_append,HLK.out];simp [hd]
     obtain ⟨x,hx⟩:∃ x,ks[k]=x:=⟨_,rfl⟩
     rw [hx] at q0 hlk HN
     clear hxm hd hxok htk hx hlow
     go_wp2_with (at_builtin;go_loud (refine wpList_append_g (v:=.slice a11 Lk.length c11) rowFnd_ok rfl _ _ rfl rfl (HO.out.later ((Below.refl _ _).alloc (Nat.le_refl _) _) (Nat.le_refl _)) ⟨wr.heap.size,0,none⟩ 1 [(x,d)] rfl (cells_built (heap_alloc_new _ _)) (by have:=HLL.out;simp only [List.length_singleton];omega) (by have:=HBL.out.size;simp only [World.size_alloc];omega) ?_);intro v16 w16 hown16 hgrow16 hat16;have HO16:=Lib.hid hown16;have HG16:=Lib.hid hgrow16;clear hown16 hgrow16 hat16)
     go_roundg (ks.length - (k+1))
     case measure=>have:=HGK2.out;omega
     case rel=>exact ⟨k+1,by go_num,by omega,rfl,by rw [HN.out];exact HO16.out,(HBL.out.trans (((Below.refl _ _).alloc (Nat.le_refl _) _).mono HBL.out.size)).grown HG16.out (by have:=HBL.out.size;simp only [World.size_alloc];omega) fun q hq=>HO.out.ge q hq⟩
    ·
     have hall:ks.take k=ks:=List.take_of_length_le (by omega)
     have HNF:=Lib.hid (HFN.out ks HPS.out HME.out)
     have HLE:Hid (Lk=ks.map fun x=>(x,(look E2 x).getD 0)):=by show _=_;rw [← HLK.out,hall]
     clear hall
     go_wp2_with fail
     go_ret
     exact ⟨⟨_,Lk,rfl,HO.out.mono HBW8.out.size,by rw [HLE.out];exact HNF.out⟩,HBW8.out.trans (HBL.out.mono HBW8.out.size)⟩
  ·
   intro
      m
       n
        c
         w4 hp hrg4 hg4 hs4 hlt4 hen
   dsimp only [keyS,sttV] at hen ⊢
   have HP:=Lib.hid hp;have HRG4:=Lib.hid hrg4
   have HLOW4:Hid (MpG keyI w4 w.heap.size E2):=HQ.out.low.kept (hg4.block _ HQ.out.low.lt fun e=>by injection e with e;omega)
   have HBL4:Hid (Below w.heap.size w w4):=by
    show Below _ _ _
    exact HQ.out.bl.grown hg4 (by omega) fun k hk=>by injection hk with hk;omega
   have hpE:=HQ.out.rg.sub _ hp
   obtain ⟨hm8,hnT⟩:=HRN.out _ hpE
   simp only at hm8 hnT
   have hcb:c≤1152921504606846976:=(HM.out.okk _ hpE).2
   have HLEN:Hid (E2.length+1≤E.length∧E2.length+1+(strike rest ((m,n),c)).length≤E.length):=by
    have h1:=strike_lt hp
    have h2:=HQ.out.len
    exact ⟨by omega,by omega⟩
   clear hp hrg4 hg4 hlt4 hpE hri
   go_upto_region 5 with fail
   obtain ⟨w5,hw5⟩:∃ w5,w4.alloc (.cells #[.int .i64 (m:Int),.int .i64 (n:Int)] 86)=w5:=⟨_,rfl⟩
   rw [hw5]
   have HX5:Hid (Ext w4 w5):=by
    show Ext _ _
    rw [← hw5];exact (Below.refl _ _).alloc (Nat.le_refl _) _
   have HC5:Hid (w5.heap[w4.heap.size]? = some (.cells #[.int .i64 (m:Int),.int .i64 (n:Int)] 86 (0,0))):=by
    show _=_
    rw [← hw5];exact heap_alloc_new _ _
   have HBL5:Hid (Below w.heap.size w w5):=HBL4.out.trans (Below.mono HX5.out HBL4.out.size)
   have HK5:Hid (Kc w w5):=Kc.of HBL5.out (Nat.le_refl _)
   obtain ⟨g6,hg6⟩:∃ g6,w4.heap.size=g6:=⟨_,rfl⟩
   rw [hg6] at HC5 ⊢
   obtain ⟨b1,o1,ha1,hb1,q0, -⟩:=(HT.out.kp HK5.out).at hnT
   have hi1:=idx_tree aT b1 o1 T.length cT n ha1 hnT
   have hwd:=HWD.out _ (List.getElem_mem hnT)
   have HWT:Hid (wordT T n=T[n].word):=by show wordT T n=_;unfold wordT;rw [List.getElem?_eq_getElem hnT]
   obtain ⟨wd,hwde⟩:∃ wd,T[n].word=wd:=⟨_,rfl⟩
   rw [hwde] at q0 hwd HWT
   have HQ0:=Lib.hid q0
   clear hw5 hg6 ha1 hwde q0
   refine wp_region_rv (by kernel_rfl) (Vs [vq (.pointer (some ⟨gx,0,none⟩)),vq (.pointer (some ⟨gx,0,none⟩)),vq (.pointer (some ⟨gx,2,none⟩)),vq (.slice aT T.length cT),vq (.pointer (some ⟨g6,1,none⟩)),vq (.int .i64 (n:Int)),vq (.pointer (some ⟨b1,o1+n*2,none⟩)),vq (.pointer (some ⟨b1,o1+n*2,none⟩)),vq (.int .i64 wd),vq (.int .i64 wd)]) (fun W=>Ext w5 W) 80 (by kernel_rfl) rfl ?hVx ?hSx ?hS (opsOk_all ?hop) ?hfin
   case hop =>
    refine ⟨?_,?_,?_,?_,?_,?_,?_,?_,?_,?_,trivial⟩
    all_goals
     intro A W hsz hS hdep hbase
     have hk9:Kc w5 W:=Kc.of hS (Nat.le_refl _)
     obtain ⟨x0,x1⟩:=stt_cells (hk9.block _ _ _ _ HC5.out)
     have c0:=hk9.cell (HK5.out.cell HC0.out)
     have c2:=hk9.cell (HK5.out.cell HC2.out)
     have q0:=hk9.cell HQ0.out
     clear hk9
     have h0:A.tmps.getD 0 undef=.pointer (some ⟨gx,0,none⟩):=hbase 0 (by kernel_rfl)
     have h6:A.tmps.getD 6 undef=.pointer (some ⟨g6,0,none⟩):=hbase 6 (by kernel_rfl)
     clear hbase
     simp [slotOf,Region.binds,Vs,vq] at hdep
    all_goals first
     | (refine opOk_run rfl (.inl ⟨_,W,?_,rfl,Ext.refl _⟩);clear hsz hS;simp [go_sem,Act.eval, *];done)
   case hVx=>exact vs_stays (by simp only [List.mem_cons,List.not_mem_nil,or_false,forall_eq_or_imp,forall_eq];and_intros <;> exact stays_const _)
   case hSx=>exact fun W W' h hx=>Ext.trans h hx
   case hS=>exact Ext.refl _
   case hfin
        =>
    intro A W hsz hdf hS hv hbase
    obtain ⟨x,hx,hA⟩:=act_puts [24,25,26,27,28,29,30,31,32,8] (by kernel_rfl) hsz hdf hbase
    have e8:x 8=.int .i64 wd:=(hx 8).trans (hv 9 (by decide))
    rw [hA]
    simp only [List.foldl]
    rw [e8]
    clear e8
    simp only [Act.put,List.setIfInBounds_toArray,List.set_cons_succ,List.set_cons_zero]
    clear hA hx hv hbase hsz hdf
    have HS0:Hid (Ext w5 W):=hS
    clear hS
    have HALL:Hid (∀ p,p∈E↔p∈((m,n),c) :: P∨p∈strike rest ((m,n),c)):=fun p=>by
     rw [HQ.out.all,List.mem_cons,mem_strike]
     constructor
     ·
      rintro (h1 | h1)
      · exact .inl (.inr h1)
      ·
       by_cases e:p=((m,n),c)
       · exact .inl (.inl e)
       · exact .inr ⟨h1,e⟩
     ·
      rintro ((rfl | h1) | h1)
      · exact .inr HP.out
      · exact .inl h1
      · exact .inr h1.1
    go_wp2_with fail
    have hm0I:(0:Int)≤(m:Int):=by omega
    have hm8I:(m:Int)<8:=by omega
    by_cases hneg:wd<0
    ·
     have HNO:Hid (¬ ∃ k:Nat,wordT T (m,n).2=(k:Int)∧accB acc (m,n).1=true):=by
      rintro ⟨k,h1,_⟩
      have h2:wordT T n=(k:Int):=h1
      rw [HWT.out] at h2
      omega
     refine wp_region_rv (by kernel_rfl) (Vs [vq (.int .i64 wd),vq (.bool true),vq (.bool true),vq (undef),vq (undef),vq (undef),vq (undef),vq (undef),vq (undef),vq (undef),vq (undef),vq (undef),vq (.bool true)]) (fun W=>Ext w5 W) 80 (by kernel_rfl) rfl ?hVx ?hSx ?hS (opsOk_all ?hop) ?hfin
     case hop =>
      refine ⟨?_,?_,?_,?_,?_,?_,?_,?_,?_,?_,?_,?_,?_,trivial⟩
      all_goals
       intro A W hsz hS hdep hbase
       have hk9:Kc w5 W:=Kc.of hS (Nat.le_refl _)
       obtain ⟨x0,x1⟩:=stt_cells (hk9.block _ _ _ _ HC5.out)
       have c0:=hk9.cell (HK5.out.cell HC0.out)
       have c2:=hk9.cell (HK5.out.cell HC2.out)
       have q0:=hk9.cell HQ0.out
       clear hk9
       have h0:A.tmps.getD 0 undef=.pointer (some ⟨gx,0,none⟩):=hbase 0 (by kernel_rfl)
       have h6:A.tmps.getD 6 undef=.pointer (some ⟨g6,0,none⟩):=hbase 6 (by kernel_rfl)
       have h8:A.tmps.getD 8 undef=.int .i64 wd:=hbase 8 (by kernel_rfl)
       clear hbase
       simp [slotOf,Region.binds,Vs,vq] at hdep
      all_goals first
       | (refine opOk_run rfl (.inl ⟨_,W,?_,rfl,Ext.refl _⟩);clear hsz hS;simp [go_sem,Act.eval, *];done)
       | exact opOk_skip (j:=2) (d:=35) (b:=true) rfl (by kernel_rfl) (by simp only [hdep]) rfl rfl
     case hVx=>exact vs_stays (by simp only [List.mem_cons,List.not_mem_nil,or_false,forall_eq_or_imp,forall_eq];and_intros <;> exact stays_const _)
     case hSx=>exact fun W W' h hx=>Ext.trans h hx
     case hS=>exact HS0.out
     case hfin =>
      intro A W hsz hdf hS hv hbase
      obtain ⟨x,hx,hA⟩:=act_puts [33,34,35,36,37,38,39,40,41,42,43,44,45] (by kernel_rfl) hsz hdf hbase
      have e45:x 45=.bool true:=(hx 45).trans (hv 12 (by decide))
      rw [hA]
      simp only [List.foldl]
      rw [e45]
      clear e45
      simp only [Act.put,List.setIfInBounds_toArray,List.set_cons_succ,List.set_cons_zero]
      clear hA hx hv hbase hsz hdf
      have HS0:Hid (Ext w5 W):=hS
      clear hS
      go_wp2_with fail
      go_roundg (strike rest ((m,n),c)).length
      case measure=>have:=HGK.out;have:=strike_lt HP.out;omega
      case rel =>
       exact ⟨((m,n),c) :: P,_,E2,⟨(HRG4.out.below HX5.out).below HS0.out,(HLOW4.out.kept (Below.block HX5.out _ HLOW4.out.lt)).kept (Below.block HS0.out _ (HLOW4.out.kept (Below.block HX5.out _ HLOW4.out.lt)).lt),HQ.out.lea.skip HNO.out,HALL.out,HBL5.out.trans (Below.mono HS0.out HBL5.out.size),HQ.out.glt,HQ.out.rge,HQ.out.ne,by have:=HLEN.out.2;omega⟩,rfl⟩
    ·
     obtain ⟨
         k,rfl⟩:∃ k:Nat,wd=(k:Int):=⟨wd.toNat,by omega⟩
     have hkok:k<1000000:=by omega
     have HWK:Hid (wordT T (m,n).2=(k:Int)):=HWT.out
     have hbit:=acc_low acc m ha0 ha1
     obtain ⟨ab,hab⟩:∃ ab,accB acc m=ab:=⟨_,rfl⟩
     rw [hab] at hbit
     cases ab with
     | false =>
      have HNO:Hid (¬ ∃ k:Nat,wordT T (m,n).2=(k:Int)∧accB acc (m,n).1=true):=by
       rintro ⟨k,_,h2⟩
       have h3:accB acc m=true:=h2
       rw [hab] at h3
       cases h3
      clear hab
      simp only [Bool.not_false] at hbit
      refine wp_region_rv (by kernel_rfl) (Vs [vq (.int .i64 (k:Int)),vq (.bool false),vq (.bool false),vq (.pointer (some ⟨gx,0,none⟩)),vq (.pointer (some ⟨gx,0,none⟩)),vq (.pointer (some ⟨gx,0,none⟩)),vq (.int .u8 acc),vq (.pointer (some ⟨g6,0,none⟩)),vq (.int .i64 (m:Int)),vq (.int .u8 (acc / 2 ^ m)),vq (.int .u8 (bits .and .u8 (acc / 2 ^ m) 1)),vq (.bool true),vq (.bool true)]) (fun W=>Ext w5 W) 80 (by kernel_rfl) rfl ?hVx ?hSx ?hS (opsOk_all ?hop) ?hfin
      case hop =>
       refine ⟨?_,?_,?_,?_,?_,?_,?_,?_,?_,?_,?_,?_,?_,trivial⟩
       all_goals
        intro A W hsz hS hdep hbase
        have hk9:Kc w5 W:=Kc.of hS (Nat.le_refl _)
        obtain ⟨x0,x1⟩:=stt_cells (hk9.block _ _ _ _ HC5.out)
        have c0:=hk9.cell (HK5.out.cell HC0.out)
        have c2:=hk9.cell (HK5.out.cell HC2.out)
        have q0:=hk9.cell HQ0.out
        clear hk9
        have h0:A.tmps.getD 0 undef=.pointer (some ⟨gx,0,none⟩):=hbase 0 (by kernel_rfl)
        have h6:A.tmps.getD 6 undef=.pointer (some ⟨g6,0,none⟩):=hbase 6 (by kernel_rfl)
        have h8:A.tmps.getD 8 undef=.int .i64 (k:Int):=hbase 8 (by kernel_rfl)
        clear hbase
        simp [slotOf,Region.binds,Vs,vq] at hdep
       all_goals first
        | (refine opOk_run rfl (.inl ⟨_,W,?_,rfl,Ext.refl _⟩);clear hsz hS;simp [go_sem,Act.eval, *];done)
        | (refine opOk_runG (j:=2) (d:=35) (b:=false) rfl (by kernel_rfl) (by simp only [hdep]) rfl (.inl ⟨_,W,?_,rfl,Ext.refl _⟩);clear hsz hS;simp [go_sem,Act.eval, *];done)
      case hVx=>exact vs_stays (by simp only [List.mem_cons,List.not_mem_nil,or_false,forall_eq_or_imp,forall_eq];and_intros <;> exact stays_const _)
      case hSx=>exact fun W W' h hx=>Ext.trans h hx
      case hS=>exact HS0.out
      case hfin =>
       intro A W hsz hdf hS hv hbase
       obtain ⟨x,hx,hA⟩:=act_puts [33,34,35,36,37,38,39,40,41,42,43,44,45] (by kernel_rfl) hsz hdf hbase
       have e45:x 45=.bool true:=(hx 45).trans (hv 12 (by decide))
       rw [hA]
       simp only [List.foldl]
       rw [e45]
       clear e45
       simp only [Act.put,List.setIfInBounds_toArray,List.set_cons_succ,List.set_cons_zero]
       clear hA hx hv hbase hsz hdf
       have HS0:Hid (Ext w5 W):=hS
       clear hS
       go_wp2_with fail
       go_roundg (strike rest ((m,n),c)).length
       case measure=>have:=HGK.out;have:=strike_lt HP.out;omega
       case rel =>
        exact ⟨((m,n),c) :: P,_,E2,⟨(HRG4.out.below HX5.out).below HS0.out,(HLOW4.out.kept (Below.block HX5.out _ HLOW4.out.lt)).kept (Below.block HS0.out _ (HLOW4.out.kept (Below.block HX5.out _ HLOW4.out.lt)).lt),HQ.out.lea.skip HNO.out,HALL.out,HBL5.out.trans (Below.mono HS0.out HBL5.out.size),HQ.out.glt,HQ.out.rge,HQ.out.ne,by have:=HLEN.out.2;omega⟩,rfl⟩
     | true =>
      have HACC:Hid (accB acc (m,n).1=true):=hab
      clear hab
      simp only [Bool.not_true] at hbit
      obtain ⟨lk,hlk⟩:∃ lk,look E2 k=lk:=⟨_,rfl⟩
      have HLK:=Lib.hid hlk
      clear hlk
      cases lk with
      | none =>
       have HLT:Hid (∀ d,look E2 k=some d→c<d):=fun d hd=>by rw [HLK.out] at hd;cases hd
       refine wp_region_rv (by kernel_rfl) (Vs [vq (.int .i64 (k:Int)),vq (.bool false),vq (.bool false),vq (.pointer (some ⟨gx,0,none⟩)),vq (.pointer (some ⟨gx,0,none⟩)),vq (.pointer (some ⟨gx,0,none⟩)),vq (.int .u8 acc),vq (.pointer (some ⟨g6,0,none⟩)),vq (.int .i64 (m:Int)),vq (.int .u8 (acc / 2 ^ m)),vq (.int .u8 (bits .and .u8 (acc / 2 ^ m) 1)),vq (.bool false),vq (.bool false)]) (fun W=>Ext w5 W) 80 (by kernel_rfl) rfl ?hVx ?hSx ?hS (opsOk_all ?hop) ?hfin
       case hop =>
        refine ⟨?_,?_,?_,?_,?_,?_,?_,?_,?_,?_,?_,?_,?_,trivial⟩
        all_goals
         intro A W hsz hS hdep hbase
         have hk9:Kc w5 W:=Kc.of hS (Nat.le_refl _)
         obtain ⟨x0,x1⟩:=stt_cells (hk9.block _ _ _ _ HC5.out)
         have c0:=hk9.cell (HK5.out.cell HC0.out)
         have c2:=hk9.cell (HK5.out.cell HC2.out)
         have q0:=hk9.cell HQ0.out
         clear hk9
         have h0:A.tmps.getD 0 undef=.pointer (some ⟨gx,0,none⟩):=hbase 0 (by kernel_rfl)
         have h6:A.tmps.getD 6 undef=.pointer (some ⟨g6,0,none⟩):=hbase 6 (by kernel_rfl)
         have h8:A.tmps.getD 8 undef=.int .i64 (k:Int):=hbase 8 (by kernel_rfl)
         clear hbase
         simp [slotOf,Region.binds,Vs,vq] at hdep
        all_goals first
         | (refine opOk_run rfl (.inl ⟨_,W,?_,rfl,Ext.refl _⟩);clear hsz hS;simp [go_sem,Act.eval, *];done)
         | (refine opOk_runG (j:=2) (d:=35) (b:=false) rfl (by kernel_rfl) (by simp only [hdep]) rfl (.inl ⟨_,W,?_,rfl,Ext.refl _⟩);clear hsz hS;simp [go_sem,Act.eval, *];done)
       case hVx=>exact vs_stays (by simp only [List.mem_cons,List.not_mem_nil,or_false,forall_eq_or_imp,forall_eq];and_intros <;> exact stays_const _)
       case hSx=>exact fun W W' h hx=>Ext.trans h hx
       case hS=>exact HS0.out
       case hfin =>
        intro A W hsz hdf hS hv hbase
        obtain ⟨x,hx,hA⟩:=act_puts [33,34,35,36,37,38,39,40,41,42,43,44,45] (by kernel_rfl) hsz hdf hbase
        have e45:x 45=.bool false:=(hx 45).trans (hv 12 (by decide))
        rw [hA]
        simp only [List.foldl]
        rw [e45]
        clear e45
        simp only [Act.put,List.setIfInBounds_toArray,List.set_cons_succ,List.set_cons_zero]
        clear hA hx hv hbase hsz hdf
        have HS0:Hid (Ext w5 W):=hS
        clear hS
        have hlow7:MpG keyI W w.heap.size E2:=(HLOW4.out.kept (Below.block HX5.out _ HLOW4.out.lt)).kept (Below.block HS0.out _ (HLOW4.out.kept (Below.block HX5.out _ HLOW4.out.lt)).lt)
        have hlk7:=hlow7.look_ok keyI_ok (x:=k) hkok
        rw [HLK.out] at hlk7
        simp only [keyI,Option.getD,Option.isSome] at hlk7
        have HLOW7:=Lib.hid hlow7
        clear hlow7
        go_wp2_with (at_mapUpdate;go_loud (refine wpList_put_g keyI_ok HLOW7.out (x:=k) (c:=c) hkok hcb (by have:=HLEN.out.1;omega) rfl _ _ _ rfl rfl rfl rfl ?_);intro w8 hm8 hg8)
        go_roundg (strike rest ((m,n),c)).length
        case measure=>have:=HGK.out;have:=strike_lt HP.out;omega
        case rel =>
         have hrg8:=((HRG4.out.below HX5.out).below HS0.out).kept hg8 (fun e=>by
          injection e with e
          have:=HM.out.lt;omega) (fun e=>by injection e with e;omega)
         exact ⟨((m,n),c) :: P,_,putE E2 k c,⟨hrg8,hm8,HQ.out.lea.put HWK.out HACC.out HLT.out,HALL.out,(HBL5.out.trans (Below.mono HS0.out HBL5.out.size)).grown hg8 (by have:=HBL5.out.size;have:=Below.size HS0.out;omega) (fun q hq=>by injection hq with hq;omega),HQ.out.glt,HQ.out.rge,HQ.out.ne,by
          have h1:=HLEN.out.2
          have h2:=put_len E2 k c
          split at h2 <;> omega⟩,rfl⟩
      | some old =>
       by_cases hle:old≤c
       ·
        have HOL:=Lib.hid hle
        have hcI:¬ (c:Int)<(old:Int):=by omega
        clear hle
        refine wp_region_rv (by kernel_rfl) (Vs [vq (.int .i64 (k:Int)),vq (.bool false),vq (.bool false),vq (.pointer (some ⟨gx,0,none⟩)),vq (.pointer (some ⟨gx,0,none⟩)),vq (.pointer (some ⟨gx,0,none⟩)),vq (.int .u8 acc),vq (.pointer (some ⟨g6,0,none⟩)),vq (.int .i64 (m:Int)),vq (.int .u8 (acc / 2 ^ m)),vq (.int .u8 (bits .and .u8 (acc / 2 ^ m) 1)),vq (.bool false),vq (.bool false)]) (fun W=>Ext w5 W) 80 (by kernel_rfl) rfl ?hVx ?hSx ?hS (opsOk_all ?hop) ?hfin
        case hop =>
         refine ⟨?_,?_,?_,?_,?_,?_,?_,?_,?_,?_,?_,?_,?_,trivial⟩
         all_goals
          intro A W hsz hS hdep hbase
          have hk9:Kc w5 W:=Kc.of hS (Nat.le_refl _)
          obtain ⟨x0,x1⟩:=stt_cells (hk9.block _ _ _ _ HC5.out)
          have c0:=hk9.cell (HK5.out.cell HC0.out)
          have c2:=hk9.cell (HK5.out.cell HC2.out)
          have q0:=hk9.cell HQ0.out
          clear hk9
          have h0:A.tmps.getD 0 undef=.pointer (some ⟨gx,0,none⟩):=hbase 0 (by kernel_rfl)
          have h6:A.tmps.getD 6 undef=.pointer (some ⟨g6,0,none⟩):=hbase 6 (by kernel_rfl)
          have h8:A.tmps.getD 8 undef=.int .i64 (k:Int):=hbase 8 (by kernel_rfl)
          clear hbase
          simp [slotOf,Region.binds,Vs,vq] at hdep
         all_goals first
          | (refine opOk_run rfl (.inl ⟨_,W,?_,rfl,Ext.refl _⟩);clear hsz hS;simp [go_sem,Act.eval, *];done)
          | (refine opOk_runG (j:=2) (d:=35) (b:=false) rfl (by kernel_rfl) (by simp only [hdep]) rfl (.inl ⟨_,W,?_,rfl,Ext.refl _⟩);clear hsz hS;simp [go_sem,Act.eval, *];done)
        case hVx=>exact vs_stays (by simp only [List.mem_cons,List.not_mem_nil,or_false,forall_eq_or_imp,forall_eq];and_intros <;> exact stays_const _)
        case hSx=>exact fun W W' h hx=>Ext.trans h hx
        case hS=>exact HS0.out
        case hfin =>
         intro A W hsz hdf hS hv hbase
         obtain ⟨x,hx,hA⟩:=act_puts [33,34,35,36,37,38,39,40,41,42,43,44,45] (by kernel_rfl) hsz hdf hbase
         have e45:x 45=.bool false:=(hx 45).trans (hv 12 (by decide))
         rw [hA]
         simp only [List.foldl]
         rw [e45]
         clear e45
         simp only [Act.put,List.setIfInBounds_toArray,List.set_cons_succ,List.set_cons_zero]
         clear hA hx hv hbase hsz hdf
         have HS0:Hid (Ext w5 W):=hS
         clear hS
         have hlow7:MpG keyI W w.heap.size E2:=(HLOW4.out.kept (Below.block HX5.out _ HLOW4.out.lt)).kept (Below.block HS0.out _ (HLOW4.out.kept (Below.block HX5.out _ HLOW4.out.lt)).lt)
         have hlk7:=hlow7.look_ok keyI_ok (x:=k) hkok
         rw [HLK.out] at hlk7
         simp only [keyI,Option.getD,Option.isSome] at hlk7
         have HLOW7:=Lib.hid hlow7
         clear hlow7
         go_wp2_with fail
         go_roundg (strike rest ((m,n),c)).length
         case measure=>have:=HGK.out;have:=strike_lt HP.out;omega
         case rel =>
          exact ⟨((m,n),c) :: P,_,E2,⟨(HRG4.out.below HX5.out).below HS0.out,HLOW7.out,HQ.out.lea.same HWK.out HACC.out HLK.out HOL.out,HALL.out,HBL5.out.trans (Below.mono HS0.out HBL5.out.size),HQ.out.glt,HQ.out.rge,HQ.out.ne,by have:=HLEN.out.2;omega⟩,rfl⟩
       ·
        have hcI:(c:Int)<(old:Int):=by omega
        have HLT:Hid (∀ d,look E2 k=some d→c<d):=fun d hd=>by rw [HLK.out] at hd;injection hd with hd;omega
        clear hle
        refine wp_region_rv (by kernel_rfl) (Vs [vq (.int .i64 (k:Int)),vq (.bool false),vq (.bool false),vq (.pointer (some ⟨gx,0,none⟩)),vq (.pointer (some ⟨gx,0,none⟩)),vq (.pointer (some ⟨gx,0,none⟩)),vq (.int .u8 acc),vq (.pointer (some ⟨g6,0,none⟩)),vq (.int .i64 (m:Int)),vq (.int .u8 (acc / 2 ^ m)),vq (.int .u8 (bits .and .u8 (acc / 2 ^ m) 1)),vq (.bool false),vq (.bool false)]) (fun W=>Ext w5 W) 80 (by kernel_rfl) rfl ?hVx ?hSx ?hS (opsOk_all ?hop) ?hfin
        case hop =>
         refine ⟨?_,?_,?_,?_,?_,?_,?_,?_,?_,?_,?_,?_,?_,trivial⟩
         all_goals
          intro A W hsz hS hdep hbase
          have hk9:Kc w5 W:=Kc.of hS (Nat.le_refl _)
          obtain ⟨x0,x1⟩:=stt_cells (hk9.block _ _ _ _ HC5.out)
          have c0:=hk9.cell (HK5.out.cell HC0.out)
          have c2:=hk9.cell (HK5.out.cell HC2.out)
          have q0:=hk9.cell HQ0.out
          clear hk9
          have h0:A.tmps.getD 0 undef=.pointer (some ⟨gx,0,none⟩):=hbase 0 (by kernel_rfl)
          have h6:A.tmps.getD 6 undef=.pointer (some ⟨g6,0,none⟩):=hbase 6 (by kernel_rfl)
          have h8:A.tmps.getD 8 undef=.int .i64 (k:Int):=hbase 8 (by kernel_rfl)
          clear hbase
          simp [slotOf,Region.binds,Vs,vq] at hdep
         all_goals first
          | (refine opOk_run rfl (.inl ⟨_,W,?_,rfl,Ext.refl _⟩);clear hsz hS;simp [go_sem,Act.eval, *];done)
          | (refine opOk_runG (j:=2) (d:=35) (b:=false) rfl (by kernel_rfl) (by simp only [hdep]) rfl (.inl ⟨_,W,?_,rfl,Ext.refl _⟩);clear hsz hS;simp [go_sem,Act.eval, *];done)
        case hVx=>exact vs_stays (by simp only [List.mem_cons,List.not_mem_nil,or_false,forall_eq_or_imp,forall_eq];and_intros <;> exact stays_const _)
        case hSx=>exact fun W W' h hx=>Ext.trans h hx
        case hS=>exact HS0.out
        case hfin =>
         intro A W hsz hdf hS hv hbase
         obtain ⟨x,hx,hA⟩:=act_puts [33,34,35,36,37,38,39,40,41,42,43,44,45] (by kernel_rfl) hsz hdf hbase
         have e45:x 45=.bool false:=(hx 45).trans (hv 12 (by decide))
         rw [hA]
         simp only [List.foldl]
         rw [e45]
         clear e45
         simp only [Act.put,List.setIfInBounds_toArray,List.set_cons_succ,List.set_cons_zero]
         clear hA hx hv hbase hsz hdf
         have HS0:Hid (Ext w5 W):=hS
         clear hS
         have hlow7:MpG keyI W w.heap.size E2:=(HLOW4.out.kept (Below.block HX5.out _ HLOW4.out.lt)).kept (Below.block HS0.out _ (HLOW4.out.kept (Below.block HX5.out _ HLOW4.out.lt)).lt)
         have hlk7:=hlow7.look_ok keyI_ok (x:=k) hkok
         rw [HLK.out] at hlk7
         simp only [keyI,Option.getD,Option.isSome] at hlk7
         have HLOW7:=Lib.hid hlow7
         clear hlow7
         go_wp2_with (at_mapUpdate;go_loud (refine wpList_put_g keyI_ok HLOW7.out (x:=k) (c:=c) hkok hcb (by have:=HLEN.out.1;omega) rfl _ _ _ rfl rfl rfl rfl ?_);intro w8 hm8 hg8)
         go_roundg (strike rest ((m,n),c)).length
         case measure=>have:=HGK.out;have:=strike_lt HP.out;omega
         case rel =>
          have hrg8:=((HRG4.out.below HX5.out).below HS0.out).kept hg8 (fun e=>by
           injection e with e
           have:=HM.out.lt;omega) (fun e=>by injection e with e;omega)
          exact ⟨((m,n),c) :: P,_,putE E2 k c,⟨hrg8,hm8,HQ.out.lea.put HWK.out HACC.out HLT.out,HALL.out,(HBL5.out.trans (Below.mono HS0.out HBL5.out.size)).grown hg8 (by have:=HBL5.out.size;have:=Below.size HS0.out;omega) (fun q hq=>by injection hq with hq;omega),HQ.out.glt,HQ.out.rge,HQ.out.ne,by
           have h1:=HLEN.out.2
           have h2:=put_len E2 k c
           split at h2 <;> omega⟩,rfl⟩
end
end Go.Proofs.YthjmdgejnakcmaaDoor
