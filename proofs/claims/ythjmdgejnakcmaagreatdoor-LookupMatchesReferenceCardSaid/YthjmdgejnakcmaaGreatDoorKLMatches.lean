/- LookupMatchesReference: the walk. -/
import Derived.Test.YthjmdgejnakcmaaGreatDoorMK8
import Derived.Test.YthjmdgejnakcmaaGreatDoorMK5
set_option linter.unusedVariables false
set_option linter.unusedSimpArgs false
namespace Go.Proofs.YthjmdgejnakcmaaGreatDoor
open Go.RowKit Go.WideShapes Fl
theorem PL {s:ByteArray} (h:s.size≤40) (hk:∀ c∈bts s,97≤c.toNat∧c.toNat≤99):validB (CJ s)=true:=by
 unfold validB
 rw [CB,decide_eq_true h,Bool.true_and,List.all_eq_true]
 intro t ht
 unfold CJ MH at ht
 obtain ⟨c,hc,rfl⟩:=AH.1 ht
 have:=hk c hc
 simp [okS,okC,List.range_succ,this.1]
 omega
theorem JW:∀ P:List UInt8,letsC (MH P) P=some 0
 | []=>FW _
 | c :: P=>by
  show letsC ([⟨c,0⟩] :: MH P) (c :: P)=some 0
  have e1:Dx [⟨c,0⟩] c=some 0:=by simp [Dx]
  simp only [letsC]
  rw [e1,JW P]
  simp
theorem PM (Z:Nat→Int) (n:Nat):∀ c∈bts (JP Z n),97≤c.toNat∧c.toNat≤99:=fun c hc=>by
 rw [Qx] at hc
 unfold L7 at hc
 obtain ⟨i,_,rfl⟩:=AH.1 hc
 exact NK _
theorem KN {R:List Rl} {acc:Int} {L:List Slt} {W:List (List UInt8)} {i:Nat} {l:List (Nat × Nat)} (hk:Es R acc L W i l):l.length≤W.length:=by
 have h:(l.map (·.1)).Nodup:=by unfold List.Nodup;rw [AS];exact hk.sorted.imp fun h=>by omega
 have h2:=nodup_bound W.length _ h fun z hz=>by
  obtain ⟨⟨q,c⟩,hp,rfl⟩:=AH.1 hz
  exact ((hk.mem q c).1 hp).1
 rw [AN] at h2
 exact h2
theorem PN (b len cap k:Nat) (hk:k<len) (w:World) :
  (Instr.indexAt 43 (.slice (some ⟨b,0,none⟩) len cap) (.int .i64 (k:Int))).run Tryz.prog w=.ok (.pointer (some ⟨b,k,none⟩)) w:=by
 have h0:(0:Int)≤(k:Int):=by omega
 have h1:(k:Int)<(len:Int):=by omega
 simp [go_sem,h0,h1]
set_option maxHeartbeats 12800000 in
set_option maxRecDepth 100000 in
theorem
    lookupMatches_view (x:KM) (y:NA) (w:World) (hx:CaseOk w x) (hy:QR w y) (hT:Tab w) :
  Calls Tryz.prog 3 #[x.val,y.val] w fun e w'=>e=.returned (.bool true)∧Below w.heap.size w w':=by
 obtain ⟨⟨M,A,ra,rl,rc,rQ⟩,⟨wa,wl,wc,wQ⟩,⟨la,ll,lc,lZ⟩⟩:=x
 obtain ⟨⟨hM0,hM1,hA0,hA1,hraw⟩,⟨hwr,hwl⟩,⟨hlb,hll⟩⟩:=hx
 simp only at hM0 hM1 hA0 hA1 hraw hwr hwl hlb hll
 have HRA:=A0 hraw;have HWR:=A0 hwr;have HLB:=A0 hlb;have HT:=A0 hT
 clear hraw hwr hlb hT
 simp only [KM.val]
 obtain ⟨ya,yl,yc,yZ⟩:=y
 obtain ⟨hyb,hyl⟩:=hy
 simp only at hyb hyl
 have HYB:=A0 hyb
 clear hyb
 simp only [NA.val]
 go_enter Tryz.func3,Tryz.ntmps3
 go_wp2_with fail
 obtain ⟨w1,hw1⟩:∃ w1,w.alloc (.cells #[.int .u8 M,.int .u8 A,.slice ra rl rc,.slice wa wl wc,.slice la ll lc] 28)=w1:=⟨_,rfl⟩
 rw [hw1]
 have HX1:Hid (Ext w w1):=by show Ext _ _;rw [← hw1];exact (Below.refl _ _).alloc (A3 _) _
 have hbx:w1.heap[w.heap.size]? = some (.cells #[.int .u8 M,.int .u8 A,.slice ra rl rc,.slice wa wl wc,.slice la ll lc] 28 (0,0)):=by rw [← hw1];exact heap_alloc_new _ _
 have HBX:Hid (∀ W,Ext w1 W→W.heap[w.heap.size]? = some (.cells #[.int .u8 M,.int .u8 A,.slice ra rl rc,.slice wa wl wc,.slice la ll lc] 28 (0,0))):=fun W hx=>(Below.block hx _ (A5.1 hbx).1).trans hbx
 clear hw1 hbx
 obtain ⟨gx,hgx⟩:∃ gx,w.heap.size=gx:=⟨_,rfl⟩
 rw [hgx] at HBX ⊢
 clear hgx
 refine (sanity_any w1 (HT.out.later HX1.out)).mono ?_
 rintro e w2 ⟨rfl,hb2⟩
 have HX2:Hid (Ext w1 w2):=hb2
 clear hb2
 obtain ⟨p0,p1,p2,p3,p4⟩:=cells5 (HBX.out w2 HX2.out)
 go_wp2_with fail
 clear p0 p1 p2 p3 p4
 refine (QZ M A ra rl rc rQ w2 hM0 hM1 hA0 hA1 ((HRA.out.later HX1.out (A3 _)).later HX2.out (A3 _))).mono ?_
 rintro e w3 ⟨S,b,cS,rfl,hsafe,hb3⟩
 have HX3:Hid (Ext w1 w3):=Ext.trans HX2.out hb3
 have HSF:=A0 hsafe
 clear hb3 hsafe
 go_upto_region 3 with fail
 obtain ⟨w4,hw4⟩:∃ w4,w3.alloc (.cells #[.int .i64 S.modes,.int .u8 S.acc,.slice b S.rules.length cS] 32)=w4:=⟨_,rfl⟩
 rw [hw4]
 have hx4:Ext w3 w4:=by rw [← hw4];exact (Below.refl _ _).alloc (A3 _) _
 have hsc4:w4.heap[w3.heap.size]? = some (.cells #[.int .i64 S.modes,.int .u8 S.acc,.slice b S.rules.length cS] 32 (0,0)):=by rw [← hw4];exact heap_alloc_new _ _
 have HSC:Hid (∀ W,Ext w4 W→W.heap[w3.heap.size]? = some (.cells #[.int .i64 S.modes,.int .u8 S.acc,.slice b S.rules.length cS] 32 (0,0))):=fun W hx=>(Below.block hx _ (A5.1 hsc4).1).trans hsc4
 have HSM:Hid (∀ W,Ext w4 W→Hy W S b cS):=fun W hx=>((Nx.schM HSF.out).go hx4).go hx
 have HX4:Hid (Ext w1 w4):=Ext.trans HX3.out hx4
 clear hw4 hx4 hsc4
 obtain ⟨gs,hgs⟩:∃ gs,w3.heap.size=gs:=⟨_,rfl⟩
 rw [hgs] at HSC ⊢
 clear hgs
 obtain ⟨p0,p1,p2,p3,p4⟩:=cells5 (HBX.out w4 HX4.out)
 go_wp2_with fail
 clear p0 p1 p2 p3 p4
 refine (dictionary13_any wQ wa wl wc 10 w4 ((HWR.out.later HX1.out (A3 _)).later HX4.out (A3 _)) hwl (by decide)).mono ?_
 rintro e w5 ⟨bd,od,cd,rfl,hsd,hcd,hb5⟩
 have hdd:=R3 wQ wl 10 (by decide)
 have hdl:=SB wQ wl 10 (by decide)
 obtain ⟨Ws,hWs⟩:∃ Ws,H8 wQ wl 10=Ws:=⟨_,rfl⟩
 rw [hWs] at hsd hcd hdd hdl ⊢
 have HSD:Hid (∀ W,Ext w5 W→Ba W (some ⟨bd,od,none⟩) Ws):=fun W hx=>hsd.later hx (A3 _)
 have HDD:=A0 hdd
 have HX5:Hid (Ext w1 w5):=Ext.trans HX4.out hb5
 have H45:Hid (Ext w4 w5):=hb5
 clear hsd hdd hWs hb5
 go_wp2_with fail
 refine (PD Ws Ws.length (some ⟨bd,od,none⟩) cd w5 (HSD.out w5 (Ext.refl _)) rfl hcd HDD.out).mono ?_
 rintro e w6 ⟨aD,cD,rfl,hcD,hdw,hb6⟩
 obtain ⟨nD,hnD⟩:∃ nD,(ofF (Ah 0 Ws)).length=nD:=⟨_,rfl⟩
 rw [hnD] at hcD ⊢
 have HAU:Hid (∀ W,Ext w6 W→GL W aD nD cD Ws):=fun W hx=>⟨HDD.out,hnD.symm,hcD,hdw.later hx (A3 _)⟩
 have HX6:Hid (Ext w1 w6):=Ext.trans HX5.out hb6
 have H46:Hid (Ext w4 w6):=Ext.trans H45.out hb6
 have H56:Hid (Ext w5 w6):=hb6
 clear hdw hnD hb6 hcD
 go_upto_region 4 with fail
 obtain ⟨p0,p1,p2,p3,p4⟩:=cells5 (HBX.out w6 HX6.out)
 go_wp2_with fail
 clear p0 p1 p2 p3 p4
 refine (slots_any lZ la ll lc 5 w6 ((HLB.out.later HX1.out (A3 _)).later HX6.out (A3 _)) hll (by decide)).mono ?_
 rintro e wp ⟨vL,rfl,hsl,hnn,hbp⟩
 obtain ⟨L,gL,cL,rfl,hlk,hL5,hne⟩:=PK HLB.out (Nat.min_le_left _ _) (Nat.min_le_right _ _) hsl hnn
 have HLK:Hid (∀ W,Ext wp W→Ez W (some ⟨gL,0,none⟩) cL L):=fun W hx=>hlk.go hx
 obtain ⟨LL,hrL⟩:=hne
 have HLG:Hid (∀ W,Ext wp W→Cy W 0 (.slice (some ⟨gL,0,none⟩) L.length cL) LL L):=fun W hx=>(hrL.mono (Nat.zero_le _)).later hx (A3 _)
 have HWP:Hid (Ext w wp):=Ext.trans (Ext.trans HX1.out HX6.out) hbp
 have HP4:Hid (Ext w4 wp):=Ext.trans H46.out hbp
 have HP5:Hid (Ext w5 wp):=Ext.trans H56.out hbp
 have HP6:Hid (Ext w6 wp):=hbp
 clear hsl hnn hbp hlk hrL
 go_wp2_with fail
 refine (input_any yZ ya yl yc 5 wp (HYB.out.later HWP.out (A3 _)) hyl (by decide)).mono ?_
 rintro e w7 ⟨rfl,hb7⟩
 have HX7:Hid (Ext wp w7):=hb7
 have hs5:(JP yZ (min yl 5)).size≤5:=by rw [P9];omega
 have HKY:=A0 (PM yZ (min yl 5))
 obtain ⟨s,hs⟩:∃ s,JP yZ (min yl 5)=s:=⟨_,rfl⟩
 rw [hs] at hs5 HKY ⊢
 clear hs hb7
 go_wp2_with fail
 refine (rtyped_any s w7 (by omega)).mono ?_
 rintro e w8 ⟨hp,hb8⟩
 obtain ⟨v8,rfl,a8,c8,rfl,ht8⟩:=IW hp (by omega)
 have HX8:Hid (Ext wp w8):=Ext.trans HX7.out hb8
 have HT8:Hid (∀ W,Ext w8 W→Ez W a8 c8 (CJ s)):=fun W hx=>ht8.go hx
 clear hp ht8 hb8
 go_wp2_with fail
 obtain ⟨w9,hw9⟩:∃ w9,w8.alloc (.cells #[.slice (some ⟨gL,0,none⟩) L.length cL,.slice a8 s.size c8] 39)=w9:=⟨_,rfl⟩
 rw [hw9]
 have HX89:Hid (Ext w8 w9):=by show Ext _ _;rw [← hw9];exact (Below.refl _ _).alloc (A3 _) _
 have HX9:Hid (Ext wp w9):=Ext.trans HX8.out HX89.out
 have hbk:w9.heap[w8.heap.size]? = some (.cells #[.slice (some ⟨gL,0,none⟩) L.length cL,.slice a8 s.size c8] 39 (0,0)):=by rw [← hw9];exact heap_alloc_new _ _
 have HBK:Hid (∀ W,Ext w9 W→W.heap[w8.heap.size]? = some (.cells #[.slice (some ⟨gL,0,none⟩) L.length cL,.slice a8 s.size c8] 39 (0,0))):=fun W hx=>(Below.block hx _ (A5.1 hbk).1).trans hbk
 clear hw9 hbk
 obtain ⟨gB,hgB⟩:∃ gB,w8.heap.size=gB:=⟨_,rfl⟩
 rw [hgB] at HBK ⊢
 clear hgB
 have HCL:Hid (∀ i:Nat,i<2→∀ W,Ext w9 W→∃ (Li:List Slt) (ai:Option Addr) (ci:Nat),W.cell? ⟨gB,i,none⟩=some (.slice ai Li.length ci)∧gB<W.heap.size∧∀ W',Ext W W'→Ez W' ai ci Li):=fun i hi W hx=>by
  have hh:=HBK.out W hx
  have hlt:=(A5.1 hh).1
  have hc:=Ak hh
  have hpW:Ext wp W:=Ext.trans HX9.out hx
  match i,hi with
  | 0,_=>exact ⟨L,_,_,hc.1,hlt,fun W' hx'=>HLK.out W' (Ext.trans hpW hx')⟩
  | 1,_=>exact ⟨CJ s,a8,c8,by rw [CB];exact hc.2,hlt,fun W' hx'=>HT8.out W' (Ext.trans HX89.out (Ext.trans hx hx'))⟩
 refine (GQ s w9 (by omega)).mono ?_
 rintro e w10 ⟨hp,hb10⟩
 obtain ⟨v10,rfl,a10,c10,rfl,ht10⟩:=IW hp (by omega)
 have HX10:Hid (Ext w9 w10):=hb10
 have HT10:Hid (∀ W,Ext w10 W→Ez W a10 c10 (CJ s)):=fun W hx=>ht10.go hx
 clear hp ht10 hb10 HT8 HBK HX7 HX8 HX89
 have hrv:=Bj (CJ s) a10 c10 w10 (HT10.out w10 (Ext.refl _)).s (by rw [CB];omega)
 rw [CB,PL (by omega) HKY.out] at hrv
 have HRV:=A0 hrv
 clear hrv
 go_wp2_with fail
 refine HRV.out.mono ?_
 rintro e w11 ⟨rfl,hb11⟩
 have HX11:Hid (Ext w9 w11):=Ext.trans HX10.out hb11
 have HX1011:Hid (Ext w10 w11):=hb11
 clear hb11 HRV
 go_wp2_with fail
 go_loopg [12] 2 (fun g v12 wr=>∃ i:Nat,v12=.int .i64 (i:Int)∧i≤2∧g=2 - i∧Ext w11 wr)
 case atStart=>exact ⟨0,rfl,Nat.zero_le _,rfl,Ext.refl _⟩
 case round =>
  obtain ⟨i,rfl,hi,hgk,hxr⟩:=hrel
  have HXR:=A0 hxr;have HGK:=A0 hgk
  clear hxr hgk
  by_cases hik:i<2
  ·
   have hikI
        :
         (i:Int)<2:=by omega
   obtain ⟨Li,ai,ci,hcl,hgl,hlk⟩:=HCL.out i hik wr (Ext.trans HX11.out HXR.out)
   have HC:=A0 hcl;have HGL:=A0 hgl;have HLI:=A0 hlk
   have HIX:=A0 (PN gB 2 2 i hik)
   obtain ⟨wo,hwo⟩:∃ wo:World,wo=wr:=⟨wr,rfl⟩
   subst hwo
   have HLL:Hid (Li.length≤40):=(HLI.out wo (Ext.refl _)).len
   clear hcl hgl hlk
   go_wp2_with fail
   refine Am (by kernel_rfl) (Vs [vq (.agg #[.int .i64 S.modes,.int .u8 S.acc,.slice b S.rules.length cS]),vq (.slice aD nD cD),vq (.slice (some ⟨gB,0,none⟩) 2 2),vq (.int .i64 (i:Int)),vq (.pointer (some ⟨gB,i,none⟩)),vq (.slice ai Li.length ci),EnS S.rules S.acc Li (Ws.map bts),EnS S.rules S.acc Li (Ws.map bts)]) (Xs []) (fun fL=>(fun W=>Ext wo W) ) [0,0,0,0,12,28,63,127] 108 8 (by kernel_rfl) rfl ?hV ?hS ?hop ?hfin ?hlast
   case hV =>
    refine Ay (Ac (by simp only [AU,List.not_mem_nil,or_false,forall_eq_or_imp,forall_eq];exact ⟨AY _,AY _,AY _,AY _,AY _,AY _,Dt _ _ _ _,Dt _ _ _ _⟩)) ?_
    exact trivial
   case hS =>
    intro fL hf
    show (fun W=>Ext wo W)  _
    first | exact Ext.refl _ | exact Bl _
   case hop =>
    refine ⟨?_,?_,?_,?_,?_,?_,?c6,?c7,trivial⟩
    all_goals first | rw [if_neg (by decide)] | rw [if_pos (by decide)]
    all_goals try intro ac W fL hsz hfi hms hdn hS0 hdep hbase hund
    all_goals try have hS:(fun W=>Ext wo W)  W:=hS0
    all_goals try (
     have hxo:Ext wo W:=hS
     have hxp:Ext wp W:=Ext.trans HX9.out (Ext.trans HX11.out (Ext.trans HXR.out hxo))
     obtain ⟨d0,d1,d2⟩:=DM (HSC.out W (Ext.trans HP4.out hxp))
     have q0:=(Below.cell hxo (p:=⟨gB,i,none⟩) HGL.out).trans HC.out
     have hix:=HIX.out)
    all_goals try have hh6:=gdA ac 6 (.pointer (some ⟨gs,0,none⟩)) (hbase 6 (by kernel_rfl))
    all_goals try have hh7:=gdA ac 7 (.slice aD nD cD) (hbase 7 (by kernel_rfl))
    all_goals try have hh10:=gdA ac 10 (.slice (some ⟨gB,0,none⟩) 2 2) (hbase 10 (by kernel_rfl))
    all_goals try have hh12:=gdA ac 12 (.int .i64 (i:Int)) (hbase 12 (by kernel_rfl))
    all_goals try have d55:(EnS S.rules S.acc Li (Ws.map bts)) (ac.tmps.getD 55 undef) W:=hdep 6 (by decide)
    all_goals try (have hdep:=DS hdep;simp [D1,Aa,vq] at hdep)
    all_goals try clear hbase hms hdn hund
    case c6 =>
     have hS1:(fun W=>Ext wo W)  W:=hS0
     refine AZ rfl (.inr ⟨18,#[.agg #[.int .i64 S.modes,.int .u8 S.acc,.slice b S.rules.length cS],.slice aD nD cD,.slice ai Li.length ci],W,by (clear hsz hS hS0 hS1 hfi hxo hxp;simp [go_sem,Act.eval, *]),?_⟩)
     refine (R4 (HSM.out W (Ext.trans HP4.out hxp)) (HAU.out W (Ext.trans HP6.out hxp)) (by omega) (HLI.out W hxo)).mono ?_
     rintro e w' hp
     obtain ⟨v,rfl,hv,hb⟩:=NQ hp
     exact ⟨_,rfl,⟨hv,hb,Ext.trans hS0 hb⟩⟩
    case c7 =>
     have hS1:(fun W=>Ext wo W)  W:=hS0
     refine AZ rfl (.inl ⟨_,W,?_,d55,Ext.refl _,hS1⟩)
     clear hsz hS hS0 hS1 hfi hxo hxp;simp [go_sem,Act.eval, *]
    all_goals (refine AZ rfl (.inl ⟨_,W,?_,rfl,Ext.refl _,hS0⟩);clear hsz hS hS0 hfi;simp [go_sem,Act.eval, *];done)
   case hlast =>
    intro h;exact absurd rfl h
   case hfin
        =>
    intro _ ac W hsz hdf fL hf hS0 hv hbase
    have hS:(fun W=>Ext wo W)  W:=hS0
    clear hS0
    obtain ⟨sx,hsx,hsA⟩:=Af [49,50,51,52,53,54,55,13] (by kernel_rfl) hsz hdf hbase
    have hp13:EnS S.rules S.acc Li (Ws.map bts) (ac.tmps.getD 13 undef) W:=hv 7 (by decide)
    obtain ⟨g13,Ls13,e13v,hen13⟩:=hp13
    have e13:sx 13=.slice (some ⟨g13,0,none⟩) (Li.length+1) (Li.length+1):=(hsx 13).trans e13v
    have HE13:=A0 hen13
    clear e13v hen13
    rw [hsA]
    simp only [List.foldl]
    simp only [Act.put,List.setIfInBounds_toArray,List.set_cons_succ,List.set_cons_zero]
    clear hsA hsx hv hbase hsz hdf hf
    have HX13:Hid (Ext wo W):=hS
    rw [e13]
    obtain ⟨w13,hw13⟩:∃ w13:World,w13=W:=⟨W,rfl⟩
    rw [← hw13] at HX13 HE13 ⊢
    clear hS hw13 e13
    go_wp2_with fail
    refine Am (by kernel_rfl) (Vs [vq (.agg #[.int .i64 S.modes,.int .u8 S.acc,.slice b S.rules.length cS]),vq (.slice aD nD cD),vq (.slice (some ⟨gB,0,none⟩) 2 2),vq (.int .i64 (i:Int)),vq (.pointer (some ⟨gB,i,none⟩)),vq (.slice ai Li.length ci),EnS S.rules S.acc Li (Ws.map bts),EnS S.rules S.acc Li (Ws.map bts)]) (Xs []) (fun fL=>(fun W=>Ext w13 W) ) [0,0,0,0,12,28,63,127] 108 8 (by kernel_rfl) rfl ?hV ?hS ?hop ?hfin ?hlast
    case hV =>
     refine Ay (Ac (by simp only [AU,List.not_mem_nil,or_false,forall_eq_or_imp,forall_eq];exact ⟨AY _,AY _,AY _,AY _,AY _,AY _,Dt _ _ _ _,Dt _ _ _ _⟩)) ?_
     exact trivial
    case hS =>
     intro fL hf
     show (fun W=>Ext w13 W)  _
     first | exact Ext.refl _ | exact Bl _
    case hop =>
     refine ⟨?_,?_,?_,?_,?_,?_,?c6,?c7,trivial⟩
     all_goals first | rw [if_neg (by decide)] | rw [if_pos (by decide)]
     all_goals try intro ac W fL hsz hfi hms hdn hS0 hdep hbase hund
     all_goals try have hS:(fun W=>Ext w13 W)  W:=hS0
     all_goals try (
      have hxo:Ext wo W:=Ext.trans HX13.out hS
      have hxp:Ext wp W:=Ext.trans HX9.out (Ext.trans HX11.out (Ext.trans HXR.out hxo))
      obtain ⟨d0,d1,d2⟩:=DM (HSC.out W (Ext.trans HP4.out hxp))
      have q0:=(Below.cell hxo (p:=⟨gB,i,none⟩) HGL.out).trans HC.out
      have hix:=HIX.out)
     all_goals try have hh6:=gdA ac 6 (.pointer (some ⟨gs,0,none⟩)) (hbase 6 (by kernel_rfl))
     all_goals try have hh7:=gdA ac 7 (.slice aD nD cD) (hbase 7 (by kernel_rfl))
     all_goals try have hh10:=gdA ac 10 (.slice (some ⟨gB,0,none⟩) 2 2) (hbase 10 (by kernel_rfl))
     all_goals try have hh12:=gdA ac 12 (.int .i64 (i:Int)) (hbase 12 (by kernel_rfl))
     all_goals try have d62:(EnS S.rules S.acc Li (Ws.map bts)) (ac.tmps.getD 62 undef) W:=hdep 6 (by decide)
     all_goals try (have hdep:=DS hdep;simp [D1,Aa,vq] at hdep)
     all_goals try clear hbase hms hdn hund
     case c6 =>
      have hS1:(fun W=>Ext w13 W)  W:=hS0
      refine AZ rfl (.inr ⟨19,#[.agg #[.int .i64 S.modes,.int .u8 S.acc,.slice b S.rules.length cS],.slice aD nD cD,.slice ai Li.length ci],W,by (clear hsz hS hS0 hS1 hfi hxo hxp;simp [go_sem,Act.eval, *]),?_⟩)
      refine (SF (HSM.out W (Ext.trans HP4.out hxp)) (HAU.out W (Ext.trans HP6.out hxp)) (by omega) (HLI.out W hxo)).mono ?_
      rintro e w' hp
      obtain ⟨v,rfl,hv,hb⟩:=NQ hp
      exact ⟨_,rfl,⟨hv,hb,Ext.trans hS0 hb⟩⟩
     case c7 =>
      have hS1:(fun W=>Ext w13 W)  W:=hS0
      refine AZ rfl (.inl ⟨_,W,?_,d62,Ext.refl _,hS1⟩)
      clear hsz hS hS0 hS1 hfi hxo hxp;simp [go_sem,Act.eval, *]
     all_goals (refine AZ rfl (.inl ⟨_,W,?_,rfl,Ext.refl _,hS0⟩);clear hsz hS hS0 hfi;simp [go_sem,Act.eval, *];done)
    case hlast =>
     intro h;exact absurd rfl h
    case hfin
         =>
     intro _ ac W hsz hdf fL hf hS0 hv hbase
     have hS:(fun W=>Ext w13 W)  W:=hS0
     clear hS0
     obtain ⟨sx,hsx,hsA⟩:=Af [56,57,58,59,60,61,62,14] (by kernel_rfl) hsz hdf hbase
     have hp14:EnS S.rules S.acc Li (Ws.map bts) (ac.tmps.getD 14 undef) W:=hv 7 (by decide)
     obtain ⟨g14,Ls14,e14v,hen14⟩:=hp14
     have e14:sx 14=.slice (some ⟨g14,0,none⟩) (Li.length+1) (Li.length+1):=(hsx 14).trans e14v
     have HE14:=A0 hen14
     clear e14v hen14
     rw [hsA]
     simp only [List.foldl]
     simp only [Act.put,List.setIfInBounds_toArray,List.set_cons_succ,List.set_cons_zero]
     clear hsA hsx hv hbase hsz hdf hf
     have HX14:Hid (Ext w13 W):=hS
     rw [e14]
     obtain ⟨w14,hw14⟩:∃ w14:World,w14=W:=⟨W,rfl⟩
     rw [← hw14] at HX14 HE14 ⊢
     clear hS hw14 e14
     obtain ⟨x4,y4,l4,hc4,hf4,hk4,hi4⟩:=HE14.out.at (k:=Li.length) (Nat.lt_succ_self _)
     have hg14:g14<w14.heap.size:=HE14.out.own.lt _ rfl
     have HC4:=A0 hc4;have HF4:=A0 hf4;have HK4:=A0 hk4;have HI4:=A0 hi4;have HG14:=A0 hg14
     have hl4:l4.length≤1000:=by
      have h2:=KN hk4.toEs
      rw [AN] at h2
      omega
     clear hc4 hf4 hk4 hi4 hg14
     go_wp2_with fail
     refine Am (by kernel_rfl) (Vs [vq (.slice (some ⟨g13,0,none⟩) (Li.length+1) (Li.length+1)),vq (.int .i64 ((Li.length:Int)+1)),vq (.slice (some ⟨g14,0,none⟩) (Li.length+1) (Li.length+1)),vq (.int .i64 ((Li.length:Int)+1)),vq (.bool false),vq (.bool false),vq (.agg #[.int .i64 S.modes,.int .u8 S.acc,.slice b S.rules.length cS]),vq (.slice aD nD cD),vq (.slice (some ⟨gB,0,none⟩) 2 2),vq (.int .i64 (i:Int)),vq (.pointer (some ⟨gB,i,none⟩)),vq (.slice ai Li.length ci),FnS S.rules S.acc Li (Ws.map bts) Li.length,vq (.slice (some ⟨g14,0,none⟩) (Li.length+1) (Li.length+1)),vq (.slice (some ⟨g14,0,none⟩) (Li.length+1) (Li.length+1)),vq (.int .i64 ((Li.length:Int)+1)),vq (.int .i64 (Li.length:Int)),vq (.pointer (some ⟨g14,Li.length,none⟩)),vq (.slice x4 l4.length y4),vq (.bool true),vq (.bool false),vq (.bool false)]) (Xs []) (fun fL=>(fun W=>Ext w14 W) ) [0,1,0,4,15,31,63,63,63,63,831,1855,4095,63,63,16447,49215,122943,254015,524287,1048575,2097151] 108 22 (by kernel_rfl) rfl ?hV ?hS ?hop ?hfin ?hlast
     case hV =>
      refine Ay (Ac (by simp only [AU,List.not_mem_nil,or_false,forall_eq_or_imp,forall_eq];exact ⟨AY _,AY _,AY _,AY _,AY _,AY _,AY _,AY _,AY _,AY _,AY _,AY _,Hz _ _ _ _ _,AY _,AY _,AY _,AY _,AY _,AY _,AY _,AY _,AY _⟩)) ?_
      exact trivial
     case hS =>
      intro fL hf
      show (fun W=>Ext w14 W)  _
      first | exact Ext.refl _ | exact Bl _
     case hop =>
      refine ⟨?_,?_,?_,?_,?_,?_,?_,?_,?_,?_,?_,?_,?c12,?_,?_,?_,?_,?_,?_,?c19,?_,?_,trivial⟩
      all_goals first | rw [if_neg (by decide)] | rw [if_pos (by decide)]
      all_goals try intro ac W fL hsz hfi hms hdn hS0 hdep hbase hund
      all_goals try have hS:(fun W=>Ext w14 W)  W:=hS0
      all_goals try (
       have hxo:Ext wo W:=Ext.trans HX13.out (Ext.trans HX14.out hS)
       have hxp:Ext wp W:=Ext.trans HX9.out (Ext.trans HX11.out (Ext.trans HXR.out hxo))
       obtain ⟨d0,d1,d2⟩:=DM (HSC.out W (Ext.trans HP4.out hxp))
       have q0:=(Below.cell hxo (p:=⟨gB,i,none⟩) HGL.out).trans HC.out
       have hix:=HIX.out
       have hw3:Ext w14 W:=hS
       have q4:W.cell? ⟨g14,Li.length,none⟩=some (.slice x4 l4.length y4):=(Below.cell hS (p:=⟨g14,Li.length,none⟩) HG14.out).trans HC4.out
       have i4:=HI4.out
       have hll40:=HLL.out
       have hwr1:IntKind.i64.wrap (Li.length:Int)=(Li.length:Int):=IntWalk.i64_in _ (by omega)
       clear hll40)
      all_goals try have hh6:=gdA ac 6 (.pointer (some ⟨gs,0,none⟩)) (hbase 6 (by kernel_rfl))
      all_goals try have hh7:=gdA ac 7 (.slice aD nD cD) (hbase 7 (by kernel_rfl))
      all_goals try have hh10:=gdA ac 10 (.slice (some ⟨gB,0,none⟩) 2 2) (hbase 10 (by kernel_rfl))
      all_goals try have hh12:=gdA ac 12 (.int .i64 (i:Int)) (hbase 12 (by kernel_rfl))
      all_goals try have hh13:=gdA ac 13 (.slice (some ⟨g13,0,none⟩) (Li.length+1) (Li.length+1)) (hbase 13 (by kernel_rfl))
      all_goals try have hh14:=gdA ac 14 (.slice (some ⟨g14,0,none⟩) (Li.length+1) (Li.length+1)) (hbase 14 (by kernel_rfl))
      all_goals try have d75:(FnS S.rules S.acc Li (Ws.map bts) Li.length) (ac.tmps.getD 75 undef) W:=hdep 12 (by decide)
      all_goals try (have hdep:=DS hdep;simp [D1,Aa,vq] at hdep)
      all_goals try clear hbase hms hdn hund
      case c12 =>
       have hS1:(fun W=>Ext w14 W)  W:=hS0
       refine Ad (j:=5) (d:=68) (b:=false) rfl (by kernel_rfl) (by simp only [hdep]) rfl (.inr ⟨21,#[.agg #[.int .i64 S.modes,.int .u8 S.acc,.slice b S.rules.length cS],.slice aD nD cD,.slice ai Li.length ci],W,by (clear hsz hS hS0 hS1 hfi hxo hxp hw3;simp [go_sem,Act.eval, *]),?_⟩)
       refine (L9 (HSM.out W (Ext.trans HP4.out hxp)) (HAU.out W (Ext.trans HP6.out hxp)) (by omega) (HLI.out W hxo)).mono ?_
       rintro e w' hp
       obtain ⟨v,rfl,hv,hb⟩:=NP hp
       exact ⟨_,rfl,⟨hv,hb,Ext.trans hS0 hb⟩⟩
      case c19 =>
       have hS1:(fun W=>Ext w14 W)  W:=hS0
       obtain ⟨x5,y5,l5,e5,hf5,hk5, -⟩:=d75
       rw [A4] at e5
       obtain rfl:l4=l5:=HK4.out.uniq hk5.toEs fun w _ c=>Iff.rfl
       refine Ad (j:=5) (d:=68) (b:=false) rfl (by kernel_rfl) (by simp only [hdep]) rfl (.inr ⟨20,#[.slice x5 l4.length y5,.slice x4 l4.length y4],W,by (clear hsz hS hS0 hS1 hfi hxo hxp hw3 hf5 hk5;simp [go_sem,Act.eval, *]),?_⟩)
       refine (fsame_any l4 l4 x5 x4 y5 y4 W hf5 (HF4.out.kp (Kc.of hS (A3 _))) (by omega) (by omega)).mono ?_
       rw [decide_eq_true (rfl:l4=l4)]
       rintro e w' ⟨rfl,hb⟩
       exact ⟨_,rfl,⟨rfl,hb,Ext.trans hS0 hb⟩⟩
      all_goals try (refine Ad (j:=5) (d:=68) (b:=false) rfl (by kernel_rfl) (by simp only [hdep]) rfl (.inl ⟨_,W,?_,rfl,Ext.refl _,hS0⟩);clear hsz hS hS0 hfi;simp [go_sem,Act.eval, *];done)
      all_goals (refine AZ rfl (.inl ⟨_,W,?_,rfl,Ext.refl _,hS0⟩);clear hsz hS hS0 hfi;simp [go_sem,Act.eval, *];done)
     case hlast =>
      intro h;exact absurd rfl h
     case hfin
          =>
      intro _ ac W hsz hdf fL hf hS0 hv hbase
      have hS:(fun W=>Ext w14 W)  W:=hS0
      clear hS0
      obtain ⟨sx,hsx,hsA⟩:=Af [63,64,65,66,67,68,69,70,71,72,73,74,75,76,77,78,79,80,81,82,83,84] (by kernel_rfl) hsz hdf hbase
      have e84:sx 84=.bool false:=(hsx 84).trans (hv 21 (by decide))
      rw [hsA]
      simp only [List.foldl]
      rw [e84]
      clear e84
      simp only [Act.put,List.setIfInBounds_toArray,List.set_cons_succ,List.set_cons_zero]
      clear hsA hsx hv hbase hsz hdf hf
      have HX15:Hid (Ext w14 W):=hS
      obtain ⟨w15,hw15⟩:∃ w15:World,w15=W:=⟨W,rfl⟩
      rw [← hw15] at HX15 ⊢
      clear hS hw15
      go_wp2_with fail
      have HE13b:Hid (∀ W,Ext w15 W→EnR S.rules S.acc Li (Ws.map bts) g13 Ls13 W):=fun W hx=>(HE13.out.go (Ext.trans HX14.out HX15.out)).go hx
      have HE14b:Hid (∀ W,Ext w15 W→EnR S.rules S.acc Li (Ws.map bts) g14 Ls14 W):=fun W hx=>(HE14.out.go HX15.out).go hx
      have HXO:Hid (Ext w11 w15):=Ext.trans HXR.out (Ext.trans HX13.out (Ext.trans HX14.out HX15.out))
      clear HE13 HE14 HC HIX HGL HX13 HX14 HX15
      go_loopg [15] (Li.length+1) (fun g v15 wr=>∃ k:Nat,v15=.int .i64 (k:Int)∧k≤Li.length+1∧g=Li.length+1 - k∧Ext w15 wr)
      case atStart=>exact ⟨0,rfl,Nat.zero_le _,rfl,Ext.refl _⟩
      case round =>
       obtain ⟨k,rfl,hk,hgk2,hxr2⟩:=hrel
       have HXR2:=A0 hxr2;have HGK2:=A0 hgk2
       clear hxr2 hgk2
       have hk41:k≤41:=by have:=HLL.out;omega
       by_cases hkk:k<Li.length+1
       ·
        have hkI:(k:Int)<(Li.length:Int)+1:=by omega
        obtain ⟨x3,y3,l3,hc3,hf3,hk3,hi3⟩:=(HE13b.out wr HXR2.out).at hkk
        obtain ⟨x4,y4,l4,hc4,hf4,hk4,hi4⟩:=(HE14b.out wr HXR2.out).at hkk
        obtain rfl:l3=l4:=hk3.uniq hk4.toEs fun w _ c=>Iff.rfl
        have hg13:g13<wr.heap.size:=(HE13b.out wr HXR2.out).own.lt _ rfl
        have hg14:g14<wr.heap.size:=(HE14b.out wr HXR2.out).own.lt _ rfl
        have hll:l3.length≤1000:=by
         have h2:=KN hk3.toEs
         rw [AN] at h2
         omega
        have HC3:=A0 hc3;have HF3:=A0 hf3;have HI3:=A0 hi3
        have HC4:=A0 hc4;have HF4:=A0 hf4;have HI4:=A0 hi4
        have HG13:=A0 hg13;have HG14:=A0 hg14
        obtain ⟨wq,hwq⟩:∃ wq:World,wq=wr:=⟨wr,rfl⟩
        subst hwq
        clear hc3 hf3 hk3 hi3 hc4 hf4 hk4 hi4 hg13 hg14
        go_wp2_with fail
        refine Am (by kernel_rfl) (Vs [vq (.slice (some ⟨g13,0,none⟩) (Li.length+1) (Li.length+1)),vq (.int .i64 (k:Int)),vq (.pointer (some ⟨g13,k,none⟩)),vq (.slice x3 l3.length y3),vq (.slice (some ⟨g14,0,none⟩) (Li.length+1) (Li.length+1)),vq (.int .i64 (k:Int)),vq (.pointer (some ⟨g14,k,none⟩)),vq (.slice x4 l3.length y4),vq (.bool true),vq (.bool false)]) (Xs []) (fun fL=>(fun W=>Ext wq W) ) [0,0,3,7,0,0,48,112,255,511] 108 10 (by kernel_rfl) rfl ?hV ?hS ?hop ?hfin ?hlast
        case hV =>
         refine Ay (Ac (by simp only [AU,List.not_mem_nil,or_false,forall_eq_or_imp,forall_eq];and_intros <;> exact AY _)) ?_
         exact trivial
        case hS =>
         intro fL hf
         show (fun W=>Ext wq W)  _
         first | exact Ext.refl _ | exact Bl _
        case hop =>
         refine ⟨?_,?_,?_,?_,?_,?_,?_,?_,?c8,?_,trivial⟩
         all_goals first | rw [if_neg (by decide)] | rw [if_pos (by decide)]
         all_goals try intro ac W fL hsz hfi hms hdn hS0 hdep hbase hund
         all_goals try have hS:(fun W=>Ext wq W)  W:=hS0
         all_goals try (
          have hxo:Ext wq W:=hS
          have hxp:=hxo
          have q3:W.cell? ⟨g13,k,none⟩=some (.slice x3 l3.length y3):=(Below.cell hS (p:=⟨g13,k,none⟩) HG13.out).trans HC3.out
          have q4:W.cell? ⟨g14,k,none⟩=some (.slice x4 l3.length y4):=(Below.cell hS (p:=⟨g14,k,none⟩) HG14.out).trans HC4.out
          have i3:=HI3.out;have i4:=HI4.out)
         all_goals try have hh13:=gdA ac 13 (.slice (some ⟨g13,0,none⟩) (Li.length+1) (Li.length+1)) (hbase 13 (by kernel_rfl))
         all_goals try have hh14:=gdA ac 14 (.slice (some ⟨g14,0,none⟩) (Li.length+1) (Li.length+1)) (hbase 14 (by kernel_rfl))
         all_goals try have hh15:=gdA ac 15 (.int .i64 (k:Int)) (hbase 15 (by kernel_rfl))
         all_goals try (have hdep:=DS hdep;simp [D1,Aa,vq] at hdep)
         all_goals try clear hbase hms hdn hund
         case c8 =>
          have hS1:(fun W=>Ext wq W)  W:=hS0
          refine AZ rfl (.inr ⟨20,#[.slice x3 l3.length y3,.slice x4 l3.length y4],W,by (clear hsz hS hS0 hS1 hfi hxo hxp;simp [go_sem,Act.eval, *]),?_⟩)
          refine (fsame_any l3 l3 x3 x4 y3 y4 W (HF3.out.kp (Kc.of hS (A3 _))) (HF4.out.kp (Kc.of hS (A3 _))) (by omega) (by omega)).mono ?_
          rw [decide_eq_true (rfl:l3=l3)]
          rintro e w' ⟨rfl,hb⟩
          exact ⟨_,rfl,⟨rfl,hb,Ext.trans hS0 hb⟩⟩
         all_goals (refine AZ rfl (.inl ⟨_,W,?_,rfl,Ext.refl _,hS0⟩);clear hsz hS hS0 hfi;simp [go_sem,Act.eval, *];done)
        case hlast =>
         intro h;exact absurd rfl h
        case hfin =>
         intro _ ac W hsz hdf fL hf hS0 hv hbase
         have hS:(fun W=>Ext wq W)  W:=hS0
         clear hS0
         obtain ⟨sx,hsx,hsA⟩:=Af [91,92,93,94,95,96,97,98,99,100] (by kernel_rfl) hsz hdf hbase
         have e100:sx 100=.bool false:=(hsx 100).trans (hv 9 (by decide))
         rw [hsA]
         simp only [List.foldl]
         rw [e100]
         clear e100
         simp only [Act.put,List.setIfInBounds_toArray,List.set_cons_succ,List.set_cons_zero]
         clear hsA hsx hv hbase hsz hdf hf
         have HS20:Hid (Ext wq W):=hS
         clear hS
         go_wp2_with fail
         go_roundg (Li.length+1 - (k+1))
         case measure=>have:=HGK2.out;omega
         case rel=>exact ⟨k+1,by go_num,by omega,rfl,Ext.trans HXR2.out HS20.out⟩
       ·
        obtain rfl:k=Li.length+1:=by omega
        have hkI:¬ ((Li.length:Int)+1<(Li.length:Int)+1):=by omega
        go_wp2_with fail
        go_roundg (2 - (i+1))
        case measure=>have:=HGK.out;omega
        case rel=>exact ⟨i+1,by go_num,by omega,rfl,Ext.trans HXO.out HXR2.out⟩
  ·
   obtain rfl:i=2:=by omega
   have hLR:=letters_ref_any 300 (CJ s) s a10 c10 wr (HT10.out wr (Ext.trans HX1011.out HXR.out)).s (by rw [CB];omega) (MR s) (by decide) (MS s) (by omega)
   rw [CB,show letsC (CJ s) (bts s)=some 0 from JW (bts s)] at hLR
   have HLR:=A0 hLR
   clear hLR
   go_wp2_with fail
   refine HLR.out.mono ?_
   rintro e w12 ⟨rfl,hb12⟩
   have HX12:Hid (Ext wr w12):=hb12
   have hco:Da (some 0)=0:=rfl
   rw [hco]
   clear hb12 hco
   go_wp2_with fail
   go_ret
   exact ⟨rfl,Ext.trans HWP.out (Ext.trans HX9.out (Ext.trans HX11.out (Ext.trans HXR.out HX12.out)))⟩
end Go.Proofs.YthjmdgejnakcmaaGreatDoor
