/- LookupBeginnings: the walk. -/
import Derived.Test.YthjmdgejnakcmaaGreatDoorMK7
namespace Go.Proofs.YthjmdgejnakcmaaGreatDoor
open Go.RowKit Go.WideShapes Fl
set_option linter.unusedVariables false
set_option linter.unusedSimpArgs false
theorem tmod_nat (z:Int) (n:Nat) (h:0≤z) (hn:0<n):∃ k:Nat,z.tmod (n:Int)=(k:Int)∧k<n∧((n:Int) == 0)=false:=by
 obtain ⟨m,rfl⟩:=Int.eq_ofNat_of_zero_le h
 refine ⟨m % n,by rw [Int.tmod_eq_emod_of_nonneg h];exact (Int.natCast_emod m n).symm,Nat.mod_lt _ hn,?_⟩
 rw [beq_eq_false_iff_ne];omega
theorem slt_app {L M:List Slt} (h:SltF L) (h2:SltF M):(∀ s∈L ++ M,∀ h∈s,0≤h.cost∧h.cost≤11)∧DisL (L ++ M):=by
 refine ⟨fun s hs=>?_,fun s hs=>?_⟩
 ·
  rcases List.mem_append.1 hs with hs | hs
  · exact h.bnd s hs
  · exact h2.bnd s hs
 ·
  rcases List.mem_append.1 hs with hs | hs
  · exact h.dis s hs
  · exact h2.dis s hs
set_option maxHeartbeats 12800000 in
set_option maxRecDepth 100000 in
theorem
    lookupBeginnings_view (x:CaseA) (y:BytA) (kn:Int) (w:World) (hx:CaseOk w x) (hy:BytOk w y) (k0:0≤kn) (k1:kn≤255) (hT:Tab w) :
  Calls Tryz.prog 7 #[x.val,y.val,.int .u8 kn] w fun e w'=>e=.returned (.bool true)∧Below w.heap.size w w':=by
 obtain ⟨⟨M,A,ra,rl,rc,rQ⟩,⟨wa,wl,wc,wQ⟩,⟨la,ll,lc,lZ⟩⟩:=x
 obtain ⟨⟨hM0,hM1,hA0,hA1,hraw⟩,⟨hwr,hwl⟩,⟨hlb,hll⟩⟩:=hx
 simp only at hM0 hM1 hA0 hA1 hraw hwr hwl hlb hll
 have HRA:=Lib.hid hraw;have HWR:=Lib.hid hwr;have HLB:=Lib.hid hlb;have HT:=Lib.hid hT
 clear hraw hwr hlb hT
 simp only [CaseA.val]
 obtain ⟨ya,yl,yc,yZ⟩:=y
 obtain ⟨hyb,hyl⟩:=hy
 simp only at hyb hyl
 have HYB:=Lib.hid hyb
 clear hyb
 simp only [BytA.val]
 go_enter Tryz.func7,Tryz.ntmps7
 go_wp2_with fail
 obtain ⟨w1,hw1⟩:∃ w1,w.alloc (.cells #[.int .u8 M,.int .u8 A,.slice ra rl rc,.slice wa wl wc,.slice la ll lc] 28)=w1:=⟨_,rfl⟩
 rw [hw1]
 have HX1:Hid (Ext w w1):=by show Ext _ _;rw [← hw1];exact (Below.refl _ _).alloc (Nat.le_refl _) _
 have hbx:w1.heap[w.heap.size]? = some (.cells #[.int .u8 M,.int .u8 A,.slice ra rl rc,.slice wa wl wc,.slice la ll lc] 28 (0,0)):=by rw [← hw1];exact heap_alloc_new _ _
 have HBX:Hid (∀ W,Ext w1 W→W.heap[w.heap.size]? = some (.cells #[.int .u8 M,.int .u8 A,.slice ra rl rc,.slice wa wl wc,.slice la ll lc] 28 (0,0))):=fun W hx=>(Below.block hx _ (Array.getElem?_eq_some_iff.1 hbx).1).trans hbx
 clear hw1 hbx
 obtain ⟨gx,hgx⟩:∃ gx,w.heap.size=gx:=⟨_,rfl⟩
 rw [hgx] at HBX ⊢
 clear hgx
 refine (sanity_any w1 (HT.out.later HX1.out)).mono ?_
 rintro e w2 ⟨rfl,hb2⟩
 have HX2:Hid (Ext w1 w2):=hb2
 clear hb2
 obtain ⟨p0,p1,p2,p3,p4⟩:=cells5 (HBX.out w2 HX2.out)
 go_wp2_with fail
 clear p0 p1 p2 p3 p4
 refine (safe_any M A ra rl rc rQ w2 hM0 hM1 hA0 hA1 ((HRA.out.later HX1.out (Nat.le_refl _)).later HX2.out (Nat.le_refl _))).mono ?_
 rintro e w3 ⟨S,b,cS,rfl,hsafe,hb3⟩
 have HX3:Hid (Ext w1 w3):=Ext.trans HX2.out hb3
 have HSF:=Lib.hid hsafe
 clear hb3 hsafe
 go_upto_region 3 with fail
 obtain ⟨w4,hw4⟩:∃ w4,w3.alloc (.cells #[.int .i64 S.modes,.int .u8 S.acc,.slice b S.rules.length cS] 32)=w4:=⟨_,rfl⟩
 rw [hw4]
 have hx4:Ext w3 w4:=by rw [← hw4];exact (Below.refl _ _).alloc (Nat.le_refl _) _
 have hsc4:w4.heap[w3.heap.size]? = some (.cells #[.int .i64 S.modes,.int .u8 S.acc,.slice b S.rules.length cS] 32 (0,0)):=by rw [← hw4];exact heap_alloc_new _ _
 have HSC:Hid (∀ W,Ext w4 W→W.heap[w3.heap.size]? = some (.cells #[.int .i64 S.modes,.int .u8 S.acc,.slice b S.rules.length cS] 32 (0,0))):=fun W hx=>(Below.block hx _ (Array.getElem?_eq_some_iff.1 hsc4).1).trans hsc4
 have HSM:Hid (∀ W,Ext w4 W→SchM W S b cS):=fun W hx=>((SafeS.schM HSF.out).go hx4).go hx
 have HX4:Hid (Ext w1 w4):=Ext.trans HX3.out hx4
 clear hw4 hx4 hsc4
 obtain ⟨gs,hgs⟩:∃ gs,w3.heap.size=gs:=⟨_,rfl⟩
 rw [hgs] at HSC ⊢
 clear hgs
 obtain ⟨p0,p1,p2,p3,p4⟩:=cells5 (HBX.out w4 HX4.out)
 go_wp2_with fail
 clear p0 p1 p2 p3 p4
 refine (dictionary13_any wQ wa wl wc 10 w4 ((HWR.out.later HX1.out (Nat.le_refl _)).later HX4.out (Nat.le_refl _)) hwl (by decide)).mono ?_
 rintro e w5 ⟨bd,od,cd,rfl,hsd,hcd,hb5⟩
 have hdd:=dic_dict wQ wl 10 (by decide)
 have hdl:=dic_len wQ wl 10 (by decide)
 obtain ⟨Ws,hWs⟩:∃ Ws,dicF wQ wl 10=Ws:=⟨_,rfl⟩
 rw [hWs] at hsd hcd hdd hdl ⊢
 have HSD:Hid (∀ W,Ext w5 W→StrS W (some ⟨bd,od,none⟩) Ws):=fun W hx=>hsd.later hx (Nat.le_refl _)
 have HDD:=Lib.hid hdd
 have HX5:Hid (Ext w1 w5):=Ext.trans HX4.out hb5
 have H45:Hid (Ext w4 w5):=hb5
 clear hsd hdd hWs hb5
 go_wp2_with fail
 refine (built_any Ws Ws.length (some ⟨bd,od,none⟩) cd w5 (HSD.out w5 (Ext.refl _)) rfl hcd HDD.out).mono ?_
 rintro e w6 ⟨aD,cD,rfl,hcD,hdw,hb6⟩
 obtain ⟨nD,hnD⟩:∃ nD,(ofF (restAt 0 Ws)).length=nD:=⟨_,rfl⟩
 rw [hnD] at hcD ⊢
 have HAU:Hid (∀ W,Ext w6 W→AutS W aD nD cD Ws):=fun W hx=>⟨HDD.out,hnD.symm,hcD,hdw.later hx (Nat.le_refl _)⟩
 have HX6:Hid (Ext w1 w6):=Ext.trans HX5.out hb6
 have H46:Hid (Ext w4 w6):=Ext.trans H45.out hb6
 have H56:Hid (Ext w5 w6):=hb6
 clear hdw hnD hb6 hcD
 go_upto_region 4 with fail
 obtain ⟨p0,p1,p2,p3,p4⟩:=cells5 (HBX.out w6 HX6.out)
 go_wp2_with fail
 clear p0 p1 p2 p3 p4
 refine (slots_any lZ la ll lc 5 w6 ((HLB.out.later HX1.out (Nat.le_refl _)).later HX6.out (Nat.le_refl _)) hll (by decide)).mono ?_
 rintro e wp ⟨vL,rfl,hsl,hnn,hbp⟩
 obtain ⟨L,gL,cL,rfl,hlk,hL5,hne⟩:=slots_out HLB.out (Nat.min_le_left _ _) (Nat.min_le_right _ _) hsl hnn
 have HLK:Hid (∀ W,Ext wp W→SlkS W (some ⟨gL,0,none⟩) cL L):=fun W hx=>hlk.go hx
 obtain ⟨LL,hrL⟩:=hne
 have HLG:Hid (∀ W,Ext wp W→SltsR W 0 (.slice (some ⟨gL,0,none⟩) L.length cL) LL L):=fun W hx=>(hrL.mono (Nat.zero_le _)).later hx (Nat.le_refl _)
 have HWP:Hid (Ext w wp):=Ext.trans (Ext.trans HX1.out HX6.out) hbp
 have HP4:Hid (Ext w4 wp):=Ext.trans H46.out hbp
 have HP5:Hid (Ext w5 wp):=Ext.trans H56.out hbp
 have HP6:Hid (Ext w6 wp):=hbp
 clear hsl hnn hbp hlk hrL
 obtain ⟨k,hmod,hk,hnz⟩:=tmod_nat kn (L.length+1) k0 (Nat.succ_pos _)
 rw [show ((L.length+1:Nat):Int)=(L.length:Int)+1 from rfl] at hmod hnz
 have hkL:k≤L.length:=by omega
 have hcL:=(HLK.out wp (Ext.refl _)).cap
 have hlL:=hL5.len
 have hLLl:LL.length=L.length:=(HLG.out wp (Ext.refl _)).len
 have hlow:=slice_slts_low ⟨gL,0,none⟩ L.length cL k hkL hcL
 have htk:(LL.take k).length=k:=by rw [List.length_take];omega
 have HTK:=Lib.hid htk
 have HOE:Hid (OwnG rowSlts (wp.alloc (.cells #[] 53)) wp.heap.size (.slice (some ⟨wp.heap.size,0,none⟩) 0 0) []):=OwnG.empty rowSlts (heap_alloc_new _ _) (Nat.le_refl _)
 have HA0:Hid (Ext wp (wp.alloc (.cells #[] 53))):=(Below.refl _ _).alloc (Nat.le_refl _) _
 have HCE:=Lib.hid (cells_take (HLG.out _ HA0.out).own k)
 clear htk
 go_wp2_with (at_builtin;go_loud (refine wpList_append_g (v:=.slice (some ⟨wp.heap.size,0,none⟩) 0 0) rowSlts_ok rfl _ _ rfl rfl HOE.out ⟨gL,0,none⟩ cL (LL.take k) (by rw [HTK.out];rfl) HCE.out (by have:=HTK.out;simp only [List.length_nil];omega) (by simp only [World.size_alloc];omega) ?_);intro v7 w7 hown7 hgrow7 hat7;have HO7:=Lib.hid hown7;have HG7:=Lib.hid hgrow7;clear hown7 hgrow7 hat7)
 clear hmod hnz hlow
 have HX7:Hid (Ext wp w7):=Below.grown HA0.out HG7.out HA0.out.size fun q hq=>HOE.out.ge q hq
 have HR7:Hid (SltsR w7 wp.heap.size v7 (LL.take k) (L.take k)):=by
  have h0:SltsR (wp.alloc (.cells #[] 53)) wp.heap.size (.slice (some ⟨wp.heap.size,0,none⟩) 0 0) [] []:=⟨HOE.out,rfl,fun k x s h=>by simp at h⟩
  obtain ⟨h1,h2⟩:=(HLG.out _ HA0.out).take k
  have h3:=h0.app HO7.out HG7.out h1 h2
  exact h3
 clear HO7 HG7 HCE HOE HA0
 obtain ⟨a7,c7,hv7, -, -⟩:=HR7.out.own.form
 rw [HTK.out] at hv7
 subst hv7
 refine (slots_any yZ ya yl yc 3 w7 ((HYB.out.later HWP.out (Nat.le_refl _)).later HX7.out (Nat.le_refl _)) hyl (by decide)).mono ?_
 rintro e w8 ⟨v8,rfl,hsl8,hnn8,hb8⟩
 obtain ⟨L2,g8,c8,rfl,hlk8,hL8,⟨LL8,hr8⟩⟩:=slots_out HYB.out (Nat.min_le_left _ _) (by omega) hsl8 hnn8
 have HX8:Hid (Ext wp w8):=Ext.trans HX7.out hb8
 have HR8:=Lib.hid (HR7.out.later hb8 (Nat.le_refl _))
 have HQ8:=Lib.hid hr8
 have HL8:Hid (LL8.length=L2.length):=hr8.len
 have hl28:=hL8.len
 have HCE:=Lib.hid (cells_take hr8.own LL8.length)
 rw [List.take_length] at HCE
 clear hsl8 hnn8 hb8 hlk8 hr8 HR7 HX7
 go_wp2_with (at_builtin;go_loud (refine wpList_append_g (v:=.slice a7 k c7) rowSlts_ok rfl _ _ rfl rfl HR8.out.own ⟨g8,0,none⟩ c8 LL8 (by rw [HL8.out];rfl) HCE.out (by have:=HTK.out;have:=HL8.out;omega) HX8.out.size ?_);intro v9 w9 hown9 hgrow9 hat9;have HO9:=Lib.hid hown9;have HG9:=Lib.hid hgrow9;have HX9:Hid (Ext wp w9):=Below.grown HX8.out HG9.out HX8.out.size (fun q hq=>HR8.out.own.ge q hq);obtain ⟨d0,d1,d2⟩:=sch_cells (HSC.out w9 (Ext.trans HP4.out HX9.out));clear hown9 hgrow9 hat9)
 clear d0 d1 d2
 have HR9:=Lib.hid (HR8.out.app HO9.out HG9.out HL8.out HQ8.out.el)
 obtain ⟨O,hO⟩:∃ O,L.take k ++ L2=O:=⟨_,rfl⟩
 have HOO:=Lib.hid hO
 rw [hO] at HR9
 have hOl:O.length≤40:=by rw [← hO,List.length_append,List.length_take];omega
 obtain ⟨a9,c9,hv9, -, -⟩:=HR9.out.own.form
 rw [HR9.out.len] at hv9
 subst hv9
 have hlk9:SlkS w9 a9 c9 O:=by
  have h:=slt_app (hL5.take k) hL8
  rw [hO] at h
  exact (SlkS.of ⟨_,HR9.out⟩ hOl (fun s hs x hx=>⟨(h.1 s hs x hx).1,by have:=(h.1 s hs x hx).2;omega⟩) h.2).1
 have HK9:=Lib.hid hlk9
 clear hO HO9 HG9 HR8 HQ8 HCE hlk9 HX8 HR9
 refine (ends_l (HSM.out w9 (Ext.trans HP4.out HX9.out)) (HAU.out w9 (Ext.trans HP6.out HX9.out)) (by omega) (HLK.out w9 HX9.out)).mono ?_
 rintro e w10 hp
 obtain ⟨v10,rfl,⟨g13,Ls13,rfl,he13⟩,hb10⟩:=enS_of hp
 have HX10:Hid (Ext w9 w10):=hb10
 have HE13:=Lib.hid he13
 clear hp hb10 he13
 have sc10:=sch_cells (HSC.out w10 (Ext.trans HP4.out (Ext.trans HX9.out HX10.out)))
 obtain ⟨d0,d1,d2⟩:=sc10
 go_wp2_with fail
 clear d0 d1 d2
 refine (ends_l (HSM.out w10 (Ext.trans HP4.out (Ext.trans HX9.out HX10.out))) (HAU.out w10 (Ext.trans HP6.out (Ext.trans HX9.out HX10.out))) (by omega) (HK9.out.go HX10.out)).mono ?_
 rintro e w11 hp
 obtain ⟨v11,rfl,⟨g14,Ls14,rfl,he14⟩,hb11⟩:=enS_of hp
 have HX11:Hid (Ext wp w11):=Ext.trans (Ext.trans HX9.out HX10.out) hb11
 have HE13b:Hid (∀ W,Ext w11 W→EnR S.rules S.acc L (Ws.map bts) g13 Ls13 W):=fun W hx=>(HE13.out.go hb11).go hx
 have HE14:Hid (∀ W,Ext w11 W→EnR S.rules S.acc O (Ws.map bts) g14 Ls14 W):=fun W hx=>he14.go hx
 have HTE:Hid (∀ i,i≤k→L.take i=O.take i∧i≤O.length):=fun i hi=>by
  rw [← HOO.out]
  refine ⟨?_,by rw [List.length_append,List.length_take];omega⟩
  rw [List.take_append_of_le_length (by rw [List.length_take];omega),List.take_take,Nat.min_eq_left hi]
 clear hp hb11 HE13 he14 HK9 HX9 HX10
 go_wp2_with fail
 go_loopg [15] (k+1) (fun g v15 wr=>∃ i:Nat,v15=.int .i64 (i:Int)∧i≤k+1∧g=k+1 - i∧Ext w11 wr)
 case atStart=>exact ⟨0,rfl,Nat.zero_le _,rfl,Ext.refl _⟩
 case round =>
  obtain ⟨i,rfl,hi,hgk,hxr⟩:=hrel
  have HXR:=Lib.hid hxr;have HGK:=Lib.hid hgk
  clear hxr hgk
  by_cases hik:i<k+1
  ·
   have hikI:(i:Int)≤(k:Int):=by omega
   obtain ⟨hte,hiO⟩:=HTE.out i (by omega)
   obtain ⟨x3,y3,l3,hc3,hf3,hk3,hi3⟩:=(HE13b.out wr HXR.out).at (k:=i) (by omega)
   obtain ⟨x4,y4,l4,hc4,hf4,hk4,hi4⟩:=(HE14.out wr HXR.out).at (k:=i) (by omega)
   obtain rfl:l3=l4:=hk3.uniq hk4.toFndOk fun w _ c=>whole_take hte
   have hg13:g13<wr.heap.size:=(HE13b.out wr HXR.out).own.lt _ rfl
   have hg14:g14<wr.heap.size:=(HE14.out wr HXR.out).own.lt _ rfl
   have hll:l3.length≤1000:=by
    have h:(l3.map (·.1)).Nodup:=by unfold List.Nodup;rw [List.pairwise_map];exact hk3.sorted.imp fun h=>by omega
    have h2:=nodup_bound (Ws.map bts).length _ h fun z hz=>by
     obtain ⟨⟨q,c⟩,hp,rfl⟩:=List.mem_map.1 hz
     exact ((hk3.mem q c).1 hp).1
    rw [List.length_map,List.length_map] at h2
    omega
   have HC3:=Lib.hid hc3;have HF3:=Lib.hid hf3;have HK3:=Lib.hid hk3;have HI3:=Lib.hid hi3
   have HC4:=Lib.hid hc4;have HF4:=Lib.hid hf4;have HI4:=Lib.hid hi4
   have HG13:=Lib.hid hg13;have HG14:=Lib.hid hg14
   have HTI:Hid (∀ w c,Whole S.rules S.acc L i w c↔Whole S.rules S.acc (L.take i) i w c):=fun w c=>by
    exact whole_take (by rw [List.take_take,Nat.min_self])
   have HLW:=Lib.hid (slice_slts_low ⟨gL,0,none⟩ L.length cL i (by omega) hcL)
   have HTL:Hid ((L.take i).length=i):=by show _=_;rw [List.length_take];omega
   obtain ⟨wq,hwq⟩:∃ wq:World,wq=wr:=⟨wr,rfl⟩
   subst hwq
   clear hc3 hf3 hk3 hi3 hc4 hf4 hk4 hi4 hte hg13 hg14
   go_wp2_with fail
   refine wp_region_st (by kernel_rfl) (Vs [fun v _=>v=.slice (some ⟨g13,0,none⟩) (L.length+1) (L.length+1),fun v _=>v=.int .i64 (i:Int),fun v _=>v=.pointer (some ⟨g13,i,none⟩),fun v _=>v=.slice x3 l3.length y3,fun v _=>v=.slice (some ⟨g14,0,none⟩) (O.length+1) (O.length+1),fun v _=>v=.int .i64 (i:Int),fun v _=>v=.pointer (some ⟨g14,i,none⟩),fun v _=>v=.slice x4 l3.length y4,fun v _=>v=.bool true,fun v _=>v=.bool false,fun v _=>v=.bool false,fun v _=>v=.slice (some ⟨g13,0,none⟩) (L.length+1) (L.length+1),fun v _=>v=.int .i64 (i:Int),fun v _=>v=.pointer (some ⟨g13,i,none⟩),fun v _=>v=.slice x3 l3.length y3,fun v _=>v=.agg #[.int .i64 S.modes,.int .u8 S.acc,.slice b S.rules.length cS],fun v _=>v=.slice aD nD cD,fun v _=>v=.slice (some ⟨gL,0,none⟩) L.length cL,fun v _=>v=.int .i64 (i:Int),fun v _=>v=.slice (some ⟨gL,0,none⟩) i cL,FnS S.rules S.acc (L.take i) (Ws.map bts) i,fun v _=>v=.bool true,fun v _=>v=.bool false,fun v _=>v=.bool false]) (Xs [Ext,Ext,Ext,Ext,Ext,Ext,Ext,Ext,Ext,Ext,Ext,Ext,Ext,Ext,Ext,Ext,Ext,Ext,Ext,Ext,Ext,Ext,Ext,Ext]) (fun fL=>(fun W=>Ext wq W) ) [0,0,3,7,0,0,48,112,255,511,1023,2047,2047,8191,16383,2047,2047,2047,2047,395263,1017855,2097151,4194303,8388607] 94 24 (by kernel_rfl) rfl ?hV ?hS ?hop ?hfin ?hlast
   case hV =>
    refine xs_stays (vs_stays (by simp only [List.mem_cons,List.not_mem_nil,or_false,forall_eq_or_imp,forall_eq];exact ⟨stays_const _,stays_const _,stays_const _,stays_const _,stays_const _,stays_const _,stays_const _,stays_const _,stays_const _,stays_const _,stays_const _,stays_const _,stays_const _,stays_const _,stays_const _,stays_const _,stays_const _,stays_const _,stays_const _,stays_const _,fnS_stays _ _ _ _ _,stays_const _,stays_const _,stays_const _⟩)) ?_
    exact ⟨.inl rfl,.inl rfl,.inl rfl,.inl rfl,.inl rfl,.inl rfl,.inl rfl,.inl rfl,.inl rfl,.inl rfl,.inl rfl,.inl rfl,.inl rfl,.inl rfl,.inl rfl,.inl rfl,.inl rfl,.inl rfl,.inl rfl,.inl rfl,.inl rfl,.inl rfl,.inl rfl,.inl rfl,trivial⟩
   case hS =>
    intro fL hf
    show (fun W=>Ext wq W)  _
    first | exact Ext.refl _ | exact drew_ext _
   case hop =>
    refine ⟨?_,?_,?_,?_,?_,?_,?_,?_,?c8,?_,?_,?c11,?c12,?c13,?c14,?c15,?c16,?c17,?c18,?c19,?c20,?c21,?c22,?_,trivial⟩
    all_goals first | rw [if_neg (by decide)] | rw [if_pos (by decide)]
    all_goals try intro ac W fL hsz hfi hms hdn hS0 hdep hbase hund
    all_goals try have hS:(fun W=>Ext wq W)  W:=hS0
    all_goals try (
     have hx11:Ext w11 W:=Ext.trans HXR.out hS
     have hxp:Ext wp W:=Ext.trans HX11.out hx11
     obtain ⟨d0,d1,d2⟩:=sch_cells (HSC.out W (Ext.trans HP4.out hxp))
     have q3:W.cell? ⟨g13,i,none⟩=some (.slice x3 l3.length y3):=(Below.cell hS (p:=⟨g13,i,none⟩) HG13.out).trans HC3.out
     have q4:W.cell? ⟨g14,i,none⟩=some (.slice x4 l3.length y4):=(Below.cell hS (p:=⟨g14,i,none⟩) HG14.out).trans HC4.out
     have i3:=HI3.out;have i4:=HI4.out;have ilw:=HLW.out
     clear hx11 hxp)
    all_goals try (have h8:ac.tmps.getD 8 undef=.pointer (some ⟨gs,0,none⟩):=hbase 8 (by kernel_rfl);have hh8:=h8;rw [Array.getD_eq_getD_getElem?] at hh8)
    all_goals try (have h9:ac.tmps.getD 9 undef=.slice aD nD cD:=hbase 9 (by kernel_rfl);have hh9:=h9;rw [Array.getD_eq_getD_getElem?] at hh9)
    all_goals try (have h10:ac.tmps.getD 10 undef=.slice (some ⟨gL,0,none⟩) L.length cL:=hbase 10 (by kernel_rfl);have hh10:=h10;rw [Array.getD_eq_getD_getElem?] at hh10)
    all_goals try (have h13:ac.tmps.getD 13 undef=.slice (some ⟨g13,0,none⟩) (L.length+1) (L.length+1):=hbase 13 (by kernel_rfl);have hh13:=h13;rw [Array.getD_eq_getD_getElem?] at hh13)
    all_goals try (have h14:ac.tmps.getD 14 undef=.slice (some ⟨g14,0,none⟩) (O.length+1) (O.length+1):=hbase 14 (by kernel_rfl);have hh14:=h14;rw [Array.getD_eq_getD_getElem?] at hh14)
    all_goals try (have h15:ac.tmps.getD 15 undef=.int .i64 (i:Int):=hbase 15 (by kernel_rfl);have hh15:=h15;rw [Array.getD_eq_getD_getElem?] at hh15)
    all_goals try (have d69:ac.tmps.getD 69 undef=.slice (some ⟨g13,0,none⟩) (L.length+1) (L.length+1):=hdep 0 (by decide);have dd69:=d69;rw [Array.getD_eq_getD_getElem?] at dd69)
    all_goals try (have d70:ac.tmps.getD 70 undef=.int .i64 (i:Int):=hdep 1 (by decide);have dd70:=d70;rw [Array.getD_eq_getD_getElem?] at dd70)
    all_goals try (have d71:ac.tmps.getD 71 undef=.pointer (some ⟨g13,i,none⟩):=hdep 2 (by decide);have dd71:=d71;rw [Array.getD_eq_getD_getElem?] at dd71)
    all_goals try (have d72:ac.tmps.getD 72 undef=.slice x3 l3.length y3:=hdep 3 (by decide);have dd72:=d72;rw [Array.getD_eq_getD_getElem?] at dd72)
    all_goals try (have d73:ac.tmps.getD 73 undef=.slice (some ⟨g14,0,none⟩) (O.length+1) (O.length+1):=hdep 4 (by decide);have dd73:=d73;rw [Array.getD_eq_getD_getElem?] at dd73)
    all_goals try (have d74:ac.tmps.getD 74 undef=.int .i64 (i:Int):=hdep 5 (by decide);have dd74:=d74;rw [Array.getD_eq_getD_getElem?] at dd74)
    all_goals try (have d75:ac.tmps.getD 75 undef=.pointer (some ⟨g14,i,none⟩):=hdep 6 (by decide);have dd75:=d75;rw [Array.getD_eq_getD_getElem?] at dd75)
    all_goals try (have d76:ac.tmps.getD 76 undef=.slice x4 l3.length y4:=hdep 7 (by decide);have dd76:=d76;rw [Array.getD_eq_getD_getElem?] at dd76)
    all_goals try (have d77:ac.tmps.getD 77 undef=.bool true:=hdep 8 (by decide);have dd77:=d77;rw [Array.getD_eq_getD_getElem?] at dd77)
    all_goals try (have d78:ac.tmps.getD 78 undef=.bool false:=hdep 9 (by decide);have dd78:=d78;rw [Array.getD_eq_getD_getElem?] at dd78)
    all_goals try (have d79:ac.tmps.getD 79 undef=.bool false:=hdep 10 (by decide);have dd79:=d79;rw [Array.getD_eq_getD_getElem?] at dd79)
    all_goals try (have d80:ac.tmps.getD 80 undef=.slice (some ⟨g13,0,none⟩) (L.length+1) (L.length+1):=hdep 11 (by decide);have dd80:=d80;rw [Array.getD_eq_getD_getElem?] at dd80)
    all_goals try (have d81:ac.tmps.getD 81 undef=.int .i64 (i:Int):=hdep 12 (by decide);have dd81:=d81;rw [Array.getD_eq_getD_getElem?] at dd81)
    all_goals try (have d82:ac.tmps.getD 82 undef=.pointer (some ⟨g13,i,none⟩):=hdep 13 (by decide);have dd82:=d82;rw [Array.getD_eq_getD_getElem?] at dd82)
    all_goals try (have d83:ac.tmps.getD 83 undef=.slice x3 l3.length y3:=hdep 14 (by decide);have dd83:=d83;rw [Array.getD_eq_getD_getElem?] at dd83)
    all_goals try (have d84:ac.tmps.getD 84 undef=.agg #[.int .i64 S.modes,.int .u8 S.acc,.slice b S.rules.length cS]:=hdep 15 (by decide);have dd84:=d84;rw [Array.getD_eq_getD_getElem?] at dd84)
    all_goals try (have d85:ac.tmps.getD 85 undef=.slice aD nD cD:=hdep 16 (by decide);have dd85:=d85;rw [Array.getD_eq_getD_getElem?] at dd85)
    all_goals try (have d86:ac.tmps.getD 86 undef=.slice (some ⟨gL,0,none⟩) L.length cL:=hdep 17 (by decide);have dd86:=d86;rw [Array.getD_eq_getD_getElem?] at dd86)
    all_goals try (have d87:ac.tmps.getD 87 undef=.int .i64 (i:Int):=hdep 18 (by decide);have dd87:=d87;rw [Array.getD_eq_getD_getElem?] at dd87)
    all_goals try (have d88:ac.tmps.getD 88 undef=.slice (some ⟨gL,0,none⟩) i cL:=hdep 19 (by decide);have dd88:=d88;rw [Array.getD_eq_getD_getElem?] at dd88)
    all_goals try have d89:(FnS S.rules S.acc (L.take i) (Ws.map bts) i) (ac.tmps.getD 89 undef) W:=hdep 20 (by decide)
    all_goals try (have d90:ac.tmps.getD 90 undef=.bool true:=hdep 21 (by decide);have dd90:=d90;rw [Array.getD_eq_getD_getElem?] at dd90)
    all_goals try (have d91:ac.tmps.getD 91 undef=.bool false:=hdep 22 (by decide);have dd91:=d91;rw [Array.getD_eq_getD_getElem?] at dd91)
    all_goals try clear hbase hdep hms hdn hund
    case c8 =>
     have hS1:(fun W=>Ext wq W)  W:=hS0
     refine opOk_run rfl (.inr ⟨20,#[.slice x3 l3.length y3,.slice x4 l3.length y4],W,by (clear hsz hS hS0 hS1 hfi;simp [go_sem,Act.eval, *]),?_⟩)
     refine (fsame_any l3 l3 x3 x4 y3 y4 W (HF3.out.kp (Kc.of hS (Nat.le_refl _))) (HF4.out.kp (Kc.of hS (Nat.le_refl _))) (by omega) (by omega)).mono ?_
     rw [decide_eq_true (rfl:l3=l3)]
     rintro e w' ⟨rfl,hb⟩
     exact ⟨_,rfl,⟨rfl,hb,Ext.trans hS0 hb⟩⟩
    case c11=>refine opOk_runG (j:=10) (d:=79) (b:=false) rfl (by kernel_rfl) dd79 rfl (.inl ⟨_,W,?_,rfl,Ext.refl _,hS0⟩);clear hsz hS hS0 hfi;simp [go_sem,Act.eval, *]
    case c12=>refine opOk_runG (j:=10) (d:=79) (b:=false) rfl (by kernel_rfl) dd79 rfl (.inl ⟨_,W,?_,rfl,Ext.refl _,hS0⟩);clear hsz hS hS0 hfi;simp [go_sem,Act.eval, *]
    case c13=>refine opOk_runG (j:=10) (d:=79) (b:=false) rfl (by kernel_rfl) dd79 rfl (.inl ⟨_,W,?_,rfl,Ext.refl _,hS0⟩);clear hsz hS hS0 hfi;simp [go_sem,Act.eval, *]
    case c14=>refine opOk_runG (j:=10) (d:=79) (b:=false) rfl (by kernel_rfl) dd79 rfl (.inl ⟨_,W,?_,rfl,Ext.refl _,hS0⟩);clear hsz hS hS0 hfi;simp [go_sem,Act.eval, *]
    case c15=>refine opOk_runG (j:=10) (d:=79) (b:=false) rfl (by kernel_rfl) dd79 rfl (.inl ⟨_,W,?_,rfl,Ext.refl _,hS0⟩);clear hsz hS hS0 hfi;simp [go_sem,Act.eval, *]
    case c16=>refine opOk_runG (j:=10) (d:=79) (b:=false) rfl (by kernel_rfl) dd79 rfl (.inl ⟨_,W,?_,rfl,Ext.refl _,hS0⟩);clear hsz hS hS0 hfi;simp [go_sem,Act.eval, *]
    case c17=>refine opOk_runG (j:=10) (d:=79) (b:=false) rfl (by kernel_rfl) dd79 rfl (.inl ⟨_,W,?_,rfl,Ext.refl _,hS0⟩);clear hsz hS hS0 hfi;simp [go_sem,Act.eval, *]
    case c18=>refine opOk_runG (j:=10) (d:=79) (b:=false) rfl (by kernel_rfl) dd79 rfl (.inl ⟨_,W,?_,rfl,Ext.refl _,hS0⟩);clear hsz hS hS0 hfi;simp [go_sem,Act.eval, *]
    case c19=>refine opOk_runG (j:=10) (d:=79) (b:=false) rfl (by kernel_rfl) dd79 rfl (.inl ⟨_,W,?_,rfl,Ext.refl _,hS0⟩);clear hsz hS hS0 hfi;simp [go_sem,Act.eval, *]
    case c20 =>
     have hS1:(fun W=>Ext wq W)  W:=hS0
     refine opOk_runG (j:=10) (d:=79) (b:=false) rfl (by kernel_rfl) dd79 rfl (.inr ⟨21,#[.agg #[.int .i64 S.modes,.int .u8 S.acc,.slice b S.rules.length cS],.slice aD nD cD,.slice (some ⟨gL,0,none⟩) i cL],W,by (clear hsz hS hS0 hS1 hfi;simp [go_sem,Act.eval, *]),?_⟩)
     have hxp:Ext wp W:=Ext.trans HX11.out (Ext.trans HXR.out hS)
     have h9:=words_l (HSM.out W (Ext.trans HP4.out hxp)) (HAU.out W (Ext.trans HP6.out hxp)) (by omega) ((HLK.out W hxp).take i)
     rw [HTL.out] at h9
     refine h9.mono ?_
     rintro e w' hp
     obtain ⟨v,rfl,hv,hb⟩:=fnS_of hp
     exact ⟨_,rfl,⟨hv,hb,Ext.trans hS0 hb⟩⟩
    case c21 =>
     have hS1:(fun W=>Ext wq W)  W:=hS0
     obtain ⟨x5,y5,l5,e5,hf5,hk5, -⟩:=d89
     rw [Array.getD_eq_getD_getElem?] at e5
     obtain rfl:l3=l5:=HK3.out.uniq hk5.toFndOk fun w _ c=>HTI.out w c
     refine opOk_runG (j:=10) (d:=79) (b:=false) rfl (by kernel_rfl) dd79 rfl (.inr ⟨20,#[.slice x3 l3.length y3,.slice x5 l3.length y5],W,by (clear hsz hS hS0 hS1 hfi;simp [go_sem,Act.eval, *]),?_⟩)
     refine (fsame_any l3 l3 x3 x5 y3 y5 W (HF3.out.kp (Kc.of hS (Nat.le_refl _))) hf5 (by omega) (by omega)).mono ?_
     rw [decide_eq_true (rfl:l3=l3)]
     rintro e w' ⟨rfl,hb⟩
     exact ⟨_,rfl,⟨rfl,hb,Ext.trans hS0 hb⟩⟩
    case c22=>refine opOk_runG (j:=10) (d:=79) (b:=false) rfl (by kernel_rfl) dd79 rfl (.inl ⟨_,W,?_,rfl,Ext.refl _,hS0⟩);clear hsz hS hS0 hfi;simp [go_sem,Act.eval, *]
    all_goals (refine opOk_run rfl (.inl ⟨_,W,?_,rfl,Ext.refl _,hS0⟩);clear hsz hS hS0 hfi;simp [go_sem,Act.eval, *];done)
   case hlast =>
    intro h;exact absurd rfl h
   case hfin =>
    intro _ ac W hsz hdf fL hf hS0 hv hbase
    have hS:(fun W=>Ext wq W)  W:=hS0
    clear hS0
    obtain ⟨sx,hsx,hsA⟩:=act_puts [69,70,71,72,73,74,75,76,77,78,79,80,81,82,83,84,85,86,87,88,89,90,91,92] (by kernel_rfl) hsz hdf hbase
    have e92:sx 92=.bool false:=(hsx 92).trans (hv 23 (by decide))
    rw [hsA]
    simp only [List.foldl]
    rw [e92]
    clear e92
    simp only [Act.put,List.setIfInBounds_toArray,List.set_cons_succ,List.set_cons_zero]
    clear hsA hsx hv hbase hsz hdf hf
    have HS15:Hid (Ext wq W):=hS
    clear hS
    go_wp2_with fail
    go_roundg (k+1 - (i+1))
    case measure=>have:=HGK.out;omega
    case rel=>exact ⟨i+1,by go_num,by omega,rfl,Ext.trans HXR.out HS15.out⟩
  ·
   obtain rfl:i=k+1:=by omega
   have hikI:¬ ((k+1:Nat):Int)≤(k:Int):=by omega
   go_wp2_with fail
   go_ret
   exact ⟨rfl,Ext.trans HWP.out (Ext.trans HX11.out HXR.out)⟩
end Go.Proofs.YthjmdgejnakcmaaGreatDoor
