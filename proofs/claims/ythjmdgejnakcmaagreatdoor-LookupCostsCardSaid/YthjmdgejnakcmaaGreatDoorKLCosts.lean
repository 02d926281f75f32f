/- LookupCosts: the walk. -/
import Derived.Test.YthjmdgejnakcmaaGreatDoorMK7
namespace Go.Proofs.YthjmdgejnakcmaaGreatDoor
open Go.RowKit Go.WideShapes Fl
set_option linter.unusedVariables false
set_option linter.unusedSimpArgs false
theorem tmod_natC (z:Int) (n:Nat) (h:0≤z) (hn:0<n):∃ k:Nat,z.tmod (n:Int)=(k:Int)∧k<n∧((n:Int) == 0)=false:=by
 obtain ⟨m,rfl⟩:=Int.eq_ofNat_of_zero_le h
 refine ⟨m % n,by rw [Int.tmod_eq_emod_of_nonneg h];exact (Int.natCast_emod m n).symm,Nat.mod_lt _ hn,?_⟩
 rw [beq_eq_false_iff_ne];omega
theorem idx_chsl (g n c k:Nat) (hk:k<n) (w:World):(Instr.indexAt 53 (.slice (some ⟨g,0,none⟩) n c) (.int .i64 (k:Int))).run Tryz.prog w=.ok (.pointer (some ⟨g,k*2,none⟩)) w:=by
 have h0:(0:Int)≤(k:Int):=by omega
 have h1:(k:Int)<(n:Int):=by omega
 simp [go_sem,h0,h1]
theorem idx_fndC (a:Option Addr) (b o n c k:Nat) (ha:a=some ⟨b,o,none⟩) (hk:k<n) (w:World):(Instr.indexAt 48 (.slice a n c) (.int .i64 (k:Int))).run Tryz.prog w=.ok (.pointer (some ⟨b,o+k*2,none⟩)) w:=by
 subst ha
 have h0:(0:Int)≤(k:Int):=by omega
 have h1:(k:Int)<(n:Int):=by omega
 simp [go_sem,h0,h1]
theorem fnd_lenC {R:List Rl} {acc:Int} {L:List Slt} {W:List (List UInt8)} {i:Nat} {l:List (Nat × Nat)} (h:FndOk R acc L W i l):l.length≤W.length:=by
 have h1:(l.map (·.1)).Nodup:=by unfold List.Nodup;rw [List.pairwise_map];exact h.sorted.imp fun h=>by omega
 have h2:=nodup_bound W.length _ h1 fun z hz=>by
  obtain ⟨⟨q,c⟩,hp,rfl⟩:=List.mem_map.1 hz
  exact ((h.mem q c).1 hp).1
 rwa [List.length_map] at h2
def dearTo (s:Slt) (b i:Nat):Slt:=s.mapIdx fun j h=>if j<i then ⟨h.key,h.cost+(b:Int)⟩ else h
theorem dearTo_len (s:Slt) (b i:Nat):(dearTo s b i).length=s.length:=by simp [dearTo]
theorem dearTo_zero (s:Slt) (b:Nat):dearTo s b 0=s:=by
 apply List.ext_getElem
 · rw [dearTo_len]
 · intro j h1 h2;simp [dearTo]
theorem dearTo_all (s:Slt) (b:Nat):dearTo s b s.length=dearS s b:=by
 apply List.ext_getElem
 · rw [dearTo_len];simp [dearS]
 ·
  intro j h1 h2
  rw [dearTo_len] at h1
  simp [dearTo,dearS,h1]
theorem dearTo_at {s:Slt} {b i:Nat} (hi:i<s.length):(dearTo s b i)[i]'(by rw [dearTo_len];exact hi)=s[i]:=by simp [dearTo]
theorem
    dearTo_set {s:Slt} {b i:Nat} (hi:i<s.length):(dearTo s b i).set i ⟨s[i].key,s[i].cost+(b:Int)⟩=dearTo s b (i+1):=by
 apply List.ext_getElem
 · rw [List.length_set,dearTo_len,dearTo_len]
 ·
  intro j h1 h2
  rw [dearTo_len] at h2
  rw [List.getElem_set]
  by_cases e:i=j
  · subst e;rw [if_pos rfl];simp [dearTo]
  ·
   rw [if_neg e]
   by_cases h:j<i
   ·
    have h3:j<i+1:=by omega
    simp [dearTo,h,h3]
   ·
    have h3:¬ j<i+1:=by omega
    simp [dearTo,h,h3]
theorem flat_ch_set:∀ {s:Slt} {i:Nat} (hi:i<s.length) (c:Int),(s.set i ⟨s[i].key,c⟩).flatMap rowCh.enc=(s.flatMap rowCh.enc).set (i*2+1) (.int .i64 c)
 | x :: r,0,_,c=>rfl
 | x :: r,i+1,hi,c=>by
  have ih:=flat_ch_set (s:=r) (i:=i) (by simpa using hi) c
  rw [List.set_cons_succ,List.flatMap_cons,List.flatMap_cons]
  simp only [List.getElem_cons_succ]
  rw [ih]
  rw [show (i+1)*2+1=(i*2+1)+2 by omega]
  rfl
theorem flat_slts (M:List SV):M.flatMap rowSlts.enc=M.map svS:=by
 induction M with
 | nil=>rfl
 | cons x r ih=>rw [List.flatMap_cons,ih];rfl
theorem dearL_mem {L:List Slt} {k b:Nat} {t:Slt} (ht:t∈dearL L k b):∃ u∈L,t=u∨t=dearS u b:=by
 obtain ⟨j,hj⟩:=List.mem_iff_getElem?.1 ht
 unfold dearL at hj
 rw [List.getElem?_modify] at hj
 cases e:L[j]? with
 | none=>rw [e] at hj;cases hj
 | some u =>
  refine ⟨u,List.mem_of_getElem? e,?_⟩
  rw [e] at hj
  by_cases h:k=j
  · simp [h] at hj;exact .inr hj.symm
  · simp [h] at hj;exact .inl hj.symm
theorem plusF_succ {b i:Nat} {l:List (Nat × Nat)} (hi:i<l.length):plusF b (l.take (i+1))=plusF b (l.take i) ++ [(l[i].1,l[i].2+b)]:=by
 rw [List.take_succ_eq_append_getElem hi];unfold plusF;rw [List.map_append];rfl
theorem own_some {α:Type} {T:RowT α} {w:World} {B:Nat} {v:Value} {L:List α} (h:OwnG T w B v L) (hl:0<L.length):∃ g c,v=.slice (some ⟨g,0,none⟩) L.length c:=by
 rcases h.blk with ⟨_,e⟩ | ⟨g,c,e,_⟩
 · rw [e] at hl;exact absurd hl (Nat.lt_irrefl _)
 · exact ⟨g,c,e⟩
theorem copy_facts {wp w7 w8:World} {g7 c7 n k:Nat} {LL:List SV} {vv:Value} (h:OwnG rowSlts w7 wp.heap.size (.slice (some ⟨g7,0,none⟩) n c7) LL) (hx:Ext w7 (w7.alloc (.cells #[] 55))) (hg:(w7.alloc (.cells #[] 55)).grownBy w8 (Value.slice (some ⟨w7.heap.size,0,none⟩) 0 0).ownBlock) (hk:k<LL.length) (hv:svS LL[k]=vv) :
  OwnG rowSlts w8 wp.heap.size (.slice (some ⟨g7,0,none⟩) n c7) LL∧w8.cell? ⟨g7,k,none⟩=some vv∧w8.frozen? ⟨g7,k,none⟩=false∧∃ cs,w8.heap[g7]? = some (.cells cs rowSlts.e (0,0)):=by
 have h1:OwnG rowSlts w8 wp.heap.size (.slice (some ⟨g7,0,none⟩) n c7) LL:=(h.later hx (Nat.le_refl _)).grown hg fun q hq e=>by
  injection e with e
  have e2:q=w7.heap.size:=e
  have:=h.lt q hq
  omega
 obtain ⟨cs,hcs⟩:=ownG_obj h1 (g:=g7) rfl
 have h2:=h1.cell rowSlts_ok hk (j:=0) (by decide)
 have e1:k*rowSlts.k+0=k:=by show k*1+0=_;omega
 rw [e1] at h2
 have h3:w8.cell? ⟨g7,k,none⟩=some (svS LL[k]):=h2
 rw [hv] at h3
 exact ⟨h1,h3,by simp [World.frozen?,hcs],cs,hcs⟩
structure DrQ (wp:World) (LL:List SV) (n k g7 c7 g8 c8:Nat) (s:Slt) (b i:Nat) (w:World):Prop where
 row:OwnG rowSlts w wp.heap.size (.slice (some ⟨g7,0,none⟩) n c7) (LL.set k ⟨some ⟨g8,0,none⟩,s.length,c8⟩)
 cpy:OwnG rowCh w wp.heap.size (.slice (some ⟨g8,0,none⟩) s.length c8) (dearTo s b i)
 ext:Ext wp w
theorem DrQ.put {wp w:World} {LL:List SV} {n k g7 c7 g8 c8:Nat} {s:Slt} {b i:Nat} (h:DrQ wp LL n k g7 c7 g8 c8 s b i w) (hi:i<s.length) :
  DrQ wp LL n k g7 c7 g8 c8 s b (i+1) (w.setCell ⟨g8,i*2+1,none⟩ (.int .i64 (s[i].cost+(b:Int)))):=by
 have hge:=h.cpy.ge g8 rfl
 refine ⟨h.row.keep fun q hq=>Below.heap_setCell _ _ _ _ ?_,?_,h.ext.setCell (show wp.heap.size≤(⟨g8,i*2+1,none⟩:Addr).block from hge) _⟩
 ·
  show q≠g8
  intro e
  obtain ⟨cs,h1⟩:=ownG_obj h.row hq
  obtain ⟨cs2,h2⟩:=ownG_obj h.cpy (g:=g8) rfl
  rw [e,h2] at h1
  injection h1 with h1
  injection h1 with _ h3
  exact absurd h3 (by decide)
 ·
  have hi2:i<(dearTo s b i).length:=by rw [dearTo_len];exact hi
  have hf:=flat_ch_set hi2 (s[i].cost+(b:Int))
  rw [dearTo_at hi,dearTo_set hi] at hf
  exact h.cpy.setCell (by rw [dearTo_len,dearTo_len]) hf (by show _<(dearTo s b i).length*2;omega) rowCh_ok
set_option maxHeartbeats 12800000 in
set_option maxRecDepth 100000 in
theorem
    lookupCosts_view (x:CaseA) (kn bn:Int) (w:World) (hx:CaseOk w x) (k0:0≤kn) (k1:kn≤255) (b0:0≤bn) (b1:bn≤255) (hT:Tab w) :
  Calls Tryz.prog 6 #[x.val,.int .u8 kn,.int .u8 bn] w fun e w'=>e=.returned (.bool true)∧Below w.heap.size w w':=by
 obtain ⟨bN,rfl⟩:=Int.eq_ofNat_of_zero_le b0
 obtain ⟨⟨M,A,ra,rl,rc,rQ⟩,⟨wa,wl,wc,wQ⟩,⟨la,ll,lc,lZ⟩⟩:=x
 obtain ⟨⟨hM0,hM1,hA0,hA1,hraw⟩,⟨hwr,hwl⟩,⟨hlb,hll⟩⟩:=hx
 simp only at hM0 hM1 hA0 hA1 hraw hwr hwl hlb hll
 have HRA:=Lib.hid hraw;have HWR:=Lib.hid hwr;have HLB:=Lib.hid hlb;have HT:=Lib.hid hT
 clear hraw hwr hlb hT
 simp only [CaseA.val]
 go_enter Tryz.func6,Tryz.ntmps6
 go_wp2_with fail
 obtain ⟨w1,hw1⟩:∃ w1,w.alloc (.cells #[.int .u8 M,.int .u8 A,.slice ra rl rc,.slice wa wl wc,.slice la ll lc] 28)=w1:=⟨_,rfl⟩
 rw [hw1]
 have HX1:Hid (Ext w w1):=by show Ext _ _;rw [← hw1];exact (Below.refl _ _).alloc (Nat.le_refl _) _
 have hbx:w1.heap[w.heap.size]? = some (.cells #[.int .u8 M,.int .u8 A,.slice ra rl rc,.slice wa wl wc,.slice la ll lc] 28 (0,0)):=by rw [← hw1];exact heap_alloc_new _ _
 have HBX:Hid (∀ W,Ext w1 W→W.heap[w.heap.size]? = some (.cells #[.int .u8 M,.int .u8 A,.slice ra rl rc,.slice wa wl wc,.slice la ll lc] 28 (0,0))):=fun W hx=>(Below.block hx _ (Array.getElem?_eq_some_iff.1 hbx).1).trans hbx
 clear hw1 hbx
 obtain ⟨gx,hgx⟩:∃ gx,w.heap.size=gx:=⟨_,rfl⟩
 rw [hgx] at HBX ⊢
 clear hgx
 refine (sanity_any w1 (HT.out.later HX1.out)).mono ?_
 rintro e w2 ⟨rfl,hb2⟩
 have HX2:Hid (Ext w1 w2):=hb2
 clear hb2
 obtain ⟨p0,p1,p2,p3,p4⟩:=cells5 (HBX.out w2 HX2.out)
 go_wp2_with fail
 clear p0 p1 p2 p3 p4
 refine (safe_any M A ra rl rc rQ w2 hM0 hM1 hA0 hA1 ((HRA.out.later HX1.out (Nat.le_refl _)).later HX2.out (Nat.le_refl _))).mono ?_
 rintro e w3 ⟨S,b,cS,rfl,hsafe,hb3⟩
 have HX3:Hid (Ext w1 w3):=Ext.trans HX2.out hb3
 have HSF:=Lib.hid hsafe
 clear hb3 hsafe
 go_upto_region 3 with fail
 obtain ⟨w4,hw4⟩:∃ w4,w3.alloc (.cells #[.int .i64 S.modes,.int .u8 S.acc,.slice b S.rules.length cS] 32)=w4:=⟨_,rfl⟩
 rw [hw4]
 have hx4:Ext w3 w4:=by rw [← hw4];exact (Below.refl _ _).alloc (Nat.le_refl _) _
 have hsc4:w4.heap[w3.heap.size]? = some (.cells #[.int .i64 S.modes,.int .u8 S.acc,.slice b S.rules.length cS] 32 (0,0)):=by rw [← hw4];exact heap_alloc_new _ _
 have HSC:Hid (∀ W,Ext w4 W→W.heap[w3.heap.size]? = some (.cells #[.int .i64 S.modes,.int .u8 S.acc,.slice b S.rules.length cS] 32 (0,0))):=fun W hx=>(Below.block hx _ (Array.getElem?_eq_some_iff.1 hsc4).1).trans hsc4
 have HSM:Hid (∀ W,Ext w4 W→SchM W S b cS):=fun W hx=>((SafeS.schM HSF.out).go hx4).go hx
 have HX4:Hid (Ext w1 w4):=Ext.trans HX3.out hx4
 clear hw4 hx4 hsc4
 obtain ⟨gs,hgs⟩:∃ gs,w3.heap.size=gs:=⟨_,rfl⟩
 rw [hgs] at HSC ⊢
 clear hgs
 obtain ⟨p0,p1,p2,p3,p4⟩:=cells5 (HBX.out w4 HX4.out)
 go_wp2_with fail
 clear p0 p1 p2 p3 p4
 refine (dictionary13_any wQ wa wl wc 10 w4 ((HWR.out.later HX1.out (Nat.le_refl _)).later HX4.out (Nat.le_refl _)) hwl (by decide)).mono ?_
 rintro e w5 ⟨bd,od,cd,rfl,hsd,hcd,hb5⟩
 have hdd:=dic_dict wQ wl 10 (by decide)
 have hdl:=dic_len wQ wl 10 (by decide)
 obtain ⟨Ws,hWs⟩:∃ Ws,dicF wQ wl 10=Ws:=⟨_,rfl⟩
 rw [hWs] at hsd hcd hdd hdl ⊢
 have HSD:Hid (∀ W,Ext w5 W→StrS W (some ⟨bd,od,none⟩) Ws):=fun W hx=>hsd.later hx (Nat.le_refl _)
 have HDD:=Lib.hid hdd
 have HX5:Hid (Ext w1 w5):=Ext.trans HX4.out hb5
 have H45:Hid (Ext w4 w5):=hb5
 clear hsd hdd hWs hb5
 go_wp2_with fail
 refine (built_any Ws Ws.length (some ⟨bd,od,none⟩) cd w5 (HSD.out w5 (Ext.refl _)) rfl hcd HDD.out).mono ?_
 rintro e w6 ⟨aD,cD,rfl,hcD,hdw,hb6⟩
 obtain ⟨nD,hnD⟩:∃ nD,(ofF (restAt 0 Ws)).length=nD:=⟨_,rfl⟩
 rw [hnD] at hcD ⊢
 have HAU:Hid (∀ W,Ext w6 W→AutS W aD nD cD Ws):=fun W hx=>⟨HDD.out,hnD.symm,hcD,hdw.later hx (Nat.le_refl _)⟩
 have HX6:Hid (Ext w1 w6):=Ext.trans HX5.out hb6
 have H46:Hid (Ext w4 w6):=Ext.trans H45.out hb6
 have H56:Hid (Ext w5 w6):=hb6
 clear hdw hnD hb6 hcD
 go_upto_region 4 with fail
 obtain ⟨p0,p1,p2,p3,p4⟩:=cells5 (HBX.out w6 HX6.out)
 go_wp2_with fail
 clear p0 p1 p2 p3 p4
 refine (slots_any lZ la ll lc 5 w6 ((HLB.out.later HX1.out (Nat.le_refl _)).later HX6.out (Nat.le_refl _)) hll (by decide)).mono ?_
 rintro e wp ⟨vL,rfl,hsl,hnn,hbp⟩
 obtain ⟨L,gL,cL,rfl,hlk,hL5,hne⟩:=slots_out HLB.out (Nat.min_le_left _ _) (Nat.min_le_right _ _) hsl hnn
 have HLK:Hid (∀ W,Ext wp W→SlkS W (some ⟨gL,0,none⟩) cL L):=fun W hx=>hlk.go hx
 obtain ⟨LL,hrL⟩:=hne
 have HLG:Hid (∀ W,Ext wp W→SltsR W 0 (.slice (some ⟨gL,0,none⟩) L.length cL) LL L):=fun W hx=>(hrL.mono (Nat.zero_le _)).later hx (Nat.le_refl _)
 have HWP:Hid (Ext w wp):=Ext.trans (Ext.trans HX1.out HX6.out) hbp
 have HP4:Hid (Ext w4 wp):=Ext.trans H46.out hbp
 have HP5:Hid (Ext w5 wp):=Ext.trans H56.out hbp
 have HP6:Hid (Ext w6 wp):=hbp
 clear hsl hnn hbp hlk hrL
 by_cases hL0:L.length=0
 ·
  have hL0I:((L.length:Int) == 0)=true:=by rw [hL0];rfl
  go_wp2_with fail
  go_ret
  exact ⟨rfl,HWP.out⟩
 ·
  have hL0I
       :
        ((
         L.length:Int) == 0)=false:=by rw [beq_eq_false_iff_ne];omega
  obtain ⟨k,hmod,hk,hnz⟩:=tmod_natC kn L.length k0 (by omega)
  have hcL:=(HLK.out wp (Ext.refl _)).cap
  have hlL:=hL5.len
  have hLLl:LL.length=L.length:=(HLG.out wp (Ext.refl _)).len
  have HLLl:=Lib.hid hLLl
  have HOE:Hid (OwnG rowSlts (wp.alloc (.cells #[] 53)) wp.heap.size (.slice (some ⟨wp.heap.size,0,none⟩) 0 0) []):=OwnG.empty rowSlts (heap_alloc_new _ _) (Nat.le_refl _)
  have HA0:Hid (Ext wp (wp.alloc (.cells #[] 53))):=(Below.refl _ _).alloc (Nat.le_refl _) _
  have HCE:=Lib.hid (cells_take (HLG.out _ HA0.out).own LL.length)
  rw [List.take_length] at HCE
  go_upto_region 9 with (at_builtin;go_loud (refine wpList_append_g (v:=.slice (some ⟨wp.heap.size,0,none⟩) 0 0) rowSlts_ok rfl _ _ rfl rfl HOE.out ⟨gL,0,none⟩ cL LL (by rw [HLLl.out];rfl) HCE.out (by have:=HLLl.out;simp only [List.length_nil];omega) (by simp only [World.size_alloc];omega) ?_);intro v7 w7 hown7 hgrow7 hat7;have HO7:=Lib.hid hown7;have HG7:=Lib.hid hgrow7;clear hown7 hgrow7 hat7)
  have HX7:Hid (Ext wp w7):=Below.grown HA0.out HG7.out HA0.out.size fun q hq=>HOE.out.ge q hq
  obtain ⟨g7,c7,rfl⟩:∃ g7 c7,v7=.slice (some ⟨g7,0,none⟩) L.length c7:=by
   rcases HO7.out.blk with ⟨_,e⟩ | ⟨g,c,e,_⟩
   · have h9:=congrArg List.length e;rw [List.nil_append,List.length_nil] at h9;omega
   · rw [List.nil_append,HLLl.out] at e;exact ⟨g,c,e⟩
  have HO7b:Hid (OwnG rowSlts w7 wp.heap.size (.slice (some ⟨g7,0,none⟩) L.length c7) LL):=HO7.out
  clear hmod hnz HOE HCE HG7 HO7 HA0 hL0I
  have hkL:k<LL.length:=by omega
  obtain ⟨s,hs⟩:∃ s,L[k]=s:=⟨_,rfl⟩
  have hsm:s∈L:=by rw [← hs];exact List.getElem_mem hk
  have hsb:=hL5.bnd s hsm
  have hsd:=hL5.dis s hsm
  have hel:=(HLG.out wp (Ext.refl _)).el k _ s (List.getElem?_eq_getElem hkL) (by rw [List.getElem?_eq_getElem hk,hs])
  have hs3:s.length≤256:=by
   have h1:(s.map fun h=>h.key.toNat).Nodup:=by
    unfold List.Nodup;rw [List.pairwise_map]
    exact hsd.imp fun h e=>h (UInt8.toNat_inj.1 e)
   have h2:=nodup_bound 256 _ h1 fun z hz=>by obtain ⟨h,_,rfl⟩:=List.mem_map.1 hz;exact h.key.toNat_lt
   rwa [List.length_map] at h2
  have hs0:0<s.length:=List.length_pos_iff.2 (hL5.ne s hsm)
  obtain ⟨gk,ck,hsv⟩:∃ gk ck,svS LL[k]=.slice (some ⟨gk,0,none⟩) s.length ck:=by
   rcases OwnG.blk hel with ⟨_,e⟩ | ⟨g,c,e,_⟩
   · rw [e] at hs0;exact absurd hs0 (Nat.lt_irrefl _)
   · exact ⟨g,c,e⟩
  have HSV:=Lib.hid hsv;have HEL:=Lib.hid hel;have HSS:=Lib.hid hs;have HSB:=Lib.hid hsb;have HSDI:=Lib.hid hsd
  have hw8:Ext w7 (w7.alloc (.cells #[] 55)):=(Below.refl _ _).alloc (Nat.le_refl _) _
  have hcl:(w7.alloc (.cells #[] 55)).cell? ⟨gL,k,none⟩=some (.slice (some ⟨gk,0,none⟩) s.length ck):=by
   have h:=(HLG.out _ (Ext.trans HX7.out hw8)).own.cell rowSlts_ok hkL (j:=0) (by decide)
   have e1:k*rowSlts.k+0=k:=by show k*1+0=_;omega
   rw [e1] at h
   have h2:(w7.alloc (.cells #[] 55)).cell? ⟨gL,k,none⟩=some (svS LL[k]):=h
   rw [hsv] at h2
   exact h2
  have hix:=idx_slts gL L.length cL k hk
  have hix7:=idx_slts g7 L.length c7 k hk
  have HOC:Hid (OwnG rowCh (w7.alloc (.cells #[] 55)) wp.heap.size (.slice (some ⟨w7.heap.size,0,none⟩) 0 0) []):=OwnG.empty rowCh (heap_alloc_new _ _) HX7.out.size
  have HCC:Hid (∀ j u,(s.flatMap rowCh.enc)[j]? = some u→(w7.alloc (.cells #[] 55)).cell? ((⟨gk,0,none⟩:Addr).add j)=some u):=by
   have h:=OwnG.later hel (Ext.trans HX7.out hw8) (Nat.le_refl _)
   have h1:OwnG rowCh (w7.alloc (.cells #[] 55)) 0 (.slice (some ⟨gk,0,none⟩) s.length ck) s:=by rw [← hsv];exact h
   have h2:=cells_take h1 s.length
   rwa [List.take_length] at h2
  have HX8:=Lib.hid hw8
  have HB7:Hid (wp.heap.size≤w7.heap.size):=HX7.out.size
  clear hs hsm hsb hsd hel hsv hw8
  go_upto_region 10 with (at_builtin;go_loud (refine wpList_append_g (v:=.slice (some ⟨w7.heap.size,0,none⟩) 0 0) rowCh_ok rfl _ _ rfl rfl HOC.out ⟨gk,0,none⟩ ck s rfl HCC.out (by simp only [List.length_nil];omega) (by have:=HB7.out;simp only [World.size_alloc];omega) ?_);intro v8 w8 hown8 hgrow8 hat8;obtain ⟨g8,c8,hv8⟩:=own_some (L:=s) hown8 hs0;subst hv8;have HO8:Hid (OwnG rowCh w8 wp.heap.size (.slice (some ⟨g8,0,none⟩) s.length c8) s):=hown8;have HG8:=Lib.hid hgrow8;obtain ⟨hr8,hcl8,hfz8,cs8,hcs8⟩:=copy_facts HO7b.out HX8.out HG8.out hkL HSV.out;have HR8:=Lib.hid hr8;have HCS8:=Lib.hid hcs8;clear hown8 hgrow8 hat8 hcs8 hr8)
  have HW8:Hid (Ext wp w8):=Below.grown (Ext.trans HX7.out HX8.out) HG8.out (by have:=HB7.out;simp only [World.size_alloc];omega) fun q hq=>HOC.out.ge q hq
  have HDR:Hid (DrQ wp LL L.length k g7 c7 g8 c8 s bN 0 (w8.setCell ⟨g7,k,none⟩ (.slice (some ⟨g8,0,none⟩) s.length c8))):=by
   refine ⟨HR8.out.setCell (by simp) ?_ (by show k<LL.length*1;omega) rowSlts_ok,?_,HW8.out.setCell (show wp.heap.size≤g7 from HR8.out.ge g7 rfl) _⟩
   · rw [flat_slts,flat_slts,List.map_set];rfl
   ·
    rw [dearTo_zero]
    refine OwnG.keep HO8.out fun q hq=>Below.heap_setCell _ _ _ _ ?_
    show q≠g7
    intro e
    obtain ⟨cs2,h2⟩:=ownG_obj HO8.out hq
    rw [e,HCS8.out] at h2
    injection h2 with h2
    injection h2 with _ h3
    exact absurd h3 (by decide)
  obtain ⟨w9,hw9⟩:∃ w9,w8.setCell ⟨g7,k,none⟩ (.slice (some ⟨g8,0,none⟩) s.length c8)=w9:=⟨_,rfl⟩
  rw [hw9] at HDR ⊢
  clear hw9 HO8 HG8 HR8 hcl8 hfz8 HCS8 HOC HCC hcl hix HX8 HB7 HO7b HX7 HW8
  go_wp2_with fail
  go_loopg [13] s.length (fun g v13 wr=>∃ i:Nat,v13=.int .i64 (i:Int)∧i≤s.length∧g=s.length - i∧DrQ wp LL L.length k g7 c7 g8 c8 s bN i wr)
  case atStart=>exact ⟨0,rfl,Nat.zero_le _,rfl,HDR.out⟩
  case round =>
   clear HDR
   obtain ⟨i,rfl,hi,hgk,hdr⟩:=hrel
   have HDR:=Lib.hid hdr;have HGK:=Lib.hid hgk
   clear hdr hgk
   have hks:k<(LL.set k ⟨some ⟨g8,0,none⟩,s.length,c8⟩).length:=by rw [List.length_set];exact hkL
   have hcl9:wr.cell? ⟨g7,k,none⟩=some (.slice (some ⟨g8,0,none⟩) s.length c8):=by
    have h:=HDR.out.row.cell rowSlts_ok hks (j:=0) (by decide)
    have e1:k*rowSlts.k+0=k:=by show k*1+0=_;omega
    rw [e1] at h
    simp only [List.getElem_set_self] at h
    exact h
   by_cases hil:i<s.length
   ·
    have hilI:(i:Int)<(s.length:Int):=by omega
    have hi2:i<(dearTo s bN i).length:=by rw [dearTo_len];exact hil
    have hc1:wr.cell? ⟨g8,i*2+1,none⟩=some (.int .i64 s[i].cost):=by
     have h:=HDR.out.cpy.cell rowCh_ok hi2 (j:=1) (by decide)
     rw [dearTo_at hil] at h
     exact h
    obtain ⟨cs9,hcs9⟩:=ownG_obj HDR.out.cpy (g:=g8) rfl
    have hfz9:wr.frozen? ⟨g8,i*2+1,none⟩=false:=by simp [World.frozen?,hcs9]
    have hixc:=idx_chsl g8 s.length c8 i hil
    have hcb:=HSB.out _ (List.getElem_mem hil)
    have HPT:=Lib.hid (HDR.out.put hil)
    obtain ⟨cc,hcc⟩:∃ cc,s[i].cost=cc:=⟨_,rfl⟩
    rw [hcc] at hc1 hcb HPT
    clear hcs9 hcc
    obtain ⟨hcb0,hcb1⟩:=hcb
    go_wp2_with fail
    go_roundg (s.length - (i+1))
    case measure=>have:=HGK.out;omega
    case rel=>exact ⟨i+1,by go_num,by omega,rfl,HPT.out⟩
   ·
    obtain rfl:i=s.length:=by omega
    have hilI:¬ (s.length:Int)<(s.length:Int):=by omega
    have hdn:=HDR.out
    have HXW:Hid (Ext wp wr):=hdn.ext
    have hdearR:SltsR wr wp.heap.size (.slice (some ⟨g7,0,none⟩) L.length c7) (LL.set k ⟨some ⟨g8,0,none⟩,s.length,c8⟩) (dearL L k bN):=by
     refine ⟨hdn.row,by rw [List.length_set,dearL_len];exact hLLl,fun j x t h1 h2=>?_⟩
     have hg:=HLG.out wr HXW.out
     unfold dearL at h2
     rw [List.getElem?_modify] at h2
     rw [List.getElem?_set] at h1
     by_cases e:k=j
     ·
      subst e
      rw [if_pos rfl,if_pos hkL] at h1
      cases h1
      rw [List.getElem?_eq_getElem hk,HSS.out] at h2
      simp at h2
      subst h2
      refine ElS.of (B:=wp.heap.size) ?_
      have h:=hdn.cpy
      rw [dearTo_all] at h
      exact h
     ·
      rw [if_neg e] at h1
      have h3:L[j]? = some t:=by
       cases e2:L[j]? with
       | none=>rw [e2] at h2;simp at h2
       | some u=>rw [e2] at h2;simp [e] at h2;rw [h2]
      exact hg.el j x t h1 h3
    have hdm:∀ t∈dearL L k bN,∃ u∈L,t=u∨t=dearS u bN:=fun t ht=>dearL_mem ht
    have HDK:Hid (SlkS wr (some ⟨g7,0,none⟩) c7 (dearL L k bN)):=by
     refine (SlkS.of ⟨_,hdearR⟩ (by rw [dearL_len];omega) (fun t ht h hh=>?_) fun t ht=>?_).1
     ·
      obtain ⟨u,hu,rfl | rfl⟩:=hdm t ht
      · have:=hL5.bnd _ hu h hh;omega
      ·
       obtain ⟨h',hh',rfl⟩:=List.mem_map.1 hh
       have:=hL5.bnd _ hu h' hh'
       show 0≤h'.cost+(bN:Int)∧h'.cost+(bN:Int)≤((300:Nat):Int)
       omega
     ·
      obtain ⟨u,hu,rfl | rfl⟩:=hdm t ht
      · exact hL5.dis _ hu
      ·
       unfold dearS
       rw [List.pairwise_map]
       exact hL5.dis _ hu
    obtain ⟨wd,hwd⟩:∃ wd:World,wd=wr:=⟨wr,rfl⟩
    subst hwd
    obtain ⟨d0,d1,d2⟩:=sch_cells (HSC.out wd (Ext.trans HP4.out HXW.out))
    clear hdn hdearR hdm HDR hks
    go_wp2_with fail
    clear d0 d1 d2
    refine (words_l (HSM.out wd (Ext.trans HP4.out HXW.out)) (HAU.out wd (Ext.trans HP6.out HXW.out)) (by omega) (HLK.out wd HXW.out)).mono ?_
    rintro e w10 hp
    obtain ⟨v10,rfl,⟨a14,c14,la,rfl,hfa,hka, -⟩,hb10⟩:=fnS_of hp
    have HX10:Hid (Ext wd w10):=hb10
    have HFA:Hid (∀ W,Ext w10 W→FndS W a14 la):=fun W hx=>hfa.kp (Kc.of hx (Nat.le_refl _))
    have HKA:=Lib.hid hka
    have hlal:=fnd_lenC hka.toFndOk
    rw [List.length_map] at hlal
    clear hp hfa hka hb10
    go_wp2_with fail
    have HW0:Hid (OwnG rowFnd (w10.alloc (.cells #[] 59)) w10.heap.size (.slice (some ⟨w10.heap.size,0,none⟩) 0 0) []):=OwnG.empty rowFnd (heap_alloc_new _ _) (Nat.le_refl _)
    have HA1:Hid (Ext w10 (w10.alloc (.cells #[] 59))):=(Below.refl _ _).alloc (Nat.le_refl _) _
    go_loopg [15,16] la.length (fun gg v15 v16 wr=>∃ i:Nat,v16=.int .i64 (i:Int)∧i≤la.length∧gg=la.length - i∧OwnG rowFnd wr w10.heap.size v15 (plusF bN (la.take i))∧Ext w10 wr)
    case atStart=>exact ⟨0,rfl,Nat.zero_le _,rfl,HW0.out,HA1.out⟩
    case round =>
     clear HW0 HA1
     obtain ⟨i,rfl,hi,hgk,how,hxr⟩:=hrel
     obtain ⟨a15,c15,hv15, -, -⟩:=how.form
     subst hv15
     have HOW:=Lib.hid how;have HXR:=Lib.hid hxr;have HGK:=Lib.hid hgk
     have hgl:(plusF bN (la.take i)).length≤10:=by unfold plusF;rw [List.length_map,List.length_take];omega
     clear how hxr hgk
     by_cases hil:i<la.length
     ·
      have hilI:(i:Int)<(la.length:Int):=by omega
      have HSU:=Lib.hid (plusF_succ (b:=bN) hil)
      obtain ⟨b14,o14,ha14,hb14,q0,q1⟩:=(HFA.out wr HXR.out) i hil
      have hix:=idx_fndC a14 b14 o14 la.length c14 i ha14 hil
      have hcb:la[i].2≤900000000000:=HKA.out.low _ (List.getElem_mem hil)
      obtain ⟨p,hp⟩:∃ p,la[i].1=p:=⟨_,rfl⟩
      obtain ⟨c,hc⟩:∃ c,la[i].2=c:=⟨_,rfl⟩
      rw [hp] at q0 HSU
      rw [hc] at q1 HSU hcb
      obtain ⟨G,hG⟩:∃ G,plusF bN (la.take i)=G:=⟨_,rfl⟩
      rw [hG] at HOW HSU hgl ⊢
      have HQ0:=Lib.hid q0;have HQ1:=Lib.hid q1;have HB14:=Lib.hid hb14;have HIX:=Lib.hid hix
      have HSZ:Hid (w10.heap.size≤wr.heap.size):=HXR.out.size
      have HNB:Hid ((Value.slice a15 G.length c15).ownBlock≠some b14):=fun e=>by
       have h1:=HOW.out.ge _ e
       obtain ⟨b9,o9,e9,h9,_⟩:=(HFA.out w10 (Ext.refl _)) i hil
       rw [ha14] at e9
       injection e9 with e9
       injection e9 with e9
       omega
      obtain ⟨wq,hwq⟩:∃ wq:World,wq=wr:=⟨wr,rfl⟩
      subst hwq
      have HWB:Hid (IntKind.i64.wrap (bN:Int)=(bN:Int)):=by show _=_;rw [IntKind.wrap_i64];omega
      have HWS:Hid (IntKind.i64.wrap ((c:Int)+(bN:Int))=(c:Int)+(bN:Int)):=by show _=_;rw [IntKind.wrap_i64];omega
      clear ha14 hp hc hG q0 q1 hb14 hix
      go_wp2_with fail
      refine wp_region_st (by kernel_rfl) (Vs [fun v _=>v=.slice a15 G.length c15,fun v _=>v=.slice a14 la.length c14,fun v _=>v=.int .i64 (i:Int),fun v _=>v=.pointer (some ⟨b14,o14+i*2,none⟩),fun v _=>v=.pointer (some ⟨b14,o14+i*2,none⟩),fun v _=>v=.int .i64 (p:Int),fun v _=>v=.slice a14 la.length c14,fun v _=>v=.int .i64 (i:Int),fun v _=>v=.pointer (some ⟨b14,o14+i*2,none⟩),fun v _=>v=.pointer (some ⟨b14,o14+i*2+1,none⟩),fun v _=>v=.int .i64 (c:Int),fun v _=>v=.int .u8 (bN:Int),fun v _=>v=.int .i64 (bN:Int),fun v _=>v=.int .i64 ((c:Int)+(bN:Int)),fun v _=>v=.agg #[.int .i64 (p:Int),.int .i64 ((c:Int)+(bN:Int))],RowG1 rowFnd (.slice a15 G.length c15) (p,c+bN),AppP rowFnd (wq) (w10.heap.size) (.slice a15 G.length c15) (G ++ [(p,c+bN)]),AppP rowFnd (wq) (w10.heap.size) (.slice a15 G.length c15) (G ++ [(p,c+bN)])]) (Xs [Ext,Ext,Ext,Ext,Ext,Ext,Ext,Ext,Ext,Ext,Ext,Ext,Ext,Ext,Ext,Ext,(fun w w'=>w.grownBy w' (.slice a15 G.length c15:Value).ownBlock),Ext]) (fun fL=>(ApT (wq) (.slice a15 G.length c15)) (fL 16)) [0,0,0,6,14,30,0,0,192,448,960,0,2048,8128,16382,32766,65535,131071] 108 18 (by kernel_rfl) rfl ?hV ?hS ?hop ?hfin ?hlast
      case hV =>
       refine xs_stays (vs_stays (by simp only [List.mem_cons,List.not_mem_nil,or_false,forall_eq_or_imp,forall_eq];exact ⟨stays_const _,stays_const _,stays_const _,stays_const _,stays_const _,stays_const _,stays_const _,stays_const _,stays_const _,stays_const _,stays_const _,stays_const _,stays_const _,stays_const _,stays_const _,rowG1_stays _ _ _,appP_stays,appP_stays⟩)) ?_
       exact ⟨.inl rfl,.inl rfl,.inl rfl,.inl rfl,.inl rfl,.inl rfl,.inl rfl,.inl rfl,.inl rfl,.inl rfl,.inl rfl,.inl rfl,.inl rfl,.inl rfl,.inl rfl,.inl rfl,.inr (staysM_all ⟨fun _ _=>fun _ _ _ h _=>h,fun _ _=>fun _ _ _ h _=>h,fun _ _=>fun _ _ _ h _=>h,fun _ _=>fun _ _ _ h _=>h,fun _ _=>fun _ _ _ h _=>h,fun _ _=>fun _ _ _ h _=>h,fun _ _=>fun _ _ _ h _=>h,fun _ _=>fun _ _ _ h _=>h,fun _ _=>fun _ _ _ h _=>h,fun _ _=>fun _ _ _ h _=>h,fun _ _=>fun _ _ _ h _=>h,fun _ _=>fun _ _ _ h _=>h,fun _ _=>fun _ _ _ h _=>h,fun _ _=>fun _ _ _ h _=>h,fun _ _=>fun _ _ _ h _=>h,fun _ _=>rowG1_grown _ _ _,fun h=>absurd rfl h,fun _ h=>absurd h (by decide),trivial⟩),.inl rfl,trivial⟩
      case hS =>
       intro fL hf
       show (ApT (wq) (.slice a15 G.length c15)) (fL 16) _
       rw [hf 16 (by decide)]
       first | exact Ext.refl _ | exact drew_ext _
      case hop =>
       refine ⟨?_,?_,?_,?_,?_,?_,?_,?_,?_,?_,?_,?_,?_,?_,?_,?c15,?c16,?c17,trivial⟩
       all_goals first | rw [if_neg (by decide)] | rw [if_pos (by decide)]
       all_goals try intro ac W fL hsz hfi hms hdn hS0 hdep hbase hund
       all_goals try have hS:(ApT (wq) (.slice a15 G.length c15)) (fL 16) W:=hS0
       all_goals try (have hfl16:fL 16=true:=hms 16 (by decide);rw [hfl16] at hS)
       all_goals try (have hfl16:fL 16=false:=(by first | exact hfi | exact hdn 16 (by decide) (by decide));rw [hfl16] at hS)
       all_goals try (
        have hne9:(Value.slice a15 G.length c15).ownBlock≠some b14:=fun e=>HNB.out e
        have q0:W.cell? ⟨b14,o14+i*2,none⟩=some (.int .i64 (p:Int)):=(World.cell?_of_block (ApT.old hS0 b14 HB14.out hne9)).trans HQ0.out
        have q1:W.cell? ⟨b14,o14+i*2+1,none⟩=some (.int .i64 (c:Int)):=(World.cell?_of_block (ApT.old hS0 b14 HB14.out hne9)).trans HQ1.out
        have hix:=HIX.out
        have hwb:IntKind.i64.wrap (bN:Int)=(bN:Int):=HWB.out
        have hws:IntKind.i64.wrap ((c:Int)+(bN:Int))=(c:Int)+(bN:Int):=HWS.out
        clear hne9)
       all_goals try (have h2:ac.tmps.getD 2 undef=.int .u8 (bN:Int):=hbase 2 (by kernel_rfl);have hh2:=h2;rw [Array.getD_eq_getD_getElem?] at hh2)
       all_goals try (have h14:ac.tmps.getD 14 undef=.slice a14 la.length c14:=hbase 14 (by kernel_rfl);have hh14:=h14;rw [Array.getD_eq_getD_getElem?] at hh14)
       all_goals try (have h15:ac.tmps.getD 15 undef=.slice a15 G.length c15:=hund 17 15 (by decide) (hdn 17 (by decide) (by decide)) rfl;have hh15:=h15;rw [Array.getD_eq_getD_getElem?] at hh15)
       all_goals try (have h16:ac.tmps.getD 16 undef=.int .i64 (i:Int):=hbase 16 (by kernel_rfl);have hh16:=h16;rw [Array.getD_eq_getD_getElem?] at hh16)
       all_goals try (have d82:ac.tmps.getD 82 undef=.slice a15 G.length c15:=hdep 0 (by decide);have dd82:=d82;rw [Array.getD_eq_getD_getElem?] at dd82)
       all_goals try (have d83:ac.tmps.getD 83 undef=.slice a14 la.length c14:=hdep 1 (by decide);have dd83:=d83;rw [Array.getD_eq_getD_getElem?] at dd83)
       all_goals try (have d84:ac.tmps.getD 84 undef=.int .i64 (i:Int):=hdep 2 (by decide);have dd84:=d84;rw [Array.getD_eq_getD_getElem?] at dd84)
       all_goals try (have d85:ac.tmps.getD 85 undef=.pointer (some ⟨b14,o14+i*2,none⟩):=hdep 3 (by decide);have dd85:=d85;rw [Array.getD_eq_getD_getElem?] at dd85)
       all_goals try (have d86:ac.tmps.getD 86 undef=.pointer (some ⟨b14,o14+i*2,none⟩):=hdep 4 (by decide);have dd86:=d86;rw [Array.getD_eq_getD_getElem?] at dd86)
       all_goals try (have d87:ac.tmps.getD 87 undef=.int .i64 (p:Int):=hdep 5 (by decide);have dd87:=d87;rw [Array.getD_eq_getD_getElem?] at dd87)
       all_goals try (have d88:ac.tmps.getD 88 undef=.slice a14 la.length c14:=hdep 6 (by decide);have dd88:=d88;rw [Array.getD_eq_getD_getElem?] at dd88)
       all_goals try (have d89:ac.tmps.getD 89 undef=.int .i64 (i:Int):=hdep 7 (by decide);have dd89:=d89;rw [Array.getD_eq_getD_getElem?] at dd89)
       all_goals try (have d90:ac.tmps.getD 90 undef=.pointer (some ⟨b14,o14+i*2,none⟩):=hdep 8 (by decide);have dd90:=d90;rw [Array.getD_eq_getD_getElem?] at dd90)
       all_goals try (have d91:ac.tmps.getD 91 undef=.pointer (some ⟨b14,o14+i*2+1,none⟩):=hdep 9 (by decide);have dd91:=d91;rw [Array.getD_eq_getD_getElem?] at dd91)
       all_goals try (have d92:ac.tmps.getD 92 undef=.int .i64 (c:Int):=hdep 10 (by decide);have dd92:=d92;rw [Array.getD_eq_getD_getElem?] at dd92)
       all_goals try (have d93:ac.tmps.getD 93 undef=.int .u8 (bN:Int):=hdep 11 (by decide);have dd93:=d93;rw [Array.getD_eq_getD_getElem?] at dd93)
       all_goals try (have d94:ac.tmps.getD 94 undef=.int .i64 (bN:Int):=hdep 12 (by decide);have dd94:=d94;rw [Array.getD_eq_getD_getElem?] at dd94)
       all_goals try (have d95:ac.tmps.getD 95 undef=.int .i64 ((c:Int)+(bN:Int)):=hdep 13 (by decide);have dd95:=d95;rw [Array.getD_eq_getD_getElem?] at dd95)
       all_goals try (have d96:ac.tmps.getD 96 undef=.agg #[.int .i64 (p:Int),.int .i64 ((c:Int)+(bN:Int))]:=hdep 14 (by decide);have dd96:=d96;rw [Array.getD_eq_getD_getElem?] at dd96)
       all_goals try have d97:(RowG1 rowFnd (.slice a15 G.length c15) (p,c+bN)) (ac.tmps.getD 97 undef) W:=hdep 15 (by decide)
       all_goals try have d98:(AppP rowFnd (wq) (w10.heap.size) (.slice a15 G.length c15) (G ++ [(p,c+bN)])) (ac.tmps.getD 98 undef) W:=hdep 16 (by decide)
       all_goals try clear hbase hdep hms hdn hund
       case c15 =>
        have hS1:(ApT (wq) (.slice a15 G.length c15)) ((upd fL 15) 16) W:=hS0
        have hlt62:(.slice a15 G.length c15:Value).ownBlock≠some W.heap.size:=fun e=>by
         have h9:=(HOW.out).lt _ e
         have h8:=Below.size hS
         omega
        refine opOk_run rfl (.inl ⟨.slice (some ⟨W.heap.size,0,none⟩) 1 1,W.alloc (.cells #[.int .i64 (p:Int),.int .i64 ((c:Int)+(bN:Int))] 59),?_,⟨_,rfl,heap_alloc_new _ _,hlt62⟩,(Below.refl _ _).alloc (Nat.le_refl _) _,(show (ApT (wq) (.slice a15 G.length c15)) ((upd fL 15) 16) _ by
         rw [show upd fL 15 16=fL 16 from if_neg (by decide)]
         exact ApT.ext _ _ _ hS0 ((Below.refl _ _).alloc (Nat.le_refl _) _))⟩)
        clear hsz hS hS0 hS1 hfi hlt62;simp [go_sem,Act.eval, *]
       case c16 =>
        obtain ⟨g62,e62,hg62,hn62⟩:=d97
        refine opOk_run rfl ((opres_append_g rowFnd_ok (.tmp 82) (.tmp 97) rfl (eval_tmp d82) ((HOW.out).later hS (Nat.le_refl _)) ⟨g62,0,none⟩ 1 [(p,c+bN)] (eval_tmp e62) (cells_built hg62) (by simp only [List.length_singleton];omega) (Nat.le_trans HSZ.out (Below.size hS))).mono ?_)
        rintro va w' ⟨ho,hgr,hat⟩
        have hap8:=AppP.made hS ho hgr hat
        refine ⟨hap8,hgr,?_⟩
        show ApT (wq) (.slice a15 G.length c15) (upd fL 16 16) w'
        rw [show upd fL 16 16=true from if_pos rfl]
        exact hap8.old
       case c17 =>
        have hS1:(ApT (wq) (.slice a15 G.length c15)) ((upd fL 17) 16) W:=hS0
        refine opOk_run rfl (.inl ⟨_,W,?_,d98,Ext.refl _,hS1⟩)
        clear hsz hS hS0 hS1 hfi;simp [go_sem,Act.eval, *]
       all_goals (refine opOk_run rfl (.inl ⟨_,W,?_,rfl,Ext.refl _,hS0⟩);clear hsz hS hS0 hfi;simp [go_sem,Act.eval, *];done)
      case hlast =>
       intro h;exact absurd rfl h
      case hfin =>
       intro _ ac W hsz hdf fL hf hS0 hv hbase
       have hS:(ApT (wq) (.slice a15 G.length c15)) (fL 16) W:=hS0
       clear hS0
       rw [hf 16 (by decide)] at hS
       obtain ⟨sx,hsx,hsA⟩:=act_puts [82,83,84,85,86,87,88,89,90,91,92,93,94,95,96,97,98,15] (by kernel_rfl) hsz hdf hbase
       have hap9:AppP rowFnd (wq) (w10.heap.size) (.slice a15 G.length c15) (G ++ [(p,c+bN)]) (ac.tmps.getD 15 undef) W:=hv 17 (by decide)
       obtain ⟨ya,yc,hya, -, -⟩:=hap9.own.form
       have edst:sx 15=.slice ya (G ++ [(p,c+bN)]).length yc:=(hsx 15).trans hya
       rw [hya] at hap9
       have HAP:=Lib.hid hap9
       clear hya hap9
       rw [hsA]
       simp only [List.foldl]
       simp only [Act.put,List.setIfInBounds_toArray,List.set_cons_succ,List.set_cons_zero]
       clear hsA hsx hv hbase hsz hdf hf
       rw [edst]
       clear edst
       obtain ⟨wz,hwz⟩:∃ wz:World,wz=W:=⟨W,rfl⟩
       rw [← hwz] at HAP ⊢
       clear hS hwz
       go_wp2_with fail
       go_roundg (la.length - (i+1))
       case measure=>have:=HGK.out;omega
       case rel=>exact ⟨i+1,by go_num,by omega,rfl,by rw [HSU.out];exact HAP.out.own,Below.trans HXR.out (HAP.out.below (C:=w10.heap.size) HXR.out.size fun q hq=>HOW.out.ge q hq)⟩
     ·
      obtain rfl:i=la.length:=by omega
      have hilI:¬ (la.length:Int)<(la.length:Int):=by omega
      rw [List.take_length] at HOW hgl ⊢
      have HFW:=Lib.hid HOW.out.fnds.1
      have hxr:Ext wd wr:=Ext.trans HX10.out HXR.out
      have HXD:=Lib.hid hxr
      obtain ⟨d0,d1,d2⟩:=sch_cells (HSC.out wr (Ext.trans HP4.out (Ext.trans HXW.out hxr)))
      obtain ⟨wv,hwv⟩:∃ wv:World,wv=wr:=⟨wr,rfl⟩
      subst hwv
      clear hxr
      have hwd:=words_l (HSM.out wv (Ext.trans HP4.out (Ext.trans HXW.out HXD.out))) (HAU.out wv (Ext.trans HP6.out (Ext.trans HXW.out HXD.out))) (by omega) (HDK.out.go HXD.out)
      rw [dearL_len] at hwd
      have HWD:=Lib.hid hwd
      clear hwd
      go_wp2_with fail
      clear d0 d1 d2
      refine HWD.out.mono ?_
      rintro e w11 hp
      obtain ⟨v11,rfl,⟨ab,cb,lb,rfl,hfb,hkb, -⟩,hb11⟩:=fnS_of hp
      have HX11:Hid (Ext wv w11):=hb11
      have HFB:=Lib.hid hfb
      have HEQ:Hid (lb=plusF bN la):=by
       have h1:=dear_ok (fun t ht h hh=>(hL5.bnd t ht h hh).1) hk HKA.out.toFndOk (b:=bN)
       rw [dearL_len] at h1
       exact hkb.uniq h1 fun _ _ _=>Iff.rfl
      have hlbl:lb.length≤10:=by rw [HEQ.out];exact hgl
      clear hp hfb hkb hb11
      go_wp2_with fail
      refine (fsame_any lb (plusF bN la) ab a15 cb c15 w11 HFB.out (HFW.out.kp (Kc.of HX11.out (Nat.le_refl _))) (by omega) (by omega)).mono ?_
      rw [decide_eq_true HEQ.out]
      rintro e w12 ⟨rfl,hb12⟩
      have HX12:Hid (Ext w11 w12):=hb12
      clear hb12
      go_wp2_with fail
      go_ret
      exact ⟨rfl,Ext.trans HWP.out (Ext.trans HXW.out (Ext.trans HXD.out (Ext.trans HX11.out HX12.out)))⟩
end Go.Proofs.YthjmdgejnakcmaaGreatDoor
