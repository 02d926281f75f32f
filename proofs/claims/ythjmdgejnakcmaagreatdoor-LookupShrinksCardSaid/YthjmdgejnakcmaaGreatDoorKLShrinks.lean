/- LookupShrinks: the walk. -/
import Derived.Test.YthjmdgejnakcmaaGreatDoorMK7
namespace Go.Proofs.YthjmdgejnakcmaaGreatDoor
open Go.RowKit Go.WideShapes Fl
set_option linter.unusedVariables false
set_option linter.unusedSimpArgs false
theorem goneF_succ {g:Nat} {l:List (Nat × Nat)} {i:Nat} (hi:i<l.length):goneF g (l.take (i+1))=goneF g (l.take i) ++ (if l[i].1=g then [] else [(if l[i].1 > g then l[i].1 - 1 else l[i].1,l[i].2)]):=by
 rw [List.take_succ_eq_append_getElem hi]
 unfold goneF
 rw [List.filter_append,List.map_append]
 congr 1
 by_cases h:l[i].1=g
 · simp [h]
 · simp [h]
theorem erase_dict {Ws:List ByteArray} (h:Dict Ws) (g:Nat) (h2:2≤Ws.length) (hg:g<Ws.length):Dict (Ws.take g ++ Ws.drop (g+1)):=by
 have e:Ws.take g ++ Ws.drop (g+1)=Ws.eraseIdx g:=(List.eraseIdx_eq_take_drop_succ Ws g).symm
 rw [e]
 have hs:(Ws.eraseIdx g).Sublist Ws:=List.eraseIdx_sublist ..
 have hl:(Ws.eraseIdx g).length=Ws.length - 1:=by rw [List.length_eraseIdx,if_pos hg]
 exact dict_mk2 (by omega) (by have:=h.2.1;omega) (fun x hx=>h.word x (hs.mem hx)) (h.sorted.sublist hs)
theorem erase_map {Ws:List ByteArray} {g:Nat}:(Ws.take g ++ Ws.drop (g+1)).map bts=(Ws.map bts).eraseIdx g:=by
 rw [List.eraseIdx_eq_take_drop_succ,List.map_append,List.map_take,List.map_drop]
def AutV (Ws:List ByteArray) (v:Value) (w:World):Prop:=∃ a n c,v=.slice a n c∧AutS w a n c Ws
theorem autV_stays (Ws:List ByteArray):Stays (AutV Ws):=by
 rintro v w w' ⟨a,n,c,h1,h2⟩ hx
 exact ⟨a,n,c,h1,h2.go hx⟩
theorem autV_of {Ws:List ByteArray} {w w':World} {e:Ending} (hd:Dict Ws) (h:BltP (ofF (restAt 0 Ws)) w e w'):∃ v,e=.returned v∧AutV Ws v w'∧Below w.heap.size w w':=by
 obtain ⟨a,c,he,hc,hr,hb⟩:=h
 exact ⟨_,he,⟨a,_,c,rfl,hd,rfl,hc,hr⟩,hb⟩
theorem fnd_len {R:List Rl} {acc:Int} {L:List Slt} {W:List (List UInt8)} {i:Nat} {l:List (Nat × Nat)} (h:FndOk R acc L W i l):l.length≤W.length:=by
 have h1:(l.map (·.1)).Nodup:=by unfold List.Nodup;rw [List.pairwise_map];exact h.sorted.imp fun h=>by omega
 have h2:=nodup_bound W.length _ h1 fun z hz=>by
  obtain ⟨⟨q,c⟩,hp,rfl⟩:=List.mem_map.1 hz
  exact ((h.mem q c).1 hp).1
 rwa [List.length_map] at h2
theorem idx_fndl (a:Option Addr) (b o n c k:Nat) (ha:a=some ⟨b,o,none⟩) (hk:k<n) (w:World):(Instr.indexAt 48 (.slice a n c) (.int .i64 (k:Int))).run Tryz.prog w=.ok (.pointer (some ⟨b,o+k*2,none⟩)) w:=by
 subst ha
 have h0:(0:Int)≤(k:Int):=by omega
 have h1:(k:Int)<(n:Int):=by omega
 simp [go_sem,h0,h1]
theorem tmod_nat (z:Int) (n:Nat) (h:0≤z) (hn:0<n):∃ k:Nat,z.tmod (n:Int)=(k:Int)∧k<n∧((n:Int) == 0)=false:=by
 obtain ⟨m,rfl⟩:=Int.eq_ofNat_of_zero_le h
 refine ⟨m % n,by rw [Int.tmod_eq_emod_of_nonneg h];exact (Int.natCast_emod m n).symm,Nat.mod_lt _ hn,?_⟩
 rw [beq_eq_false_iff_ne];omega
set_option maxHeartbeats 12800000 in
set_option maxRecDepth 100000 in
theorem
    lookupShrinks_view (x:CaseA) (kn:Int) (w:World) (hx:CaseOk w x) (k0:0≤kn) (k1:kn≤255) (hT:Tab w) :
  Calls Tryz.prog 5 #[x.val,.int .u8 kn] w fun e w'=>e=.returned (.bool true)∧Below w.heap.size w w':=by
 obtain ⟨⟨M,A,ra,rl,rc,rQ⟩,⟨wa,wl,wc,wQ⟩,⟨la,ll,lc,lZ⟩⟩:=x
 obtain ⟨⟨hM0,hM1,hA0,hA1,hraw⟩,⟨hwr,hwl⟩,⟨hlb,hll⟩⟩:=hx
 simp only at hM0 hM1 hA0 hA1 hraw hwr hwl hlb hll
 have HRA:=Lib.hid hraw;have HWR:=Lib.hid hwr;have HLB:=Lib.hid hlb;have HT:=Lib.hid hT
 clear hraw hwr hlb hT
 simp only [CaseA.val]
 go_enter Tryz.func5,Tryz.ntmps5
 go_wp2_with fail
 obtain ⟨w1,hw1⟩:∃ w1,w.alloc (.cells #[.int .u8 M,.int .u8 A,.slice ra rl rc,.slice wa wl wc,.slice la ll lc] 28)=w1:=⟨_,rfl⟩
 rw [hw1]
 have HX1:Hid (Ext w w1):=by show Ext _ _;rw [← hw1];exact (Below.refl _ _).alloc (Nat.le_refl _) _
 have hbx:w1.heap[w.heap.size]? = some (.cells #[.int .u8 M,.int .u8 A,.slice ra rl rc,.slice wa wl wc,.slice la ll lc] 28 (0,0)):=by rw [← hw1];exact heap_alloc_new _ _
 have HBX:Hid (∀ W,Ext w1 W→W.heap[w.heap.size]? = some (.cells #[.int .u8 M,.int .u8 A,.slice ra rl rc,.slice wa wl wc,.slice la ll lc] 28 (0,0))):=fun W hx=>(Below.block hx _ (Array.getElem?_eq_some_iff.1 hbx).1).trans hbx
 clear hw1 hbx
 obtain ⟨gx,hgx⟩:∃ gx,w.heap.size=gx:=⟨_,rfl⟩
 rw [hgx] at HBX ⊢
 clear hgx
 refine (sanity_any w1 (HT.out.later HX1.out)).mono ?_
 rintro e w2 ⟨rfl,hb2⟩
 have HX2:Hid (Ext w1 w2):=hb2
 clear hb2
 obtain ⟨p0,p1,p2,p3,p4⟩:=cells5 (HBX.out w2 HX2.out)
 go_wp2_with fail
 clear p0 p1 p2 p3 p4
 refine (safe_any M A ra rl rc rQ w2 hM0 hM1 hA0 hA1 ((HRA.out.later HX1.out (Nat.le_refl _)).later HX2.out (Nat.le_refl _))).mono ?_
 rintro e w3 ⟨S,b,cS,rfl,hsafe,hb3⟩
 have HX3:Hid (Ext w1 w3):=Ext.trans HX2.out hb3
 have HSF:=Lib.hid hsafe
 clear hb3 hsafe
 go_upto_region 3 with fail
 obtain ⟨w4,hw4⟩:∃ w4,w3.alloc (.cells #[.int .i64 S.modes,.int .u8 S.acc,.slice b S.rules.length cS] 32)=w4:=⟨_,rfl⟩
 rw [hw4]
 have hx4:Ext w3 w4:=by rw [← hw4];exact (Below.refl _ _).alloc (Nat.le_refl _) _
 have hsc4:w4.heap[w3.heap.size]? = some (.cells #[.int .i64 S.modes,.int .u8 S.acc,.slice b S.rules.length cS] 32 (0,0)):=by rw [← hw4];exact heap_alloc_new _ _
 have HSC:Hid (∀ W,Ext w4 W→W.heap[w3.heap.size]? = some (.cells #[.int .i64 S.modes,.int .u8 S.acc,.slice b S.rules.length cS] 32 (0,0))):=fun W hx=>(Below.block hx _ (Array.getElem?_eq_some_iff.1 hsc4).1).trans hsc4
 have HSM:Hid (∀ W,Ext w4 W→SchM W S b cS):=fun W hx=>((SafeS.schM HSF.out).go hx4).go hx
 have HX4:Hid (Ext w1 w4):=Ext.trans HX3.out hx4
 clear hw4 hx4 hsc4
 obtain ⟨gs,hgs⟩:∃ gs,w3.heap.size=gs:=⟨_,rfl⟩
 rw [hgs] at HSC ⊢
 clear hgs
 obtain ⟨p0,p1,p2,p3,p4⟩:=cells5 (HBX.out w4 HX4.out)
 go_wp2_with fail
 clear p0 p1 p2 p3 p4
 refine (dictionary13_any wQ wa wl wc 10 w4 ((HWR.out.later HX1.out (Nat.le_refl _)).later HX4.out (Nat.le_refl _)) hwl (by decide)).mono ?_
 rintro e w5 ⟨bd,od,cd,rfl,hsd,hcd,hb5⟩
 have hdd:=dic_dict wQ wl 10 (by decide)
 have hdl:=dic_len wQ wl 10 (by decide)
 obtain ⟨Ws,hWs⟩:∃ Ws,dicF wQ wl 10=Ws:=⟨_,rfl⟩
 rw [hWs] at hsd hcd hdd hdl ⊢
 have HSD:Hid (∀ W,Ext w5 W→StrS W (some ⟨bd,od,none⟩) Ws):=fun W hx=>hsd.later hx (Nat.le_refl _)
 have HDD:=Lib.hid hdd
 have HX5:Hid (Ext w1 w5):=Ext.trans HX4.out hb5
 have H45:Hid (Ext w4 w5):=hb5
 clear hsd hdd hWs hb5
 go_upto_region 4 with fail
 obtain ⟨p0,p1,p2,p3,p4⟩:=cells5 (HBX.out w5 HX5.out)
 go_wp2_with fail
 clear p0 p1 p2 p3 p4
 refine (slots_any lZ la ll lc 5 w5 ((HLB.out.later HX1.out (Nat.le_refl _)).later HX5.out (Nat.le_refl _)) hll (by decide)).mono ?_
 rintro e wp ⟨vL,rfl,hsl,hnn,hbp⟩
 obtain ⟨L,gL,cL,rfl,hlk,hL5,hne⟩:=slots_out HLB.out (Nat.min_le_left _ _) (Nat.min_le_right _ _) hsl hnn
 have HLK:Hid (∀ W,Ext wp W→SlkS W (some ⟨gL,0,none⟩) cL L):=fun W hx=>hlk.go hx
 obtain ⟨LL,hrL⟩:=hne
 have HLG:Hid (∀ W,Ext wp W→SltsR W 0 (.slice (some ⟨gL,0,none⟩) L.length cL) LL L):=fun W hx=>(hrL.mono (Nat.zero_le _)).later hx (Nat.le_refl _)
 have HWP:Hid (Ext w wp):=Ext.trans (Ext.trans HX1.out HX5.out) hbp
 have HP4:Hid (Ext w4 wp):=Ext.trans H45.out hbp
 have HP5:Hid (Ext w5 wp):=hbp
 clear hsl hnn hbp hlk hrL
 by_cases hW2:Ws.length<2
 ·
  have hW2I:(Ws.length:Int)<2:=by omega
  go_wp2_with fail
  go_ret
  exact ⟨rfl,HWP.out⟩
 ·
  have hW2I
       : ¬ (Ws.length:Int)<2:=by omega
  obtain ⟨g,hmod,hg,hnz⟩:=tmod_nat kn Ws.length k0 (by omega)
  have hlow:=slice_strs_low ⟨bd,od,none⟩ Ws.length cd g (by omega) hcd
  obtain ⟨o',ho',hhigh⟩:=slice_strs_high bd od Ws.length cd (g+1) (by omega) hcd
  rw [show ((g+1:Nat):Int)=(g:Int)+1 from rfl] at hhigh
  have HO':=Lib.hid ho'
  have htk:(Ws.take g).length=g:=by rw [List.length_take];omega
  have htd:(Ws.drop (g+1)).length=Ws.length - (g+1):=by rw [List.length_drop]
  have HTK:=Lib.hid htk;have HTD:=Lib.hid htd
  have HOE:Hid (OwnG rowStr (wp.alloc (.cells #[] 9)) wp.heap.size (.slice (some ⟨wp.heap.size,0,none⟩) 0 0) []):=OwnG.empty rowStr (heap_alloc_new _ _) (Nat.le_refl _)
  have HA0:Hid (Ext wp (wp.alloc (.cells #[] 9))):=(Below.refl _ _).alloc (Nat.le_refl _) _
  have HCE:Hid (∀ j u,((Ws.take g).flatMap rowStr.enc)[j]? = some u→(wp.alloc (.cells #[] 9)).cell? ((⟨bd,od,none⟩:Addr).add j)=some u) :=
   cells_strs (k:=0) (HSD.out _ (Ext.trans HP5.out HA0.out)) (fun j hj=>⟨by rw [htk] at hj;omega,by rw [List.getElem_take];congr 1;omega⟩)
  clear htk htd ho'
  go_upto_region 9 with (at_builtin;go_loud (refine wpList_append_g (v:=.slice (some ⟨wp.heap.size,0,none⟩) 0 0) rowStr_ok rfl _ _ rfl rfl HOE.out ⟨bd,od,none⟩ cd (Ws.take g) (by rw [HTK.out];rfl) HCE.out (by have:=HTK.out;simp only [List.length_nil];omega) (by simp only [World.size_alloc];omega) ?_);intro v7 w7 hown7 hgrow7 hat7;have HO7:=Lib.hid hown7;have HG7:=Lib.hid hgrow7;clear hown7 hgrow7 hat7)
  have HX7:Hid (Ext wp w7):=Below.grown HA0.out HG7.out HA0.out.size fun q hq=>HOE.out.ge q hq
  obtain ⟨a7,c7,hv7, -, -⟩:=HO7.out.form
  rw [List.nil_append,HTK.out] at hv7
  subst hv7
  clear hmod hnz hlow HOE HCE HG7 HA0
  go_upto_region 10 with (at_builtin;go_loud (refine wpList_append_g (v:=.slice a7 g c7) rowStr_ok rfl _ _ rfl rfl HO7.out ⟨bd,o',none⟩ (cd - (g+1)) (Ws.drop (g+1)) (by rw [HTD.out];rfl) (fun j u hu=>by have hkl:g+1<Ws.length:=(by rcases Nat.lt_or_ge (g+1) Ws.length with h | h;exact h;exfalso;rw [List.drop_eq_nil_of_le h] at hu;simp at hu);have e:=HO'.out hkl;subst e;exact cells_strs (HSD.out _ (Ext.trans HP5.out HX7.out)) (fun j hj=>⟨by have:=HTD.out;omega,by rw [List.getElem_drop]⟩) j u hu) (by have:=HTK.out;have:=HTD.out;rw [List.nil_append];omega) HX7.out.size ?_);intro v8 w8 hown8 hgrow8 hat8;have HO8:=Lib.hid hown8;have HG8:=Lib.hid hgrow8;clear hown8 hgrow8 hat8)
  have HX8:Hid (Ext wp w8):=Below.grown HX7.out HG8.out HX7.out.size fun q hq=>HO7.out.ge q hq
  obtain ⟨a8,c8,hv8,hc8, -⟩:=HO8.out.form
  subst hv8
  have hst8:=HO8.out.strs
  obtain ⟨Wf,hWf⟩:∃ Wf,Ws.take g ++ Ws.drop (g+1)=Wf:=⟨_,rfl⟩
  rw [List.nil_append,hWf] at hst8 hc8 ⊢
  have HSF8:Hid (∀ W,Ext w8 W→StrS W a8 Wf):=fun W hx=>hst8.1.later hx (Nat.le_refl _)
  have HWF:=Lib.hid hWf
  have HDF:Hid (Dict Wf):=by show Dict Wf;rw [← hWf];exact erase_dict HDD.out g (by omega) hg
  have hWfl:Wf.length≤10:=by rw [← hWf,List.length_append,HTK.out,HTD.out];omega
  have HSM8:Hid (∀ W,Ext w8 W→SchM W S b cS):=fun W hx=>HSM.out W (Ext.trans HP4.out (Ext.trans HX8.out hx))
  have HSC8:Hid (∀ W,Ext w8 W→W.heap[gs]? = some (.cells #[.int .i64 S.modes,.int .u8 S.acc,.slice b S.rules.length cS] 32 (0,0))):=fun W hx=>HSC.out W (Ext.trans HP4.out (Ext.trans HX8.out hx))
  have HSD8:Hid (∀ W,Ext w8 W→StrS W (some ⟨bd,od,none⟩) Ws):=fun W hx=>HSD.out W (Ext.trans HP5.out (Ext.trans HX8.out hx))
  have HLK8:Hid (∀ W,Ext w8 W→SlkS W (some ⟨gL,0,none⟩) cL L):=fun W hx=>HLK.out W (Ext.trans HX8.out hx)
  clear hst8 hWf HO7 HG8 HO8 HX7 hhigh HO' HTK HTD
  refine wp_region_st (by kernel_rfl) (Vs [fun v _=>v=.agg #[.int .i64 S.modes,.int .u8 S.acc,.slice b S.rules.length cS],fun v _=>v=.slice (some ⟨bd,od,none⟩) Ws.length cd,AutV Ws,fun v _=>v=.slice (some ⟨gL,0,none⟩) L.length cL,FnS S.rules S.acc L (Ws.map bts) L.length,FnS S.rules S.acc L (Ws.map bts) L.length]) (Xs [Ext,Ext,Ext,Ext,Ext,Ext]) (fun fL=>(fun W=>Ext w8 W) ) [0,0,2,0,15,31] 89 6 (by kernel_rfl) rfl ?hV ?hS ?hop ?hfin ?hlast
  case hV =>
   refine xs_stays (vs_stays (by simp only [List.mem_cons,List.not_mem_nil,or_false,forall_eq_or_imp,forall_eq];exact ⟨stays_const _,stays_const _,autV_stays _,stays_const _,fnS_stays _ _ _ _ _,fnS_stays _ _ _ _ _⟩)) ?_
   exact ⟨.inl rfl,.inl rfl,.inl rfl,.inl rfl,.inl rfl,.inl rfl,trivial⟩
  case hS =>
   intro fL hf
   show (fun W=>Ext w8 W)  _
   first | exact Ext.refl _ | exact drew_ext _
  case hop =>
   refine ⟨?_,?_,?c2,?_,?c4,?c5,trivial⟩
   all_goals first | rw [if_neg (by decide)] | rw [if_pos (by decide)]
   all_goals try intro ac W fL hsz hfi hms hdn hS0 hdep hbase hund
   all_goals try have hS:(fun W=>Ext w8 W)  W:=hS0
   all_goals try (
    obtain ⟨d0,d1,d2⟩:=sch_cells (HSC8.out W hS))
   all_goals try (have h6:ac.tmps.getD 6 undef=.pointer (some ⟨gs,0,none⟩):=hbase 6 (by kernel_rfl);have hh6:=h6;rw [Array.getD_eq_getD_getElem?] at hh6)
   all_goals try (have h7:ac.tmps.getD 7 undef=.slice (some ⟨bd,od,none⟩) Ws.length cd:=hbase 7 (by kernel_rfl);have hh7:=h7;rw [Array.getD_eq_getD_getElem?] at hh7)
   all_goals try (have h8:ac.tmps.getD 8 undef=.slice (some ⟨gL,0,none⟩) L.length cL:=hbase 8 (by kernel_rfl);have hh8:=h8;rw [Array.getD_eq_getD_getElem?] at hh8)
   all_goals try (have d46:ac.tmps.getD 46 undef=.agg #[.int .i64 S.modes,.int .u8 S.acc,.slice b S.rules.length cS]:=hdep 0 (by decide);have dd46:=d46;rw [Array.getD_eq_getD_getElem?] at dd46)
   all_goals try (have d47:ac.tmps.getD 47 undef=.slice (some ⟨bd,od,none⟩) Ws.length cd:=hdep 1 (by decide);have dd47:=d47;rw [Array.getD_eq_getD_getElem?] at dd47)
   all_goals try have d48:(AutV Ws) (ac.tmps.getD 48 undef) W:=hdep 2 (by decide)
   all_goals try (have d49:ac.tmps.getD 49 undef=.slice (some ⟨gL,0,none⟩) L.length cL:=hdep 3 (by decide);have dd49:=d49;rw [Array.getD_eq_getD_getElem?] at dd49)
   all_goals try have d50:(FnS S.rules S.acc L (Ws.map bts) L.length) (ac.tmps.getD 50 undef) W:=hdep 4 (by decide)
   all_goals try clear hbase hdep hms hdn hund
   case c2 =>
    have hS1:(fun W=>Ext w8 W)  W:=hS0
    refine opOk_run rfl (.inr ⟨11,#[.slice (some ⟨bd,od,none⟩) Ws.length cd],W,by (clear hsz hS hS0 hS1 hfi;simp [go_sem,Act.eval, *]),?_⟩)
    refine (built_any Ws Ws.length (some ⟨bd,od,none⟩) cd W (HSD8.out W hS) rfl hcd HDD.out).mono ?_
    rintro e w' hp
    obtain ⟨v,rfl,hv,hb⟩:=autV_of HDD.out hp
    exact ⟨_,rfl,⟨hv,hb,Ext.trans hS0 hb⟩⟩
   case c4 =>
    have hS1:(fun W=>Ext w8 W)  W:=hS0
    obtain ⟨aq,nq,cq,eq,hq⟩:=d48
    rw [Array.getD_eq_getD_getElem?] at eq
    refine opOk_run rfl (.inr ⟨21,#[.agg #[.int .i64 S.modes,.int .u8 S.acc,.slice b S.rules.length cS],.slice aq nq cq,.slice (some ⟨gL,0,none⟩) L.length cL],W,by (clear hsz hS hS0 hS1 hfi hq;simp [go_sem,Act.eval, *]),?_⟩)
    refine (words_l (HSM8.out W hS) hq (by omega) (HLK8.out W hS)).mono ?_
    rintro e w' hp
    obtain ⟨v,rfl,hv,hb⟩:=fnS_of hp
    exact ⟨_,rfl,⟨hv,hb,Ext.trans hS0 hb⟩⟩
   case c5 =>
    have hS1:(fun W=>Ext w8 W)  W:=hS0
    refine opOk_run rfl (.inl ⟨_,W,?_,d50,Ext.refl _,hS1⟩)
    clear hsz hS hS0 hS1 hfi;simp [go_sem,Act.eval, *]
   all_goals (refine opOk_run rfl (.inl ⟨_,W,?_,rfl,Ext.refl _,hS0⟩);clear hsz hS hS0 hfi;simp [go_sem,Act.eval, *];done)
  case hlast =>
   intro h;exact absurd rfl h
  case hfin
       =>
   intro _ ac W hsz hdf fL hf hS0 hv hbase
   have hS:(fun W=>Ext w8 W)  W:=hS0
   clear hS0
   obtain ⟨sx,hsx,hsA⟩:=act_puts [46,47,48,49,50,11] (by kernel_rfl) hsz hdf hbase
   have hp11:FnS S.rules S.acc L (Ws.map bts) L.length (ac.tmps.getD 11 undef) W:=hv 5 (by decide)
   obtain ⟨a11,c11,la,e11v,hf11,hk11, -⟩:=hp11
   have e11:sx 11=.slice a11 la.length c11:=(hsx 11).trans e11v
   have HF11:=Lib.hid hf11;have HK11:=Lib.hid hk11
   clear e11v hf11 hk11
   rw [hsA]
   simp only [List.foldl]
   simp only [Act.put,List.setIfInBounds_toArray,List.set_cons_succ,List.set_cons_zero]
   clear hsA hsx hv hbase hsz hdf hf
   have HS10:Hid (Ext w8 W):=hS
   rw [e11]
   clear hS
   obtain ⟨w10,hw10⟩:∃ w10:World,w10=W:=⟨W,rfl⟩
   rw [← hw10] at HS10 HF11 ⊢
   clear hw10
   go_upto_region 11 with fail
   refine wp_region_st (by kernel_rfl) (Vs [fun v _=>v=.agg #[.int .i64 S.modes,.int .u8 S.acc,.slice b S.rules.length cS],fun v _=>v=.slice a8 Wf.length c8,AutV Wf,fun v _=>v=.slice (some ⟨gL,0,none⟩) L.length cL,FnS S.rules S.acc L (Wf.map bts) L.length,FnS S.rules S.acc L (Wf.map bts) L.length]) (Xs [Ext,Ext,Ext,Ext,Ext,Ext]) (fun fL=>(fun W=>Ext w10 W) ) [0,0,2,0,15,31] 89 6 (by kernel_rfl) rfl ?hV ?hS ?hop ?hfin ?hlast
   case hV =>
    refine xs_stays (vs_stays (by simp only [List.mem_cons,List.not_mem_nil,or_false,forall_eq_or_imp,forall_eq];exact ⟨stays_const _,stays_const _,autV_stays _,stays_const _,fnS_stays _ _ _ _ _,fnS_stays _ _ _ _ _⟩)) ?_
    exact ⟨.inl rfl,.inl rfl,.inl rfl,.inl rfl,.inl rfl,.inl rfl,trivial⟩
   case hS =>
    intro fL hf
    show (fun W=>Ext w10 W)  _
    first | exact Ext.refl _ | exact drew_ext _
   case hop =>
    refine ⟨?_,?_,?c2,?_,?c4,?c5,trivial⟩
    all_goals first | rw [if_neg (by decide)] | rw [if_pos (by decide)]
    all_goals try intro ac W fL hsz hfi hms hdn hS0 hdep hbase hund
    all_goals try have hS:(fun W=>Ext w10 W)  W:=hS0
    all_goals try (
     obtain ⟨d0,d1,d2⟩:=sch_cells (HSC8.out W (Ext.trans HS10.out hS)))
    all_goals try (have h6:ac.tmps.getD 6 undef=.pointer (some ⟨gs,0,none⟩):=hbase 6 (by kernel_rfl);have hh6:=h6;rw [Array.getD_eq_getD_getElem?] at hh6)
    all_goals try (have h10:ac.tmps.getD 10 undef=.slice a8 Wf.length c8:=hbase 10 (by kernel_rfl);have hh10:=h10;rw [Array.getD_eq_getD_getElem?] at hh10)
    all_goals try (have h8:ac.tmps.getD 8 undef=.slice (some ⟨gL,0,none⟩) L.length cL:=hbase 8 (by kernel_rfl);have hh8:=h8;rw [Array.getD_eq_getD_getElem?] at hh8)
    all_goals try (have d51:ac.tmps.getD 51 undef=.agg #[.int .i64 S.modes,.int .u8 S.acc,.slice b S.rules.length cS]:=hdep 0 (by decide);have dd51:=d51;rw [Array.getD_eq_getD_getElem?] at dd51)
    all_goals try (have d52:ac.tmps.getD 52 undef=.slice a8 Wf.length c8:=hdep 1 (by decide);have dd52:=d52;rw [Array.getD_eq_getD_getElem?] at dd52)
    all_goals try have d53:(AutV Wf) (ac.tmps.getD 53 undef) W:=hdep 2 (by decide)
    all_goals try (have d54:ac.tmps.getD 54 undef=.slice (some ⟨gL,0,none⟩) L.length cL:=hdep 3 (by decide);have dd54:=d54;rw [Array.getD_eq_getD_getElem?] at dd54)
    all_goals try have d55:(FnS S.rules S.acc L (Wf.map bts) L.length) (ac.tmps.getD 55 undef) W:=hdep 4 (by decide)
    all_goals try clear hbase hdep hms hdn hund
    case c2 =>
     have hS1:(fun W=>Ext w10 W)  W:=hS0
     refine opOk_run rfl (.inr ⟨11,#[.slice a8 Wf.length c8],W,by (clear hsz hS hS0 hS1 hfi;simp [go_sem,Act.eval, *]),?_⟩)
     refine (built_any Wf Wf.length a8 c8 W (HSF8.out W (Ext.trans HS10.out hS)) rfl hc8 HDF.out).mono ?_
     rintro e w' hp
     obtain ⟨v,rfl,hv,hb⟩:=autV_of HDF.out hp
     exact ⟨_,rfl,⟨hv,hb,Ext.trans hS0 hb⟩⟩
    case c4 =>
     have hS1:(fun W=>Ext w10 W)  W:=hS0
     obtain ⟨aq,nq,cq,eq,hq⟩:=d53
     rw [Array.getD_eq_getD_getElem?] at eq
     refine opOk_run rfl (.inr ⟨21,#[.agg #[.int .i64 S.modes,.int .u8 S.acc,.slice b S.rules.length cS],.slice aq nq cq,.slice (some ⟨gL,0,none⟩) L.length cL],W,by (clear hsz hS hS0 hS1 hfi hq;simp [go_sem,Act.eval, *]),?_⟩)
     refine (words_l (HSM8.out W (Ext.trans HS10.out hS)) hq (by omega) (HLK8.out W (Ext.trans HS10.out hS))).mono ?_
     rintro e w' hp
     obtain ⟨v,rfl,hv,hb⟩:=fnS_of hp
     exact ⟨_,rfl,⟨hv,hb,Ext.trans hS0 hb⟩⟩
    case c5 =>
     have hS1:(fun W=>Ext w10 W)  W:=hS0
     refine opOk_run rfl (.inl ⟨_,W,?_,d55,Ext.refl _,hS1⟩)
     clear hsz hS hS0 hS1 hfi;simp [go_sem,Act.eval, *]
    all_goals (refine opOk_run rfl (.inl ⟨_,W,?_,rfl,Ext.refl _,hS0⟩);clear hsz hS hS0 hfi;simp [go_sem,Act.eval, *];done)
   case hlast =>
    intro h;exact absurd rfl h
   case hfin =>
    intro _ ac W hsz hdf fL hf hS0 hv hbase
    have hS:(fun W=>Ext w10 W)  W:=hS0
    clear hS0
    obtain ⟨sx,hsx,hsA⟩:=act_puts [51,52,53,54,55,12] (by kernel_rfl) hsz hdf hbase
    have hp12:FnS S.rules S.acc L (Wf.map bts) L.length (ac.tmps.getD 12 undef) W:=hv 5 (by decide)
    obtain ⟨a12,c12,lb,e12v,hf12,hk12, -⟩:=hp12
    have e12:sx 12=.slice a12 lb.length c12:=(hsx 12).trans e12v
    have HF12:=Lib.hid hf12;have HK12:=Lib.hid hk12
    clear e12v hf12 hk12
    rw [hsA]
    simp only [List.foldl]
    simp only [Act.put,List.setIfInBounds_toArray,List.set_cons_succ,List.set_cons_zero]
    clear hsA hsx hv hbase hsz hdf hf
    have HS11:Hid (Ext w10 W):=hS
    rw [e12]
    clear hS
    obtain ⟨w11,hw11⟩:∃ w11:World,w11=W:=⟨W,rfl⟩
    rw [← hw11] at HS11 HF12 ⊢
    clear hw11
    have HX11:Hid (Ext wp w11):=Ext.trans HX8.out (Ext.trans HS10.out HS11.out)
    have HFA:Hid (∀ W,Ext w11 W→FndS W a11 la):=fun W hx=>HF11.out.kp (Kc.of (Ext.trans HS11.out hx) (Nat.le_refl _))
    have HFB:Hid (∀ W,Ext w11 W→FndS W a12 lb):=fun W hx=>HF12.out.kp (Kc.of hx (Nat.le_refl _))
    have HEQ:Hid (lb=goneF g la):=by
     have h1:=gone_ok HK11.out.toFndOk (g:=g) (by rw [List.length_map];exact hg)
     have h2:=HK12.out
     rw [← HWF.out,erase_map] at h2
     exact h2.uniq h1 fun _ _ _=>Iff.rfl
    have hlal:=fnd_len HK11.out.toFndOk
    rw [List.length_map] at hlal
    clear HS10 HS11 HF11 HF12 HSM8 HSC8 HSD8 HLK8 HSF8 HDF
    go_wp2_with fail
    have HW0:Hid (OwnG rowFnd (w11.alloc (.cells #[] 59)) w11.heap.size (.slice (some ⟨w11.heap.size,0,none⟩) 0 0) []):=OwnG.empty rowFnd (heap_alloc_new _ _) (Nat.le_refl _)
    have HA1:Hid (Ext w11 (w11.alloc (.cells #[] 59))):=(Below.refl _ _).alloc (Nat.le_refl _) _
    go_loopg [13,14] la.length (fun gg v13 v14 wr=>∃ i:Nat,v14=.int .i64 (i:Int)∧i≤la.length∧gg=la.length - i∧OwnG rowFnd wr w11.heap.size v13 (goneF g (la.take i))∧Ext w11 wr)
    case atStart=>exact ⟨0,rfl,Nat.zero_le _,rfl,HW0.out,HA1.out⟩
    case round =>
     clear HW0 HA1
     obtain ⟨i,rfl,hi,hgk,how,hxr⟩:=hrel
     obtain ⟨a13,c13,hv13, -, -⟩:=how.form
     subst hv13
     have HOW:=Lib.hid how;have HXR:=Lib.hid hxr;have HGK:=Lib.hid hgk
     have hgl:(goneF g (la.take i)).length≤10:=by
      unfold goneF
      rw [List.length_map]
      refine Nat.le_trans (List.length_filter_le _ _) ?_
      rw [List.length_take];omega
     clear how hxr hgk
     by_cases hil:i<la.length
     ·
      have hilI:(i:Int)<(la.length:Int):=by omega
      have HSU:=Lib.hid (goneF_succ (g:=g) hil)
      obtain ⟨b11,o11,ha11,hb11,q0,q1⟩:=(HFA.out wr HXR.out) i hil
      have hix:=idx_fndl a11 b11 o11 la.length c11 i ha11 hil
      have hpw:=((HK11.out.mem la[i].1 la[i].2).1 (List.getElem_mem hil)).1
      rw [List.length_map] at hpw
      obtain ⟨p,hp⟩:∃ p,la[i].1=p:=⟨_,rfl⟩
      obtain ⟨c,hc⟩:∃ c,la[i].2=c:=⟨_,rfl⟩
      rw [hp] at q0 HSU hpw
      rw [hc] at q1 HSU
      obtain ⟨G,hG⟩:∃ G,goneF g (la.take i)=G:=⟨_,rfl⟩
      rw [hG] at HOW HSU hgl ⊢
      clear ha11 hp hc hG
      rcases Nat.lt_trichotomy p g with hpg | hpg | hpg
      ·
       have hne:((p:Int) == (g:Int))=false:=by rw [beq_eq_false_iff_ne];omega
       have hgt:¬ (g:Int)<(p:Int):=by omega
       have HE:Hid (goneF g (la.take (i+1))=G ++ [(p,c)]):=by show _=_;rw [HSU.out,if_neg (by omega),if_neg (by omega)]
       go_wp2_with (at_builtin;go_loud (refine wpList_append_g (v:=.slice a13 G.length c13) rowFnd_ok rfl _ _ rfl rfl (HOW.out.later (Ext.trans ((Below.refl _ wr).alloc (Nat.le_refl _) _) ((Below.refl _ _).alloc (Nat.le_refl _) _)) (Nat.le_refl _)) ⟨wr.heap.size+1,0,none⟩ 1 [(p,c)] (by simp [go_sem,Act.eval]) (cells_built (by have h:=heap_alloc_new (wr.alloc (.cells #[.int .i64 (p:Int),.int .i64 (c:Int)] 59)) (.cells #[.int .i64 (p:Int),.int .i64 (c:Int)] 59);rw [World.size_alloc] at h;exact h)) (by simp only [List.length_singleton];omega) (by have:=HXR.out.size;simp only [World.size_alloc];omega) ?_);intro v16 w16 hown16 hgrow16 hat16;have HO16:=Lib.hid hown16;have HG16:=Lib.hid hgrow16;clear hown16 hgrow16 hat16)
       go_roundg (la.length - (i+1))
       case measure=>have:=HGK.out;omega
       case rel=>exact ⟨i+1,by go_num,by omega,rfl,by rw [HE.out];exact HO16.out,Below.grown (Ext.trans HXR.out (Ext.trans ((Below.refl _ wr).alloc (Nat.le_refl _) _) ((Below.refl _ _).alloc (Nat.le_refl _) _))) HG16.out (by have:=HXR.out.size;simp only [World.size_alloc];omega) fun q hq=>HOW.out.ge q hq⟩
      ·
       have heq:((p:Int) == (g:Int))=true:=by rw [hpg];simp
       have HE:Hid (goneF g (la.take (i+1))=G):=by show _=_;rw [HSU.out,if_pos hpg,List.append_nil]
       subst hpg
       go_wp2_with fail
       go_roundg (la.length - (i+1))
       case measure=>have:=HGK.out;omega
       case rel=>exact ⟨i+1,by go_num,by omega,rfl,by rw [HE.out];exact HOW.out.later ((Below.refl _ _).alloc (Nat.le_refl _) _) (Nat.le_refl _),Ext.trans HXR.out ((Below.refl _ _).alloc (Nat.le_refl _) _)⟩
      ·
       obtain ⟨p',rfl⟩:∃ p',p=p'+1:=⟨p - 1,by omega⟩
       have hne:((p':Int)+1 == (g:Int))=false:=by rw [beq_eq_false_iff_ne];omega
       have hgt:(g:Int)<(p':Int)+1:=by omega
       have HE:Hid (goneF g (la.take (i+1))=G ++ [(p',c)]):=by show _=_;rw [HSU.out,if_neg (by omega),if_pos (by omega)];rfl
       rw [show ((p'+1:Nat):Int)=(p':Int)+1 from rfl] at q0
       go_wp2_with (at_builtin;go_loud (refine wpList_append_g (v:=.slice a13 G.length c13) rowFnd_ok rfl _ _ rfl rfl (HOW.out.later (Ext.trans ((Below.refl _ wr).alloc (Nat.le_refl _) _) ((Below.refl _ _).alloc (Nat.le_refl _) _)) (Nat.le_refl _)) ⟨wr.heap.size+1,0,none⟩ 1 [(p',c)] (by simp [go_sem,Act.eval]) (cells_built (by have h:=heap_alloc_new (wr.alloc (.cells #[.int .i64 (p':Int),.int .i64 (c:Int)] 59)) (.cells #[.int .i64 (p':Int),.int .i64 (c:Int)] 59);rw [World.size_alloc] at h;exact h)) (by simp only [List.length_singleton];omega) (by have:=HXR.out.size;simp only [World.size_alloc];omega) ?_);intro v16 w16 hown16 hgrow16 hat16;have HO16:=Lib.hid hown16;have HG16:=Lib.hid hgrow16;clear hown16 hgrow16 hat16)
       go_roundg (la.length - (i+1))
       case measure=>have:=HGK.out;omega
       case rel=>exact ⟨i+1,by go_num,by omega,rfl,by rw [HE.out];exact HO16.out,Below.grown (Ext.trans HXR.out (Ext.trans ((Below.refl _ wr).alloc (Nat.le_refl _) _) ((Below.refl _ _).alloc (Nat.le_refl _) _))) HG16.out (by have:=HXR.out.size;simp only [World.size_alloc];omega) fun q hq=>HOW.out.ge q hq⟩
     ·
      obtain rfl:i=la.length:=by omega
      have hilI:¬ (la.length:Int)<(la.length:Int):=by omega
      rw [List.take_length] at HOW hgl ⊢
      have HFW:=Lib.hid HOW.out.fnds.1
      have hlb:lb.length=(goneF g la).length:=by rw [HEQ.out]
      have hlbl:lb.length≤10:=by omega
      clear hlb
      go_wp2_with fail
      refine (fsame_any lb (goneF g la) a12 a13 c12 c13 wr (HFB.out wr HXR.out) HFW.out (by omega) (by omega)).mono ?_
      rw [decide_eq_true HEQ.out]
      rintro e w12 ⟨rfl,hb12⟩
      have HX12:Hid (Ext wr w12):=hb12
      clear hb12
      go_wp2_with fail
      go_ret
      exact ⟨rfl,Ext.trans HWP.out (Ext.trans HX11.out (Ext.trans HXR.out HX12.out))⟩
end Go.Proofs.YthjmdgejnakcmaaGreatDoor
