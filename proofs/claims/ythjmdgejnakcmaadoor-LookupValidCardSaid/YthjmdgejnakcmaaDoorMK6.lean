/- Texts that the claims share: K20, K32, K33. -/
import Derived.Test.YthjmdgejnakcmaaDoorMK5
import Derived.Test.YthjmdgejnakcmaaDoorMF1
import Derived.Test.YthjmdgejnakcmaaDoorMD4
import Derived.Test.YthjmdgejnakcmaaDoorMK1
namespace Go.Proofs.YthjmdgejnakcmaaDoor
open Go.RowKit Go.WideShapes Fl
set_option linter.unusedVariables false
set_option linter.unusedSimpArgs false
theorem okS_iff {s:Slt} (h1:1≤s.length) (h2:s.length≤8) (h:(List.range s.length).all (okC s)=true):okS s=true:=by
 unfold okS;rw [h];simp;omega
theorem validB_bad {L:List Slt} {k:Nat} (hk:k<L.length) (h:okS L[k]=false):validB L=false:=by
 unfold validB
 have:L.all okS=false:=by
  cases e:L.all okS with
  | false=>rfl
  | true=>have:=List.all_eq_true.1 e _ (List.getElem_mem hk);rw [h] at this;cases this
 rw [this];simp
theorem chc_cells {w W:World} {g:Nat} {k c:Int} (hX:Ext w W) (h:w.heap[g]? = some (.cells #[.int .u8 k,.int .i64 c] 25 (0,0))):W.cell? ⟨g,0,none⟩=some (.int .u8 k)∧W.cell? ⟨g,1,none⟩=some (.int .i64 c):=by
 have h2:=(Below.block hX g (Array.getElem?_eq_some_iff.1 h).1).trans h
 refine ⟨?_,?_⟩ <;> (rw [cell_of_row W g _ _ _ (0,0) h2];rfl)
set_option maxHeartbeats 6400000 in
set_option maxRecDepth 100000 in
theorem
    rvalid_any (L:List Slt) (a:Option Addr) (cap:Nat) (w:World) (hX:SlotS w a L) (hl:L.length≤9223372036854775807) :
  Calls Tryd.prog 7 #[.slice a L.length cap] w fun e w'=>e=.returned (.bool (validB L))∧Below w.heap.size w w':=by
 have HX:=Lib.hid hX;clear hX
 go_enter Tryd.func7,Tryd.ntmps7
 go_wp2
 go_loopg [3] L.length (fun g v3 wr=>∃ i:Nat,v3=.int .i64 (i:Int)∧i≤L.length∧g=L.length - i∧(L.take i).all okS=true∧Below w.heap.size w wr)
 case atStart=>exact ⟨0,rfl,Nat.zero_le _,rfl,rfl,Below.refl _ _⟩
 case round =>
  obtain ⟨i,rfl,hi,hgk,ht,hB⟩:=hrel
  have HT:=Lib.hid ht;have HB:=Lib.hid hB;have HGK:=Lib.hid hgk
  clear ht hB hgk
  by_cases hlt:i<L.length
  ·
   obtain ⟨
       b1,
         o1,ha1,hb1,aa,cc,q0,hle,harc⟩:=(HX.out.later HB.out (Nat.le_refl _)).at hlt
   have hi1:=idx_slots a b1 o1 L.length cap i ha1 hlt
   have HTK:Hid (L.take (i+1)=L.take i ++ [L[i]]):=List.take_succ_eq_append_getElem hlt
   have HBAD:Hid (okS L[i]=false→validB L=false):=fun h=>validB_bad hlt h
   obtain ⟨s,hs⟩:∃ s,L[i]=s:=⟨_,rfl⟩
   rw [hs] at q0 HTK HBAD hle harc
   have HA:=Lib.hid harc
   have HQ0:=Lib.hid q0
   clear hs harc ha1
   by_cases h1:s.length<1
   ·
    have HR:Hid (validB L=false):=HBAD.out (by unfold okS;simp;omega)
    have h1I:(s.length:Int)<1:=by omega
    go_wp2_with fail
    go_ret
    exact ⟨ret_bool HR.out.symm,HB.out⟩
   have h1I:¬ (s.length:Int)<1:=by omega
   by_cases h2:8<s.length
   ·
    have HR:Hid (validB L=false):=HBAD.out (by unfold okS;simp;omega)
    have h2I:(8:Int)<(s.length:Int):=by omega
    go_wp2_with fail
    go_ret
    exact ⟨ret_bool HR.out.symm,HB.out⟩
   have h2I:¬ (8:Int)<(s.length:Int):=by omega
   go_wp2_with fail
   clear q0
   obtain ⟨wo,hwo⟩:∃ wo:World,wo=wr:=⟨wr,rfl⟩
   subst hwo
   go_loopg [4] s.length (fun g v4 wt=>∃ j:Nat,v4=.int .i64 (j:Int)∧j≤s.length∧g=s.length - j∧(List.range j).all (okC s)=true∧Below wo.heap.size wo wt)
   case atStart=>exact ⟨0,rfl,Nat.zero_le _,rfl,rfl,Below.refl _ _⟩
   case round =>
    obtain ⟨j,rfl,hj,hgk,hall,hb⟩:=hrel
    have HALL:=Lib.hid hall;have HB2:=Lib.hid hb;have HGK2:=Lib.hid hgk
    have q0:=(HB2.out.cell (p:=⟨b1,o1+i,none⟩) hb1).trans HQ0.out
    have hb1':b1<wr.heap.size:=Nat.lt_of_lt_of_le hb1 hb.size
    have HBW:Hid (Below w.heap.size w wr):=HB.out.trans (hb.mono HB.out.size)
    clear hall hb hgk
    by_cases hlt:j<s.length
    ·
     obtain ⟨
         b2,o2,ha2,hb2,p0,p1⟩:=(HA.out.later HB2.out (Nat.le_refl _)).ch hlt
     have hi2:=idx_chs aa b2 o2 s.length cc j ha2 hlt
     have HOK:=Lib.hid (okC_iff hlt)
     obtain ⟨kI,hkI⟩:∃ kI:Int,(s[j].key.toNat:Int)=kI:=⟨_,rfl⟩
     obtain ⟨cI,hcI⟩:∃ cI:Int,s[j].cost=cI:=⟨_,rfl⟩
     rw [hkI] at p0
     rw [hcI] at p1
     have HKI:=Lib.hid hkI;have HCI:=Lib.hid hcI
     clear hkI hcI ha2
     by_cases g1:kI<97
     ·
      have HR:Hid (validB L=false):=HBAD.out (okS_bad hlt (by
       cases e:okC s j with
       | false=>rfl
       | true=>have:=HOK.out.1 e;have:=HKI.out;omega))
      go_wp2_with fail
      obtain ⟨w5,hw5⟩:∃ w5,wr.alloc (.cells #[.int .u8 kI,.int .i64 cI] 25)=w5:=⟨_,rfl⟩
      have HX5:Hid (Ext wr w5):=by show Ext _ _;rw [← hw5];exact (Below.refl _ _).alloc (Nat.le_refl _) _
      have HC5:Hid (w5.heap[wr.heap.size]? = some (.cells #[.int .u8 kI,.int .i64 cI] 25 (0,0))):=by show _=_;rw [← hw5];exact heap_alloc_new _ _
      rw [hw5]
      clear hw5
      refine wp_region_rv (by kernel_rfl) (Vs [vq (.pointer (some ⟨wr.heap.size,0,none⟩)),vq (.int .u8 kI),vq (.bool true),vq (.bool true),vq (undef),vq (undef),vq (undef),vq (.bool true),vq (.bool true),vq (undef),vq (undef),vq (undef),vq (.bool true),vq (.bool true),vq (undef),vq (undef),vq (undef),vq (.bool true),vq (.bool true),vq (undef),vq (undef),vq (undef),vq (undef),vq (undef),vq (undef),vq (undef),vq (undef),vq (undef),vq (undef),vq (undef),vq (undef),vq (undef),vq (undef),vq (undef),vq (undef),vq (.bool true)]) (fun W=>Ext w5 W) 81 (by kernel_rfl) rfl ?hVx ?hSx ?hS (opsOk_all ?hop) ?hfin
      case hop =>
       refine ⟨?_,?_,?_,?_,?_,?_,?_,?_,?_,?_,?_,?_,?_,?_,?_,?_,?_,?_,?_,?_,?_,?_,?_,?_,?_,?_,?_,?_,?_,?_,?_,?_,?_,?_,?_,?_,trivial⟩
       all_goals
        intro A W hsz hS hdep hbase
        obtain ⟨d0,d1⟩:=chc_cells hS HC5.out
        have h0:A.tmps.getD 0 undef=.slice a L.length cap:=hbase 0 (by kernel_rfl)
        have h3:A.tmps.getD 3 undef=.int .i64 (i:Int):=hbase 3 (by kernel_rfl)
        have h4:A.tmps.getD 4 undef=.int .i64 (j:Int):=hbase 4 (by kernel_rfl)
        have h5:A.tmps.getD 5 undef=.pointer (some ⟨wr.heap.size,0,none⟩):=hbase 5 (by kernel_rfl)
        clear hbase
        simp [slotOf,Region.binds,Vs,vq] at hdep
       all_goals first
        | (refine opOk_run rfl (.inl ⟨_,W,?_,rfl,Ext.refl _⟩);clear hsz hS;simp [go_sem,Act.eval, *];done)
        | exact opOk_skip (j:=3) (d:=45) (b:=true) rfl (by kernel_rfl) (by simp only [hdep]) rfl rfl
        | exact opOk_skip (j:=8) (d:=50) (b:=true) rfl (by kernel_rfl) (by simp only [hdep]) rfl rfl
        | exact opOk_skip (j:=13) (d:=55) (b:=true) rfl (by kernel_rfl) (by simp only [hdep]) rfl rfl
        | exact opOk_skip (j:=18) (d:=60) (b:=true) rfl (by kernel_rfl) (by simp only [hdep]) rfl rfl
        | exact opOk_skip_undef (j:=21) (d:=63) rfl (by kernel_rfl) (by simp only [hdep]) rfl
      case hVx=>exact vs_stays (by simp only [List.mem_cons,List.not_mem_nil,or_false,forall_eq_or_imp,forall_eq];and_intros <;> exact stays_const _)
      case hSx=>exact fun W W' h hx=>Ext.trans h hx
      case hS=>exact Ext.refl _
      case hfin =>
       intro A W hsz hdf hS hv hbase
       obtain ⟨x,hx,hA⟩:=act_puts [42,43,44,45,46,47,48,49,50,51,52,53,54,55,56,57,58,59,60,61,62,63,64,65,66,67,68,69,70,71,72,73,74,75,76,77] (by kernel_rfl) hsz hdf hbase
       have e77:x 77=.bool true:=(hx 77).trans (hv 35 (by decide))
       rw [hA]
       simp only [List.foldl]
       rw [e77]
       clear e77
       simp only [Act.put,List.setIfInBounds_toArray,List.set_cons_succ,List.set_cons_zero]
       clear hA hx hv hbase hsz hdf
       have HS0:Hid (Ext w5 W):=hS
       clear hS
       go_wp2_with fail
       go_ret
       exact ⟨ret_bool HR.out.symm,HBW.out.trans (Below.mono (Ext.trans HX5.out HS0.out) HBW.out.size)⟩
     by_cases g2:122<kI
     ·
      have HR:Hid (validB L=false):=HBAD.out (okS_bad hlt (by
       cases e:okC s j with
       | false=>rfl
       | true=>have:=HOK.out.1 e;have:=HKI.out;omega))
      go_wp2_with fail
      obtain ⟨w5,hw5⟩:∃ w5,wr.alloc (.cells #[.int .u8 kI,.int .i64 cI] 25)=w5:=⟨_,rfl⟩
      have HX5:Hid (Ext wr w5):=by show Ext _ _;rw [← hw5];exact (Below.refl _ _).alloc (Nat.le_refl _) _
      have HC5:Hid (w5.heap[wr.heap.size]? = some (.cells #[.int .u8 kI,.int .i64 cI] 25 (0,0))):=by show _=_;rw [← hw5];exact heap_alloc_new _ _
      rw [hw5]
      clear hw5
      refine wp_region_rv (by kernel_rfl) (Vs [vq (.pointer (some ⟨wr.heap.size,0,none⟩)),vq (.int .u8 kI),vq (.bool false),vq (.bool false),vq (.pointer (some ⟨wr.heap.size,0,none⟩)),vq (.int .u8 kI),vq (.bool true),vq (.bool true),vq (.bool true),vq (undef),vq (undef),vq (undef),vq (.bool true),vq (.bool true),vq (undef),vq (undef),vq (undef),vq (.bool true),vq (.bool true),vq (undef),vq (undef),vq (undef),vq (undef),vq (undef),vq (undef),vq (undef),vq (undef),vq (undef),vq (undef),vq (undef),vq (undef),vq (undef),vq (undef),vq (undef),vq (undef),vq (.bool true)]) (fun W=>Ext w5 W) 81 (by kernel_rfl) rfl ?hVx ?hSx ?hS (opsOk_all ?hop) ?hfin
      case hop =>
       refine ⟨?_,?_,?_,?_,?_,?_,?_,?_,?_,?_,?_,?_,?_,?_,?_,?_,?_,?_,?_,?_,?_,?_,?_,?_,?_,?_,?_,?_,?_,?_,?_,?_,?_,?_,?_,?_,trivial⟩
       all_goals
        intro A W hsz hS hdep hbase
        obtain ⟨d0,d1⟩:=chc_cells hS HC5.out
        have h0:A.tmps.getD 0 undef=.slice a L.length cap:=hbase 0 (by kernel_rfl)
        have h3:A.tmps.getD 3 undef=.int .i64 (i:Int):=hbase 3 (by kernel_rfl)
        have h4:A.tmps.getD 4 undef=.int .i64 (j:Int):=hbase 4 (by kernel_rfl)
        have h5:A.tmps.getD 5 undef=.pointer (some ⟨wr.heap.size,0,none⟩):=hbase 5 (by kernel_rfl)
        clear hbase
        simp [slotOf,Region.binds,Vs,vq] at hdep
       all_goals first
        | (refine opOk_run rfl (.inl ⟨_,W,?_,rfl,Ext.refl _⟩);clear hsz hS;simp [go_sem,Act.eval, *];done)
        | (refine opOk_runG (j:=3) (d:=45) (b:=false) rfl (by kernel_rfl) (by simp only [hdep]) rfl (.inl ⟨_,W,?_,rfl,Ext.refl _⟩);clear hsz hS;simp [go_sem,Act.eval, *];done)
        | exact opOk_skip (j:=8) (d:=50) (b:=true) rfl (by kernel_rfl) (by simp only [hdep]) rfl rfl
        | exact opOk_skip (j:=13) (d:=55) (b:=true) rfl (by kernel_rfl) (by simp only [hdep]) rfl rfl
        | exact opOk_skip (j:=18) (d:=60) (b:=true) rfl (by kernel_rfl) (by simp only [hdep]) rfl rfl
        | exact opOk_skip_undef (j:=21) (d:=63) rfl (by kernel_rfl) (by simp only [hdep]) rfl
      case hVx=>exact vs_stays (by simp only [List.mem_cons,List.not_mem_nil,or_false,forall_eq_or_imp,forall_eq];and_intros <;> exact stays_const _)
      case hSx=>exact fun W W' h hx=>Ext.trans h hx
      case hS=>exact Ext.refl _
      case hfin =>
       intro A W hsz hdf hS hv hbase
       obtain ⟨x,hx,hA⟩:=act_puts [42,43,44,45,46,47,48,49,50,51,52,53,54,55,56,57,58,59,60,61,62,63,64,65,66,67,68,69,70,71,72,73,74,75,76,77] (by kernel_rfl) hsz hdf hbase
       have e77:x 77=.bool true:=(hx 77).trans (hv 35 (by decide))
       rw [hA]
       simp only [List.foldl]
       rw [e77]
       clear e77
       simp only [Act.put,List.setIfInBounds_toArray,List.set_cons_succ,List.set_cons_zero]
       clear hA hx hv hbase hsz hdf
       have HS0:Hid (Ext w5 W):=hS
       clear hS
       go_wp2_with fail
       go_ret
       exact ⟨ret_bool HR.out.symm,HBW.out.trans (Below.mono (Ext.trans HX5.out HS0.out) HBW.out.size)⟩
     by_cases g3:cI<0
     ·
      have HR:Hid (validB L=false):=HBAD.out (okS_bad hlt (by
       cases e:okC s j with
       | false=>rfl
       | true=>have:=HOK.out.1 e;have:=HCI.out;omega))
      go_wp2_with fail
      obtain ⟨w5,hw5⟩:∃ w5,wr.alloc (.cells #[.int .u8 kI,.int .i64 cI] 25)=w5:=⟨_,rfl⟩
      have HX5:Hid (Ext wr w5):=by show Ext _ _;rw [← hw5];exact (Below.refl _ _).alloc (Nat.le_refl _) _
      have HC5:Hid (w5.heap[wr.heap.size]? = some (.cells #[.int .u8 kI,.int .i64 cI] 25 (0,0))):=by show _=_;rw [← hw5];exact heap_alloc_new _ _
      rw [hw5]
      clear hw5
      refine wp_region_rv (by kernel_rfl) (Vs [vq (.pointer (some ⟨wr.heap.size,0,none⟩)),vq (.int .u8 kI),vq (.bool false),vq (.bool false),vq (.pointer (some ⟨wr.heap.size,0,none⟩)),vq (.int .u8 kI),vq (.bool false),vq (.bool false),vq (.bool false),vq (.pointer (some ⟨wr.heap.size,1,none⟩)),vq (.int .i64 cI),vq (.bool true),vq (.bool true),vq (.bool true),vq (undef),vq (undef),vq (undef),vq (.bool true),vq (.bool true),vq (undef),vq (undef),vq (undef),vq (undef),vq (undef),vq (undef),vq (undef),vq (undef),vq (undef),vq (undef),vq (undef),vq (undef),vq (undef),vq (undef),vq (undef),vq (undef),vq (.bool true)]) (fun W=>Ext w5 W) 81 (by kernel_rfl) rfl ?hVx ?hSx ?hS (opsOk_all ?hop) ?hfin
      case hop =>
       refine ⟨?_,?_,?_,?_,?_,?_,?_,?_,?_,?_,?_,?_,?_,?_,?_,?_,?_,?_,?_,?_,?_,?_,?_,?_,?_,?_,?_,?_,?_,?_,?_,?_,?_,?_,?_,?_,trivial⟩
       all_goals
        intro A W hsz hS hdep hbase
        obtain ⟨d0,d1⟩:=chc_cells hS HC5.out
        have h0:A.tmps.getD 0 undef=.slice a L.length cap:=hbase 0 (by kernel_rfl)
        have h3:A.tmps.getD 3 undef=.int .i64 (i:Int):=hbase 3 (by kernel_rfl)
        have h4:A.tmps.getD 4 undef=.int .i64 (j:Int):=hbase 4 (by kernel_rfl)
        have h5:A.tmps.getD 5 undef=.pointer (some ⟨wr.heap.size,0,none⟩):=hbase 5 (by kernel_rfl)
        clear hbase
        simp [slotOf,Region.binds,Vs,vq] at hdep
       all_goals first
        | (refine opOk_run rfl (.inl ⟨_,W,?_,rfl,Ext.refl _⟩);clear hsz hS;simp [go_sem,Act.eval, *];done)
        | (refine opOk_runG (j:=3) (d:=45) (b:=false) rfl (by kernel_rfl) (by simp only [hdep]) rfl (.inl ⟨_,W,?_,rfl,Ext.refl _⟩);clear hsz hS;simp [go_sem,Act.eval, *];done)
        | (refine opOk_runG (j:=8) (d:=50) (b:=false) rfl (by kernel_rfl) (by simp only [hdep]) rfl (.inl ⟨_,W,?_,rfl,Ext.refl _⟩);clear hsz hS;simp [go_sem,Act.eval, *];done)
        | exact opOk_skip (j:=13) (d:=55) (b:=true) rfl (by kernel_rfl) (by simp only [hdep]) rfl rfl
        | exact opOk_skip (j:=18) (d:=60) (b:=true) rfl (by kernel_rfl) (by simp only [hdep]) rfl rfl
        | exact opOk_skip_undef (j:=21) (d:=63) rfl (by kernel_rfl) (by simp only [hdep]) rfl
      case hVx=>exact vs_stays (by simp only [List.mem_cons,List.not_mem_nil,or_false,forall_eq_or_imp,forall_eq];and_intros <;> exact stays_const _)
      case hSx=>exact fun W W' h hx=>Ext.trans h hx
      case hS=>exact Ext.refl _
      case hfin =>
       intro A W hsz hdf hS hv hbase
       obtain ⟨x,hx,hA⟩:=act_puts [42,43,44,45,46,47,48,49,50,51,52,53,54,55,56,57,58,59,60,61,62,63,64,65,66,67,68,69,70,71,72,73,74,75,76,77] (by kernel_rfl) hsz hdf hbase
       have e77:x 77=.bool true:=(hx 77).trans (hv 35 (by decide))
       rw [hA]
       simp only [List.foldl]
       rw [e77]
       clear e77
       simp only [Act.put,List.setIfInBounds_toArray,List.set_cons_succ,List.set_cons_zero]
       clear hA hx hv hbase hsz hdf
       have HS0:Hid (Ext w5 W):=hS
       clear hS
       go_wp2_with fail
       go_ret
       exact ⟨ret_bool HR.out.symm,HBW.out.trans (Below.mono (Ext.trans HX5.out HS0.out) HBW.out.size)⟩
     by_cases g4:1000<cI
     ·
      have HR:Hid (validB L=false):=HBAD.out (okS_bad hlt (by
       cases e:okC s j with
       | false=>rfl
       | true=>have:=HOK.out.1 e;have:=HCI.out;omega))
      go_wp2_with fail
      obtain ⟨w5,hw5⟩:∃ w5,wr.alloc (.cells #[.int .u8 kI,.int .i64 cI] 25)=w5:=⟨_,rfl⟩
      have HX5:Hid (Ext wr w5):=by show Ext _ _;rw [← hw5];exact (Below.refl _ _).alloc (Nat.le_refl _) _
      have HC5:Hid (w5.heap[wr.heap.size]? = some (.cells #[.int .u8 kI,.int .i64 cI] 25 (0,0))):=by show _=_;rw [← hw5];exact heap_alloc_new _ _
      rw [hw5]
      clear hw5
      refine wp_region_rv (by kernel_rfl) (Vs [vq (.pointer (some ⟨wr.heap.size,0,none⟩)),vq (.int .u8 kI),vq (.bool false),vq (.bool false),vq (.pointer (some ⟨wr.heap.size,0,none⟩)),vq (.int .u8 kI),vq (.bool false),vq (.bool false),vq (.bool false),vq (.pointer (some ⟨wr.heap.size,1,none⟩)),vq (.int .i64 cI),vq (.bool false),vq (.bool false),vq (.bool false),vq (.pointer (some ⟨wr.heap.size,1,none⟩)),vq (.int .i64 cI),vq (.bool true),vq (.bool true),vq (.bool true),vq (undef),vq (undef),vq (undef),vq (undef),vq (undef),vq (undef),vq (undef),vq (undef),vq (undef),vq (undef),vq (undef),vq (undef),vq (undef),vq (undef),vq (undef),vq (undef),vq (.bool true)]) (fun W=>Ext w5 W) 81 (by kernel_rfl) rfl ?hVx ?hSx ?hS (opsOk_all ?hop) ?hfin
      case hop =>
       refine ⟨?_,?_,?_,?_,?_,?_,?_,?_,?_,?_,?_,?_,?_,?_,?_,?_,?_,?_,?_,?_,?_,?_,?_,?_,?_,?_,?_,?_,?_,?_,?_,?_,?_,?_,?_,?_,trivial⟩
       all_goals
        intro A W hsz hS hdep hbase
        obtain ⟨d0,d1⟩:=chc_cells hS HC5.out
        have h0:A.tmps.getD 0 undef=.slice a L.length cap:=hbase 0 (by kernel_rfl)
        have h3:A.tmps.getD 3 undef=.int .i64 (i:Int):=hbase 3 (by kernel_rfl)
        have h4:A.tmps.getD 4 undef=.int .i64 (j:Int):=hbase 4 (by kernel_rfl)
        have h5:A.tmps.getD 5 undef=.pointer (some ⟨wr.heap.size,0,none⟩):=hbase 5 (by kernel_rfl)
        clear hbase
        simp [slotOf,Region.binds,Vs,vq] at hdep
       all_goals first
        | (refine opOk_run rfl (.inl ⟨_,W,?_,rfl,Ext.refl _⟩);clear hsz hS;simp [go_sem,Act.eval, *];done)
        | (refine opOk_runG (j:=3) (d:=45) (b:=false) rfl (by kernel_rfl) (by simp only [hdep]) rfl (.inl ⟨_,W,?_,rfl,Ext.refl _⟩);clear hsz hS;simp [go_sem,Act.eval, *];done)
        | (refine opOk_runG (j:=8) (d:=50) (b:=false) rfl (by kernel_rfl) (by simp only [hdep]) rfl (.inl ⟨_,W,?_,rfl,Ext.refl _⟩);clear hsz hS;simp [go_sem,Act.eval, *];done)
        | (refine opOk_runG (j:=13) (d:=55) (b:=false) rfl (by kernel_rfl) (by simp only [hdep]) rfl (.inl ⟨_,W,?_,rfl,Ext.refl _⟩);clear hsz hS;simp [go_sem,Act.eval, *];done)
        | exact opOk_skip (j:=18) (d:=60) (b:=true) rfl (by kernel_rfl) (by simp only [hdep]) rfl rfl
        | exact opOk_skip_undef (j:=21) (d:=63) rfl (by kernel_rfl) (by simp only [hdep]) rfl
      case hVx=>exact vs_stays (by simp only [List.mem_cons,List.not_mem_nil,or_false,forall_eq_or_imp,forall_eq];and_intros <;> exact stays_const _)
      case hSx=>exact fun W W' h hx=>Ext.trans h hx
      case hS=>exact Ext.refl _
      case hfin =>
       intro A W hsz hdf hS hv hbase
       obtain ⟨x,hx,hA⟩:=act_puts [42,43,44,45,46,47,48,49,50,51,52,53,54,55,56,57,58,59,60,61,62,63,64,65,66,67,68,69,70,71,72,73,74,75,76,77] (by kernel_rfl) hsz hdf hbase
       have e77:x 77=.bool true:=(hx 77).trans (hv 35 (by decide))
       rw [hA]
       simp only [List.foldl]
       rw [e77]
       clear e77
       simp only [Act.put,List.setIfInBounds_toArray,List.set_cons_succ,List.set_cons_zero]
       clear hA hx hv hbase hsz hdf
       have HS0:Hid (Ext w5 W):=hS
       clear hS
       go_wp2_with fail
       go_ret
       exact ⟨ret_bool HR.out.symm,HBW.out.trans (Below.mono (Ext.trans HX5.out HS0.out) HBW.out.size)⟩
     by_cases hj0:j=0
     ·
      have HO:Hid (okC s j=true):=HOK.out.2 (by have:=HKI.out;have:=HCI.out;omega)
      have hjz:¬ (0:Int)<(j:Int):=by omega
      clear hj0
      go_wp2_with fail
      obtain ⟨w5,hw5⟩:∃ w5,wr.alloc (.cells #[.int .u8 kI,.int .i64 cI] 25)=w5:=⟨_,rfl⟩
      have HX5:Hid (Ext wr w5):=by show Ext _ _;rw [← hw5];exact (Below.refl _ _).alloc (Nat.le_refl _) _
      have HC5:Hid (w5.heap[wr.heap.size]? = some (.cells #[.int .u8 kI,.int .i64 cI] 25 (0,0))):=by show _=_;rw [← hw5];exact heap_alloc_new _ _
      rw [hw5]
      clear hw5
      refine wp_region_rv (by kernel_rfl) (Vs [vq (.pointer (some ⟨wr.heap.size,0,none⟩)),vq (.int .u8 kI),vq (.bool false),vq (.bool false),vq (.pointer (some ⟨wr.heap.size,0,none⟩)),vq (.int .u8 kI),vq (.bool false),vq (.bool false),vq (.bool false),vq (.pointer (some ⟨wr.heap.size,1,none⟩)),vq (.int .i64 cI),vq (.bool false),vq (.bool false),vq (.bool false),vq (.pointer (some ⟨wr.heap.size,1,none⟩)),vq (.int .i64 cI),vq (.bool false),vq (.bool false),vq (.bool false),vq (.int .i64 (j:Int)),vq (.bool false),vq (.bool false),vq (undef),vq (undef),vq (undef),vq (undef),vq (undef),vq (undef),vq (undef),vq (undef),vq (undef),vq (undef),vq (undef),vq (undef),vq (.bool false),vq (.bool false)]) (fun W=>Ext w5 W) 81 (by kernel_rfl) rfl ?hVx ?hSx ?hS (opsOk_all ?hop) ?hfin
      case hop =>
       refine ⟨?_,?_,?_,?_,?_,?_,?_,?_,?_,?_,?_,?_,?_,?_,?_,?_,?_,?_,?_,?_,?k20,?_,?_,?_,?_,?_,?_,?_,?_,?_,?_,?_,?_,?_,?_,?_,trivial⟩
       all_goals
        intro A W hsz hS hdep hbase
        obtain ⟨d0,d1⟩:=chc_cells hS HC5.out
        have h0:A.tmps.getD 0 undef=.slice a L.length cap:=hbase 0 (by kernel_rfl)
        have h3:A.tmps.getD 3 undef=.int .i64 (i:Int):=hbase 3 (by kernel_rfl)
        have h4:A.tmps.getD 4 undef=.int .i64 (j:Int):=hbase 4 (by kernel_rfl)
        have h5:A.tmps.getD 5 undef=.pointer (some ⟨wr.heap.size,0,none⟩):=hbase 5 (by kernel_rfl)
        clear hbase
        simp [slotOf,Region.binds,Vs,vq] at hdep
       case k20 =>
        refine opOk_runG (j:=18) (d:=60) (b:=false) rfl (by kernel_rfl) (by simp only [hdep]) rfl (.inl ⟨_,W,?_,rfl,Ext.refl _⟩)
        clear hsz hS;simp [go_sem,Act.eval, *]
        omega
       all_goals first
        | (refine opOk_run rfl (.inl ⟨_,W,?_,rfl,Ext.refl _⟩);clear hsz hS;simp [go_sem,Act.eval, *];done)
        | (refine opOk_runG (j:=3) (d:=45) (b:=false) rfl (by kernel_rfl) (by simp only [hdep]) rfl (.inl ⟨_,W,?_,rfl,Ext.refl _⟩);clear hsz hS;simp [go_sem,Act.eval, *];done)
        | (refine opOk_runG (j:=8) (d:=50) (b:=false) rfl (by kernel_rfl) (by simp only [hdep]) rfl (.inl ⟨_,W,?_,rfl,Ext.refl _⟩);clear hsz hS;simp [go_sem,Act.eval, *];done)
        | (refine opOk_runG (j:=13) (d:=55) (b:=false) rfl (by kernel_rfl) (by simp only [hdep]) rfl (.inl ⟨_,W,?_,rfl,Ext.refl _⟩);clear hsz hS;simp [go_sem,Act.eval, *];done)
        | (refine opOk_runG (j:=18) (d:=60) (b:=false) rfl (by kernel_rfl) (by simp only [hdep]) rfl (.inl ⟨_,W,?_,rfl,Ext.refl _⟩);clear hsz hS;simp [go_sem,Act.eval, *];done)
        | exact opOk_skip (j:=21) (d:=63) (b:=false) rfl (by kernel_rfl) (by simp only [hdep]) rfl rfl
      case hVx=>exact vs_stays (by simp only [List.mem_cons,List.not_mem_nil,or_false,forall_eq_or_imp,forall_eq];and_intros <;> exact stays_const _)
      case hSx=>exact fun W W' h hx=>Ext.trans h hx
      case hS=>exact Ext.refl _
      case hfin =>
       intro A W hsz hdf hS hv hbase
       obtain ⟨x,hx,hA⟩:=act_puts [42,43,44,45,46,47,48,49,50,51,52,53,54,55,56,57,58,59,60,61,62,63,64,65,66,67,68,69,70,71,72,73,74,75,76,77] (by kernel_rfl) hsz hdf hbase
       have e77:x 77=.bool false:=(hx 77).trans (hv 35 (by decide))
       rw [hA]
       simp only [List.foldl]
       rw [e77]
       clear e77
       simp only [Act.put,List.setIfInBounds_toArray,List.set_cons_succ,List.set_cons_zero]
       clear hA hx hv hbase hsz hdf
       have HS0:Hid (Ext w5 W):=hS
       clear hS
       go_wp2_with fail
       go_roundg (s.length - (j+1))
       case measure=>have:=HGK2.out;omega
       case rel=>exact ⟨j+1,by go_num,by omega,rfl,by rw [rangeAll_succ,HALL.out,HO.out];rfl,HB2.out.trans (Below.mono (Ext.trans HX5.out HS0.out) HB2.out.size)⟩
     ·
      obtain ⟨p,hpj⟩:∃ p,j=p+1:=⟨j - 1,by omega⟩
      have hp:p<s.length:=by omega
      have hpe:(j:Int) - 1=(p:Int):=by omega
      have hwp:IntKind.i64.wrap (p:Int)=(p:Int):=IntWalk.i64_in _ (by omega)
      obtain ⟨b3,o3,ha3,hb3,l0, -⟩:=(HA.out.later HB2.out (Nat.le_refl _)).ch hp
      have hi3:=idx_chs aa b3 o3 s.length cc p ha3 hp
      obtain ⟨pI,hpI⟩:∃ pI:Int,(s[p].key.toNat:Int)=pI:=⟨_,rfl⟩
      rw [hpI] at l0
      have hky:kyA s (j - 1)=s[p].key.toNat:=by rw [hpj];exact kyA_at hp
      have HKY:=Lib.hid hky;have HPI:=Lib.hid hpI
      have hjp:(0:Int)<(j:Int):=by omega
      have HJ0:=Lib.hid hj0
      clear ha3 hky hpI hpj hj0
      by_cases g5:kI≤pI
      ·
       have HR:Hid (validB L=false):=HBAD.out (okS_bad hlt (by
        cases e:okC s j with
        | false=>rfl
        | true=>have:=HOK.out.1 e;have:=HKI.out;have:=HKY.out;have:=HPI.out;have:=HJ0.out;omega))
       go_wp2_with fail
       obtain ⟨w5,hw5⟩:∃ w5,wr.alloc (.cells #[.int .u8 kI,.int .i64 cI] 25)=w5:=⟨_,rfl⟩
       have HX5:Hid (Ext wr w5):=by show Ext _ _;rw [← hw5];exact (Below.refl _ _).alloc (Nat.le_refl _) _
       have HC5:Hid (w5.heap[wr.heap.size]? = some (.cells #[.int .u8 kI,.int .i64 cI] 25 (0,0))):=by show _=_;rw [← hw5];exact heap_alloc_new _ _
       rw [hw5]
       clear hw5
       refine wp_region_rv (by kernel_rfl) (Vs [vq (.pointer (some ⟨wr.heap.size,0,none⟩)),vq (.int .u8 kI),vq (.bool false),vq (.bool false),vq (.pointer (some ⟨wr.heap.size,0,none⟩)),vq (.int .u8 kI),vq (.bool false),vq (.bool false),vq (.bool false),vq (.pointer (some ⟨wr.heap.size,1,none⟩)),vq (.int .i64 cI),vq (.bool false),vq (.bool false),vq (.bool false),vq (.pointer (some ⟨wr.heap.size,1,none⟩)),vq (.int .i64 cI),vq (.bool false),vq (.bool false),vq (.bool false),vq (.int .i64 (j:Int)),vq (.bool true),vq (.bool true),vq (.slice a L.length cap),vq (.int .i64 (i:Int)),vq (.pointer (some ⟨b1,o1+i,none⟩)),vq (.slice aa s.length cc),vq (.int .i64 (j:Int)),vq (.int .i64 (p:Int)),vq (.pointer (some ⟨b3,o3+p*2,none⟩)),vq (.pointer (some ⟨b3,o3+p*2,none⟩)),vq (.int .u8 pI),vq (.pointer (some ⟨wr.heap.size,0,none⟩)),vq (.int .u8 kI),vq (.bool true),vq (.bool true),vq (.bool true)]) (fun W=>Ext w5 W) 81 (by kernel_rfl) rfl ?hVx ?hSx ?hS (opsOk_all ?hop) ?hfin
       case hop =>
        refine ⟨?_,?_,?_,?_,?_,?_,?_,?_,?_,?_,?_,?_,?_,?_,?_,?_,?_,?_,?_,?_,?k20,?_,?_,?_,?_,?_,?_,?_,?_,?_,?_,?_,?_,?_,?_,?_,trivial⟩
        all_goals
         intro A W hsz hS hdep hbase
         obtain ⟨d0,d1⟩:=chc_cells hS HC5.out
         have hq0:=Eq.trans (Below.cell (Ext.trans HX5.out hS) (p:=⟨b1,o1+i,none⟩) hb1') q0
         have hl0:=Eq.trans (Below.cell (Ext.trans HX5.out hS) (p:=⟨b3,o3+p*2,none⟩) hb3) l0
         have h0:A.tmps.getD 0 undef=.slice a L.length cap:=hbase 0 (by kernel_rfl)
         have h3:A.tmps.getD 3 undef=.int .i64 (i:Int):=hbase 3 (by kernel_rfl)
         have h4:A.tmps.getD 4 undef=.int .i64 (j:Int):=hbase 4 (by kernel_rfl)
         have h5:A.tmps.getD 5 undef=.pointer (some ⟨wr.heap.size,0,none⟩):=hbase 5 (by kernel_rfl)
         clear hbase
         simp [slotOf,Region.binds,Vs,vq] at hdep
        case k20 =>
         refine opOk_runG (j:=18) (d:=60) (b:=false) rfl (by kernel_rfl) (by simp only [hdep]) rfl (.inl ⟨_,W,?_,rfl,Ext.refl _⟩)
         clear hsz hS;simp [go_sem,Act.eval, *]
         omega
        all_goals first
         | (refine opOk_run rfl (.inl ⟨_,W,?_,rfl,Ext.refl _⟩);clear hsz hS;simp [go_sem,Act.eval, *];done)
         | (refine opOk_runG (j:=3) (d:=45) (b:=false) rfl (by kernel_rfl) (by simp only [hdep]) rfl (.inl ⟨_,W,?_,rfl,Ext.refl _⟩);clear hsz hS;simp [go_sem,Act.eval, *];done)
         | (refine opOk_runG (j:=8) (d:=50) (b:=false) rfl (by kernel_rfl) (by simp only [hdep]) rfl (.inl ⟨_,W,?_,rfl,Ext.refl _⟩);clear hsz hS;simp [go_sem,Act.eval, *];done)
         | (refine opOk_runG (j:=13) (d:=55) (b:=false) rfl (by kernel_rfl) (by simp only [hdep]) rfl (.inl ⟨_,W,?_,rfl,Ext.refl _⟩);clear hsz hS;simp [go_sem,Act.eval, *];done)
         | (refine opOk_runG (j:=18) (d:=60) (b:=false) rfl (by kernel_rfl) (by simp only [hdep]) rfl (.inl ⟨_,W,?_,rfl,Ext.refl _⟩);clear hsz hS;simp [go_sem,Act.eval, *];done)
         | (refine opOk_runG (j:=21) (d:=63) (b:=true) rfl (by kernel_rfl) (by simp only [hdep]) rfl (.inl ⟨_,W,?_,rfl,Ext.refl _⟩);clear hsz hS;simp [go_sem,Act.eval, *];done)
       case hVx=>exact vs_stays (by simp only [List.mem_cons,List.not_mem_nil,or_false,forall_eq_or_imp,forall_eq];and_intros <;> exact stays_const _)
       case hSx=>exact fun W W' h hx=>Ext.trans h hx
       case hS=>exact Ext.refl _
       case hfin =>
        intro A W hsz hdf hS hv hbase
        obtain ⟨x,hx,hA⟩:=act_puts [42,43,44,45,46,47,48,49,50,51,52,53,54,55,56,57,58,59,60,61,62,63,64,65,66,67,68,69,70,71,72,73,74,75,76,77] (by kernel_rfl) hsz hdf hbase
        have e77:x 77=.bool true:=(hx 77).trans (hv 35 (by decide))
        rw [hA]
        simp only [List.foldl]
        rw [e77]
        clear e77
        simp only [Act.put,List.setIfInBounds_toArray,List.set_cons_succ,List.set_cons_zero]
        clear hA hx hv hbase hsz hdf
        have HS0:Hid (Ext w5 W):=hS
        clear hS
        go_wp2_with fail
        go_ret
        exact ⟨ret_bool HR.out.symm,HBW.out.trans (Below.mono (Ext.trans HX5.out HS0.out) HBW.out.size)⟩
      ·
       have HO:Hid (okC s j=true):=HOK.out.2 (by have:=HKI.out;have:=HCI.out;have:=HKY.out;have:=HPI.out;omega)
       go_wp2_with fail
       obtain ⟨w5,hw5⟩:∃ w5,wr.alloc (.cells #[.int .u8 kI,.int .i64 cI] 25)=w5:=⟨_,rfl⟩
       have HX5:Hid (Ext wr w5):=by show Ext _ _;rw [← hw5];exact (Below.refl _ _).alloc (Nat.le_refl _) _
       have HC5:Hid (w5.heap[wr.heap.size]? = some (.cells #[.int .u8 kI,.int .i64 cI] 25 (0,0))):=by show _=_;rw [← hw5];exact heap_alloc_new _ _
       rw [hw5]
       clear hw5
       refine wp_region_rv (by kernel_rfl) (Vs [vq (.pointer (some ⟨wr.heap.size,0,none⟩)),vq (.int .u8 kI),vq (.bool false),vq (.bool false),vq (.pointer (some ⟨wr.heap.size,0,none⟩)),vq (.int .u8 kI),vq (.bool false),vq (.bool false),vq (.bool false),vq (.pointer (some ⟨wr.heap.size,1,none⟩)),vq (.int .i64 cI),vq (.bool false),vq (.bool false),vq (.bool false),vq (.pointer (some ⟨wr.heap.size,1,none⟩)),vq (.int .i64 cI),vq (.bool false),vq (.bool false),vq (.bool false),vq (.int .i64 (j:Int)),vq (.bool true),vq (.bool true),vq (.slice a L.length cap),vq (.int .i64 (i:Int)),vq (.pointer (some ⟨b1,o1+i,none⟩)),vq (.slice aa s.length cc),vq (.int .i64 (j:Int)),vq (.int .i64 (p:Int)),vq (.pointer (some ⟨b3,o3+p*2,none⟩)),vq (.pointer (some ⟨b3,o3+p*2,none⟩)),vq (.int .u8 pI),vq (.pointer (some ⟨wr.heap.size,0,none⟩)),vq (.int .u8 kI),vq (.bool false),vq (.bool false),vq (.bool false)]) (fun W=>Ext w5 W) 81 (by kernel_rfl) rfl ?hVx ?hSx ?hS (opsOk_all ?hop) ?hfin
       case hop =>
        refine ⟨?_,?_,?_,?_,?_,?_,?_,?_,?_,?_,?_,?_,?_,?_,?_,?_,?_,?_,?_,?_,?k20,?_,?_,?_,?_,?_,?_,?_,?_,?_,?_,?_,?_,?_,?_,?_,trivial⟩
        all_goals
         intro A W hsz hS hdep hbase
         obtain ⟨d0,d1⟩:=chc_cells hS HC5.out
         have hq0:=Eq.trans (Below.cell (Ext.trans HX5.out hS) (p:=⟨b1,o1+i,none⟩) hb1') q0
         have hl0:=Eq.trans (Below.cell (Ext.trans HX5.out hS) (p:=⟨b3,o3+p*2,none⟩) hb3) l0
         have h0:A.tmps.getD 0 undef=.slice a L.length cap:=hbase 0 (by kernel_rfl)
         have h3:A.tmps.getD 3 undef=.int .i64 (i:Int):=hbase 3 (by kernel_rfl)
         have h4:A.tmps.getD 4 undef=.int .i64 (j:Int):=hbase 4 (by kernel_rfl)
         have h5:A.tmps.getD 5 undef=.pointer (some ⟨wr.heap.size,0,none⟩):=hbase 5 (by kernel_rfl)
         clear hbase
         simp [slotOf,Region.binds,Vs,vq] at hdep
        case k20 =>
         refine opOk_runG (j:=18) (d:=60) (b:=false) rfl (by kernel_rfl) (by simp only [hdep]) rfl (.inl ⟨_,W,?_,rfl,Ext.refl _⟩)
         clear hsz hS;simp [go_sem,Act.eval, *]
         omega
        all_goals first
         | (refine opOk_run rfl (.inl ⟨_,W,?_,rfl,Ext.refl _⟩);clear hsz hS;simp [go_sem,Act.eval, *];done)
         | (refine opOk_runG (j:=3) (d:=45) (b:=false) rfl (by kernel_rfl) (by simp only [hdep]) rfl (.inl ⟨_,W,?_,rfl,Ext.refl _⟩);clear hsz hS;simp [go_sem,Act.eval, *];done)
         | (refine opOk_runG (j:=8) (d:=50) (b:=false) rfl (by kernel_rfl) (by simp only [hdep]) rfl (.inl ⟨_,W,?_,rfl,Ext.refl _⟩);clear hsz hS;simp [go_sem,Act.eval, *];done)
         | (refine opOk_runG (j:=13) (d:=55) (b:=false) rfl (by kernel_rfl) (by simp only [hdep]) rfl (.inl ⟨_,W,?_,rfl,Ext.refl _⟩);clear hsz hS;simp [go_sem,Act.eval, *];done)
         | (refine opOk_runG (j:=18) (d:=60) (b:=false) rfl (by kernel_rfl) (by simp only [hdep]) rfl (.inl ⟨_,W,?_,rfl,Ext.refl _⟩);clear hsz hS;simp [go_sem,Act.eval, *];done)
         | (refine opOk_runG (j:=21) (d:=63) (b:=true) rfl (by kernel_rfl) (by simp only [hdep]) rfl (.inl ⟨_,W,?_,rfl,Ext.refl _⟩);clear hsz hS;simp [go_sem,Act.eval, *];done)
       case hVx=>exact vs_stays (by simp only [List.mem_cons,List.not_mem_nil,or_false,forall_eq_or_imp,forall_eq];and_intros <;> exact stays_const _)
       case hSx=>exact fun W W' h hx=>Ext.trans h hx
       case hS=>exact Ext.refl _
       case hfin =>
        intro A W hsz hdf hS hv hbase
        obtain ⟨x,hx,hA⟩:=act_puts [42,43,44,45,46,47,48,49,50,51,52,53,54,55,56,57,58,59,60,61,62,63,64,65,66,67,68,69,70,71,72,73,74,75,76,77] (by kernel_rfl) hsz hdf hbase
        have e77:x 77=.bool false:=(hx 77).trans (hv 35 (by decide))
        rw [hA]
        simp only [List.foldl]
        rw [e77]
        clear e77
        simp only [Act.put,List.setIfInBounds_toArray,List.set_cons_succ,List.set_cons_zero]
        clear hA hx hv hbase hsz hdf
        have HS0:Hid (Ext w5 W):=hS
        clear hS
        go_wp2_with fail
        go_roundg (s.length - (j+1))
        case measure=>have:=HGK2.out;omega
        case rel=>exact ⟨j+1,by go_num,by omega,rfl,by rw [rangeAll_succ,HALL.out,HO.out];rfl,HB2.out.trans (Below.mono (Ext.trans HX5.out HS0.out) HB2.out.size)⟩
    ·
     have HO:Hid (okS s=true):=okS_iff (by omega) (by omega) (by
      have h:=HALL.out
      have e:j=s.length:=by omega
      rw [e] at h
      exact h)
     go_wp2_with fail
     go_roundg (L.length - (i+1))
     case measure=>have:=HGK.out;omega
     case rel=>exact ⟨i+1,by go_num,by omega,rfl,by rw [HTK.out,List.all_append,HT.out];simp [HO.out],HBW.out⟩
  ·
   obtain ⟨r,hr⟩:∃ r,decide (L.length≤40)=r:=⟨_,rfl⟩
   have HR:Hid (validB L=r):=by
    have h:=HT.out
    rw [List.take_of_length_le (by omega)] at h
    show _=_
    unfold validB;rw [h,hr];simp
   have hle:decide ((L.length:Int)≤40)=r:=by rw [← hr];exact decide_eq_decide.2 (by omega)
   clear hr
   go_wp2_with fail
   go_ret
   exact ⟨ret_bool HR.out.symm,HB.out⟩
structure SchM (w:World) (S:Sch) (b:Option Addr) (c:Nat):Prop where
 fair:Fairs S.rules
 mo:∀ r∈S.rules,r.frm<S.modes∧r.dst<S.modes
 m0:1≤S.modes
 m8:S.modes≤8
 a0:0≤S.acc
 a1:S.acc≤255
 len:S.rules.length≤64
 out:∀ r∈S.rules,r.out.size≤1000
 cap:S.rules.length≤c
 rul:RulS w b S.rules
theorem SchM.go {w w1:World} {S:Sch} {b:Option Addr} {c:Nat} (h:SchM w S b c) (hb:Below w.heap.size w w1):SchM w1 S b c :=
 ⟨h.fair,h.mo,h.m0,h.m8,h.a0,h.a1,h.len,h.out,h.cap,h.rul.later hb (Nat.le_refl _)⟩
theorem right_of {S:Sch} (h:Fl.validB S=true) {r:Rl} (hr:r∈S.rules):rightB S.modes r=true:=by
 obtain ⟨i,hi,rfl⟩:=List.mem_iff_getElem.1 hr
 have hv:=((validB_iff S).1 h).2 i hi hi
 unfold goodAt at hv
 rw [Bool.and_eq_true] at hv
 exact hv.1
theorem right_facts {m:Int} {r:Rl} (h:rightB m r=true):0≤r.frm∧r.frm<m∧0≤r.dst∧r.dst<m∧r.inp.size≤4∧r.out.size≤4∧0≤r.cost∧r.cost≤1000:=by
 unfold rightB at h
 simp only [Bool.and_eq_true,decide_eq_true_eq] at h
 obtain ⟨h1,h2,h3,h4,h5,h6,h7,h8,h9,h10⟩:=h
 exact ⟨h1,h2,h3,h4,by omega,by omega,h9,h10⟩
theorem SchM.of_valid {w:World} {S:Sch} {b:Option Addr} {c:Nat} (hv:Fl.validB S=true) (ha:0≤S.acc) (ha1:S.acc≤255) (hc:S.rules.length≤c) (hr:RulS w b S.rules):SchM w S b c:=by
 have hf:=fit_of hv ha ha1
 have h1:=hf.m0;have h2:=hf.m1
 refine ⟨fun r hr=>?_,fun r hr=>?_,by omega,by omega,ha,ha1,hf.len,fun r hr=>?_,hc,hr⟩
 ·
  have h:=right_facts (right_of hv hr)
  exact fairB_iff.2 ⟨h.1,by omega,h.2.2.1,by omega,h.2.2.2.2.1,h.2.2.2.2.2.2.1,h.2.2.2.2.2.2.2⟩
 · have h:=right_facts (right_of hv hr);exact ⟨h.2.1,h.2.2.2.1⟩
 · have h:=right_facts (right_of hv hr);omega
structure SlkS (w:World) (a:Option Addr) (c:Nat) (L:List Slt):Prop where
 s:SlotS w a L
 ha:(∀ b,a=some b→∃ b' o',b=⟨b',o',none⟩)∧(a=none→L=[])
 cap:L.length≤c
 len:L.length≤40
 bnd:SlotsB 300 L
 dis:DisL L
theorem SlkS.go {w w1:World} {a:Option Addr} {c:Nat} {L:List Slt} (h:SlkS w a c L) (hb:Below w.heap.size w w1):SlkS w1 a c L :=
 ⟨h.s.later hb (Nat.le_refl _),h.ha,h.cap,h.len,h.bnd,h.dis⟩
theorem SlkS.of {w:World} {B:Nat} {a:Option Addr} {n c:Nat} {L:List Slt} (h:SltsG w B (.slice a n c) L) (hl:L.length≤40) (hb:SlotsB 300 L) (hd:DisL L):SlkS w a c L∧n=L.length:=by
 obtain ⟨h1,h2,h3⟩:=h.slotS
 refine ⟨⟨h1,⟨fun b hb=>?_,fun e=>?_⟩,h3,hl,hb,hd⟩,h2⟩
 ·
  obtain ⟨Ls,hr⟩:=h
  rcases hr.own.blk with ⟨e,_⟩ | ⟨g,c2,e,_⟩
  · injection e with e1;rw [e1] at hb;cases hb
  · injection e with e1;rw [e1] at hb;injection hb with hb;exact ⟨g,0,hb.symm⟩
 ·
  obtain ⟨Ls,hr⟩:=h
  rcases hr.own.blk with ⟨_,e2⟩ | ⟨g,c2,e2,_⟩
  · have:=hr.len;rw [e2] at this;exact List.eq_nil_of_length_eq_zero this.symm
  · injection e2 with e1;rw [e] at e1;cases e1
def FnP (R:List Rl) (acc:Int) (L:List Slt) (W:List (List UInt8)) (i:Nat) (w:World) (e:Ending) (w':World):Prop :=
 ∃ a c l,e=.returned (.slice a l.length c)∧OwnG rowFnd w' w.heap.size (.slice a l.length c) l∧FndB R acc L W i l∧Below w.heap.size w w'
def EnP (R:List Rl) (acc:Int) (L:List Slt) (W:List (List UInt8)) (w:World) (e:Ending) (w':World):Prop:=EndsP R acc L W w.heap.size e w'∧Below w.heap.size w w'
theorem cost_bound {N i:Nat} (hN:N≤201) (hi:i≤40):8*N*(i*((8*N+1)*(1000+4*300))+(8*N+1)*(1000+4*300)+2)≤900000000000:=by
 have h1:(8*N+1)*(1000+4*300)≤1609*2200:=Nat.mul_le_mul (by omega) (by decide)
 have h2:i*((8*N+1)*(1000+4*300))≤40*(1609*2200):=Nat.mul_le_mul hi h1
 have h3:8*N*(i*((8*N+1)*(1000+4*300))+(8*N+1)*(1000+4*300)+2)≤1608*(40*(1609*2200)+1609*2200+2):=Nat.mul_le_mul (by omega) (by omega)
 omega
theorem Dict.inc {Ws:List ByteArray} (hd:Dict Ws):(Ws.map bts).Pairwise fun a b=>Op.bytesLess a b=true:=by
 rw [List.pairwise_map]
 refine hd.sorted.imp fun {x y} h=>?_
 unfold ltS at h
 rw [ByteArray.toList_eq,ByteArray.toList_eq] at h
 exact h
section
variable {w:World} {S:Sch} {b aD aL:Option Addr} {cS nD cD cL:Nat} {Ws:List ByteArray} {L:List Slt}
theorem words_l (hS:SchM w S b cS) (hD:AutS w aD nD cD Ws) (hW:Ws.length≤10) (hL:SlkS w aL cL L) :
  Calls Tryd.prog 9 #[.agg #[.int .i64 S.modes,.int .u8 S.acc,.slice b S.rules.length cS],.slice aD nD cD,.slice aL L.length cL] w (FnP S.rules S.acc L (Ws.map bts) L.length w):=by
 have hwf:=words_of hD.dict
 have hsz:∀ x∈Ws,x.size≤20:=fun x hx=>(word_facts (hD.dict.word x hx)).2.1
 have hlen:=hD.len
 have h:=lwords_any S.rules S.modes S.acc b cS (ofF (restAt 0 Ws)) aD cD aL L cL 300 w hS.rul (by have:=hS.len;omega) (fun r hr=>by have:=hS.out r hr;omega) hD.rows hD.big (csOk_of hD.dict)
  (by rw [hwf];omega) (by rw [hwf];exact hsz) (by rw [hwf];exact hD.dict.inc) hL.s (by have:=hL.len;omega) hL.bnd (by decide) (by rw [hwf];exact fun N i hN hi=>cost_bound (by omega) (by have:=hL.len;omega)) hS.a0 hS.a1
 rw [hwf,← hlen] at h
 refine h.mono ?_
 rintro e w' ⟨⟨a,c,l,rfl,h1,h2⟩,hb⟩
 exact ⟨a,c,l,rfl,h1,h2,hb⟩
theorem ends_l (hS:SchM w S b cS) (hD:AutS w aD nD cD Ws) (hW:Ws.length≤10) (hL:SlkS w aL cL L) :
  Calls Tryd.prog 11 #[.agg #[.int .i64 S.modes,.int .u8 S.acc,.slice b S.rules.length cS],.slice aD nD cD,.slice aL L.length cL] w (EnP S.rules S.acc L (Ws.map bts) w):=by
 have hwf:=words_of hD.dict
 have hsz:∀ x∈Ws,x.size≤20:=fun x hx=>(word_facts (hD.dict.word x hx)).2.1
 have hlen:=hD.len
 have h:=ends_any S.rules S.modes S.acc b cS (ofF (restAt 0 Ws)) aD cD aL L cL 300 w hS.rul (by have:=hS.len;omega) (fun r hr=>by have:=hS.out r hr;omega) hD.rows hD.big (csOk_of hD.dict)
  (by rw [hwf];omega) (by rw [hwf];exact hsz) (by rw [hwf];exact hD.dict.inc) hL.s (by have:=hL.len;omega) hL.bnd (by decide) (by rw [hwf];exact fun N i hN hi=>cost_bound (by omega) (by have:=hL.len;omega)) hS.a0 hS.a1
 rw [hwf,← hlen] at h
 exact h
end
theorem typL_bnd (s:ByteArray):SlotsB 300 (typL s):=fun t ht x hx=>by
 unfold typL typB at ht
 obtain ⟨c,_,rfl⟩:=List.mem_map.1 ht
 rw [List.mem_singleton.1 hx]
 exact ⟨Int.le_refl 0,show (0:Int)≤300 by decide⟩
theorem typL_dis (s:ByteArray):DisL (typL s):=fun t ht=>by
 unfold typL typB at ht
 obtain ⟨c,_,rfl⟩:=List.mem_map.1 ht
 exact List.pairwise_singleton _ _
def TypS (s:ByteArray) (v:Value) (w:World):Prop:=∃ a c,v=.slice a s.size c∧SlkS w a c (typL s)
theorem typS_stays (s:ByteArray):Stays (TypS s):=by
 rintro v w w' ⟨a,c,h1,h2⟩ hx
 exact ⟨a,c,h1,h2.go hx⟩
theorem typS_of {s:ByteArray} {w w':World} {e:Ending} (h:TypedP s w e w') (hs:s.size≤40):∃ v,e=.returned v∧TypS s v w':=by
 obtain ⟨a,c,he,hg⟩:=h
 exact ⟨_,he,a,c,rfl,(SlkS.of hg (by rw [typL_len];exact hs) (typL_bnd s) (typL_dis s)).1⟩
def FnS (R:List Rl) (acc:Int) (L:List Slt) (W:List (List UInt8)) (i:Nat) (v:Value) (w:World):Prop:=∃ a c l,v=.slice a l.length c∧FndS w a l∧FndB R acc L W i l∧l.length≤c
theorem fnS_stays (R:List Rl) (acc:Int) (L:List Slt) (W:List (List UInt8)) (i:Nat):Stays (FnS R acc L W i):=by
 rintro v w w' ⟨a,c,l,h1,h2,h3,h4⟩ hx
 exact ⟨a,c,l,h1,h2.kp (Kc.of hx (Nat.le_refl _)),h3,h4⟩
theorem fnS_of {R:List Rl} {acc:Int} {L:List Slt} {W:List (List UInt8)} {i:Nat} {w w':World} {e:Ending} (h:FnP R acc L W i w e w'):∃ v,e=.returned v∧FnS R acc L W i v w'∧Below w.heap.size w w':=by
 obtain ⟨a,c,l,he,h1,h2,hb⟩:=h
 exact ⟨_,he,⟨a,c,l,rfl,h1.fnds.1,h2,h1.fnds.2.2⟩,hb⟩
structure EnR (R:List Rl) (acc:Int) (L:List Slt) (W:List (List UInt8)) (g:Nat) (Ls:List SV) (w:World):Prop where
 own:OwnG rowFnds w 0 (.slice (some ⟨g,0,none⟩) (L.length+1) (L.length+1)) Ls
 len:Ls.length=L.length+1
 ok:∀ (k:Nat) (h:k<Ls.length),∃ l,OwnG rowFnd w 0 (svS Ls[k]) l∧FndB R acc L W k l
theorem EnR.go {R:List Rl} {acc:Int} {L:List Slt} {W:List (List UInt8)} {g:Nat} {Ls:List SV} {w w':World} (h:EnR R acc L W g Ls w) (hb:Below w.heap.size w w'):EnR R acc L W g Ls w' :=
 ⟨h.own.later hb (Nat.le_refl _),h.len,fun k hk=>by obtain ⟨l,h1,h2⟩:=h.ok k hk;exact ⟨l,h1.later hb (Nat.le_refl _),h2⟩⟩
theorem EnR.at {R:List Rl} {acc:Int} {L:List Slt} {W:List (List UInt8)} {g:Nat} {Ls:List SV} {w:World} (h:EnR R acc L W g Ls w) {k:Nat} (hk:k<L.length+1) :
  ∃ a c l,w.cell? ⟨g,k,none⟩=some (.slice a l.length c)∧FndS w a l∧FndB R acc L W k l∧∀ W,(Instr.indexAt 46 (.slice (some ⟨g,0,none⟩) (L.length+1) (L.length+1)) (.int .i64 (k:Int))).run Tryd.prog W=.ok (.pointer (some ⟨g,k,none⟩)) W:=by
 have hkl:k<Ls.length:=by rw [h.len];exact hk
 obtain ⟨l,h1,h2⟩:=h.ok k hkl
 obtain ⟨a,c,he, -, -⟩:=h1.form
 have hcl:=h.own.cell rowFnds_ok hkl (j:=0) (by decide)
 have e1:k*rowFnds.k+0=k:=by show k*1+0=k;omega
 rw [e1] at hcl
 have hcl2:w.cell? ⟨g,k,none⟩=some (svS Ls[k]):=hcl
 rw [he] at hcl2 h1
 exact ⟨a,c,l,hcl2,h1.fnds.1,h2,fun W=>idx_fnds g _ _ k hk W⟩
def EnS (R:List Rl) (acc:Int) (L:List Slt) (W:List (List UInt8)) (v:Value) (w:World):Prop:=∃ g Ls,v=.slice (some ⟨g,0,none⟩) (L.length+1) (L.length+1)∧EnR R acc L W g Ls w
theorem enS_stays (R:List Rl) (acc:Int) (L:List Slt) (W:List (List UInt8)):Stays (EnS R acc L W):=by
 rintro v w w' ⟨g,Ls,h1,h2⟩ hx
 exact ⟨g,Ls,h1,h2.go hx⟩
theorem enS_of {R:List Rl} {acc:Int} {L:List Slt} {W:List (List UInt8)} {w w':World} {e:Ending} (h:EnP R acc L W w e w'):∃ v,e=.returned v∧EnS R acc L W v w'∧Below w.heap.size w w':=by
 obtain ⟨⟨g,Ls,he,h1,h2,h3⟩,hb⟩:=h
 exact ⟨_,he,⟨g,Ls,rfl,h1.mono (Nat.zero_le _),h2,fun k hk=>by obtain ⟨l,h4,h5⟩:=h3 k hk (by omega);exact ⟨l,h4.mono (Nat.zero_le _),h5⟩⟩,hb⟩
end Go.Proofs.YthjmdgejnakcmaaDoor
namespace Go.Proofs.YthjmdgejnakcmaaDoor
open Go.RowKit Go.WideShapes Fl
set_option linter.unusedVariables false
set_option linter.unusedSimpArgs false
theorem ownG_lit {α:Type} {T:RowT α} (hT:T.Ok) {w:World} {B g n:Nat} {cs:Array Value} {L:List α} (h:w.heap[g]? = some (.cells cs T.e (0,0))) (hcs:cs.toList=L.flatMap T.enc) (hB:B≤g) (hn:n=L.length) (hl:n≤1000000):OwnG T w B (.slice (some ⟨g,0,none⟩) n n) L:=by
 subst hn
 have hlen:=flat_len hT L
 have hsz:cs.size=L.length*T.k:=by rw [← Array.length_toList,hcs,hlen]
 refine ⟨hlen,.inr ⟨g,L.length,cs,rfl,hB,h,Nat.le_refl _,by unfold maxLen;omega,hsz,?_⟩⟩
 rw [hcs,List.take_of_length_le (by rw [hlen];exact Nat.le_refl _)]
def sanR:List Rl:=[⟨0,0,⟨#[97]⟩,⟨#[97]⟩,0⟩,⟨0,0,⟨#[98,97]⟩,⟨#[66]⟩,0⟩]
def sanS:Sch:=⟨1,1,sanR⟩
def sanD:List ByteArray:=[⟨#[66]⟩,⟨#[97]⟩,⟨#[97,97]⟩]
def sanL:Slt:=[⟨97,0⟩,⟨98,5⟩]
theorem sanV:Fl.validB sanS=true:=Fl.valid_of (by decide +kernel)
theorem sanDict:Dict sanD:=dict_mk (by decide) (by decide) (by decide)
theorem sanTake:∀ r∈sanR,1≤r.inp.size:=by decide
theorem sanA:fndC sanR 1 (typL ⟨#[98,97]⟩) (sanD.map bts) 2=[(0,0)]:=by decide +kernel
theorem sanB:fndC sanR 1 [sanL,sanL] (sanD.map bts) 2=[(0,5),(2,0)]:=by decide +kernel
theorem sanC0:fndC sanR 1 (typL ⟨#[97,97,98]⟩) (sanD.map bts) 0=[]:=by decide +kernel
theorem sanC1:fndC sanR 1 (typL ⟨#[97,97,98]⟩) (sanD.map bts) 1=[(1,0)]:=by decide +kernel
theorem sanC2:fndC sanR 1 (typL ⟨#[97,97,98]⟩) (sanD.map bts) 2=[(2,0)]:=by decide +kernel
theorem sanC3:fndC sanR 1 (typL ⟨#[97,97,98]⟩) (sanD.map bts) 3=[]:=by decide +kernel
theorem sanV1:validB []=true:=by decide
theorem sanV2:validB [sanL]=true:=by decide
theorem sanV3:validB [[]]=false:=by decide
theorem sanV4:validB [[⟨98,0⟩,⟨97,0⟩]]=false:=by decide
theorem sanV5:validB (List.replicate 41 [])=false:=by decide
theorem slk_row {w:World} {g n:Nat} {cs:Array Value} {Ls:List SV} {L:List Slt} (h:w.heap[g]? = some (.cells cs 28 (0,0))) (hcs:cs.toList=Ls.flatMap rowSlts.enc) (hn:n=Ls.length) (hl:n≤1000000) (hlen:Ls.length=L.length)
  (hel:∀ (k:Nat) (x:SV) (s:Slt),Ls[k]? = some x→L[k]? = some s→OwnG rowCh w 0 (svS x) s):SltsG w 0 (.slice (some ⟨g,0,none⟩) n n) L :=
 ⟨Ls,ownG_lit rowSlts_ok h hcs (Nat.zero_le _) hn hl,hlen,hel⟩
theorem san_bnd2:SlotsB 300 [sanL,sanL]:=by unfold SlotsB;decide
theorem san_dis2:DisL [sanL,sanL]:=by unfold DisL;decide
theorem same_lit (w:World) (D E:List (Nat × Nat)) (a:Option Addr) (c n:Nat) (hD:FndS w a D) (hn:n=E.length) (cs:Array Value) (hcs:cs.toList=E.flatMap rowFnd.enc) (h1:D.length≤100) (h2:E.length≤100) :
  Calls Tryd.prog 12 #[.slice a D.length c,.slice (some ⟨w.heap.size,0,none⟩) n n] (w.alloc (.cells cs 50)) fun e w'=>e=.returned (.bool (decide (D=E)))∧Below w.heap.size w w':=by
 subst hn
 have hx:Ext w (w.alloc (.cells cs 50)):=(Below.refl _ _).alloc (Nat.le_refl _) _
 refine (fsame_any D E a (some ⟨w.heap.size,0,none⟩) c E.length (w.alloc (.cells cs 50)) (hD.kp (Kc.of hx (Nat.le_refl _))) (ownG_lit rowFnd_ok (B:=0) (heap_alloc_new _ _) hcs (Nat.zero_le _) rfl (by omega)).fnds.1 (by omega) (by omega)).mono ?_
 rintro e w' ⟨rfl,hb⟩
 exact ⟨rfl,Ext.trans hx hb⟩
theorem one_el {w:World} {x:SV} {s:Slt} (h:OwnG rowCh w 0 (svS x) s):∀ (k:Nat) (y:SV) (t:Slt),[x][k]? = some y→[s][k]? = some t→OwnG rowCh w 0 (svS y) t:=fun k y t h1 h2=>by
 rcases k with _ | k
 · cases h1;cases h2;exact h
 · simp at h1
theorem val_lit (w:World) (g n:Nat) (Ls:List SV) (L:List Slt) (hg:w.heap.size=g) (hn:n=Ls.length) (hlen:Ls.length=L.length) (cs:Array Value) (hcs:cs.toList=Ls.flatMap rowSlts.enc) (hl:n≤1000)
  (hel:∀ (k:Nat) (x:SV) (s:Slt),Ls[k]? = some x→L[k]? = some s→OwnG rowCh w 0 (svS x) s) :
  Calls Tryd.prog 6 #[.slice (some ⟨g,0,none⟩) n n] (w.alloc (.cells cs 28)) fun e w'=>e=.returned (.bool (validB L))∧Below w.heap.size w w':=by
 subst hg
 have hx:Ext w (w.alloc (.cells cs 28)):=(Below.refl _ _).alloc (Nat.le_refl _) _
 obtain ⟨h1,h2,h3⟩:=(slk_row (heap_alloc_new w (.cells cs 28)) hcs hn (by omega) hlen fun k x s h1 h2=>(hel k x s h1 h2).later hx (Nat.le_refl _)).slotS
 rw [h2]
 refine (lvalid_any L (some ⟨w.heap.size,0,none⟩) L.length _ h1 (by omega)).mono ?_
 rintro e w' ⟨rfl,hb⟩
 exact ⟨rfl,Ext.trans hx hb⟩
theorem make_slts (w:World) (n:Nat) (hn:n≤1000000):∃ w',(Instr.makeSlice 23 (.int .i64 (n:Int)) (.int .i64 (n:Int))).run Tryd.prog w=.ok (.slice (some ⟨w.heap.size,0,none⟩) n n) w'∧OwnG rowSlts w' 0 (.slice (some ⟨w.heap.size,0,none⟩) n n) (List.replicate n ⟨none,0,0⟩)∧Ext w w':=by
 obtain ⟨i0,hi,hz0,hz1,hz2⟩:=info_parts rowSlts_ok.info
 have hb:i0.bytes*n≤64*1000000:=Nat.mul_le_mul (by rw [hz2];exact rowSlts_ok.b) hn
 obtain ⟨w',hrun,r1,r2⟩:=run_make_full (P:=Tryd.prog) w 0 rowSlts.sl rowSlts.e i0 rowSlts.z rowSlts.k rowSlts_ok.und hi hz0 hz1 .i64 .i64 n (by omega) (by unfold maxLen;omega) (Nat.zero_le _)
 refine ⟨w',hrun,?_,⟨r2.os,r2.tape,r2.output,r2.size,fun k hk=>r2.block k hk (by simp)⟩⟩
 unfold OwnG
 rw [List.length_replicate]
 have e:(madeCells rowSlts.z.cells (n*rowSlts.k)).toList=(List.replicate n (⟨none,0,0⟩:SV)).flatMap rowSlts.enc:=by
  rw [flatMap_rep rowSlts ⟨none,0,0⟩ rfl n]
  apply List.ext_getElem
  · simp [madeCells,rowSlts]
  ·
   intro j h2 h3
   simp [madeCells,rowSlts,Nat.mod_one,Value.cells]
 rw [← e]
 exact r1
set_option maxHeartbeats 6400000 in
set_option maxRecDepth 100000 in
theorem
    sanity_any (w:World) (hT:Tab w):Calls Tryd.prog 4 #[] w fun e w'=>e=.returned (.bool true)∧Below w.heap.size w w':=by
 have HT:=Lib.hid hT;clear hT
 go_enter Tryd.func4,Tryd.ntmps4
 go_upto_region 2 with fail
 obtain ⟨w0,hw0⟩:∃ w0,w.alloc (.cells #[.int .i64 0,.int .i64 0,.string ⟨#[97]⟩,.string ⟨#[97]⟩,.int .i64 0,.int .i64 0,.int .i64 0,.string ⟨#[98,97]⟩,.string ⟨#[66]⟩,.int .i64 0] 33)=w0:=⟨_,rfl⟩
 rw [hw0]
 have hx0:Ext w w0:=by rw [← hw0];exact (Below.refl _ _).alloc (Nat.le_refl _) _
 have hz0:w0.heap.size=w.heap.size+1:=by rw [← hw0,World.size_alloc]
 have hro:OwnG rowRul w0 0 (.slice (some ⟨w.heap.size,0,none⟩) 2 2) sanR:=by rw [← hw0];exact ownG_lit rowRul_ok (heap_alloc_new _ _) rfl (Nat.zero_le _) rfl (by decide)
 obtain ⟨w1,hw1⟩:∃ w1,w0.alloc (.cells #[.int .i64 1,.int .u8 1,.slice (some ⟨w.heap.size,0,none⟩) 2 2] 36)=w1:=⟨_,rfl⟩
 rw [hw1]
 have hx1:Ext w0 w1:=by rw [← hw1];exact (Below.refl _ _).alloc (Nat.le_refl _) _
 have HSM:Hid (SchM w1 sanS (some ⟨w.heap.size,0,none⟩) 2):=SchM.of_valid sanV (by decide) (by decide) (by decide) (hro.ruls.1.later hx1 (Nat.le_refl _))
 have HSC:Hid (w1.heap[w.heap.size+1]? = some (.cells #[.int .i64 1,.int .u8 1,.slice (some ⟨w.heap.size,0,none⟩) 2 2] 36 (0,0))):=by
  show _=_
  rw [← hw1,← hz0];exact heap_alloc_new _ _
 have HX1:Hid (Ext w w1):=Ext.trans hx0 hx1
 have HT1:=Lib.hid (HT.out.later HX1.out)
 clear hw0 hw1 hx0 hx1 hro hz0
 obtain ⟨gs,hgs⟩:∃ gs,w.heap.size+1=gs:=⟨_,rfl⟩
 obtain ⟨aR,haR⟩:∃ aR,(some ⟨w.heap.size,0,none⟩:Option Addr)=aR:=⟨_,rfl⟩
 rw [haR] at HSM HSC ⊢
 rw [hgs] at HSC ⊢
 clear hgs haR HT
 go_wp2_with fail
 refine (build_d sanDict (strS_row (heap_alloc_new w1 _) rfl) rfl (Nat.le_refl _) (HT1.out.later ((Below.refl _ _).alloc (Nat.le_refl _) _))).mono ?_
 rintro e w2 ⟨aD,nD,cD,rfl,haut,hb2⟩
 have hx2:Ext w1 w2:=Ext.trans ((Below.refl _ _).alloc (Nat.le_refl _) _) hb2
 have hnd:=haut.small.2
 have hnd0:((nD:Int) == 0)=false:=by rw [beq_eq_false_iff_ne];omega
 have HAU:=Lib.hid haut;have HX2:=Lib.hid (Ext.trans HX1.out hx2)
 have HSM2:=Lib.hid (HSM.out.go hx2)
 have HSC2:=Lib.hid ((hx2.block _ (Array.getElem?_eq_some_iff.1 HSC.out).1).trans HSC.out)
 clear hb2 hx2 haut HSM HSC HX1 HT1
 go_upto_region 6 with fail
 obtain ⟨w3,hw3⟩:∃ w3,w2.alloc (.cells #[.int .u8 97,.int .i64 0,.int .u8 98,.int .i64 5] 25)=w3:=⟨_,rfl⟩
 rw [hw3]
 have HX3:Hid (Ext w2 w3):=by show Ext _ _;rw [← hw3];exact (Below.refl _ _).alloc (Nat.le_refl _) _
 have HSL:Hid (OwnG rowCh w3 0 (.slice (some ⟨w2.heap.size,0,none⟩) 2 2) sanL):=by show OwnG _ _ _ _ _;rw [← hw3];exact ownG_lit rowCh_ok (heap_alloc_new _ _) rfl (Nat.zero_le _) rfl (by decide)
 have HSM3:=Lib.hid (HSM2.out.go HX3.out)
 have HAU3:=Lib.hid (HAU.out.go HX3.out)
 have HSC3:=Lib.hid ((HX3.out.block _ (Array.getElem?_eq_some_iff.1 HSC2.out).1).trans HSC2.out)
 obtain ⟨aL,haL⟩:∃ aL,(some ⟨w2.heap.size,0,none⟩:Option Addr)=aL:=⟨_,rfl⟩
 rw [haL] at HSL ⊢
 clear hw3 haL HSM2 HAU HSC2
 refine wp_region_st (by kernel_rfl) (Vs [vq (.agg #[.int .i64 1,.int .u8 1,.slice aR 2 2]),vq (.slice aD nD cD),TypS ⟨#[98,97]⟩,FnS sanR 1 (typL ⟨#[98,97]⟩) (sanD.map bts) 2,FnS sanR 1 (typL ⟨#[98,97]⟩) (sanD.map bts) 2]) (Xs []) (fun fL=>(fun W=>Ext w3 W) ) [0,0,0,7,15] 116 5 (by kernel_rfl) rfl ?hV ?hS ?hop ?hfin ?hlast
 case hV =>
  refine xs_stays (vs_stays (by simp only [List.mem_cons,List.not_mem_nil,or_false,forall_eq_or_imp,forall_eq];exact ⟨stays_const _,stays_const _,typS_stays _,fnS_stays _ _ _ _ _,fnS_stays _ _ _ _ _⟩)) ?_
  exact trivial
 case hS =>
  intro fL hf
  show (fun W=>Ext w3 W)  _
  first | exact Ext.refl _ | exact drew_ext _
 case hop =>
  refine ⟨?_,?_,?c2,?c3,?c4,trivial⟩
  all_goals first | rw [if_neg (by decide)] | rw [if_pos (by decide)]
  all_goals try intro ac W fL hsz hfi hms hdn hS0 hdep hbase hund
  all_goals try have hS:(fun W=>Ext w3 W)  W:=hS0
  all_goals try (
   have hsc:=(Below.block hS gs (Array.getElem?_eq_some_iff.1 HSC3.out).1).trans HSC3.out
   obtain ⟨d0,d1,d2⟩:=sch_cells hsc
   clear hsc)
  all_goals try have hh1:=gdA ac 1 (.pointer (some ⟨gs,0,none⟩)) (hbase 1 (by kernel_rfl))
  all_goals try have hh2:=gdA ac 2 (.slice aD nD cD) (hbase 2 (by kernel_rfl))
  all_goals try have d30:(TypS ⟨#[98,97]⟩) (ac.tmps.getD 30 undef) W:=hdep 2 (by decide)
  all_goals try have d31:(FnS sanR 1 (typL ⟨#[98,97]⟩) (sanD.map bts) 2) (ac.tmps.getD 31 undef) W:=hdep 3 (by decide)
  all_goals try (have hdep:=depL hdep;simp [DepL,slotOf,vq] at hdep)
  all_goals try clear hbase hms hdn hund
  case c2 =>
   have hS1:(fun W=>Ext w3 W)  W:=hS0
   refine opOk_run rfl (.inr ⟨10,#[.string ⟨#[98,97]⟩],W,by (clear hsz hS hS0 hS1 hfi;simp [go_sem,Act.eval, *]),?_⟩)
   refine (ltyped_any ⟨#[98,97]⟩ W (by decide)).mono ?_
   rintro e w' ⟨hp,hb⟩
   obtain ⟨v,rfl,hv⟩:=typS_of hp (by decide)
   exact ⟨_,rfl,⟨hv,hb,Ext.trans hS0 hb⟩⟩
  case c3 =>
   have hS1:(fun W=>Ext w3 W)  W:=hS0
   obtain ⟨at9,ct9,et9,ht9⟩:=d30
   rw [Array.getD_eq_getD_getElem?] at et9
   refine opOk_run rfl (.inr ⟨9,#[.agg #[.int .i64 1,.int .u8 1,.slice aR 2 2],.slice aD nD cD,.slice at9 (⟨#[98,97]⟩:ByteArray).size ct9],W,by (clear hsz hS hS0 hS1 hfi ht9;simp [go_sem,Act.eval, *]),?_⟩)
   have h9:=words_l (HSM3.out.go hS) (HAU3.out.go hS) (by decide) ht9
   rw [typL_len] at h9
   refine h9.mono ?_
   rintro e w' hp
   obtain ⟨v,rfl,hv,hb⟩:=fnS_of hp
   exact ⟨_,rfl,⟨hv,hb,Ext.trans hS0 hb⟩⟩
  case c4 =>
   have hS1:(fun W=>Ext w3 W)  W:=hS0
   refine opOk_run rfl (.inl ⟨_,W,?_,d31,Ext.refl _,hS1⟩)
   clear hsz hS hS0 hS1 hfi;simp [go_sem,Act.eval, *]
  all_goals (refine opOk_run rfl (.inl ⟨_,W,?_,rfl,Ext.refl _,hS0⟩);clear hsz hS hS0 hfi;simp [go_sem,Act.eval, *];done)
 case hlast =>
  intro h;exact absurd rfl h
 case hfin =>
  intro _ ac W hsz hdf fL hf hS0 hv hbase
  have hS:(fun W=>Ext w3 W)  W:=hS0
  clear hS0
  obtain ⟨sx,hsx,hsA⟩:=act_puts [28,29,30,31,5] (by kernel_rfl) hsz hdf hbase
  have hp5:FnS sanR 1 (typL ⟨#[98,97]⟩) (sanD.map bts) 2 (ac.tmps.getD 5 undef) W:=hv 4 (by decide)
  obtain ⟨a5,c5,l5,e5v,hf5,hk5,hc5⟩:=hp5
  obtain rfl:=hk5.eqC sanTake sanA
  have e5:sx 5=.slice a5 1 c5:=(hsx 5).trans e5v
  have HF5:=Lib.hid hf5
  clear e5v hf5 hk5 hc5
  rw [hsA]
  simp only [List.foldl]
  simp only [Act.put,List.setIfInBounds_toArray,List.set_cons_succ,List.set_cons_zero]
  clear hsA hsx hv hbase hsz hdf hf
  have HS6:Hid (Ext w3 W):=hS
  rw [e5]
  clear hS
  obtain ⟨w4,hw4⟩:∃ w4:World,w4=W:=⟨W,rfl⟩
  rw [← hw4] at HS6 HF5 ⊢
  clear hw4
  have HSM4:=Lib.hid (HSM3.out.go HS6.out)
  have HAU4:=Lib.hid (HAU3.out.go HS6.out)
  have HSC4:=Lib.hid ((Below.block HS6.out gs (Array.getElem?_eq_some_iff.1 HSC3.out).1).trans HSC3.out)
  have HSL4:=Lib.hid (HSL.out.later HS6.out (Nat.le_refl _))
  have HW4:Hid (Ext w w4):=Ext.trans (Ext.trans HX2.out HX3.out) HS6.out
  obtain ⟨d0,d1,d2⟩:=sch_cells HSC4.out
  clear HSM3 HAU3 HSC3 HS6 HX3
  go_wp2_with fail
  obtain ⟨w5,hw5⟩:∃ w5,w4.alloc (.cells #[.slice aL 2 2,.slice aL 2 2] 28)=w5:=⟨_,rfl⟩
  rw [hw5]
  have HX5:Hid (Ext w4 w5):=by show Ext _ _;rw [← hw5];exact (Below.refl _ _).alloc (Nat.le_refl _) _
  have HS5:Hid (SlkS w5 (some ⟨w4.heap.size,0,none⟩) 2 [sanL,sanL]):=by
   refine (SlkS.of (slk_row (Ls:=[⟨aL,2,2⟩,⟨aL,2,2⟩]) (L:=[sanL,sanL]) (g:=w4.heap.size) (n:=2) (by rw [← hw5];exact heap_alloc_new _ _) rfl rfl (by decide) rfl fun k x s h1 h2=>?_) (by decide) san_bnd2 san_dis2).1
   have hsl:=HSL4.out.later HX5.out (Nat.le_refl _)
   rcases k with _ | _ | k
   · cases h1;cases h2;exact hsl
   · cases h1;cases h2;exact hsl
   · simp at h1
  clear hw5 d0 d1 d2
  refine (words_l (S:=sanS) (HSM4.out.go HX5.out) (HAU4.out.go HX5.out) (by decide) HS5.out).mono ?_
  rintro e w6 hp
  obtain ⟨v6,rfl,⟨a6,c6,l6,rfl,hf6,hk6,hc6⟩,hb6⟩:=fnS_of hp
  obtain rfl:=hk6.eqC sanTake sanB
  have HX6:Hid (Ext w4 w6):=Ext.trans HX5.out hb6
  have HF6:=Lib.hid hf6
  have HF5b:=Lib.hid (HF5.out.kp (Kc.of HX6.out (Nat.le_refl _)))
  have HSM6:=Lib.hid (HSM4.out.go HX6.out)
  have HAU6:=Lib.hid (HAU4.out.go HX6.out)
  have HSC6:=Lib.hid ((Below.block HX6.out gs (Array.getElem?_eq_some_iff.1 HSC4.out).1).trans HSC4.out)
  have HSL6:=Lib.hid (HSL4.out.later HX6.out (Nat.le_refl _))
  have HW6:Hid (Ext w w6):=Ext.trans HW4.out HX6.out
  clear hf6 hk6 hc6 hb6 hp HSM4 HAU4 HSC4 HSL4 HX5 HS5 HX6 HF5
  go_upto_region 8 with fail
  refine wp_region_st (by kernel_rfl) (Vs [vq (.agg #[.int .i64 1,.int .u8 1,.slice aR 2 2]),vq (.slice aD nD cD),TypS ⟨#[97,97,98]⟩,EnS sanR 1 (typL ⟨#[97,97,98]⟩) (sanD.map bts),EnS sanR 1 (typL ⟨#[97,97,98]⟩) (sanD.map bts)]) (Xs []) (fun fL=>(fun W=>Ext w6 W) ) [0,0,0,7,15] 116 5 (by kernel_rfl) rfl ?hV ?hS ?hop ?hfin ?hlast
  case hV =>
   refine xs_stays (vs_stays (by simp only [List.mem_cons,List.not_mem_nil,or_false,forall_eq_or_imp,forall_eq];exact ⟨stays_const _,stays_const _,typS_stays _,enS_stays _ _ _ _,enS_stays _ _ _ _⟩)) ?_
   exact trivial
  case hS =>
   intro fL hf
   show (fun W=>Ext w6 W)  _
   first | exact Ext.refl _ | exact drew_ext _
  case hop =>
   refine ⟨?_,?_,?c2,?c3,?c4,trivial⟩
   all_goals first | rw [if_neg (by decide)] | rw [if_pos (by decide)]
   all_goals try intro ac W fL hsz hfi hms hdn hS0 hdep hbase hund
   all_goals try have hS:(fun W=>Ext w6 W)  W:=hS0
   all_goals try (
    have hsc:=(Below.block hS gs (Array.getElem?_eq_some_iff.1 HSC6.out).1).trans HSC6.out
    obtain ⟨d0,d1,d2⟩:=sch_cells hsc
    clear hsc)
   all_goals try have hh1:=gdA ac 1 (.pointer (some ⟨gs,0,none⟩)) (hbase 1 (by kernel_rfl))
   all_goals try have hh2:=gdA ac 2 (.slice aD nD cD) (hbase 2 (by kernel_rfl))
   all_goals try have d40:(TypS ⟨#[97,97,98]⟩) (ac.tmps.getD 40 undef) W:=hdep 2 (by decide)
   all_goals try have d41:(EnS sanR 1 (typL ⟨#[97,97,98]⟩) (sanD.map bts)) (ac.tmps.getD 41 undef) W:=hdep 3 (by decide)
   all_goals try (have hdep:=depL hdep;simp [DepL,slotOf,vq] at hdep)
   all_goals try clear hbase hms hdn hund
   case c2 =>
    have hS1:(fun W=>Ext w6 W)  W:=hS0
    refine opOk_run rfl (.inr ⟨10,#[.string ⟨#[97,97,98]⟩],W,by (clear hsz hS hS0 hS1 hfi;simp [go_sem,Act.eval, *]),?_⟩)
    refine (ltyped_any ⟨#[97,97,98]⟩ W (by decide)).mono ?_
    rintro e w' ⟨hp,hb⟩
    obtain ⟨v,rfl,hv⟩:=typS_of hp (by decide)
    exact ⟨_,rfl,⟨hv,hb,Ext.trans hS0 hb⟩⟩
   case c3 =>
    have hS1:(fun W=>Ext w6 W)  W:=hS0
    obtain ⟨at9,ct9,et9,ht9⟩:=d40
    rw [Array.getD_eq_getD_getElem?] at et9
    refine opOk_run rfl (.inr ⟨11,#[.agg #[.int .i64 1,.int .u8 1,.slice aR 2 2],.slice aD nD cD,.slice at9 (⟨#[97,97,98]⟩:ByteArray).size ct9],W,by (clear hsz hS hS0 hS1 hfi ht9;simp [go_sem,Act.eval, *]),?_⟩)
    have h9:=ends_l (HSM6.out.go hS) (HAU6.out.go hS) (by decide) ht9
    rw [typL_len] at h9
    refine h9.mono ?_
    rintro e w' hp
    obtain ⟨v,rfl,hv,hb⟩:=enS_of hp
    exact ⟨_,rfl,⟨hv,hb,Ext.trans hS0 hb⟩⟩
   case c4 =>
    have hS1:(fun W=>Ext w6 W)  W:=hS0
    refine opOk_run rfl (.inl ⟨_,W,?_,d41,Ext.refl _,hS1⟩)
    clear hsz hS hS0 hS1 hfi;simp [go_sem,Act.eval, *]
   all_goals (refine opOk_run rfl (.inl ⟨_,W,?_,rfl,Ext.refl _,hS0⟩);clear hsz hS hS0 hfi;simp [go_sem,Act.eval, *];done)
  case hlast =>
   intro h;exact absurd rfl h
  case hfin =>
   intro _ ac W hsz hdf fL hf hS0 hv hbase
   have hS:(fun W=>Ext w6 W)  W:=hS0
   clear hS0
   obtain ⟨sx,hsx,hsA⟩:=act_puts [38,39,40,41,7] (by kernel_rfl) hsz hdf hbase
   have hp7:EnS sanR 1 (typL ⟨#[97,97,98]⟩) (sanD.map bts) (ac.tmps.getD 7 undef) W:=hv 4 (by decide)
   obtain ⟨g7,Ls7,e7v,hen7⟩:=hp7
   have e7:sx 7=.slice (some ⟨g7,0,none⟩) 4 4:=(hsx 7).trans e7v
   have HEN:=Lib.hid hen7
   clear e7v hen7
   rw [hsA]
   simp only [List.foldl]
   simp only [Act.put,List.setIfInBounds_toArray,List.set_cons_succ,List.set_cons_zero]
   clear hsA hsx hv hbase hsz hdf hf
   have HS8:Hid (Ext w6 W):=hS
   rw [e7]
   clear hS
   obtain ⟨w7,hw7⟩:∃ w7:World,w7=W:=⟨W,rfl⟩
   rw [← hw7] at HS8 HEN ⊢
   clear hw7
   have HW7:Hid (Ext w w7):=Ext.trans HW6.out HS8.out
   have HFA:Hid (∀ W,Ext w7 W→FndS W a5 [(0,0)]):=fun W hx=>HF5b.out.kp (Kc.of (Ext.trans HS8.out hx) (Nat.le_refl _))
   have HFB:Hid (∀ W,Ext w7 W→FndS W a6 [(0,5),(2,0)]):=fun W hx=>HF6.out.kp (Kc.of (Ext.trans HS8.out hx) (Nat.le_refl _))
   have HSLL:Hid (∀ W,Ext w7 W→OwnG rowCh W 0 (.slice aL 2 2) sanL):=fun W hx=>HSL6.out.later (Ext.trans HS8.out hx) (Nat.le_refl _)
   obtain ⟨x0,y0,l0,hc0,hf0,hk0,hi0⟩:=HEN.out.at (k:=0) (by decide)
   obtain ⟨x1,y1,l1,hc1,hf1,hk1,hi1⟩:=HEN.out.at (k:=1) (by decide)
   obtain ⟨x2,y2,l2,hc2,hf2,hk2,hi2⟩:=HEN.out.at (k:=2) (by decide)
   obtain ⟨x3,y3,l3,hc3,hf3,hk3,hi3⟩:=HEN.out.at (k:=3) (by decide)
   obtain rfl:=hk0.eqC sanTake sanC0
   obtain rfl:=hk1.eqC sanTake sanC1
   obtain rfl:=hk2.eqC sanTake sanC2
   obtain rfl:=hk3.eqC sanTake sanC3
   have hg7:g7<w7.heap.size:=HEN.out.own.lt _ rfl
   have HC:Hid (∀ W,Ext w7 W→W.cell? ⟨g7,0,none⟩=some (.slice x0 0 y0)∧W.cell? ⟨g7,1,none⟩=some (.slice x1 1 y1)∧W.cell? ⟨g7,2,none⟩=some (.slice x2 1 y2)∧W.cell? ⟨g7,3,none⟩=some (.slice x3 0 y3)):=fun W hx =>
    ⟨(Below.cell hx (p:=⟨g7,0,none⟩) hg7).trans hc0,(Below.cell hx (p:=⟨g7,1,none⟩) hg7).trans hc1,(Below.cell hx (p:=⟨g7,2,none⟩) hg7).trans hc2,(Below.cell hx (p:=⟨g7,3,none⟩) hg7).trans hc3⟩
   have HF1:Hid (∀ W,Ext w7 W→FndS W x1 [(1,0)]):=fun W hx=>hf1.kp (Kc.of hx (Nat.le_refl _))
   have HF2:Hid (∀ W,Ext w7 W→FndS W x2 [(2,0)]):=fun W hx=>hf2.kp (Kc.of hx (Nat.le_refl _))
   have hi0':∀ W,(Instr.indexAt 46 (.slice (some ⟨g7,0,none⟩) 4 4) (.int .i64 0)).run Tryd.prog W=.ok (.pointer (some ⟨g7,0,none⟩)) W:=hi0
   have hi1':∀ W,(Instr.indexAt 46 (.slice (some ⟨g7,0,none⟩) 4 4) (.int .i64 1)).run Tryd.prog W=.ok (.pointer (some ⟨g7,1,none⟩)) W:=hi1
   have hi2':∀ W,(Instr.indexAt 46 (.slice (some ⟨g7,0,none⟩) 4 4) (.int .i64 2)).run Tryd.prog W=.ok (.pointer (some ⟨g7,2,none⟩)) W:=hi2
   have hi3':∀ W,(Instr.indexAt 46 (.slice (some ⟨g7,0,none⟩) 4 4) (.int .i64 3)).run Tryd.prog W=.ok (.pointer (some ⟨g7,3,none⟩)) W:=hi3
   clear hc0 hc1 hc2 hc3 hf0 hf1 hf2 hf3 hk0 hk1 hk2 hk3 hi0 hi1 hi2 hi3 HEN HSM6 HAU6 HSC6 HSL6 HF5b HF6 HS8 HW6 HX2 hg7
   obtain ⟨q0,q1,q2,q3⟩:=HC.out w7 (Ext.refl _)
   go_wp2_with fail
   clear q0 q1 q2 q3
   refine (same_lit w7 [(1,0)] [(1,0)] x1 y1 1 (HF1.out w7 (Ext.refl _)) rfl _ rfl (by decide) (by decide)).mono ?_
   rintro e w8 ⟨rfl,hb8⟩
   have HX8:Hid (Ext w7 w8):=hb8
   clear hb8
   obtain ⟨q0,q1,q2,q3⟩:=HC.out w8 HX8.out
   go_wp2_with fail
   clear q0 q1 q2 q3
   refine (same_lit w8 [(2,0)] [(2,0)] x2 y2 1 (HF2.out w8 HX8.out) rfl _ rfl (by decide) (by decide)).mono ?_
   rintro e w9 ⟨rfl,hb9⟩
   have HX9:Hid (Ext w7 w9):=Ext.trans HX8.out hb9
   clear hb9
   obtain ⟨q0,q1,q2,q3⟩:=HC.out w9 HX9.out
   go_wp2_with fail
   clear q0 q1 q2 q3 hi0' hi1' hi2' hi3'
   refine (same_lit w9 [(0,0)] [(0,0)] a5 c5 1 (HFA.out w9 HX9.out) rfl _ rfl (by decide) (by decide)).mono ?_
   rintro e w10 ⟨rfl,hb10⟩
   have HX10:Hid (Ext w7 w10):=Ext.trans HX9.out hb10
   clear hb10
   go_wp2_with fail
   refine (same_lit w10 [(0,5),(2,0)] [(0,5),(2,0)] a6 c6 2 (HFB.out w10 HX10.out) rfl _ rfl (by decide) (by decide)).mono ?_
   rintro e w11 ⟨rfl,hb11⟩
   have HX11:Hid (Ext w7 w11):=Ext.trans HX10.out hb11
   clear hb11
   go_wp2_with fail
   refine (lvalid_any [] none 0 w11 (fun k hk=>absurd hk (Nat.not_lt_zero _)) (by decide)).mono ?_
   rw [sanV1]
   rintro e w12 ⟨rfl,hb12⟩
   have HX12:Hid (Ext w7 w12):=Ext.trans HX11.out hb12
   clear hb12
   go_wp2_with fail
   refine (val_lit w12 w12.heap.size 1 [⟨aL,2,2⟩] [sanL] rfl rfl rfl _ rfl (by decide) (one_el (HSLL.out w12 HX12.out))).mono ?_
   rw [sanV2]
   rintro e w13 ⟨rfl,hb13⟩
   have HX13:Hid (Ext w7 w13):=Ext.trans HX12.out hb13
   clear hb13
   go_wp2_with fail
   refine (val_lit (w13.alloc (.cells #[] 25)) (w13.heap.size+1) 1 [⟨some ⟨w13.heap.size,0,none⟩,0,0⟩] [[]] (World.size_alloc ..) rfl rfl _ rfl (by decide) (one_el (OwnG.empty rowCh (heap_alloc_new _ _) (Nat.zero_le _)))).mono ?_
   rw [sanV3]
   rintro e w14 ⟨rfl,hb14⟩
   have HX14:Hid (Ext w7 w14):=Ext.trans (Ext.trans HX13.out ((Below.refl _ _).alloc (Nat.le_refl _) _)) hb14
   clear hb14
   go_wp2_with fail
   refine (val_lit (w14.alloc (.cells #[.int .u8 98,.int .i64 0,.int .u8 97,.int .i64 0] 25)) (w14.heap.size+1) 1 [⟨some ⟨w14.heap.size,0,none⟩,2,2⟩] [[⟨98,0⟩,⟨97,0⟩]] (World.size_alloc ..) rfl rfl _ rfl (by decide) (one_el (ownG_lit rowCh_ok (heap_alloc_new _ _) rfl (Nat.zero_le _) rfl (show (2:Nat)≤1000000 by decide)))).mono ?_
   rw [sanV4]
   rintro e w15 ⟨rfl,hb15⟩
   have HX15:Hid (Ext w7 w15):=Ext.trans (Ext.trans HX14.out ((Below.refl _ _).alloc (Nat.le_refl _) _)) hb15
   clear hb15
   obtain ⟨w16,hrun,hown16,hb16⟩:=make_slts w15 41 (by decide)
   have HO16:=Lib.hid hown16
   have HX16:Hid (Ext w7 w16):=Ext.trans HX15.out hb16
   have hrun2:(Instr.makeSlice 23 (.int .i64 41) (.int .i64 41)).run Tryd.prog w15=.ok (.slice (some ⟨w15.heap.size,0,none⟩) 41 41) w16:=hrun
   clear hown16 hb16 hrun
   go_wp2_with fail
   clear hrun2
   have hss:SltsG w16 0 (.slice (some ⟨w15.heap.size,0,none⟩) 41 41) (List.replicate 41 []):=⟨_,HO16.out,rfl,fun k x s h1 h2=>by
    have h3:=List.mem_of_getElem? h1
    have h4:=List.mem_of_getElem? h2
    rw [List.eq_of_mem_replicate h3,List.eq_of_mem_replicate h4]
    exact OwnG.nil _ _ _⟩
   have hv:=lvalid_any (List.replicate 41 []) (some ⟨w15.heap.size,0,none⟩) 41 w16 hss.slotS.1 (by rw [List.length_replicate];decide)
   rw [List.length_replicate,sanV5] at hv
   refine hv.mono ?_
   rintro e w17 ⟨rfl,hb17⟩
   have HX17:Hid (Ext w7 w17):=Ext.trans HX16.out hb17
   clear hb17
   go_wp2_with fail
   go_ret
   exact ⟨rfl,Ext.trans HW7.out HX17.out⟩
end Go.Proofs.YthjmdgejnakcmaaDoor
