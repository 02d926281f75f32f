/- Texts that the claims share: K17, K21, K22, K23, K24, K26, K25, K27, K28, K29, K30, K15, K18, K19, K20, K32, K33. -/
import Derived.Deep.QuietTactic
import Derived.BigQuiet
import Derived.Test.YthjmdgejnakcmaaGreatDoorMK5
import Derived.Test.YthjmdgejnakcmaaGreatDoorMK2
import Derived.Test.YthjmdgejnakcmaaGreatDoorMD6
import Derived.Test.YthjmdgejnakcmaaGreatDoorMD1
import Derived.Test.YthjmdgejnakcmaaGreatDoorMF5
import Derived.Test.YthjmdgejnakcmaaGreatDoorMK1
namespace Go.Proofs.YthjmdgejnakcmaaGreatDoor
open Go.RowKit Go.WideShapes Fl
set_option linter.unusedVariables false
set_option linter.unusedSimpArgs false
def kyA (s:Slt) (k:Nat):Nat:=((s[k]?).map fun c=>c.key.toNat).getD 0
def okC (s:Slt) (k:Nat):Bool:=match s[k]? with
 | none=>true
 | some c=>decide (97≤c.key.toNat) && (decide (c.key.toNat≤122) && (decide (0≤c.cost) && (decide (c.cost≤1000) && (decide (k=0) || decide (kyA s (k - 1)<c.key.toNat)))))
def okS (s:Slt):Bool:=decide (1≤s.length) && (decide (s.length≤8) && (List.range s.length).all (okC s))
def validB (L:List Slt):Bool:=decide (L.length≤40) && L.all okS
theorem okC_iff {s:Slt} {k:Nat} (hk:k<s.length):okC s k=true↔97≤s[k].key.toNat∧s[k].key.toNat≤122∧0≤s[k].cost∧s[k].cost≤1000∧(k=0∨kyA s (k - 1)<s[k].key.toNat):=by
 unfold okC
 rw [List.getElem?_eq_getElem hk]
 simp only [Bool.and_eq_true,Bool.or_eq_true,decide_eq_true_eq]
theorem kyA_at {s:Slt} {k:Nat} (hk:k<s.length):kyA s k=s[k].key.toNat:=by
 unfold kyA;rw [List.getElem?_eq_getElem hk];rfl
theorem rangeAll_succ {p:Nat→Bool} {n:Nat}:(List.range (n+1)).all p=((List.range n).all p && p n):=by
 rw [List.range_succ,List.all_append];simp
theorem rangeAll_false {p:Nat→Bool} {n k:Nat} (hk:k<n) (h:p k=false):(List.range n).all p=false:=by
 cases e:(List.range n).all p with
 | false=>rfl
 | true=>rw [List.all_eq_true] at e;rw [e k (List.mem_range.2 hk)] at h;cases h
theorem okS_bad {s:Slt} {k:Nat} (hk:k<s.length) (h:okC s k=false):okS s=false:=by
 unfold okS;rw [rangeAll_false hk h];simp
theorem chA_key {s:Slt} {k:Nat} (hk:k<(chA s).length):(chA s)[k].c=((s[k]'(by rw [chA_len] at hk;exact hk)).key.toNat:Int):=by simp [chA]
theorem chA_cost {s:Slt} {k:Nat} (hk:k<(chA s).length):(chA s)[k].t=(s[k]'(by rw [chA_len] at hk;exact hk)).cost:=by simp [chA]
theorem ArcS.ch {w:World} {a:Option Addr} {s:Slt} (h:ArcS w a (chA s)) {k:Nat} (hk:k<s.length) :
  ∃ b o,a=some ⟨b,o,none⟩∧b<w.heap.size∧w.cell? ⟨b,o+k*2,none⟩=some (.int .u8 (s[k].key.toNat:Int))∧w.cell? ⟨b,o+k*2+1,none⟩=some (.int .i64 s[k].cost):=by
 have hk2:k<(chA s).length:=by rw [chA_len];exact hk
 obtain ⟨b,o,h1,h2,h3,h4⟩:=h k hk2
 rw [chA_key hk2] at h3
 rw [chA_cost hk2] at h4
 exact ⟨b,o,h1,h2,h3,h4⟩
set_option maxHeartbeats 6400000 in
set_option maxRecDepth 100000 in
theorem
    vslot_any (s:Slt) (a:Option Addr) (c:Nat) (w:World) (hA:ArcS w a (chA s)) (hl:s.length≤9223372036854775807) :
  Calls Tryz.prog 51 #[.slice a s.length c] w fun e w'=>e=.returned (.bool (okS s))∧Below w.heap.size w w':=by
 have HA:=Lib.hid hA
 clear hA
 by_cases h1:s.length<1
 ·
  have HR:Hid (okS s=false):=by show _=_;unfold okS;simp;omega
  have h1I:(s.length:Int)<1:=by omega
  go_enter Tryz.func51,Tryz.ntmps51
  go_wp2_with fail
  go_ret
  exact ⟨ret_bool HR.out.symm,Below.refl _ _⟩
 have h1I:¬ (s.length:Int)<1:=by omega
 by_cases h2:8<s.length
 ·
  have HR:Hid (okS s=false):=by show _=_;unfold okS;simp;omega
  have h2I:(8:Int)<(s.length:Int):=by omega
  go_enter Tryz.func51,Tryz.ntmps51
  go_wp2_with fail
  go_ret
  exact ⟨ret_bool HR.out.symm,Below.refl _ _⟩
 have h2I:¬ (8:Int)<(s.length:Int):=by omega
 go_enter Tryz.func51,Tryz.ntmps51
 go_wp2_with fail
 go_loopg [15] s.length (fun g v15 wr=>∃ j:Nat,v15=.int .i64 (j:Int)∧j≤s.length∧g=s.length - j∧(List.range j).all (okC s)=true∧Below w.heap.size w wr)
 case atStart=>exact ⟨0,rfl,Nat.zero_le _,rfl,rfl,Below.refl _ _⟩
 case round =>
  obtain ⟨j,rfl,hj,hgk,hall,hb⟩:=hrel
  have HALL:=Lib.hid hall;have HB:=Lib.hid hb;have HGK:=Lib.hid hgk
  clear hall hb hgk
  by_cases hlt:j<s.length
  ·
   obtain ⟨
       b1,o1,ha1,hb1,q0,q1⟩:=(HA.out.later HB.out (Nat.le_refl _)).ch hlt
   have hi1:=idx_chs a b1 o1 s.length c j ha1 hlt
   have HOK:=Lib.hid (okC_iff hlt)
   obtain ⟨kI,hkI⟩:∃ kI:Int,(s[j].key.toNat:Int)=kI:=⟨_,rfl⟩
   obtain ⟨cI,hcI⟩:∃ cI:Int,s[j].cost=cI:=⟨_,rfl⟩
   rw [hkI] at q0
   rw [hcI] at q1
   have HKI:=Lib.hid hkI;have HCI:=Lib.hid hcI
   clear hkI hcI ha1
   by_cases g1:kI<97
   ·
    have HR:Hid (okS s=false):=okS_bad hlt (by
     cases e:okC s j with
     | false=>rfl
     | true=>have:=HOK.out.1 e;have:=HKI.out;omega)
    go_wp2_with fail
    go_ret
    exact ⟨ret_bool HR.out.symm,HB.out.trans (((Below.refl _ _).alloc (Nat.le_refl _) _).mono HB.out.size)⟩
   by_cases g2:122<kI
   ·
    have HR:Hid (okS s=false):=okS_bad hlt (by
     cases e:okC s j with
     | false=>rfl
     | true=>have:=HOK.out.1 e;have:=HKI.out;omega)
    go_wp2_with fail
    go_ret
    exact ⟨ret_bool HR.out.symm,HB.out.trans (((Below.refl _ _).alloc (Nat.le_refl _) _).mono HB.out.size)⟩
   by_cases g3:cI<0
   ·
    have HR:Hid (okS s=false):=okS_bad hlt (by
     cases e:okC s j with
     | false=>rfl
     | true=>have:=HOK.out.1 e;have:=HCI.out;omega)
    go_wp2_with fail
    go_ret
    exact ⟨ret_bool HR.out.symm,HB.out.trans (((Below.refl _ _).alloc (Nat.le_refl _) _).mono HB.out.size)⟩
   by_cases g4:1000<cI
   ·
    have HR:Hid (okS s=false):=okS_bad hlt (by
     cases e:okC s j with
     | false=>rfl
     | true=>have:=HOK.out.1 e;have:=HCI.out;omega)
    go_wp2_with fail
    go_ret
    exact ⟨ret_bool HR.out.symm,HB.out.trans (((Below.refl _ _).alloc (Nat.le_refl _) _).mono HB.out.size)⟩
   have hK0:0≤kI:=by omega
   by_cases hj0:j=0
   ·
    have HO:Hid (okC s j=true):=HOK.out.2 (by have:=HKI.out;have:=HCI.out;omega)
    have HJ:Hid (¬ (0:Int)<(j:Int)):=by show ¬ _;omega
    clear hj0
    go_wp2_with fail
    obtain ⟨w5,hw5⟩:∃ w5,wr.alloc (.cells #[.int .u8 kI,.int .i64 cI] 55)=w5:=⟨_,rfl⟩
    have HX5:Hid (Ext wr w5):=by show Ext _ _;rw [← hw5];exact (Below.refl _ _).alloc (Nat.le_refl _) _
    rw [hw5]
    clear hw5
    refine wp_region_rv (by kernel_rfl) (Vs [fun v _=>v=.int .i64 (j:Int),fun v _=>v=.bool false,fun v _=>v=.bool false,fun v _=>v=undef,fun v _=>v=undef,fun v _=>v=undef,fun v _=>v=undef,fun v _=>v=undef,fun v _=>v=undef,fun v _=>v=undef,fun v _=>v=undef,fun v _=>v=undef,fun v _=>v=.bool false]) (fun W=>Ext w5 W) 52 (by kernel_rfl) rfl ?hVx ?hSx ?hS (opsOk_all ?hop) ?hfin
    case hop =>
     refine ⟨?_,?_,?_,?_,?_,?_,?_,?_,?_,?_,?_,?_,?_,trivial⟩
     all_goals
      intro A W hsz hS hdep hbase
      skip
      have h0:A.tmps.getD 0 undef=.slice a s.length c:=hbase 0 (by kernel_rfl)
      have h3:A.tmps.getD 3 undef=.int .i64 (j:Int):=hbase 3 (by kernel_rfl)
      have h4:A.tmps.getD 4 undef=.pointer (some ⟨wr.heap.size,0,none⟩):=hbase 4 (by kernel_rfl)
      clear hbase
      simp [slotOf,Region.binds,Vs] at hdep
     · refine opOk_run rfl (.inl ⟨_,W,?_,rfl,Ext.refl _⟩);clear hsz hS;simp [go_sem,Act.eval, *]
     ·
      refine opOk_run rfl (.inl ⟨_,W,?_,rfl,Ext.refl _⟩)
      clear hsz hS;have hj9:=HJ.out;simp [go_sem,Act.eval, *]
      omega
     · refine opOk_run rfl (.inl ⟨_,W,?_,rfl,Ext.refl _⟩);clear hsz hS;simp [go_sem,Act.eval, *]
     · exact opOk_skip (j:=2) (d:=40) (b:=false) rfl (by kernel_rfl) (by simp only [hdep]) rfl rfl
     · exact opOk_skip (j:=2) (d:=40) (b:=false) rfl (by kernel_rfl) (by simp only [hdep]) rfl rfl
     · exact opOk_skip (j:=2) (d:=40) (b:=false) rfl (by kernel_rfl) (by simp only [hdep]) rfl rfl
     · exact opOk_skip (j:=2) (d:=40) (b:=false) rfl (by kernel_rfl) (by simp only [hdep]) rfl rfl
     · exact opOk_skip (j:=2) (d:=40) (b:=false) rfl (by kernel_rfl) (by simp only [hdep]) rfl rfl
     · exact opOk_skip (j:=2) (d:=40) (b:=false) rfl (by kernel_rfl) (by simp only [hdep]) rfl rfl
     · exact opOk_skip (j:=2) (d:=40) (b:=false) rfl (by kernel_rfl) (by simp only [hdep]) rfl rfl
     · exact opOk_skip (j:=2) (d:=40) (b:=false) rfl (by kernel_rfl) (by simp only [hdep]) rfl rfl
     · exact opOk_skip (j:=2) (d:=40) (b:=false) rfl (by kernel_rfl) (by simp only [hdep]) rfl rfl
     · refine opOk_run rfl (.inl ⟨_,W,?_,rfl,Ext.refl _⟩);clear hsz hS;simp [go_sem,Act.eval, *]
    case hVx=>exact vs_stays (by simp only [List.mem_cons,List.not_mem_nil,or_false,forall_eq_or_imp,forall_eq];exact ⟨stays_const _,stays_const _,stays_const _,stays_const _,stays_const _,stays_const _,stays_const _,stays_const _,stays_const _,stays_const _,stays_const _,stays_const _,stays_const _⟩)
    case hSx=>exact fun W W' h hx=>Ext.trans h hx
    case hS=>exact Ext.refl _
    case hfin =>
     intro A W hsz hdf hS hv hbase
     obtain ⟨x,hx,hA⟩:=act_puts [38,39,40,41,42,43,44,45,46,47,48,49,50] (by kernel_rfl) hsz hdf hbase
     have e50:x 50=.bool false:=(hx 50).trans (hv 12 (by decide))
     rw [hA]
     simp only [List.foldl]
     rw [e50]
     clear e50
     simp only [Act.put,List.setIfInBounds_toArray,List.set_cons_succ,List.set_cons_zero]
     clear hA hx hv hbase hsz hdf
     have HS0:Hid (Ext w5 W):=hS
     clear hS
     go_wp2_with fail
     go_roundg (s.length - (j+1))
     case measure=>have:=HGK.out;omega
     case rel=>exact ⟨j+1,by go_num,by omega,rfl,by rw [rangeAll_succ,HALL.out,HO.out];rfl,HB.out.trans (Below.mono (Ext.trans HX5.out HS0.out) HB.out.size)⟩
   ·
    obtain ⟨p,hpj⟩:∃ p,j=p+1:=⟨j - 1,by omega⟩
    have hp:p<s.length:=by omega
    have hpe:(j:Int) - 1=(p:Int):=by omega
    have hwp:IntKind.i64.wrap ((j:Int) - 1)=(p:Int):=by rw [hpe];exact IntWalk.i64_in _ (by omega)
    obtain ⟨b2,o2,ha2,hb2,l0, -⟩:=(HA.out.later HB.out (Nat.le_refl _)).ch hp
    have hi2:=idx_chs a b2 o2 s.length c p ha2 hp
    obtain ⟨pI,hpI⟩:∃ pI:Int,(s[p].key.toNat:Int)=pI:=⟨_,rfl⟩
    rw [hpI] at l0
    have hky:kyA s (j - 1)=s[p].key.toNat:=by rw [hpj];exact kyA_at hp
    have HKY:=Lib.hid hky;have HPI:=Lib.hid hpI;have HPE:=Lib.hid hpe;have HWP:=Lib.hid hwp
    have HJ:Hid ((0:Int)<(j:Int)):=by show _<_;omega
    have hj0':¬ j=0:=hj0
    have HJ0:=Lib.hid hj0'
    clear ha2 hpe hwp hky hpI hpj hj0 hj0'
    by_cases g5:kI≤pI
    ·
     have HR:Hid (okS s=false):=okS_bad hlt (by
      cases e:okC s j with
      | false=>rfl
      | true=>have:=HOK.out.1 e;have:=HKI.out;have:=HKY.out;have:=HPI.out;have:=HJ0.out;omega)
     go_wp2_with fail
     obtain ⟨w5,hw5⟩:∃ w5,wr.alloc (.cells #[.int .u8 kI,.int .i64 cI] 55)=w5:=⟨_,rfl⟩
     have HX5:Hid (Ext wr w5):=by show Ext _ _;rw [← hw5];exact (Below.refl _ _).alloc (Nat.le_refl _) _
     have HC5:Hid (w5.heap[wr.heap.size]? = some (.cells #[.int .u8 kI,.int .i64 cI] 55 (0,0))):=by show _=_;rw [← hw5];exact heap_alloc_new _ _
     have HL5:Hid (w5.cell? ⟨b2,o2+p*2,none⟩=some (.int .u8 pI)):=Eq.trans (Below.cell HX5.out (p:=⟨b2,o2+p*2,none⟩) hb2) l0
     have hb25:b2<w5.heap.size:=Nat.lt_of_lt_of_le hb2 (Below.size HX5.out)
     rw [hw5]
     clear hw5 l0
     refine wp_region_rv (by kernel_rfl) (Vs [fun v _=>v=.int .i64 (j:Int),fun v _=>v=.bool true,fun v _=>v=.bool true,fun v _=>v=.slice a s.length c,fun v _=>v=.int .i64 (j:Int),fun v _=>v=.int .i64 (p:Int),fun v _=>v=.pointer (some ⟨b2,o2+p*2,none⟩),fun v _=>v=.pointer (some ⟨b2,o2+p*2,none⟩),fun v _=>v=.int .u8 pI,fun v _=>v=.pointer (some ⟨wr.heap.size,0,none⟩),fun v _=>v=.int .u8 kI,fun v _=>v=.bool true,fun v _=>v=.bool true]) (fun W=>Ext w5 W) 52 (by kernel_rfl) rfl ?hVx ?hSx ?hS (opsOk_all ?hop) ?hfin
     case hop =>
      refine ⟨?_,?_,?_,?_,?_,?_,?_,?_,?_,?_,?_,?_,?_,trivial⟩
      all_goals
       intro A W hsz hS hdep hbase
       have l0:=Eq.trans (Below.cell hS (p:=⟨b2,o2+p*2,none⟩) hb25) HL5.out
       have d0:=Eq.trans (Below.cell hS (p:=⟨wr.heap.size,0,none⟩) (Array.getElem?_eq_some_iff.1 HC5.out).1) (cell_of_row w5 wr.heap.size 0 _ _ (0,0) HC5.out)
       rw [show (#[.int .u8 kI,.int .i64 cI]:Array Value)[0]? = some (.int .u8 kI) from rfl] at d0
       have hpe:=HPE.out
       have hwp:=HWP.out
       rw [hpe] at hwp
       have h0:A.tmps.getD 0 undef=.slice a s.length c:=hbase 0 (by kernel_rfl)
       have h3:A.tmps.getD 3 undef=.int .i64 (j:Int):=hbase 3 (by kernel_rfl)
       have h4:A.tmps.getD 4 undef=.pointer (some ⟨wr.heap.size,0,none⟩):=hbase 4 (by kernel_rfl)
       clear hbase
       simp [slotOf,Region.binds,Vs] at hdep
      · refine opOk_run rfl (.inl ⟨_,W,?_,rfl,Ext.refl _⟩);clear hsz hS;simp [go_sem,Act.eval, *]
      ·
       refine opOk_run rfl (.inl ⟨_,W,?_,rfl,Ext.refl _⟩)
       clear hsz hS;have hj9:=HJ.out;simp [go_sem,Act.eval, *]
       omega
      · refine opOk_run rfl (.inl ⟨_,W,?_,rfl,Ext.refl _⟩);clear hsz hS;simp [go_sem,Act.eval, *]
      · refine opOk_runG (j:=2) (d:=40) (b:=true) rfl (by kernel_rfl) (by simp only [hdep]) rfl (.inl ⟨_,W,?_,rfl,Ext.refl _⟩);clear hsz hS;simp [go_sem,Act.eval, *]
      · refine opOk_runG (j:=2) (d:=40) (b:=true) rfl (by kernel_rfl) (by simp only [hdep]) rfl (.inl ⟨_,W,?_,rfl,Ext.refl _⟩);clear hsz hS;simp [go_sem,Act.eval, *]
      · refine opOk_runG (j:=2) (d:=40) (b:=true) rfl (by kernel_rfl) (by simp only [hdep]) rfl (.inl ⟨_,W,?_,rfl,Ext.refl _⟩);clear hsz hS;simp [go_sem,Act.eval, *]
      · refine opOk_runG (j:=2) (d:=40) (b:=true) rfl (by kernel_rfl) (by simp only [hdep]) rfl (.inl ⟨_,W,?_,rfl,Ext.refl _⟩);clear hsz hS;simp [go_sem,Act.eval, *]
      · refine opOk_runG (j:=2) (d:=40) (b:=true) rfl (by kernel_rfl) (by simp only [hdep]) rfl (.inl ⟨_,W,?_,rfl,Ext.refl _⟩);clear hsz hS;simp [go_sem,Act.eval, *]
      · refine opOk_runG (j:=2) (d:=40) (b:=true) rfl (by kernel_rfl) (by simp only [hdep]) rfl (.inl ⟨_,W,?_,rfl,Ext.refl _⟩);clear hsz hS;simp [go_sem,Act.eval, *]
      · refine opOk_runG (j:=2) (d:=40) (b:=true) rfl (by kernel_rfl) (by simp only [hdep]) rfl (.inl ⟨_,W,?_,rfl,Ext.refl _⟩);clear hsz hS;simp [go_sem,Act.eval, *]
      · refine opOk_runG (j:=2) (d:=40) (b:=true) rfl (by kernel_rfl) (by simp only [hdep]) rfl (.inl ⟨_,W,?_,rfl,Ext.refl _⟩);clear hsz hS;simp [go_sem,Act.eval, *]
      · refine opOk_runG (j:=2) (d:=40) (b:=true) rfl (by kernel_rfl) (by simp only [hdep]) rfl (.inl ⟨_,W,?_,rfl,Ext.refl _⟩);clear hsz hS;simp [go_sem,Act.eval, *]
      · refine opOk_run rfl (.inl ⟨_,W,?_,rfl,Ext.refl _⟩);clear hsz hS;simp [go_sem,Act.eval, *]
     case hVx=>exact vs_stays (by simp only [List.mem_cons,List.not_mem_nil,or_false,forall_eq_or_imp,forall_eq];exact ⟨stays_const _,stays_const _,stays_const _,stays_const _,stays_const _,stays_const _,stays_const _,stays_const _,stays_const _,stays_const _,stays_const _,stays_const _,stays_const _⟩)
     case hSx=>exact fun W W' h hx=>Ext.trans h hx
     case hS=>exact Ext.refl _
     case hfin =>
      intro A W hsz hdf hS hv hbase
      obtain ⟨x,hx,hA⟩:=act_puts [38,39,40,41,42,43,44,45,46,47,48,49,50] (by kernel_rfl) hsz hdf hbase
      have e50:x 50=.bool true:=(hx 50).trans (hv 12 (by decide))
      rw [hA]
      simp only [List.foldl]
      rw [e50]
      clear e50
      simp only [Act.put,List.setIfInBounds_toArray,List.set_cons_succ,List.set_cons_zero]
      clear hA hx hv hbase hsz hdf
      have HS0:Hid (Ext w5 W):=hS
      clear hS
      go_wp2_with fail
      go_ret
      exact ⟨ret_bool HR.out.symm,HB.out.trans (Below.mono (Ext.trans HX5.out HS0.out) HB.out.size)⟩
    ·
     have HO:Hid (okC s j=true):=HOK.out.2 (by have:=HKI.out;have:=HCI.out;have:=HKY.out;have:=HPI.out;have:=HJ0.out;omega)
     go_wp2_with fail
     obtain ⟨w5,hw5⟩:∃ w5,wr.alloc (.cells #[.int .u8 kI,.int .i64 cI] 55)=w5:=⟨_,rfl⟩
     have HX5:Hid (Ext wr w5):=by show Ext _ _;rw [← hw5];exact (Below.refl _ _).alloc (Nat.le_refl _) _
     have HC5:Hid (w5.heap[wr.heap.size]? = some (.cells #[.int .u8 kI,.int .i64 cI] 55 (0,0))):=by show _=_;rw [← hw5];exact heap_alloc_new _ _
     have HL5:Hid (w5.cell? ⟨b2,o2+p*2,none⟩=some (.int .u8 pI)):=Eq.trans (Below.cell HX5.out (p:=⟨b2,o2+p*2,none⟩) hb2) l0
     have hb25:b2<w5.heap.size:=Nat.lt_of_lt_of_le hb2 (Below.size HX5.out)
     rw [hw5]
     clear hw5 l0
     refine wp_region_rv (by kernel_rfl) (Vs [fun v _=>v=.int .i64 (j:Int),fun v _=>v=.bool true,fun v _=>v=.bool true,fun v _=>v=.slice a s.length c,fun v _=>v=.int .i64 (j:Int),fun v _=>v=.int .i64 (p:Int),fun v _=>v=.pointer (some ⟨b2,o2+p*2,none⟩),fun v _=>v=.pointer (some ⟨b2,o2+p*2,none⟩),fun v _=>v=.int .u8 pI,fun v _=>v=.pointer (some ⟨wr.heap.size,0,none⟩),fun v _=>v=.int .u8 kI,fun v _=>v=.bool false,fun v _=>v=.bool false]) (fun W=>Ext w5 W) 52 (by kernel_rfl) rfl ?hVx ?hSx ?hS (opsOk_all ?hop) ?hfin
     case hop =>
      refine ⟨?_,?_,?_,?_,?_,?_,?_,?_,?_,?_,?_,?_,?_,trivial⟩
      all_goals
       intro A W hsz hS hdep hbase
       have l0:=Eq.trans (Below.cell hS (p:=⟨b2,o2+p*2,none⟩) hb25) HL5.out
       have d0:=Eq.trans (Below.cell hS (p:=⟨wr.heap.size,0,none⟩) (Array.getElem?_eq_some_iff.1 HC5.out).1) (cell_of_row w5 wr.heap.size 0 _ _ (0,0) HC5.out)
       rw [show (#[.int .u8 kI,.int .i64 cI]:Array Value)[0]? = some (.int .u8 kI) from rfl] at d0
       have hpe:=HPE.out
       have hwp:=HWP.out
       rw [hpe] at hwp
       have h0:A.tmps.getD 0 undef=.slice a s.length c:=hbase 0 (by kernel_rfl)
       have h3:A.tmps.getD 3 undef=.int .i64 (j:Int):=hbase 3 (by kernel_rfl)
       have h4:A.tmps.getD 4 undef=.pointer (some ⟨wr.heap.size,0,none⟩):=hbase 4 (by kernel_rfl)
       clear hbase
       simp [slotOf,Region.binds,Vs] at hdep
      · refine opOk_run rfl (.inl ⟨_,W,?_,rfl,Ext.refl _⟩);clear hsz hS;simp [go_sem,Act.eval, *]
      ·
       refine opOk_run rfl (.inl ⟨_,W,?_,rfl,Ext.refl _⟩)
       clear hsz hS;have hj9:=HJ.out;simp [go_sem,Act.eval, *]
       omega
      · refine opOk_run rfl (.inl ⟨_,W,?_,rfl,Ext.refl _⟩);clear hsz hS;simp [go_sem,Act.eval, *]
      · refine opOk_runG (j:=2) (d:=40) (b:=true) rfl (by kernel_rfl) (by simp only [hdep]) rfl (.inl ⟨_,W,?_,rfl,Ext.refl _⟩);clear hsz hS;simp [go_sem,Act.eval, *]
      · refine opOk_runG (j:=2) (d:=40) (b:=true) rfl (by kernel_rfl) (by simp only [hdep]) rfl (.inl ⟨_,W,?_,rfl,Ext.refl _⟩);clear hsz hS;simp [go_sem,Act.eval, *]
      · refine opOk_runG (j:=2) (d:=40) (b:=true) rfl (by kernel_rfl) (by simp only [hdep]) rfl (.inl ⟨_,W,?_,rfl,Ext.refl _⟩);clear hsz hS;simp [go_sem,Act.eval, *]
      · refine opOk_runG (j:=2) (d:=40) (b:=true) rfl (by kernel_rfl) (by simp only [hdep]) rfl (.inl ⟨_,W,?_,rfl,Ext.refl _⟩);clear hsz hS;simp [go_sem,Act.eval, *]
      · refine opOk_runG (j:=2) (d:=40) (b:=true) rfl (by kernel_rfl) (by simp only [hdep]) rfl (.inl ⟨_,W,?_,rfl,Ext.refl _⟩);clear hsz hS;simp [go_sem,Act.eval, *]
      · refine opOk_runG (j:=2) (d:=40) (b:=true) rfl (by kernel_rfl) (by simp only [hdep]) rfl (.inl ⟨_,W,?_,rfl,Ext.refl _⟩);clear hsz hS;simp [go_sem,Act.eval, *]
      · refine opOk_runG (j:=2) (d:=40) (b:=true) rfl (by kernel_rfl) (by simp only [hdep]) rfl (.inl ⟨_,W,?_,rfl,Ext.refl _⟩);clear hsz hS;simp [go_sem,Act.eval, *]
      · refine opOk_runG (j:=2) (d:=40) (b:=true) rfl (by kernel_rfl) (by simp only [hdep]) rfl (.inl ⟨_,W,?_,rfl,Ext.refl _⟩);clear hsz hS;simp [go_sem,Act.eval, *]
      · refine opOk_runG (j:=2) (d:=40) (b:=true) rfl (by kernel_rfl) (by simp only [hdep]) rfl (.inl ⟨_,W,?_,rfl,Ext.refl _⟩);clear hsz hS;simp [go_sem,Act.eval, *]
      · refine opOk_run rfl (.inl ⟨_,W,?_,rfl,Ext.refl _⟩);clear hsz hS;simp [go_sem,Act.eval, *]
     case hVx=>exact vs_stays (by simp only [List.mem_cons,List.not_mem_nil,or_false,forall_eq_or_imp,forall_eq];exact ⟨stays_const _,stays_const _,stays_const _,stays_const _,stays_const _,stays_const _,stays_const _,stays_const _,stays_const _,stays_const _,stays_const _,stays_const _,stays_const _⟩)
     case hSx=>exact fun W W' h hx=>Ext.trans h hx
     case hS=>exact Ext.refl _
     case hfin =>
      intro A W hsz hdf hS hv hbase
      obtain ⟨x,hx,hA⟩:=act_puts [38,39,40,41,42,43,44,45,46,47,48,49,50] (by kernel_rfl) hsz hdf hbase
      have e50:x 50=.bool false:=(hx 50).trans (hv 12 (by decide))
      rw [hA]
      simp only [List.foldl]
      rw [e50]
      clear e50
      simp only [Act.put,List.setIfInBounds_toArray,List.set_cons_succ,List.set_cons_zero]
      clear hA hx hv hbase hsz hdf
      have HS0:Hid (Ext w5 W):=hS
      clear hS
      go_wp2_with fail
      go_roundg (s.length - (j+1))
      case measure=>have:=HGK.out;omega
      case rel=>exact ⟨j+1,by go_num,by omega,rfl,by rw [rangeAll_succ,HALL.out,HO.out];rfl,HB.out.trans (Below.mono (Ext.trans HX5.out HS0.out) HB.out.size)⟩
  ·
   have HR:Hid (okS s=true):=by
    show _=_
    have e:j=s.length:=by omega
    have h:=HALL.out
    rw [e] at h
    unfold okS;rw [h];simp;omega
   go_wp2_with fail
   go_ret
   exact ⟨ret_bool HR.out.symm,HB.out⟩
end Go.Proofs.YthjmdgejnakcmaaGreatDoor
namespace Go.Proofs.YthjmdgejnakcmaaGreatDoor
open Go.RowKit Go.WideShapes Fl
set_option linter.unusedVariables false
set_option linter.unusedSimpArgs false
def DisL (L:List Slt):Prop:=∀ s∈L,s.Pairwise fun a b=>a.key≠b.key
end Go.Proofs.YthjmdgejnakcmaaGreatDoor
namespace Go.Proofs.YthjmdgejnakcmaaGreatDoor
open Go.RowKit Go.WideShapes Fl
set_option linter.unusedVariables false
set_option linter.unusedSimpArgs false
theorem sch_cells {w:World} {g:Nat} {m a:Int} {b:Option Addr} {n c:Nat} (h:w.heap[g]? = some (.cells #[.int .i64 m,.int .u8 a,.slice b n c] 32 (0,0))) :
  w.cell? ⟨g,0,none⟩=some (.int .i64 m)∧w.cell? ⟨g,1,none⟩=some (.int .u8 a)∧w.cell? ⟨g,2,none⟩=some (.slice b n c):=by
 refine ⟨?_,?_,?_⟩ <;> (rw [cell_of_row w g _ _ _ (0,0) h];rfl)
end Go.Proofs.YthjmdgejnakcmaaGreatDoor
namespace Go.Proofs.YthjmdgejnakcmaaGreatDoor
open Go.RowKit Go.WideShapes Fl
set_option linter.unusedVariables false
set_option linter.unusedSimpArgs false
def slC (z:Int) (k:Nat):Ch:=⟨UInt8.ofNat (97+k),(z / 7*(k:Int)) % 12⟩
def slHas (z:Int) (k:Nat):Bool:=(1+z % 7) / 2 ^ k % 2 == 1
def slTo (z:Int) (k:Nat):Slt:=((List.range k).filter (slHas z)).map (slC z)
def slotF (z:Int):Slt:=slTo z 3
def slotsF (Z:Nat→Int) (n:Nat):List Slt:=(List.range n).map fun i=>slotF (Z i)
theorem slTo_succ (z:Int) (k:Nat):slTo z (k+1)=slTo z k ++ (if slHas z k=true then [slC z k] else []):=by
 unfold slTo
 rw [List.range_succ,List.filter_append,List.map_append]
 by_cases h:slHas z k=true
 · simp [h]
 · simp [h]
theorem slTo_len (z:Int) (k:Nat):(slTo z k).length≤k:=by
 unfold slTo
 rw [List.length_map]
 exact Nat.le_trans (List.length_filter_le _ _) (by simp)
theorem slotsF_succ (Z:Nat→Int) (n:Nat):slotsF Z (n+1)=slotsF Z n ++ [slotF (Z n)]:=by simp [slotsF,List.range_succ]
theorem slotsF_len (Z:Nat→Int) (n:Nat):(slotsF Z n).length=n:=by simp [slotsF]
theorem i64_one (x:Nat) (h:x<8):bits .and .i64 (x:Int) 1=((x % 2:Nat):Int):=by
 rcases (show x=0∨x=1∨x=2∨x=3∨x=4∨x=5∨x=6∨x=7 by omega) with rfl | rfl | rfl | rfl | rfl | rfl | rfl | rfl <;> decide
theorem sl_one (z:Int) (k:Nat) (z0:0≤z):(bits .and .i64 ((1+z % 7) / 2 ^ k) 1 == 1)=slHas z k:=by
 obtain ⟨n,hn⟩:=Int.eq_ofNat_of_zero_le (show 0≤1+z % 7 by omega)
 have h8:n<8:=by omega
 unfold slHas
 rw [hn]
 have hd:((n:Int) / 2 ^ k)=((n / 2 ^ k:Nat):Int):=by simp
 rw [hd,i64_one _ (Nat.lt_of_le_of_lt (Nat.div_le_self _ _) h8),Bool.eq_iff_iff]
 simp only [beq_iff_eq]
 omega
set_option maxHeartbeats 6400000 in
set_option maxRecDepth 100000 in
theorem
    slots_any
         (Z:Nat→Int) (a:Option Addr) (len cap n:Nat) (w:World) (hZ:IsBytes w a len Z) (hl:len≤9223372036854775807) (hn:n≤1000) :
  Calls Tryz.prog 13 #[.slice a len cap,.int .i64 (n:Int)] w fun e w'=>∃ v,e=.returned v∧SltsG w' w.heap.size v (slotsF Z (min len n))∧v≠.slice none 0 0∧Below w.heap.size w w':=by
 have HZ:=Lib.hid hZ;clear hZ
 go_enter Tryz.func13,Tryz.ntmps13
 go_wp2_with fail
 have HS0:Hid (SltsR (w.alloc (.cells #[] 53)) w.heap.size (.slice (some ⟨w.heap.size,0,none⟩) 0 0) [] []):=⟨OwnG.empty rowSlts (heap_alloc_new _ _) (Nat.le_refl _),rfl,fun k x s h=>by simp at h⟩
 have HB0:Hid (Below w.heap.size w (w.alloc (.cells #[] 53))):=(Below.refl _ _).alloc (Nat.le_refl _) _
 go_loopg [5,6] n (fun g v5 v6 wr=>∃ i:Nat,v6=.int .i64 (i:Int)∧i≤n∧i≤len∧g=n - i∧SltsG wr w.heap.size v5 (slotsF Z i)∧v5≠.slice none 0 0∧Below w.heap.size w wr)
 case atStart=>exact ⟨0,rfl,Nat.zero_le _,Nat.zero_le _,rfl,⟨_,HS0.out⟩,by simp,HB0.out⟩
 case round =>
  clear HS0 HB0
  obtain ⟨i,rfl,hi,hil,hgk,⟨Ls,hq⟩,hnn,hb⟩:=hrel
  obtain ⟨a5,c5,hv5, -, -⟩:=hq.own.form
  subst hv5
  have HQ:=Lib.hid hq;have HGK:=Lib.hid hgk;have HB:=Lib.hid hb;have HNN:=Lib.hid hnn
  have hll:Ls.length=i:=by rw [hq.len,slotsF_len]
  have HLL:=Lib.hid hll
  clear hq hgk hb hll hnn
  by_cases hlt:i<len
  ·
   by_cases hin:i<n
   ·
    have hinI
         : (i:Int)<(n:Int):=by omega
    obtain ⟨b,o,ha,hb,h0,z0,z1⟩:=(HZ.out.later HB.out (Nat.le_refl _)).at hlt
    have hidx:=idx_bytes a b o len cap i ha hlt
    have HSU:=Lib.hid (slotsF_succ Z i)
    obtain ⟨z,hz⟩:∃ z,Z i=z:=⟨_,rfl⟩
    rw [hz] at h0 z0 z1 HSU
    clear hz ha
    have hzm:z.tmod 7=z % 7:=Int.tmod_eq_emod_of_nonneg z0
    have hzd:z.tdiv 7=z / 7:=Int.tdiv_eq_ediv_of_nonneg z0
    have HM:=Lib.hid hzm;have HD:=Lib.hid hzd
    have HH0:=Lib.hid h0
    obtain ⟨wo,hwo⟩:∃ wo:World,wo=wr:=⟨wr,rfl⟩
    subst hwo
    have hblt:=(Lib.hid hb)
    go_wp2_with fail
    have HIN:Hid (OwnG rowCh (wo.alloc (.cells #[] 55)) wo.heap.size (.slice (some ⟨wo.heap.size,0,none⟩) 0 0) []):=OwnG.empty rowCh (heap_alloc_new _ _) (Nat.le_refl _)
    have HBI:Hid (Below wo.heap.size wo (wo.alloc (.cells #[] 55))):=(Below.refl _ _).alloc (Nat.le_refl _) _
    clear hzm hzd h0
    go_loopg [8,9] 3 (fun g v8 v9 wr=>∃ k:Nat,v9=.int .i64 (k:Int)∧k≤3∧g=3 - k∧OwnG rowCh wr wo.heap.size v8 (slTo z k)∧Below wo.heap.size wo wr)
    case atStart=>exact ⟨0,rfl,Nat.zero_le _,rfl,HIN.out,HBI.out⟩
    case round =>
     clear HIN HBI
     obtain ⟨k,rfl,hk,hgk2,hin2,hbi⟩:=hrel
     obtain ⟨a8,c8,hv8, -, -⟩:=hin2.form
     subst hv8
     have HIN:=Lib.hid hin2;have HBI:=Lib.hid hbi;have HGK2:=Lib.hid hgk2
     have h0:=(hbi.cell (p:=⟨b,o+i,none⟩) hblt.out).trans HH0.out
     have hlen:=slTo_len z k
     have HTS:=Lib.hid (slTo_succ z k)
     obtain ⟨T,hT⟩:∃ T,slTo z k=T:=⟨_,rfl⟩
     rw [hT] at HIN HTS hlen ⊢
     have HT:=Lib.hid hT
     clear hin2 hbi hgk2 hT
     by_cases hk3:k<3
     ·
      have hk3I:(k:Int)<3:=by omega
      have hsh:=sl_one z k z0
      cases hhs:slHas z k with
      | false =>
       rw [hhs] at hsh HTS
       have HE:Hid (slTo z (k+1)=T):=by show _=_;rw [HTS.out];simp
       clear hhs
       go_wp2_with fail
       go_roundg (3 - (k+1))
       case measure=>have:=HGK2.out;omega
       case rel=>exact ⟨k+1,by go_num,by omega,rfl,by rw [HE.out];exact HIN.out,HBI.out⟩
      | true =>
       rw [hhs] at hsh HTS
       have HE:Hid (slTo z (k+1)=T ++ [slC z k]):=by show _=_;rw [HTS.out];rfl
       have hzd:=HD.out
       have hzq:(wrap64 (z / 7*(k:Int))).tmod 12=z / 7*(k:Int) % 12:=by
        have h1:0≤z / 7*(k:Int):=Int.mul_nonneg (Int.ediv_nonneg z0 (by decide)) (by omega)
        have h2:z / 7*(k:Int)≤36*3:=Int.mul_le_mul (by omega) (by omega) (by omega) (by decide)
        rw [show wrap64 (z / 7*(k:Int))=z / 7*(k:Int) by unfold wrap64;omega,Int.tmod_eq_emod_of_nonneg h1]
       have henc:([slC z k].flatMap rowCh.enc).toArray=#[.int .u8 (97+(k:Int)),.int .i64 (z / 7*(k:Int) % 12)]:=by
        have e:((UInt8.ofNat (97+k)).toNat:Int)=97+(k:Int):=by
         rw [UInt8.toNat_ofNat'];omega
        show #[Value.int .u8 ((UInt8.ofNat (97+k)).toNat:Int),.int .i64 (z / 7*(k:Int) % 12)]=_
        rw [e]
       have HENC:=Lib.hid henc
       obtain ⟨cq,hcq⟩:∃ cq,z / 7*(k:Int) % 12=cq:=⟨_,rfl⟩
       rw [hcq] at hzq HENC
       clear hhs henc hcq
       go_wp2_with (at_builtin;go_loud (refine wpList_append_g (v:=.slice a8 T.length c8) rowCh_ok rfl _ _ rfl rfl (HIN.out.later ((Below.refl _ _).alloc (Nat.le_refl _) _) (Nat.le_refl _)) ⟨wr.heap.size,0,none⟩ 1 [slC z k] rfl (cells_built (by rw [HENC.out];exact heap_alloc_new _ _)) (by simp only [List.length_singleton];omega) (by have:=HBI.out.size;simp only [World.size_alloc];omega) ?_);intro v16 w16 hown16 hgrow16 hat16;have HO16:=Lib.hid hown16;have HG16:=Lib.hid hgrow16;clear hown16 hgrow16 hat16)
       go_roundg (3 - (k+1))
       case measure=>have:=HGK2.out;omega
       case rel=>exact ⟨k+1,by go_num,by omega,rfl,by rw [HE.out];exact HO16.out,(HBI.out.trans (((Below.refl _ _).alloc (Nat.le_refl _) _).mono HBI.out.size)).grown HG16.out (by have:=HBI.out.size;simp only [World.size_alloc];omega) fun q hq=>HIN.out.ge q hq⟩
     ·
      obtain rfl:k=3:=by omega
      have HE:Hid (slotF z=T):=HT.out
      have hx8:ElS wr ⟨a8,T.length,c8⟩ T:=ElS.of HIN.out
      have HX8:=Lib.hid hx8
      have HQ8:=Lib.hid (HQ.out.later HBI.out (Nat.le_refl _))
      have HB8:Hid (Below w.heap.size w wr):=HB.out.trans (HBI.out.mono HB.out.size)
      clear hx8
      go_wp2_with (at_builtin;go_loud (refine wpList_append_g (v:=.slice a5 Ls.length c5) rowSlts_ok rfl _ _ rfl rfl (HQ8.out.own.later ((Below.refl _ _).alloc (Nat.le_refl _) _) (Nat.le_refl _)) ⟨wr.heap.size,0,none⟩ 1 [⟨a8,T.length,c8⟩] rfl (cells_built (heap_alloc_new _ _)) (by have:=HLL.out;simp only [List.length_singleton];omega) (by have:=HB8.out.size;simp only [World.size_alloc];omega) ?_);intro v16 w16 hown16 hgrow16 hat16;have HO16:=Lib.hid hown16;have HG16:=Lib.hid hgrow16;clear hown16 hgrow16 hat16)
      go_roundg (n - (i+1))
      case measure=>have:=HGK.out;omega
      case rel =>
       have hxa:Ext wr (wr.alloc (.cells #[.slice a8 T.length c8] 53)):=(Below.refl _ _).alloc (Nat.le_refl _) _
       have hq16:=SltsR.push (HQ8.out.later hxa (Nat.le_refl _)) HO16.out HG16.out (HX8.out.kc (Kc.of hxa (Nat.le_refl _)))
       have hsu:=HSU.out
       rw [HE.out] at hsu
       rw [← hsu] at hq16
       exact ⟨i+1,by go_num,by omega,by omega,rfl,⟨_,hq16⟩,(fun e=>by
        have h9:=hq16.len
        rcases hq16.own.blk with ⟨_,h⟩ | ⟨g,c,h,_⟩
        · simp at h
        · rw [h] at e;simp at e),(HB8.out.trans (hxa.mono HB8.out.size)).grown HG16.out (by have:=HB8.out.size;have:=hxa.size;omega) fun q hq=>HQ8.out.own.ge q hq⟩
   ·
    have hinI:¬ (i:Int)<(n:Int):=by omega
    have HR:Hid (slotsF Z (min len n)=slotsF Z i):=by show _=_;rw [show min len n=i by omega]
    go_wp2_with fail
    go_ret
    exact ⟨_,rfl,by rw [HR.out];exact ⟨_,HQ.out⟩,HNN.out,HB.out⟩
  ·
   have HR:Hid (slotsF Z (min len n)=slotsF Z i):=by show _=_;rw [show min len n=i by omega]
   go_wp2_with fail
   go_ret
   exact ⟨_,rfl,by rw [HR.out];exact ⟨_,HQ.out⟩,HNN.out,HB.out⟩
end Go.Proofs.YthjmdgejnakcmaaGreatDoor
namespace Go.Proofs.YthjmdgejnakcmaaGreatDoor
open Go.RowKit Go.WideShapes
set_option linter.unusedVariables false
set_option linter.unusedSimpArgs false
def letD (z:Int):UInt8:=if z % 4=0 then 97 else if z % 4=1 then 98 else if z % 4=2 then 65 else 66
def dLet (Z:Nat→Int) (n:Nat):List UInt8:=(List.range n).map fun i=>letD (Z i)
theorem dLet_succ (Z:Nat→Int) (n:Nat):dLet Z (n+1)=dLet Z n ++ [letD (Z n)]:=by simp [dLet,List.range_succ]
def dwF (Z:Nat→Int) (len:Nat):ByteArray:=⟨(dLet Z (min len 4)).toArray⟩
theorem dwF_size (Z:Nat→Int) (len:Nat):(dwF Z len).size=min len 4:=by
 show (dLet Z (min len 4)).toArray.size=_
 simp [dLet]
def dicTo (Q:Nat→BR):Nat→List ByteArray
 | 0=>[]
 | k+1=>if (Q k).n=0 then dicTo Q k else insF (dicTo Q k) (dwF (Q k).Z (Q k).n)
def dicF (Q:Nat→BR) (len n:Nat):List ByteArray:=if dicTo Q (min len n)=[] then [⟨#[97]⟩] else dicTo Q (min len n)
theorem dicTo_len (Q:Nat→BR):∀ k,(dicTo Q k).length≤k
 | 0=>by simp [dicTo]
 | k+1=>by
  have h2:=dicTo_len Q k
  rw [dicTo]
  split
  · omega
  · have h1:=insF_len (dicTo Q k) (dwF (Q k).Z (Q k).n);omega
theorem letD_ok (z:Int):(!(classF ((letD z).toNat:Int) == 0))=true:=by
 unfold letD
 split
 · decide
 ·
  split
  · decide
  · split <;> decide
theorem dwF_ok (Z:Nat→Int) (n:Nat) (hn:n≠0):wordB (dwF Z n)=true∧(dwF Z n).size≤4:=by
 have hsz:=dwF_size Z n
 refine ⟨?_,by omega⟩
 unfold wordB knownB knownL
 rw [hsz]
 have h1:decide (1≤min n 4)=true:=decide_eq_true (by omega)
 have h2:decide (min n 4≤20)=true:=decide_eq_true (by omega)
 rw [h1,h2]
 simp only [Bool.true_and,List.all_eq_true]
 intro c hc
 have hc2:c∈dLet Z (min n 4):=hc
 obtain ⟨i,_,rfl⟩:=List.mem_map.1 hc2
 exact letD_ok _
theorem dic_all (Q:Nat→BR):∀ k,(dicTo Q k).Pairwise (fun x y=>ltS x y=true)∧∀ x∈dicTo Q k,wordB x=true∧x.size≤4
 | 0=>⟨.nil,fun x hx=>by cases hx⟩
 | k
   + 1=>by
  obtain ⟨h1,h2⟩:=dic_all Q k
  rw [dicTo]
  split
  · exact ⟨h1,h2⟩
  ·
   rename_i hn
   refine ⟨ins_sorted h1,fun x hx=>?_⟩
   rcases ins_mem.1 hx with rfl | hx
   · exact dwF_ok _ _ hn
   · exact h2 x hx
theorem dic_dict (Q:Nat→BR) (len n:Nat) (hn:n≤200):Dict (dicF Q len n):=by
 have hl:=dicTo_len Q (min len n)
 unfold dicF
 split
 · exact dict_mk2 (by simp) (by simp) (fun x hx=>by rw [List.mem_singleton.1 hx];decide) (by simp)
 ·
  rename_i h
  exact dict_mk2 (List.length_pos_iff.2 h) (by omega) (fun x hx=>((dic_all Q _).2 x hx).1) (dic_all Q _).1
theorem dic_len (Q:Nat→BR) (len n:Nat) (hn:1≤n):(dicF Q len n).length≤n:=by
 have hl:=dicTo_len Q (min len n)
 unfold dicF
 split
 · simpa using hn
 · omega
set_option maxHeartbeats 6400000 in
set_option maxRecDepth 100000 in
theorem
    dictionary13_any (Q:Nat→BR) (a:Option Addr) (len cap n:Nat) (w:World) (hQ:ByteRows w a len Q) (hl:len≤9223372036854775807) (hn:n≤1000) :
  Calls Tryz.prog 12 #[.slice a len cap,.int .i64 (n:Int)] w (StrPost (dicF Q len n) w):=by
 have HQ:=Lib.hid hQ;clear hQ
 go_enter Tryz.func12,Tryz.ntmps12
 go_wp2_with fail
 have HB0:Hid (Below w.heap.size w (w.alloc (.cells #[] 9))):=(Below.refl _ _).alloc (Nat.le_refl _) _
 go_loopg [5,6] n (fun g v5 v6 wr=>∃ (k b o c m:Nat),v6=.int .i64 (k:Int)∧k≤n∧k≤len∧g=n - k∧v5=.slice (some ⟨b,o,none⟩) m c∧m=(dicTo Q k).length∧StrS wr (some ⟨b,o,none⟩) (dicTo Q k)∧(dicTo Q k).length≤c∧Below w.heap.size w wr)
 case atStart=>exact ⟨0,w.heap.size,0,0,0,rfl,Nat.zero_le _,Nat.zero_le _,rfl,rfl,rfl,StrS.nil _ _,Nat.le_refl _,HB0.out⟩
 case round =>
  clear HB0
  obtain ⟨k,b,o,c,m,rfl,hkn,hk,hgk,rfl,hm,hS,hc,hB⟩:=hrel
  have HS:=Lib.hid hS;have HB:=Lib.hid hB;have HGK:=Lib.hid hgk
  have hml:=dicTo_len Q k
  obtain ⟨M,hM⟩:∃ M,dicTo Q k=M:=⟨_,rfl⟩
  have HM:=Lib.hid hM
  rw [hM] at hm hc hml HS
  subst hm
  clear hS hB hM hgk
  obtain ⟨wo,hwo⟩:∃ wo:World,wo=wr:=⟨wr,rfl⟩
  subst hwo
  by_cases hlt:k<len
  ·
   by_cases h4
         : k<n
   ·
    have h4I:(k:Int)<(n:Int):=by omega
    obtain ⟨b1,o1,ha,hb1,h0,hb,hbl⟩:=(HQ.out.later HB.out (Nat.le_refl _)) k hlt
    have hidx:=idx_byterows a b1 o1 len cap k ha hlt
    have HSU:Hid (dicTo Q (k+1)=if (Q k).n=0 then M else insF M (dwF (Q k).Z (Q k).n)):=by show _=_;rw [dicTo,HM.out]
    obtain ⟨q,hq⟩:∃ q,Q k=q:=⟨_,rfl⟩
    rw [hq] at h0 hb hbl HSU
    obtain ⟨qa,qn,qc,qZ⟩:=q
    simp only at h0 hb hbl HSU
    have HBY:=Lib.hid hb;have HC0:=Lib.hid h0;have HB1:=Lib.hid hb1;have HIX:=Lib.hid hidx
    clear ha hq hb h0 hb1 hidx
    go_wp2_with fail
    go_loopg [7,8] 4 (fun g v7 v8 wr=>∃ (j:Nat) (x:ByteArray),v8=.int .i64 (j:Int)∧v7=.string x∧j≤4∧j≤qn∧g=4 - j∧x.data.toList=dLet qZ j∧Below wo.heap.size wo wr)
    case atStart=>exact ⟨0,⟨#[]⟩,rfl,rfl,by omega,Nat.zero_le _,rfl,rfl,Below.refl _ _⟩
    case round =>
     obtain ⟨j,x,rfl,rfl,hj4,hj,hgk2,hx,hbw⟩:=hrel
     have HBW:=Lib.hid hbw;have HX:=Lib.hid hx;have HGK2:=Lib.hid hgk2
     have hxs:x.size=j:=by
      have:=congrArg List.length hx
      simpa [dLet] using this
     have h0:=(hbw.cell (p:=⟨b1,o1+k,none⟩) HB1.out).trans HC0.out
     have hidx:=HIX.out
     clear hbw hx hgk2
     by_cases hjl:j<qn
     ·
      by_cases hj3:j<4
      ·
       have hj3I:(j:Int)<4:=by omega
       obtain ⟨b2,o2,ha2,hb2,h2,z0,z1⟩:=(HBY.out.later HBW.out (Nat.le_refl _)).at hjl
       have hidx2:=idx_bytes qa b2 o2 qn qc j ha2 hjl
       have HS2:=Lib.hid (dLet_succ qZ j)
       obtain ⟨z,hz⟩:∃ z,qZ j=z:=⟨_,rfl⟩
       rw [hz] at h2 z0 z1 HS2
       clear hz ha2
       have hcase:z % 4=0∨z % 4=1∨z % 4=2∨z % 4=3:=by omega
       rcases hcase with hm | hm | hm | hm
       ·
        have hm2:z.tmod 4=0:=(Int.tmod_eq_emod_of_nonneg z0).trans hm
        have HL:Hid ((ByteArray.extract ⟨#[97,98,65,66]⟩ 0 1).data.toList=[letD z]):=by
         show _=_
         have e:letD z=[97,98,65,66].getD 0 0:=by unfold letD;rw [hm];rfl
         rw [e];decide
        go_wp2_with fail
        go_quiet (fail)
        go_wp2_with fail
        go_roundg (4 - (j+1))
        case measure=>have:=HGK2.out;omega
        case rel=>exact ⟨j+1,_,by go_num,rfl,by omega,by omega,rfl,by rw [HS2.out,ByteArray.data_append,Array.toList_append,HX.out,HL.out],below_drewN HBW.out _⟩
       ·
        have hm2:z.tmod 4=1:=(Int.tmod_eq_emod_of_nonneg z0).trans hm
        have HL:Hid ((ByteArray.extract ⟨#[97,98,65,66]⟩ 1 2).data.toList=[letD z]):=by
         show _=_
         have e:letD z=[97,98,65,66].getD 1 0:=by unfold letD;rw [hm];rfl
         rw [e];decide
        go_wp2_with fail
        go_quiet (fail)
        go_wp2_with fail
        go_roundg (4 - (j+1))
        case measure=>have:=HGK2.out;omega
        case rel=>exact ⟨j+1,_,by go_num,rfl,by omega,by omega,rfl,by rw [HS2.out,ByteArray.data_append,Array.toList_append,HX.out,HL.out],below_drewN HBW.out _⟩
       ·
        have hm2:z.tmod 4=2:=(Int.tmod_eq_emod_of_nonneg z0).trans hm
        have HL:Hid ((ByteArray.extract ⟨#[97,98,65,66]⟩ 2 3).data.toList=[letD z]):=by
         show _=_
         have e:letD z=[97,98,65,66].getD 2 0:=by unfold letD;rw [hm];rfl
         rw [e];decide
        go_wp2_with fail
        go_quiet (fail)
        go_wp2_with fail
        go_roundg (4 - (j+1))
        case measure=>have:=HGK2.out;omega
        case rel=>exact ⟨j+1,_,by go_num,rfl,by omega,by omega,rfl,by rw [HS2.out,ByteArray.data_append,Array.toList_append,HX.out,HL.out],below_drewN HBW.out _⟩
       ·
        have hm2:z.tmod 4=3:=(Int.tmod_eq_emod_of_nonneg z0).trans hm
        have HL:Hid ((ByteArray.extract ⟨#[97,98,65,66]⟩ 3 4).data.toList=[letD z]):=by
         show _=_
         have e:letD z=[97,98,65,66].getD 3 0:=by unfold letD;rw [hm];rfl
         rw [e];decide
        go_wp2_with fail
        go_quiet (fail)
        go_wp2_with fail
        go_roundg (4 - (j+1))
        case measure=>have:=HGK2.out;omega
        case rel=>exact ⟨j+1,_,by go_num,rfl,by omega,by omega,rfl,by rw [HS2.out,ByteArray.data_append,Array.toList_append,HX.out,HL.out],below_drewN HBW.out _⟩
      ·
       have hj3I:¬ (j:Int)<4:=by omega
       have HR:Hid (x=dwF qZ qn):=by
        show _=_
        have hmin:min qn 4=j:=by omega
        refine bytes_inj ?_
        rw [HX.out]
        show _=dLet qZ (min qn 4)
        rw [hmin]
       have HB2:Hid (Below w.heap.size w wr):=HB.out.trans (HBW.out.mono HB.out.size)
       have HS2:Hid (StrS wr (some ⟨b,o,none⟩) M):=HS.out.later HBW.out (Nat.le_refl _)
       by_cases hq0:qn=0
       ·
        have hx0:x=⟨#[]⟩:=bytes_inj (by rw [HX.out,show j=0 by omega];rfl)
        have HE:Hid (dicTo Q (k+1)=M):=by show _=_;rw [HSU.out,if_pos hq0]
        subst hx0
        clear hq0
        go_wp2_with fail
        go_roundg (n - (k+1))
        case measure=>have:=HGK.out;omega
        case rel=>exact ⟨k+1,b,o,c,_,by go_num,by omega,by omega,rfl,rfl,by rw [HE.out],by rw [HE.out];exact HS2.out,by rw [HE.out];exact hc,HB2.out⟩
       ·
        have HE:Hid (dicTo Q (k+1)=insF M x):=by show _=_;rw [HSU.out,if_neg hq0,HR.out]
        have hne:(x.toList == [])=false:=by rw [beq_eq_false_iff_ne,ByteArray.toList_eq,HX.out];intro h;have:=congrArg List.length h;simp [dLet] at this;omega
        have hne2:x.toList≠[]:=by simpa using hne
        clear hq0
        go_wp2_with fail
        refine (insert_any M _ b o c x _ HS2.out rfl hc (by omega)).mono ?_
        rintro e w6 ⟨b6,o6,c6,rfl,hs6,hc6,hb6⟩
        have HB6:=Lib.hid (HB2.out.trans (hb6.mono HB2.out.size));have HS6:=Lib.hid hs6;have HC6:=Lib.hid hc6
        clear hb6 hs6 hc6
        go_wp2_with fail
        go_roundg (n - (k+1))
        case measure=>have:=HGK.out;omega
        case rel=>exact ⟨k+1,b6,o6,c6,_,by go_num,by omega,by omega,rfl,rfl,by rw [HE.out],by rw [HE.out];exact HS6.out,by rw [HE.out];exact HC6.out,HB6.out⟩
     ·
      have hjq:¬ (j:Int)<(qn:Int):=by omega
      have HR:Hid (x=dwF qZ qn):=by
       show _=_
       have hmin:min qn 4=j:=by omega
       refine bytes_inj ?_
       rw [HX.out]
       show _=dLet qZ (min qn 4)
       rw [hmin]
      have HB2:Hid (Below w.heap.size w wr):=HB.out.trans (HBW.out.mono HB.out.size)
      have HS2:Hid (StrS wr (some ⟨b,o,none⟩) M):=HS.out.later HBW.out (Nat.le_refl _)
      by_cases hq0:qn=0
      ·
       have hx0:x=⟨#[]⟩:=bytes_inj (by rw [HX.out,show j=0 by omega];rfl)
       have HE:Hid (dicTo Q (k+1)=M):=by show _=_;rw [HSU.out,if_pos hq0]
       subst hx0
       clear hq0
       go_wp2_with fail
       go_roundg (n - (k+1))
       case measure=>have:=HGK.out;omega
       case rel=>exact ⟨k+1,b,o,c,_,by go_num,by omega,by omega,rfl,rfl,by rw [HE.out],by rw [HE.out];exact HS2.out,by rw [HE.out];exact hc,HB2.out⟩
      ·
       have HE:Hid (dicTo Q (k+1)=insF M x):=by show _=_;rw [HSU.out,if_neg hq0,HR.out]
       have hne:(x.toList == [])=false:=by rw [beq_eq_false_iff_ne,ByteArray.toList_eq,HX.out];intro h;have:=congrArg List.length h;simp [dLet] at this;omega
       have hne2:x.toList≠[]:=by simpa using hne
       clear hq0
       go_wp2_with fail
       refine (insert_any M _ b o c x _ HS2.out rfl hc (by omega)).mono ?_
       rintro e w6 ⟨b6,o6,c6,rfl,hs6,hc6,hb6⟩
       have HB6:=Lib.hid (HB2.out.trans (hb6.mono HB2.out.size));have HS6:=Lib.hid hs6;have HC6:=Lib.hid hc6
       clear hb6 hs6 hc6
       go_wp2_with fail
       go_roundg (n - (k+1))
       case measure=>have:=HGK.out;omega
       case rel=>exact ⟨k+1,b6,o6,c6,_,by go_num,by omega,by omega,rfl,rfl,by rw [HE.out],by rw [HE.out];exact HS6.out,by rw [HE.out];exact HC6.out,HB6.out⟩
   ·
    have h4I:¬ (k:Int)<(n:Int):=by omega
    have HA:Hid (min len n=k):=by show _=_;omega
    by_cases h0:M=[]
    ·
     have HR:Hid (dicF Q len n=[⟨#[97]⟩]):=by show _=_;rw [dicF,HA.out,HM.out,if_pos h0]
     subst h0
     go_wp2_with fail
     go_ret
     rw [HR.out]
     have hrow:OwnG rowStr (wo.alloc (.cells #[.string ⟨#[97]⟩] 9)) 0 (.slice (some ⟨wo.heap.size,0,none⟩) 1 1) [⟨#[97]⟩]:=OwnG.one rowStr_ok (x:=⟨#[97]⟩) (heap_alloc_new wo _) (Nat.zero_le _)
     exact ⟨wo.heap.size,0,1,rfl,hrow.strs.1,Nat.le_refl _,HB.out.alloc HB.out.size _⟩
    ·
     have HR:Hid (dicF Q len n=M):=by show _=_;rw [dicF,HA.out,HM.out,if_neg h0]
     have hml0:((M.length:Int) == 0)=false:=by
      rw [beq_eq_false_iff_ne]
      have:0<M.length:=List.length_pos_iff.2 h0
      omega
     have hne:M≠[]:=h0
     go_wp2_with fail
     go_ret
     rw [HR.out]
     exact ⟨b,o,c,rfl,HS.out,hc,HB.out⟩
  ·
   have HA:Hid (min len n=k):=by show _=_;omega
   by_cases h0:M=[]
   ·
    have HR:Hid (dicF Q len n=[⟨#[97]⟩]):=by show _=_;rw [dicF,HA.out,HM.out,if_pos h0]
    subst h0
    go_wp2_with fail
    go_ret
    rw [HR.out]
    have hrow:OwnG rowStr (wo.alloc (.cells #[.string ⟨#[97]⟩] 9)) 0 (.slice (some ⟨wo.heap.size,0,none⟩) 1 1) [⟨#[97]⟩]:=OwnG.one rowStr_ok (x:=⟨#[97]⟩) (heap_alloc_new wo _) (Nat.zero_le _)
    exact ⟨wo.heap.size,0,1,rfl,hrow.strs.1,Nat.le_refl _,HB.out.alloc HB.out.size _⟩
   ·
    have HR:Hid (dicF Q len n=M):=by show _=_;rw [dicF,HA.out,HM.out,if_neg h0]
    have hml0:((M.length:Int) == 0)=false:=by
     rw [beq_eq_false_iff_ne]
     have:0<M.length:=List.length_pos_iff.2 h0
     omega
    have hne:M≠[]:=h0
    go_wp2_with fail
    go_ret
    rw [HR.out]
    exact ⟨b,o,c,rfl,HS.out,hc,HB.out⟩
def BltP (D:List Nd) (w:World) (e:Ending) (w':World):Prop:=∃ a1 c1,e=.returned (.slice a1 D.length c1)∧D.length≤c1∧DawgS w' a1 D∧Below w.heap.size w w'
def BldP (D:List Nd) (w:World) (e:Ending) (w':World):Prop:=∃ a1 c1,e=.returned (.tuple #[.slice a1 D.length c1,.int .i64 0])∧D.length≤c1∧DawgS w' a1 D∧Below w.heap.size w w'
theorem of_blt (L:List ByteArray) (n:Nat) (a:Option Addr) (cap:Nat) (w:World) (hR:StrS w a L) (hL:n=L.length) (hc:n≤cap) (hd:Dict L) :
  Calls Tryz.prog 59 #[.slice a n cap] w (BltP (ofF (restAt 0 L)) w):=of_any L n a cap w hR hL hc hd
theorem rbuild_yes {D:List Nd} {L:List ByteArray} {n:Nat} {a:Option Addr} {cap:Nat} (w:World) (hR:StrS w a L) (hL:n=L.length) (hd:Dict L)
  (hof:∀ W,Below w.heap.size w W→Calls Tryz.prog 59 #[.slice a n cap] W (BltP D W)) :
  Calls Tryz.prog 30 #[.slice a n cap] w (BldP D w):=by
 have HD2:=rdictionary_any L n a cap w hR hL (by have:=hd.2.1;omega)
 rw [dictB_yes hd] at HD2
 have HDD:=Lib.hid HD2;have HOF:=Lib.hid hof
 clear hR hd HD2 hof hL
 go_enter Tryz.func30,Tryz.ntmps30
 go_wp2_with fail
 refine HDD.out.mono ?_
 rintro e w1 ⟨rfl,hb⟩
 have HB1:=Lib.hid hb
 clear hb
 go_wp2_with fail
 refine (HOF.out w1 HB1.out).mono ?_
 rintro e w2 ⟨a1,c1,rfl,hc1,h3,hb⟩
 have HB2:=Lib.hid (HB1.out.trans (hb.mono HB1.out.size));have H3:=Lib.hid h3
 clear hb h3
 go_wp2_with fail
 go_ret2
 exact ⟨a1,c1,rfl,hc1,H3.out,HB2.out⟩
theorem built_yes {D:List Nd} {n:Nat} {a:Option Addr} {cap:Nat} (w:World)
  (hof:Calls Tryz.prog 30 #[.slice a n cap] w (BldP D w)) :
  Calls Tryz.prog 11 #[.slice a n cap] w (BltP D w):=by
 have HOF:=Lib.hid hof
 clear hof
 go_enter Tryz.func11,Tryz.ntmps11
 go_wp2_with fail
 refine HOF.out.mono ?_
 rintro e w2 ⟨a1,c1,rfl,hc1,h3,hb⟩
 have HB2:=Lib.hid hb;have H3:=Lib.hid h3
 clear hb h3
 go_wp2_with fail
 go_ret
 exact ⟨a1,c1,rfl,hc1,H3.out,HB2.out⟩
theorem built_any (L:List ByteArray) (n:Nat) (a:Option Addr) (cap:Nat) (w:World) (hR:StrS w a L) (hL:n=L.length) (hc:n≤cap) (hd:Dict L) :
  Calls Tryz.prog 11 #[.slice a n cap] w (BltP (ofF (restAt 0 L)) w) :=
 built_yes w (rbuild_yes w hR hL hd fun W hW=>of_blt L n a cap W (hR.later hW (Nat.le_refl _)) hL hc hd)
end Go.Proofs.YthjmdgejnakcmaaGreatDoor
namespace Go.Proofs.YthjmdgejnakcmaaGreatDoor
open Go.RowKit Go.WideShapes Fl
set_option linter.unusedVariables false
set_option linter.unusedSimpArgs false
def WordsP (R:List Rl) (acc:Int) (L:List Slt) (X:List (List UInt8)) (B:Nat) (e:Ending) (w':World):Prop :=
 ∃ a c l,e=.returned (.slice a l.length c)∧OwnG rowFnd w' B (.slice a l.length c) l∧FndB R acc L X L.length l
set_option maxHeartbeats 6400000 in
set_option maxRecDepth 100000 in
theorem lwords_any (R:List Rl) (modes acc:Int) (aS:Option Addr) (cS:Nat) (D:List Nd) (aD:Option Addr) (cD:Nat) (aL:Option Addr) (L:List Slt) (cL C:Nat) (w:World) (hR:RulS w aS R) (hRl:R.length≤1000) (hO:∀ r∈R,r.out.size≤1000000) (hD:DawgS w aD D) (hDl:D.length≤9223372036854775807) (hC:CsOk D)
  (hl:(wordsF D).length≤1000) (hs:∀ x∈wordsF D,x.size≤20) (hinc:((wordsF D).map bts).Pairwise fun a b=>Op.bytesLess a b=true) (hL:SlotS w aL L) (hLl:L.length≤1000) (hBs:SlotsB C L) (hCc:C≤1000000)
  (hcost:∀ N i,N≤1+20*(wordsF D).length→i≤L.length→8*N*(i*((8*N+1)*(1000+4*C))+(8*N+1)*(1000+4*C)+2)≤900000000000) (ha0:0≤acc) (ha1:acc≤255) :
  Calls Tryz.prog 21 #[.agg #[.int .i64 modes,.int .u8 acc,.slice aS R.length cS],.slice aD D.length cD,.slice aL L.length cL] w fun e w'=>WordsP R acc L ((wordsF D).map bts) w.heap.size e w'∧Below w.heap.size w w':=by
 obtain ⟨X,hX⟩:∃ X,(wordsF D).map bts=X:=⟨_,rfl⟩
 have hns:=fun w1 (hx:Ext w w1)=>ends_any R modes acc aS cS D aD cD aL L cL C w1 (hR.later hx (Nat.le_refl _)) hRl hO (hD.later hx (Nat.le_refl _)) hDl hC hl hs hinc (hL.later hx (Nat.le_refl _)) hLl hBs hCc hcost ha0 ha1
 rw [hX] at hns ⊢
 have HNS:=Lib.hid hns
 clear hR hO hD hC hs hinc hL hBs hcost hns hX
 go_enter Tryz.func21,Tryz.ntmps21
 go_wp2_with fail
 obtain ⟨w1,hw1⟩:∃ w1,w.alloc (.cells #[.int .i64 modes,.int .u8 acc,.slice aS R.length cS] 32)=w1:=⟨_,rfl⟩
 rw [hw1]
 have HX1:Hid (Ext w w1):=by
  show Ext _ _
  rw [← hw1];exact (Below.refl _ _).alloc (Nat.le_refl _) _
 clear hw1
 refine (HNS.out w1 HX1.out).mono ?_
 rintro e w2 ⟨⟨g,Ls,rfl,hrow,hLs,hfs⟩,hb2⟩
 have hk:L.length<Ls.length:=by omega
 have hcl:=hrow.cell rowFnds_ok hk (j:=0) (by decide)
 have e1:L.length*rowFnds.k+0=L.length:=by show L.length*1+0=_;omega
 rw [e1] at hcl
 have hcl2:w2.cell? ⟨g,L.length,none⟩=some (.slice Ls[L.length].a Ls[L.length].n Ls[L.length].c):=hcl
 have hix:=idx_fnds g (L.length+1) (L.length+1) L.length (Nat.lt_succ_self _)
 obtain ⟨l,ho,hf⟩:=hfs L.length hk (Nat.lt_succ_self _)
 obtain ⟨a,c,he, -⟩:=ho.form
 have HO:=Lib.hid ho;have HF:=Lib.hid hf;have HE:=Lib.hid he;have HB:=Lib.hid hb2
 clear hrow hfs hLs hcl e1 ho hf he hb2
 go_wp2_with fail
 go_ret
 have he:(.slice Ls[L.length].a Ls[L.length].n Ls[L.length].c:Value)=.slice a l.length c:=HE.out
 rw [he]
 have ho:=HO.out
 rw [show svS Ls[L.length]=_ from he] at ho
 exact ⟨⟨a,c,l,rfl,ho.mono HX1.out.size,HF.out⟩,Below.trans HX1.out (HB.out.mono HX1.out.size)⟩
end Go.Proofs.YthjmdgejnakcmaaGreatDoor
namespace Go.Proofs.YthjmdgejnakcmaaGreatDoor
open Go.RowKit Go.WideShapes Fl
set_option linter.unusedVariables false
set_option linter.unusedSimpArgs false
set_option maxHeartbeats 1600000 in
theorem valid1_any (s:Slt) (a:Option Addr) (c:Nat) (w:World) (hA:ArcS w a (chA s)) (hl:s.length≤9223372036854775807) :
  Calls Tryz.prog 50 #[.slice a s.length c] w fun e w'=>e=.returned (.bool (!okS s))∧Below w.heap.size w w':=by
 have hv:=vslot_any s a c w hA hl
 have HV:=Lib.hid hv
 clear hA hv
 go_enter Tryz.func50,Tryz.ntmps50
 go_wp2_with fail
 refine HV.out.mono ?_
 rintro e w1 ⟨rfl,hb⟩
 have HB:=Lib.hid hb
 clear hb
 obtain ⟨r,hr⟩:∃ r,okS s=r:=⟨_,rfl⟩
 rw [hr]
 have HR:=Lib.hid hr
 clear hr
 cases r with
 | true =>
  go_wp2_with fail
  go_ret
  exact ⟨ret_bool (by rw [HR.out];rfl),HB.out⟩
 | false =>
  go_wp2_with fail
  go_ret
  exact ⟨ret_bool (by rw [HR.out];rfl),HB.out⟩
set_option maxHeartbeats 1600000 in
theorem
    idx_valid_any (L:List Slt) (a:Option Addr) (cap:Nat) (w:World) (hX:SlotS w a L) (hl:L.length≤9223372036854775807) :
  Calls Tryz.prog 79 #[.slice a L.length cap,.func (.func 50) #[] #[]] w fun e w'=>(∃ i:Int,e=.returned (.int .i64 i)∧decide (0≤i)=!L.all okS)∧Below w.heap.size w w':=by
 have HX:=Lib.hid hX;clear hX
 go_enter Tryz.func79,Tryz.ntmps79
 go_wp2
 go_loopg [8] L.length (fun g v8 wr=>∃ j:Nat,v8=.int .i64 (j:Int)∧j≤L.length∧g=L.length - j∧(L.take j).all okS=true∧Below w.heap.size w wr)
 case atStart=>exact ⟨0,rfl,Nat.zero_le _,rfl,rfl,Below.refl _ _⟩
 case round =>
  obtain ⟨j,rfl,hj,hgk,ht,hB⟩:=hrel
  have HT:=Lib.hid ht;have HB:=Lib.hid hB;have HGK:=Lib.hid hgk
  clear ht hB hgk
  by_cases hlj:j<L.length
  ·
   obtain ⟨b1,o1,ha1,hb1,aa,cc,q0,hle,harc⟩:=(HX.out.later HB.out (Nat.le_refl _)).at hlj
   have hi1:=idx_slots a b1 o1 L.length cap j ha1 hlj
   have hv:=valid1_any L[j] aa cc wr harc hle
   have HTK:Hid (L.take (j+1)=L.take j ++ [L[j]]):=List.take_succ_eq_append_getElem hlj
   have HME:Hid (L[j]∈L):=List.getElem_mem hlj
   obtain ⟨s,hs⟩:∃ s,L[j]=s:=⟨_,rfl⟩
   rw [hs] at hv q0 HTK HME
   have HV:=Lib.hid hv
   clear ha1 hs harc hv hle
   go_wp2_with fail
   refine HV.out.mono ?_
   rintro e w1 ⟨rfl,hb⟩
   have HB1:Hid (Below w.heap.size w w1):=HB.out.trans (hb.mono HB.out.size)
   clear hb
   obtain ⟨r,hr⟩:∃ r,okS s=r:=⟨_,rfl⟩
   rw [hr]
   have HR:=Lib.hid hr
   clear hr
   cases r with
   | false =>
    have HN:Hid (L.all okS=false):=by
     show _=_
     cases e:L.all okS with
     | false=>rfl
     | true=>have:=List.all_eq_true.1 e s HME.out;rw [HR.out] at this;cases this
    go_wp2_with fail
    go_ret
    exact ⟨⟨_,rfl,by rw [HN.out];simp⟩,HB1.out⟩
   | true =>
    go_wp2_with fail
    go_roundg (L.length - (j+1))
    case measure=>have:=HGK.out;omega
    case rel=>exact ⟨j+1,by go_num,by omega,rfl,by rw [HTK.out,List.all_append,HT.out];simp [HR.out],HB1.out⟩
  ·
   have HN:Hid (L.all okS=true):=by
    have h:=HT.out
    rw [List.take_of_length_le (by omega)] at h
    exact h
   go_wp2_with fail
   go_ret
   exact ⟨⟨_,rfl,by rw [HN.out];rfl⟩,HB.out⟩
set_option maxHeartbeats 1600000 in
theorem cont_valid_any (L:List Slt) (a:Option Addr) (cap:Nat) (w:World) (hX:SlotS w a L) (hl:L.length≤9223372036854775807) :
  Calls Tryz.prog 49 #[.slice a L.length cap,.func (.func 50) #[] #[]] w fun e w'=>e=.returned (.bool (!L.all okS))∧Below w.heap.size w w':=by
 have hv:=idx_valid_any L a cap w hX hl
 have HV:=Lib.hid hv
 clear hX hv
 go_enter Tryz.func49,Tryz.ntmps49
 go_wp2_with fail
 refine HV.out.mono ?_
 rintro e w1 ⟨⟨i,rfl,hi⟩,hb⟩
 have HB:=Lib.hid hb;have HI:=Lib.hid hi
 clear hb hi
 go_wp2_with fail
 go_ret
 exact ⟨ret_bool HI.out,HB.out⟩
set_option maxHeartbeats 1600000 in
theorem lvalid_any (L:List Slt) (a:Option Addr) (cap:Nat) (w:World) (hX:SlotS w a L) (hl:L.length≤9223372036854775807) :
  Calls Tryz.prog 26 #[.slice a L.length cap] w fun e w'=>e=.returned (.bool (validB L))∧Below w.heap.size w w':=by
 have hv:=cont_valid_any L a cap w hX hl
 have HV:=Lib.hid hv
 clear hX hv
 by_cases h40:40<L.length
 ·
  have h40I:(40:Int)<(L.length:Int):=by omega
  have HR:Hid (validB L=false):=by show _=_;unfold validB;simp;omega
  go_enter Tryz.func26,Tryz.ntmps26
  go_wp2_with fail
  go_ret
  exact ⟨ret_bool HR.out.symm,Below.refl _ _⟩
 ·
  have h40I:¬ (40:Int)<(L.length:Int):=by omega
  have HR:Hid (validB L=L.all okS):=by show _=_;unfold validB;rw [decide_eq_true (by omega)];rfl
  go_enter Tryz.func26,Tryz.ntmps26
  go_wp2_with fail
  refine HV.out.mono ?_
  rintro e w1 ⟨rfl,hb⟩
  have HB:=Lib.hid hb
  clear hb
  obtain ⟨r,hr⟩:∃ r,L.all okS=r:=⟨_,rfl⟩
  have HR2:Hid (validB L=r):=HR.out.trans hr
  rw [hr]
  clear hr HV HR
  cases r with
  | true =>
   go_wp2_with fail
   go_ret
   exact ⟨ret_bool HR2.out.symm,HB.out⟩
  | false =>
   go_wp2_with fail
   go_ret
   exact ⟨ret_bool HR2.out.symm,HB.out⟩
end Go.Proofs.YthjmdgejnakcmaaGreatDoor
namespace Go.Proofs.YthjmdgejnakcmaaGreatDoor
open Go.RowKit Go.WideShapes Fl
set_option linter.unusedVariables false
set_option linter.unusedSimpArgs false
def FndS (w:World) (a:Option Addr) (l:List (Nat × Nat)):Prop:=∀ k (hk:k<l.length),∃ b o,a=some ⟨b,o,none⟩∧b<w.heap.size∧w.cell? ⟨b,o+k*2,none⟩=some (.int .i64 (l[k].1:Int))∧w.cell? ⟨b,o+k*2+1,none⟩=some (.int .i64 (l[k].2:Int))
theorem FndS.kp {w w1:World} {a:Option Addr} {l:List (Nat × Nat)} (h:FndS w a l) (hk:Kc w w1):FndS w1 a l:=fun k hl=>by
 obtain ⟨b,o,ha,h1,h2,h3⟩:=h k hl
 exact ⟨b,o,ha,Nat.lt_of_lt_of_le h1 hk.size,hk.cell h2,hk.cell h3⟩
theorem FndS.later {w w1:World} {a:Option Addr} {l:List (Nat × Nat)} {B:Nat} (h:FndS w a l) (hb:Below B w w1) (hB:w.heap.size≤B):FndS w1 a l:=h.kp (Kc.of hb hB)
theorem FndS.at {w:World} {a:Option Addr} {l:List (Nat × Nat)} (h:FndS w a l) {k:Nat} (hk:k<l.length):∃ b o,a=some ⟨b,o,none⟩∧b<w.heap.size∧w.cell? ⟨b,o+k*2,none⟩=some (.int .i64 (l[k].1:Int))∧w.cell? ⟨b,o+k*2+1,none⟩=some (.int .i64 (l[k].2:Int)):=h k hk
theorem OwnG.fnds {w:World} {B:Nat} {a:Option Addr} {n c:Nat} {L:List (Nat × Nat)} (h:OwnG rowFnd w B (.slice a n c) L):FndS w a L∧n=L.length∧L.length≤c:=by
 obtain ⟨a',c',he,hc,_⟩:=h.form
 injection he with e1 e2 e3
 refine ⟨fun k hk=>?_,e2,by omega⟩
 rcases h.blk with ⟨_,rfl⟩ | ⟨g,c2,he2,_,hg,_⟩
 · simp at hk
 ·
  injection he2 with f1 f2 f3
  subst f1
  refine ⟨g,0,rfl,hg,?_,?_⟩
  ·
   have:=h.cell rowFnd_ok hk (j:=0) (by decide)
   simpa [rowFnd] using this
  ·
   have:=h.cell rowFnd_ok hk (j:=1) (by decide)
   simpa [rowFnd] using this
theorem idx_fnd (a:Option Addr) (b o len cap k:Nat) (ha:a=some ⟨b,o,none⟩) (hk:k<len) (w:World) :
  (Instr.indexAt 48 (.slice a len cap) (.int .i64 (k:Int))).run Tryz.prog w=.ok (.pointer (some ⟨b,o+k*2,none⟩)) w:=by
 subst ha
 have h0:(0:Int)≤(k:Int):=by omega
 have h1:(k:Int)<(len:Int):=by omega
 simp [go_sem,h0,h1]
set_option maxHeartbeats 3200000 in
set_option maxRecDepth 100000 in
theorem
    fsame_any (D E:List (Nat × Nat)) (a b:Option Addr) (c d:Nat) (w:World) (hX:FndS w a D) (hY:FndS w b E) (hl1:D.length≤9223372036854775807) (hl2:E.length≤9223372036854775807) :
  Calls Tryz.prog 20 #[.slice a D.length c,.slice b E.length d] w fun e w'=>e=.returned (.bool (decide (D=E)))∧Below w.heap.size w w':=by
 have HX:=Lib.hid hX;have HY:=Lib.hid hY;clear hX hY
 by_cases hl:D.length=E.length
 ·
  have hlI:((D.length:Int) != (E.length:Int))=false:=by simp [hl]
  have HL:=Lib.hid hl
  clear hl
  go_enter Tryz.func20,Tryz.ntmps20
  go_wp2
  go_loopg [5] D.length (fun g v5 wr=>∃ k:Nat,v5=.int .i64 (k:Int)∧k≤D.length∧g=D.length - k∧D.take k=E.take k∧Below w.heap.size w wr)
  case atStart=>exact ⟨0,rfl,Nat.zero_le _,rfl,rfl,Below.refl _ _⟩
  case round =>
   obtain ⟨k,rfl,hk,hgk,ht,hB⟩:=hrel
   have HT:=Lib.hid ht;have HB:=Lib.hid hB;have HGK:=Lib.hid hgk
   clear ht hB hgk
   by_cases hlt:k<D.length
   ·
    have hlt2:k<E.length:=by have:=HL.out;omega
    obtain ⟨b1,o1,ha1,hb1,q0,q1⟩:=(HX.out.later HB.out (Nat.le_refl _)).at hlt
    obtain ⟨b2,o2,ha2,hb2,p0,p1⟩:=(HY.out.later HB.out (Nat.le_refl _)).at hlt2
    have hi1:=idx_fnd a b1 o1 D.length c k ha1 hlt
    have hi2:=idx_fnd b b2 o2 E.length d k ha2 hlt2
    have HT1:Hid (D.take (k+1)=D.take k ++ [D[k]]):=List.take_succ_eq_append_getElem hlt
    have HT2:Hid (E.take (k+1)=E.take k ++ [E[k]]):=List.take_succ_eq_append_getElem hlt2
    have HNO:Hid (D[k]≠E[k]→decide (D=E)=false):=fun hne=>decide_eq_false fun h=>by
     subst h;exact hne rfl
    obtain ⟨⟨x1,x2⟩,hx⟩:∃ x,D[k]=x:=⟨_,rfl⟩
    obtain ⟨⟨y1,y2⟩,hy⟩:∃ y,E[k]=y:=⟨_,rfl⟩
    rw [hx] at q0 q1 HT1 HNO
    rw [hy] at p0 p1 HT2 HNO
    simp only at q0 q1 p0 p1
    clear ha1 ha2 hx hy
    by_cases hf:x1=y1
    ·
     subst hf
     by_cases hg:x2=y2
     ·
      subst hg
      go_wp2
      go_quiet (fail)
      go_wp2
      go_roundg (D.length - (k+1))
      case measure=>have:=HGK.out;omega
      case rel=>exact ⟨k+1,by go_num,by omega,rfl,by rw [HT1.out,HT2.out,HT.out],below_drewN HB.out _⟩
     ·
      have hg2:((x2:Int) == (y2:Int))=false:=by simpa using fun h=>hg (by omega)
      have HR:=Lib.hid (HNO.out fun e=>hg (by injection e))
      go_wp2
      go_quiet (fail)
      go_wp2
      go_ret
      exact ⟨ret_bool HR.out.symm,below_drewN HB.out _⟩
    ·
     have hg2:((x1:Int) == (y1:Int))=false:=by simpa using fun h=>hf (by omega)
     have HR:=Lib.hid (HNO.out fun e=>hf (by injection e))
     go_wp2
     go_quiet (fail)
     go_wp2
     go_ret
     exact ⟨ret_bool HR.out.symm,below_drewN HB.out _⟩
   ·
    have HR:Hid (decide (D=E)=true):=decide_eq_true (by
     have h:=HT.out
     have h2:=HL.out
     rw [List.take_of_length_le (by omega),List.take_of_length_le (by omega)] at h
     exact h)
    go_wp2
    go_ret
    exact ⟨ret_bool HR.out.symm,HB.out⟩
 ·
  have hlI:((D.length:Int) == (E.length:Int))=false:=by simpa using fun h=>hl (by omega)
  have HR:Hid (decide (D=E)=false):=decide_eq_false fun h=>hl (by rw [h])
  go_enter Tryz.func20,Tryz.ntmps20
  go_wp2
  go_ret
  exact ⟨ret_bool HR.out.symm,Below.refl _ _⟩
end Go.Proofs.YthjmdgejnakcmaaGreatDoor
namespace Go.Proofs.YthjmdgejnakcmaaGreatDoor
open Go.RowKit Go.WideShapes Fl
set_option linter.unusedVariables false
set_option linter.unusedSimpArgs false
structure SchM (w:World) (S:Sch) (b:Option Addr) (c:Nat):Prop where
 fair:Fairs S.rules
 mo:∀ r∈S.rules,r.frm<S.modes∧r.dst<S.modes
 m0:1≤S.modes
 m8:S.modes≤8
 a0:0≤S.acc
 a1:S.acc≤255
 len:S.rules.length≤64
 out:∀ r∈S.rules,r.out.size≤1000
 cap:S.rules.length≤c
 rul:RulS w b S.rules
theorem SchM.go {w w1:World} {S:Sch} {b:Option Addr} {c:Nat} (h:SchM w S b c) (hb:Below w.heap.size w w1):SchM w1 S b c :=
 ⟨h.fair,h.mo,h.m0,h.m8,h.a0,h.a1,h.len,h.out,h.cap,h.rul.later hb (Nat.le_refl _)⟩
theorem right_of {S:Sch} (h:Fl.validB S=true) {r:Rl} (hr:r∈S.rules):rightB S.modes r=true:=by
 obtain ⟨i,hi,rfl⟩:=List.mem_iff_getElem.1 hr
 have hv:=((validB_iff S).1 h).2 i hi hi
 unfold goodAt at hv
 rw [Bool.and_eq_true] at hv
 exact hv.1
theorem right_facts {m:Int} {r:Rl} (h:rightB m r=true):0≤r.frm∧r.frm<m∧0≤r.dst∧r.dst<m∧r.inp.size≤4∧r.out.size≤4∧0≤r.cost∧r.cost≤1000:=by
 unfold rightB at h
 simp only [Bool.and_eq_true,decide_eq_true_eq] at h
 obtain ⟨h1,h2,h3,h4,h5,h6,h7,h8,h9,h10⟩:=h
 exact ⟨h1,h2,h3,h4,by omega,by omega,h9,h10⟩
theorem SchM.of_valid {w:World} {S:Sch} {b:Option Addr} {c:Nat} (hv:Fl.validB S=true) (ha:0≤S.acc) (ha1:S.acc≤255) (hc:S.rules.length≤c) (hr:RulS w b S.rules):SchM w S b c:=by
 have hf:=fit_of hv ha ha1
 have h1:=hf.m0;have h2:=hf.m1
 refine ⟨fun r hr=>?_,fun r hr=>?_,by omega,by omega,ha,ha1,hf.len,fun r hr=>?_,hc,hr⟩
 ·
  have h:=right_facts (right_of hv hr)
  exact fairB_iff.2 ⟨h.1,by omega,h.2.2.1,by omega,h.2.2.2.2.1,h.2.2.2.2.2.2.1,h.2.2.2.2.2.2.2⟩
 · have h:=right_facts (right_of hv hr);exact ⟨h.2.1,h.2.2.2.1⟩
 · have h:=right_facts (right_of hv hr);omega
theorem SafeS.schM {w:World} {S:Sch} {b:Option Addr} {c:Nat} (h:SafeS w S b c):SchM w S b c:=SchM.of_valid h.valid (by rw [h.acc];decide) (by rw [h.acc];decide) h.cap h.rul
structure SlkS (w:World) (a:Option Addr) (c:Nat) (L:List Slt):Prop where
 s:SlotS w a L
 ha:(∀ b,a=some b→∃ b' o',b=⟨b',o',none⟩)∧(a=none→L=[])
 cap:L.length≤c
 len:L.length≤40
 bnd:SlotsB 300 L
 dis:DisL L
theorem SlkS.go {w w1:World} {a:Option Addr} {c:Nat} {L:List Slt} (h:SlkS w a c L) (hb:Below w.heap.size w w1):SlkS w1 a c L :=
 ⟨h.s.later hb (Nat.le_refl _),h.ha,h.cap,h.len,h.bnd,h.dis⟩
theorem SlkS.of {w:World} {B:Nat} {a:Option Addr} {n c:Nat} {L:List Slt} (h:SltsG w B (.slice a n c) L) (hl:L.length≤40) (hb:SlotsB 300 L) (hd:DisL L):SlkS w a c L∧n=L.length:=by
 obtain ⟨h1,h2,h3⟩:=h.slotS
 refine ⟨⟨h1,⟨fun b hb=>?_,fun e=>?_⟩,h3,hl,hb,hd⟩,h2⟩
 ·
  obtain ⟨Ls,hr⟩:=h
  rcases hr.own.blk with ⟨e,_⟩ | ⟨g,c2,e,_⟩
  · injection e with e1;rw [e1] at hb;cases hb
  · injection e with e1;rw [e1] at hb;injection hb with hb;exact ⟨g,0,hb.symm⟩
 ·
  obtain ⟨Ls,hr⟩:=h
  rcases hr.own.blk with ⟨_,e2⟩ | ⟨g,c2,e2,_⟩
  · have:=hr.len;rw [e2] at this;exact List.eq_nil_of_length_eq_zero this.symm
  · injection e2 with e1;rw [e] at e1;cases e1
theorem SlkS.take {w:World} {a:Option Addr} {c:Nat} {L:List Slt} (h:SlkS w a c L) (k:Nat):SlkS w a c (L.take k) where
 s
  := fun i hi=>by
  rw [List.length_take] at hi
  obtain ⟨b,o,h1,h2,aa,cc,h3,h4,h5⟩:=h.s i (by omega)
  exact ⟨b,o,h1,h2,aa,cc,by rw [List.getElem_take];exact h3,by rw [List.getElem_take];exact h4,by rw [List.getElem_take];exact h5⟩
 ha:=⟨h.ha.1,fun e=>by rw [h.ha.2 e];simp⟩
 cap:=by rw [List.length_take];have:=h.cap;omega
 len:=by rw [List.length_take];have:=h.len;omega
 bnd:=fun s hs=>h.bnd s (List.mem_of_mem_take hs)
 dis:=fun s hs=>h.dis s (List.mem_of_mem_take hs)
def FnP (R:List Rl) (acc:Int) (L:List Slt) (W:List (List UInt8)) (i:Nat) (w:World) (e:Ending) (w':World):Prop :=
 ∃ a c l,e=.returned (.slice a l.length c)∧OwnG rowFnd w' w.heap.size (.slice a l.length c) l∧FndB R acc L W i l∧Below w.heap.size w w'
def EnP (R:List Rl) (acc:Int) (L:List Slt) (W:List (List UInt8)) (w:World) (e:Ending) (w':World):Prop:=EndsP R acc L W w.heap.size e w'∧Below w.heap.size w w'
theorem cost_bound {N i:Nat} (hN:N≤201) (hi:i≤40):8*N*(i*((8*N+1)*(1000+4*300))+(8*N+1)*(1000+4*300)+2)≤900000000000:=by
 have h1:(8*N+1)*(1000+4*300)≤1609*2200:=Nat.mul_le_mul (by omega) (by decide)
 have h2:i*((8*N+1)*(1000+4*300))≤40*(1609*2200):=Nat.mul_le_mul hi h1
 have h3:8*N*(i*((8*N+1)*(1000+4*300))+(8*N+1)*(1000+4*300)+2)≤1608*(40*(1609*2200)+1609*2200+2):=Nat.mul_le_mul (by omega) (by omega)
 omega
theorem Dict.inc {Ws:List ByteArray} (hd:Dict Ws):(Ws.map bts).Pairwise fun a b=>Op.bytesLess a b=true:=by
 rw [List.pairwise_map]
 refine hd.sorted.imp fun {x y} h=>?_
 unfold ltS at h
 rw [ByteArray.toList_eq,ByteArray.toList_eq] at h
 exact h
section
variable {w:World} {S:Sch} {b aD aL:Option Addr} {cS nD cD cL:Nat} {Ws:List ByteArray} {L:List Slt}
theorem words_l (hS:SchM w S b cS) (hD:AutS w aD nD cD Ws) (hW:Ws.length≤10) (hL:SlkS w aL cL L) :
  Calls Tryz.prog 21 #[.agg #[.int .i64 S.modes,.int .u8 S.acc,.slice b S.rules.length cS],.slice aD nD cD,.slice aL L.length cL] w (FnP S.rules S.acc L (Ws.map bts) L.length w):=by
 have hwf:=words_of hD.dict
 have hsz:∀ x∈Ws,x.size≤20:=fun x hx=>(word_facts (hD.dict.word x hx)).2.1
 have hlen:=hD.len
 have h:=lwords_any S.rules S.modes S.acc b cS (ofF (restAt 0 Ws)) aD cD aL L cL 300 w hS.rul (by have:=hS.len;omega) (fun r hr=>by have:=hS.out r hr;omega) hD.rows hD.big (csOk_of hD.dict)
  (by rw [hwf];omega) (by rw [hwf];exact hsz) (by rw [hwf];exact hD.dict.inc) hL.s (by have:=hL.len;omega) hL.bnd (by decide) (by rw [hwf];exact fun N i hN hi=>cost_bound (by omega) (by have:=hL.len;omega)) hS.a0 hS.a1
 rw [hwf,← hlen] at h
 refine h.mono ?_
 rintro e w' ⟨⟨a,c,l,rfl,h1,h2⟩,hb⟩
 exact ⟨a,c,l,rfl,h1,h2,hb⟩
theorem ends_l (hS:SchM w S b cS) (hD:AutS w aD nD cD Ws) (hW:Ws.length≤10) (hL:SlkS w aL cL L) :
  Calls Tryz.prog 18 #[.agg #[.int .i64 S.modes,.int .u8 S.acc,.slice b S.rules.length cS],.slice aD nD cD,.slice aL L.length cL] w (EnP S.rules S.acc L (Ws.map bts) w):=by
 have hwf:=words_of hD.dict
 have hsz:∀ x∈Ws,x.size≤20:=fun x hx=>(word_facts (hD.dict.word x hx)).2.1
 have hlen:=hD.len
 have h:=ends_any S.rules S.modes S.acc b cS (ofF (restAt 0 Ws)) aD cD aL L cL 300 w hS.rul (by have:=hS.len;omega) (fun r hr=>by have:=hS.out r hr;omega) hD.rows hD.big (csOk_of hD.dict)
  (by rw [hwf];omega) (by rw [hwf];exact hsz) (by rw [hwf];exact hD.dict.inc) hL.s (by have:=hL.len;omega) hL.bnd (by decide) (by rw [hwf];exact fun N i hN hi=>cost_bound (by omega) (by have:=hL.len;omega)) hS.a0 hS.a1
 rw [hwf,← hlen] at h
 exact h
end
theorem typL_bnd (s:ByteArray):SlotsB 300 (typL s):=fun t ht x hx=>by
 unfold typL typB at ht
 obtain ⟨c,_,rfl⟩:=List.mem_map.1 ht
 rw [List.mem_singleton.1 hx]
 exact ⟨Int.le_refl 0,show (0:Int)≤300 by decide⟩
theorem typL_dis (s:ByteArray):DisL (typL s):=fun t ht=>by
 unfold typL typB at ht
 obtain ⟨c,_,rfl⟩:=List.mem_map.1 ht
 exact List.pairwise_singleton _ _
def TypS (s:ByteArray) (v:Value) (w:World):Prop:=∃ a c,v=.slice a s.size c∧SlkS w a c (typL s)
theorem typS_stays (s:ByteArray):Stays (TypS s):=by
 rintro v w w' ⟨a,c,h1,h2⟩ hx
 exact ⟨a,c,h1,h2.go hx⟩
theorem typS_of {s:ByteArray} {w w':World} {e:Ending} (h:TypedP s w e w') (hs:s.size≤40):∃ v,e=.returned v∧TypS s v w':=by
 obtain ⟨a,c,he,hg⟩:=h
 exact ⟨_,he,a,c,rfl,(SlkS.of hg (by rw [typL_len];exact hs) (typL_bnd s) (typL_dis s)).1⟩
def FnS (R:List Rl) (acc:Int) (L:List Slt) (W:List (List UInt8)) (i:Nat) (v:Value) (w:World):Prop:=∃ a c l,v=.slice a l.length c∧FndS w a l∧FndB R acc L W i l∧l.length≤c
theorem fnS_stays (R:List Rl) (acc:Int) (L:List Slt) (W:List (List UInt8)) (i:Nat):Stays (FnS R acc L W i):=by
 rintro v w w' ⟨a,c,l,h1,h2,h3,h4⟩ hx
 exact ⟨a,c,l,h1,h2.kp (Kc.of hx (Nat.le_refl _)),h3,h4⟩
theorem fnS_of {R:List Rl} {acc:Int} {L:List Slt} {W:List (List UInt8)} {i:Nat} {w w':World} {e:Ending} (h:FnP R acc L W i w e w'):∃ v,e=.returned v∧FnS R acc L W i v w'∧Below w.heap.size w w':=by
 obtain ⟨a,c,l,he,h1,h2,hb⟩:=h
 exact ⟨_,he,⟨a,c,l,rfl,h1.fnds.1,h2,h1.fnds.2.2⟩,hb⟩
structure EnR (R:List Rl) (acc:Int) (L:List Slt) (W:List (List UInt8)) (g:Nat) (Ls:List SV) (w:World):Prop where
 own:OwnG rowFnds w 0 (.slice (some ⟨g,0,none⟩) (L.length+1) (L.length+1)) Ls
 len:Ls.length=L.length+1
 ok:∀ (k:Nat) (h:k<Ls.length),∃ l,OwnG rowFnd w 0 (svS Ls[k]) l∧FndB R acc L W k l
theorem EnR.go {R:List Rl} {acc:Int} {L:List Slt} {W:List (List UInt8)} {g:Nat} {Ls:List SV} {w w':World} (h:EnR R acc L W g Ls w) (hb:Below w.heap.size w w'):EnR R acc L W g Ls w' :=
 ⟨h.own.later hb (Nat.le_refl _),h.len,fun k hk=>by obtain ⟨l,h1,h2⟩:=h.ok k hk;exact ⟨l,h1.later hb (Nat.le_refl _),h2⟩⟩
theorem EnR.at {R:List Rl} {acc:Int} {L:List Slt} {W:List (List UInt8)} {g:Nat} {Ls:List SV} {w:World} (h:EnR R acc L W g Ls w) {k:Nat} (hk:k<L.length+1) :
  ∃ a c l,w.cell? ⟨g,k,none⟩=some (.slice a l.length c)∧FndS w a l∧FndB R acc L W k l∧∀ W,(Instr.indexAt 45 (.slice (some ⟨g,0,none⟩) (L.length+1) (L.length+1)) (.int .i64 (k:Int))).run Tryz.prog W=.ok (.pointer (some ⟨g,k,none⟩)) W:=by
 have hkl:k<Ls.length:=by rw [h.len];exact hk
 obtain ⟨l,h1,h2⟩:=h.ok k hkl
 obtain ⟨a,c,he, -, -⟩:=h1.form
 have hcl:=h.own.cell rowFnds_ok hkl (j:=0) (by decide)
 have e1:k*rowFnds.k+0=k:=by show k*1+0=k;omega
 rw [e1] at hcl
 have hcl2:w.cell? ⟨g,k,none⟩=some (svS Ls[k]):=hcl
 rw [he] at hcl2 h1
 exact ⟨a,c,l,hcl2,h1.fnds.1,h2,fun W=>idx_fnds g _ _ k hk W⟩
def EnS (R:List Rl) (acc:Int) (L:List Slt) (W:List (List UInt8)) (v:Value) (w:World):Prop:=∃ g Ls,v=.slice (some ⟨g,0,none⟩) (L.length+1) (L.length+1)∧EnR R acc L W g Ls w
theorem enS_stays (R:List Rl) (acc:Int) (L:List Slt) (W:List (List UInt8)):Stays (EnS R acc L W):=by
 rintro v w w' ⟨g,Ls,h1,h2⟩ hx
 exact ⟨g,Ls,h1,h2.go hx⟩
theorem enS_of {R:List Rl} {acc:Int} {L:List Slt} {W:List (List UInt8)} {w w':World} {e:Ending} (h:EnP R acc L W w e w'):∃ v,e=.returned v∧EnS R acc L W v w'∧Below w.heap.size w w':=by
 obtain ⟨⟨g,Ls,he,h1,h2,h3⟩,hb⟩:=h
 exact ⟨_,he,⟨g,Ls,rfl,h1.mono (Nat.zero_le _),h2,fun k hk=>by obtain ⟨l,h4,h5⟩:=h3 k hk (by omega);exact ⟨l,h4.mono (Nat.zero_le _),h5⟩⟩,hb⟩
end Go.Proofs.YthjmdgejnakcmaaGreatDoor
namespace Go.Proofs.YthjmdgejnakcmaaGreatDoor
open Go.RowKit Go.WideShapes Fl
set_option linter.unusedVariables false
set_option linter.unusedSimpArgs false
theorem ownG_lit {α:Type} {T:RowT α} (hT:T.Ok) {w:World} {B g n:Nat} {cs:Array Value} {L:List α} (h:w.heap[g]? = some (.cells cs T.e (0,0))) (hcs:cs.toList=L.flatMap T.enc) (hB:B≤g) (hn:n=L.length) (hl:n≤1000000):OwnG T w B (.slice (some ⟨g,0,none⟩) n n) L:=by
 subst hn
 have hlen:=flat_len hT L
 have hsz:cs.size=L.length*T.k:=by rw [← Array.length_toList,hcs,hlen]
 refine ⟨hlen,.inr ⟨g,L.length,cs,rfl,hB,h,Nat.le_refl _,by unfold maxLen;omega,hsz,?_⟩⟩
 rw [hcs,List.take_of_length_le (by rw [hlen];exact Nat.le_refl _)]
def sanR:List Rl:=[⟨0,0,⟨#[97]⟩,⟨#[97]⟩,0⟩,⟨0,0,⟨#[98,97]⟩,⟨#[66]⟩,0⟩]
def sanS:Sch:=⟨1,1,sanR⟩
def sanD:List ByteArray:=[⟨#[66]⟩,⟨#[97]⟩,⟨#[97,97]⟩]
def sanL:Slt:=[⟨97,0⟩,⟨98,5⟩]
theorem sanV:Fl.validB sanS=true:=Fl.valid_of (by decide +kernel)
theorem sanDict:Dict sanD:=dict_mk (by decide) (by decide) (by decide)
theorem sanTake:∀ r∈sanR,1≤r.inp.size:=by decide
theorem sanA:fndC sanR 1 (typL ⟨#[98,97]⟩) (sanD.map bts) 2=[(0,0)]:=by decide +kernel
theorem sanB:fndC sanR 1 [sanL,sanL] (sanD.map bts) 2=[(0,5),(2,0)]:=by decide +kernel
theorem sanC0:fndC sanR 1 (typL ⟨#[97,97,98]⟩) (sanD.map bts) 0=[]:=by decide +kernel
theorem sanC1:fndC sanR 1 (typL ⟨#[97,97,98]⟩) (sanD.map bts) 1=[(1,0)]:=by decide +kernel
theorem sanC2:fndC sanR 1 (typL ⟨#[97,97,98]⟩) (sanD.map bts) 2=[(2,0)]:=by decide +kernel
theorem sanC3:fndC sanR 1 (typL ⟨#[97,97,98]⟩) (sanD.map bts) 3=[]:=by decide +kernel
theorem sanV1:validB []=true:=by decide
theorem sanV2:validB [sanL]=true:=by decide
theorem sanV3:validB [[]]=false:=by decide
theorem sanV4:validB [[⟨98,0⟩,⟨97,0⟩]]=false:=by decide
theorem sanV5:validB (List.replicate 41 [])=false:=by decide
theorem slk_row {w:World} {g n:Nat} {cs:Array Value} {Ls:List SV} {L:List Slt} (h:w.heap[g]? = some (.cells cs 53 (0,0))) (hcs:cs.toList=Ls.flatMap rowSlts.enc) (hn:n=Ls.length) (hl:n≤1000000) (hlen:Ls.length=L.length)
  (hel:∀ (k:Nat) (x:SV) (s:Slt),Ls[k]? = some x→L[k]? = some s→OwnG rowCh w 0 (svS x) s):SltsG w 0 (.slice (some ⟨g,0,none⟩) n n) L :=
 ⟨Ls,ownG_lit rowSlts_ok h hcs (Nat.zero_le _) hn hl,hlen,hel⟩
theorem san_bnd2:SlotsB 300 [sanL,sanL]:=by unfold SlotsB;decide
theorem san_dis2:DisL [sanL,sanL]:=by unfold DisL;decide
theorem same_lit (w:World) (D E:List (Nat × Nat)) (a:Option Addr) (c n:Nat) (hD:FndS w a D) (hn:n=E.length) (cs:Array Value) (hcs:cs.toList=E.flatMap rowFnd.enc) (h1:D.length≤100) (h2:E.length≤100) :
  Calls Tryz.prog 20 #[.slice a D.length c,.slice (some ⟨w.heap.size,0,none⟩) n n] (w.alloc (.cells cs 59)) fun e w'=>e=.returned (.bool (decide (D=E)))∧Below w.heap.size w w':=by
 subst hn
 have hx:Ext w (w.alloc (.cells cs 59)):=(Below.refl _ _).alloc (Nat.le_refl _) _
 refine (fsame_any D E a (some ⟨w.heap.size,0,none⟩) c E.length (w.alloc (.cells cs 59)) (hD.kp (Kc.of hx (Nat.le_refl _))) (ownG_lit rowFnd_ok (B:=0) (heap_alloc_new _ _) hcs (Nat.zero_le _) rfl (by omega)).fnds.1 (by omega) (by omega)).mono ?_
 rintro e w' ⟨rfl,hb⟩
 exact ⟨rfl,Ext.trans hx hb⟩
theorem one_el {w:World} {x:SV} {s:Slt} (h:OwnG rowCh w 0 (svS x) s):∀ (k:Nat) (y:SV) (t:Slt),[x][k]? = some y→[s][k]? = some t→OwnG rowCh w 0 (svS y) t:=fun k y t h1 h2=>by
 rcases k with _ | k
 · cases h1;cases h2;exact h
 · simp at h1
theorem val_lit (w:World) (g n:Nat) (Ls:List SV) (L:List Slt) (hg:w.heap.size=g) (hn:n=Ls.length) (hlen:Ls.length=L.length) (cs:Array Value) (hcs:cs.toList=Ls.flatMap rowSlts.enc) (hl:n≤1000)
  (hel:∀ (k:Nat) (x:SV) (s:Slt),Ls[k]? = some x→L[k]? = some s→OwnG rowCh w 0 (svS x) s) :
  Calls Tryz.prog 26 #[.slice (some ⟨g,0,none⟩) n n] (w.alloc (.cells cs 53)) fun e w'=>e=.returned (.bool (validB L))∧Below w.heap.size w w':=by
 subst hg
 have hx:Ext w (w.alloc (.cells cs 53)):=(Below.refl _ _).alloc (Nat.le_refl _) _
 obtain ⟨h1,h2,h3⟩:=(slk_row (heap_alloc_new w (.cells cs 53)) hcs hn (by omega) hlen fun k x s h1 h2=>(hel k x s h1 h2).later hx (Nat.le_refl _)).slotS
 rw [h2]
 refine (lvalid_any L (some ⟨w.heap.size,0,none⟩) L.length _ h1 (by omega)).mono ?_
 rintro e w' ⟨rfl,hb⟩
 exact ⟨rfl,Ext.trans hx hb⟩
theorem make_slts (w:World) (n:Nat) (hn:n≤1000000):∃ w',(Instr.makeSlice 39 (.int .i64 (n:Int)) (.int .i64 (n:Int))).run Tryz.prog w=.ok (.slice (some ⟨w.heap.size,0,none⟩) n n) w'∧OwnG rowSlts w' 0 (.slice (some ⟨w.heap.size,0,none⟩) n n) (List.replicate n ⟨none,0,0⟩)∧Ext w w':=by
 obtain ⟨i0,hi,hz0,hz1,hz2⟩:=info_parts rowSlts_ok.info
 have hb:i0.bytes*n≤64*1000000:=Nat.mul_le_mul (by rw [hz2];exact rowSlts_ok.b) hn
 obtain ⟨w',hrun,r1,r2⟩:=run_make_full (P:=Tryz.prog) w 0 rowSlts.sl rowSlts.e i0 rowSlts.z rowSlts.k rowSlts_ok.und hi hz0 hz1 .i64 .i64 n (by omega) (by unfold maxLen;omega) (Nat.zero_le _)
 refine ⟨w',hrun,?_,⟨r2.os,r2.tape,r2.output,r2.size,fun k hk=>r2.block k hk (by simp)⟩⟩
 unfold OwnG
 rw [List.length_replicate]
 have e:(madeCells rowSlts.z.cells (n*rowSlts.k)).toList=(List.replicate n (⟨none,0,0⟩:SV)).flatMap rowSlts.enc:=by
  rw [flatMap_rep rowSlts ⟨none,0,0⟩ rfl n]
  apply List.ext_getElem
  · simp [madeCells,rowSlts]
  ·
   intro j h2 h3
   simp [madeCells,rowSlts,Nat.mod_one,Value.cells]
 rw [← e]
 exact r1
set_option maxHeartbeats 6400000 in
set_option maxRecDepth 100000 in
theorem
    sanity_any (w:World) (hT:Tab w):Calls Tryz.prog 9 #[] w fun e w'=>e=.returned (.bool true)∧Below w.heap.size w w':=by
 have HT:=Lib.hid hT;clear hT
 go_enter Tryz.func9,Tryz.ntmps9
 go_upto_region 2 with fail
 obtain ⟨w0,hw0⟩:∃ w0,w.alloc (.cells #[.int .i64 0,.int .i64 0,.string ⟨#[97]⟩,.string ⟨#[97]⟩,.int .i64 0,.int .i64 0,.int .i64 0,.string ⟨#[98,97]⟩,.string ⟨#[66]⟩,.int .i64 0] 64)=w0:=⟨_,rfl⟩
 rw [hw0]
 have hx0:Ext w w0:=by rw [← hw0];exact (Below.refl _ _).alloc (Nat.le_refl _) _
 have hz0:w0.heap.size=w.heap.size+1:=by rw [← hw0,World.size_alloc]
 have hro:OwnG rowRul w0 0 (.slice (some ⟨w.heap.size,0,none⟩) 2 2) sanR:=by rw [← hw0];exact ownG_lit rowRul_ok (heap_alloc_new _ _) rfl (Nat.zero_le _) rfl (by decide)
 obtain ⟨w1,hw1⟩:∃ w1,w0.alloc (.cells #[.int .i64 1,.int .u8 1,.slice (some ⟨w.heap.size,0,none⟩) 2 2] 32)=w1:=⟨_,rfl⟩
 rw [hw1]
 have hx1:Ext w0 w1:=by rw [← hw1];exact (Below.refl _ _).alloc (Nat.le_refl _) _
 have HSM:Hid (SchM w1 sanS (some ⟨w.heap.size,0,none⟩) 2):=SchM.of_valid sanV (by decide) (by decide) (by decide) (hro.ruls.1.later hx1 (Nat.le_refl _))
 have HSC:Hid (w1.heap[w.heap.size+1]? = some (.cells #[.int .i64 1,.int .u8 1,.slice (some ⟨w.heap.size,0,none⟩) 2 2] 32 (0,0))):=by
  show _=_
  rw [← hw1,← hz0];exact heap_alloc_new _ _
 have HX1:Hid (Ext w w1):=Ext.trans hx0 hx1
 have HT1:=Lib.hid (HT.out.later HX1.out)
 clear hw0 hw1 hx0 hx1 hro hz0
 obtain ⟨gs,hgs⟩:∃ gs,w.heap.size+1=gs:=⟨_,rfl⟩
 obtain ⟨aR,haR⟩:∃ aR,(some ⟨w.heap.size,0,none⟩:Option Addr)=aR:=⟨_,rfl⟩
 rw [haR] at HSM HSC ⊢
 rw [hgs] at HSC ⊢
 clear hgs haR HT
 go_wp2_with fail
 refine (build_d sanDict (strS_row (heap_alloc_new w1 _) rfl) rfl (Nat.le_refl _) (HT1.out.later ((Below.refl _ _).alloc (Nat.le_refl _) _))).mono ?_
 rintro e w2 ⟨aD,nD,cD,rfl,haut,hb2⟩
 have hx2:Ext w1 w2:=Ext.trans ((Below.refl _ _).alloc (Nat.le_refl _) _) hb2
 have hnd:=haut.small.2
 have hnd0:((nD:Int) == 0)=false:=by rw [beq_eq_false_iff_ne];omega
 have HAU:=Lib.hid haut;have HX2:=Lib.hid (Ext.trans HX1.out hx2)
 have HSM2:=Lib.hid (HSM.out.go hx2)
 have HSC2:=Lib.hid ((hx2.block _ (Array.getElem?_eq_some_iff.1 HSC.out).1).trans HSC.out)
 clear hb2 hx2 haut HSM HSC HX1 HT1
 go_upto_region 6 with fail
 obtain ⟨w3,hw3⟩:∃ w3,w2.alloc (.cells #[.int .u8 97,.int .i64 0,.int .u8 98,.int .i64 5] 55)=w3:=⟨_,rfl⟩
 rw [hw3]
 have HX3:Hid (Ext w2 w3):=by show Ext _ _;rw [← hw3];exact (Below.refl _ _).alloc (Nat.le_refl _) _
 have HSL:Hid (OwnG rowCh w3 0 (.slice (some ⟨w2.heap.size,0,none⟩) 2 2) sanL):=by show OwnG _ _ _ _ _;rw [← hw3];exact ownG_lit rowCh_ok (heap_alloc_new _ _) rfl (Nat.zero_le _) rfl (by decide)
 have HSM3:=Lib.hid (HSM2.out.go HX3.out)
 have HAU3:=Lib.hid (HAU.out.go HX3.out)
 have HSC3:=Lib.hid ((HX3.out.block _ (Array.getElem?_eq_some_iff.1 HSC2.out).1).trans HSC2.out)
 obtain ⟨aL,haL⟩:∃ aL,(some ⟨w2.heap.size,0,none⟩:Option Addr)=aL:=⟨_,rfl⟩
 rw [haL] at HSL ⊢
 clear hw3 haL HSM2 HAU HSC2
 refine wp_region_st (by kernel_rfl) (Vs [fun v _=>v=.agg #[.int .i64 1,.int .u8 1,.slice aR 2 2],fun v _=>v=.slice aD nD cD,TypS ⟨#[98,97]⟩,FnS sanR 1 (typL ⟨#[98,97]⟩) (sanD.map bts) 2,FnS sanR 1 (typL ⟨#[98,97]⟩) (sanD.map bts) 2]) (Xs [Ext,Ext,Ext,Ext,Ext]) (fun fL=>(fun W=>Ext w3 W) ) [0,0,0,7,15] 116 5 (by kernel_rfl) rfl ?hV ?hS ?hop ?hfin ?hlast
 case hV =>
  refine xs_stays (vs_stays (by simp only [List.mem_cons,List.not_mem_nil,or_false,forall_eq_or_imp,forall_eq];exact ⟨stays_const _,stays_const _,typS_stays _,fnS_stays _ _ _ _ _,fnS_stays _ _ _ _ _⟩)) ?_
  exact ⟨.inl rfl,.inl rfl,.inl rfl,.inl rfl,.inl rfl,trivial⟩
 case hS =>
  intro fL hf
  show (fun W=>Ext w3 W)  _
  first | exact Ext.refl _ | exact drew_ext _
 case hop =>
  refine ⟨?_,?_,?c2,?c3,?c4,trivial⟩
  all_goals first | rw [if_neg (by decide)] | rw [if_pos (by decide)]
  all_goals try intro ac W fL hsz hfi hms hdn hS0 hdep hbase hund
  all_goals try have hS:(fun W=>Ext w3 W)  W:=hS0
  all_goals try (
   have hsc:=(Below.block hS gs (Array.getElem?_eq_some_iff.1 HSC3.out).1).trans HSC3.out
   obtain ⟨d0,d1,d2⟩:=sch_cells hsc
   clear hsc)
  all_goals try (have h1:ac.tmps.getD 1 undef=.pointer (some ⟨gs,0,none⟩):=hbase 1 (by kernel_rfl);have hh1:=h1;rw [Array.getD_eq_getD_getElem?] at hh1)
  all_goals try (have h2:ac.tmps.getD 2 undef=.slice aD nD cD:=hbase 2 (by kernel_rfl);have hh2:=h2;rw [Array.getD_eq_getD_getElem?] at hh2)
  all_goals try (have d28:ac.tmps.getD 28 undef=.agg #[.int .i64 1,.int .u8 1,.slice aR 2 2]:=hdep 0 (by decide);have dd28:=d28;rw [Array.getD_eq_getD_getElem?] at dd28)
  all_goals try (have d29:ac.tmps.getD 29 undef=.slice aD nD cD:=hdep 1 (by decide);have dd29:=d29;rw [Array.getD_eq_getD_getElem?] at dd29)
  all_goals try have d30:(TypS ⟨#[98,97]⟩) (ac.tmps.getD 30 undef) W:=hdep 2 (by decide)
  all_goals try have d31:(FnS sanR 1 (typL ⟨#[98,97]⟩) (sanD.map bts) 2) (ac.tmps.getD 31 undef) W:=hdep 3 (by decide)
  all_goals try clear hbase hdep hms hdn hund
  case c2 =>
   have hS1:(fun W=>Ext w3 W)  W:=hS0
   refine opOk_run rfl (.inr ⟨16,#[.string ⟨#[98,97]⟩],W,by (clear hsz hS hS0 hS1 hfi;simp [go_sem,Act.eval, *]),?_⟩)
   refine (ltyped_any ⟨#[98,97]⟩ W (by decide)).mono ?_
   rintro e w' ⟨hp,hb⟩
   obtain ⟨v,rfl,hv⟩:=typS_of hp (by decide)
   exact ⟨_,rfl,⟨hv,hb,Ext.trans hS0 hb⟩⟩
  case c3 =>
   have hS1:(fun W=>Ext w3 W)  W:=hS0
   obtain ⟨at9,ct9,et9,ht9⟩:=d30
   rw [Array.getD_eq_getD_getElem?] at et9
   refine opOk_run rfl (.inr ⟨21,#[.agg #[.int .i64 1,.int .u8 1,.slice aR 2 2],.slice aD nD cD,.slice at9 (⟨#[98,97]⟩:ByteArray).size ct9],W,by (clear hsz hS hS0 hS1 hfi ht9;simp [go_sem,Act.eval, *]),?_⟩)
   have h9:=words_l (HSM3.out.go hS) (HAU3.out.go hS) (by decide) ht9
   rw [typL_len] at h9
   refine h9.mono ?_
   rintro e w' hp
   obtain ⟨v,rfl,hv,hb⟩:=fnS_of hp
   exact ⟨_,rfl,⟨hv,hb,Ext.trans hS0 hb⟩⟩
  case c4 =>
   have hS1:(fun W=>Ext w3 W)  W:=hS0
   refine opOk_run rfl (.inl ⟨_,W,?_,d31,Ext.refl _,hS1⟩)
   clear hsz hS hS0 hS1 hfi;simp [go_sem,Act.eval, *]
  all_goals (refine opOk_run rfl (.inl ⟨_,W,?_,rfl,Ext.refl _,hS0⟩);clear hsz hS hS0 hfi;simp [go_sem,Act.eval, *];done)
 case hlast =>
  intro h;exact absurd rfl h
 case hfin =>
  intro _ ac W hsz hdf fL hf hS0 hv hbase
  have hS:(fun W=>Ext w3 W)  W:=hS0
  clear hS0
  obtain ⟨sx,hsx,hsA⟩:=act_puts [28,29,30,31,5] (by kernel_rfl) hsz hdf hbase
  have hp5:FnS sanR 1 (typL ⟨#[98,97]⟩) (sanD.map bts) 2 (ac.tmps.getD 5 undef) W:=hv 4 (by decide)
  obtain ⟨a5,c5,l5,e5v,hf5,hk5,hc5⟩:=hp5
  obtain rfl:=hk5.eqC sanTake sanA
  have e5:sx 5=.slice a5 1 c5:=(hsx 5).trans e5v
  have HF5:=Lib.hid hf5
  clear e5v hf5 hk5 hc5
  rw [hsA]
  simp only [List.foldl]
  simp only [Act.put,List.setIfInBounds_toArray,List.set_cons_succ,List.set_cons_zero]
  clear hsA hsx hv hbase hsz hdf hf
  have HS6:Hid (Ext w3 W):=hS
  rw [e5]
  clear hS
  obtain ⟨w4,hw4⟩:∃ w4:World,w4=W:=⟨W,rfl⟩
  rw [← hw4] at HS6 HF5 ⊢
  clear hw4
  have HSM4:=Lib.hid (HSM3.out.go HS6.out)
  have HAU4:=Lib.hid (HAU3.out.go HS6.out)
  have HSC4:=Lib.hid ((Below.block HS6.out gs (Array.getElem?_eq_some_iff.1 HSC3.out).1).trans HSC3.out)
  have HSL4:=Lib.hid (HSL.out.later HS6.out (Nat.le_refl _))
  have HW4:Hid (Ext w w4):=Ext.trans (Ext.trans HX2.out HX3.out) HS6.out
  obtain ⟨d0,d1,d2⟩:=sch_cells HSC4.out
  clear HSM3 HAU3 HSC3 HS6 HX3
  go_wp2_with fail
  obtain ⟨w5,hw5⟩:∃ w5,w4.alloc (.cells #[.slice aL 2 2,.slice aL 2 2] 53)=w5:=⟨_,rfl⟩
  rw [hw5]
  have HX5:Hid (Ext w4 w5):=by show Ext _ _;rw [← hw5];exact (Below.refl _ _).alloc (Nat.le_refl _) _
  have HS5:Hid (SlkS w5 (some ⟨w4.heap.size,0,none⟩) 2 [sanL,sanL]):=by
   refine (SlkS.of (slk_row (Ls:=[⟨aL,2,2⟩,⟨aL,2,2⟩]) (L:=[sanL,sanL]) (g:=w4.heap.size) (n:=2) (by rw [← hw5];exact heap_alloc_new _ _) rfl rfl (by decide) rfl fun k x s h1 h2=>?_) (by decide) san_bnd2 san_dis2).1
   have hsl:=HSL4.out.later HX5.out (Nat.le_refl _)
   rcases k with _ | _ | k
   · cases h1;cases h2;exact hsl
   · cases h1;cases h2;exact hsl
   · simp at h1
  clear hw5 d0 d1 d2
  refine (words_l (S:=sanS) (HSM4.out.go HX5.out) (HAU4.out.go HX5.out) (by decide) HS5.out).mono ?_
  rintro e w6 hp
  obtain ⟨v6,rfl,⟨a6,c6,l6,rfl,hf6,hk6,hc6⟩,hb6⟩:=fnS_of hp
  obtain rfl:=hk6.eqC sanTake sanB
  have HX6:Hid (Ext w4 w6):=Ext.trans HX5.out hb6
  have HF6:=Lib.hid hf6
  have HF5b:=Lib.hid (HF5.out.kp (Kc.of HX6.out (Nat.le_refl _)))
  have HSM6:=Lib.hid (HSM4.out.go HX6.out)
  have HAU6:=Lib.hid (HAU4.out.go HX6.out)
  have HSC6:=Lib.hid ((Below.block HX6.out gs (Array.getElem?_eq_some_iff.1 HSC4.out).1).trans HSC4.out)
  have HSL6:=Lib.hid (HSL4.out.later HX6.out (Nat.le_refl _))
  have HW6:Hid (Ext w w6):=Ext.trans HW4.out HX6.out
  clear hf6 hk6 hc6 hb6 hp HSM4 HAU4 HSC4 HSL4 HX5 HS5 HX6 HF5
  go_upto_region 8 with fail
  refine wp_region_st (by kernel_rfl) (Vs [fun v _=>v=.agg #[.int .i64 1,.int .u8 1,.slice aR 2 2],fun v _=>v=.slice aD nD cD,TypS ⟨#[97,97,98]⟩,EnS sanR 1 (typL ⟨#[97,97,98]⟩) (sanD.map bts),EnS sanR 1 (typL ⟨#[97,97,98]⟩) (sanD.map bts)]) (Xs [Ext,Ext,Ext,Ext,Ext]) (fun fL=>(fun W=>Ext w6 W) ) [0,0,0,7,15] 116 5 (by kernel_rfl) rfl ?hV ?hS ?hop ?hfin ?hlast
  case hV =>
   refine xs_stays (vs_stays (by simp only [List.mem_cons,List.not_mem_nil,or_false,forall_eq_or_imp,forall_eq];exact ⟨stays_const _,stays_const _,typS_stays _,enS_stays _ _ _ _,enS_stays _ _ _ _⟩)) ?_
   exact ⟨.inl rfl,.inl rfl,.inl rfl,.inl rfl,.inl rfl,trivial⟩
  case hS =>
   intro fL hf
   show (fun W=>Ext w6 W)  _
   first | exact Ext.refl _ | exact drew_ext _
  case hop =>
   refine ⟨?_,?_,?c2,?c3,?c4,trivial⟩
   all_goals first | rw [if_neg (by decide)] | rw [if_pos (by decide)]
   all_goals try intro ac W fL hsz hfi hms hdn hS0 hdep hbase hund
   all_goals try have hS:(fun W=>Ext w6 W)  W:=hS0
   all_goals try (
    have hsc:=(Below.block hS gs (Array.getElem?_eq_some_iff.1 HSC6.out).1).trans HSC6.out
    obtain ⟨d0,d1,d2⟩:=sch_cells hsc
    clear hsc)
   all_goals try (have h1:ac.tmps.getD 1 undef=.pointer (some ⟨gs,0,none⟩):=hbase 1 (by kernel_rfl);have hh1:=h1;rw [Array.getD_eq_getD_getElem?] at hh1)
   all_goals try (have h2:ac.tmps.getD 2 undef=.slice aD nD cD:=hbase 2 (by kernel_rfl);have hh2:=h2;rw [Array.getD_eq_getD_getElem?] at hh2)
   all_goals try (have d38:ac.tmps.getD 38 undef=.agg #[.int .i64 1,.int .u8 1,.slice aR 2 2]:=hdep 0 (by decide);have dd38:=d38;rw [Array.getD_eq_getD_getElem?] at dd38)
   all_goals try (have d39:ac.tmps.getD 39 undef=.slice aD nD cD:=hdep 1 (by decide);have dd39:=d39;rw [Array.getD_eq_getD_getElem?] at dd39)
   all_goals try have d40:(TypS ⟨#[97,97,98]⟩) (ac.tmps.getD 40 undef) W:=hdep 2 (by decide)
   all_goals try have d41:(EnS sanR 1 (typL ⟨#[97,97,98]⟩) (sanD.map bts)) (ac.tmps.getD 41 undef) W:=hdep 3 (by decide)
   all_goals try clear hbase hdep hms hdn hund
   case c2 =>
    have hS1:(fun W=>Ext w6 W)  W:=hS0
    refine opOk_run rfl (.inr ⟨16,#[.string ⟨#[97,97,98]⟩],W,by (clear hsz hS hS0 hS1 hfi;simp [go_sem,Act.eval, *]),?_⟩)
    refine (ltyped_any ⟨#[97,97,98]⟩ W (by decide)).mono ?_
    rintro e w' ⟨hp,hb⟩
    obtain ⟨v,rfl,hv⟩:=typS_of hp (by decide)
    exact ⟨_,rfl,⟨hv,hb,Ext.trans hS0 hb⟩⟩
   case c3 =>
    have hS1:(fun W=>Ext w6 W)  W:=hS0
    obtain ⟨at9,ct9,et9,ht9⟩:=d40
    rw [Array.getD_eq_getD_getElem?] at et9
    refine opOk_run rfl (.inr ⟨18,#[.agg #[.int .i64 1,.int .u8 1,.slice aR 2 2],.slice aD nD cD,.slice at9 (⟨#[97,97,98]⟩:ByteArray).size ct9],W,by (clear hsz hS hS0 hS1 hfi ht9;simp [go_sem,Act.eval, *]),?_⟩)
    have h9:=ends_l (HSM6.out.go hS) (HAU6.out.go hS) (by decide) ht9
    rw [typL_len] at h9
    refine h9.mono ?_
    rintro e w' hp
    obtain ⟨v,rfl,hv,hb⟩:=enS_of hp
    exact ⟨_,rfl,⟨hv,hb,Ext.trans hS0 hb⟩⟩
   case c4 =>
    have hS1:(fun W=>Ext w6 W)  W:=hS0
    refine opOk_run rfl (.inl ⟨_,W,?_,d41,Ext.refl _,hS1⟩)
    clear hsz hS hS0 hS1 hfi;simp [go_sem,Act.eval, *]
   all_goals (refine opOk_run rfl (.inl ⟨_,W,?_,rfl,Ext.refl _,hS0⟩);clear hsz hS hS0 hfi;simp [go_sem,Act.eval, *];done)
  case hlast =>
   intro h;exact absurd rfl h
  case hfin =>
   intro _ ac W hsz hdf fL hf hS0 hv hbase
   have hS:(fun W=>Ext w6 W)  W:=hS0
   clear hS0
   obtain ⟨sx,hsx,hsA⟩:=act_puts [38,39,40,41,7] (by kernel_rfl) hsz hdf hbase
   have hp7:EnS sanR 1 (typL ⟨#[97,97,98]⟩) (sanD.map bts) (ac.tmps.getD 7 undef) W:=hv 4 (by decide)
   obtain ⟨g7,Ls7,e7v,hen7⟩:=hp7
   have e7:sx 7=.slice (some ⟨g7,0,none⟩) 4 4:=(hsx 7).trans e7v
   have HEN:=Lib.hid hen7
   clear e7v hen7
   rw [hsA]
   simp only [List.foldl]
   simp only [Act.put,List.setIfInBounds_toArray,List.set_cons_succ,List.set_cons_zero]
   clear hsA hsx hv hbase hsz hdf hf
   have HS8:Hid (Ext w6 W):=hS
   rw [e7]
   clear hS
   obtain ⟨w7,hw7⟩:∃ w7:World,w7=W:=⟨W,rfl⟩
   rw [← hw7] at HS8 HEN ⊢
   clear hw7
   have HW7:Hid (Ext w w7):=Ext.trans HW6.out HS8.out
   have HFA:Hid (∀ W,Ext w7 W→FndS W a5 [(0,0)]):=fun W hx=>HF5b.out.kp (Kc.of (Ext.trans HS8.out hx) (Nat.le_refl _))
   have HFB:Hid (∀ W,Ext w7 W→FndS W a6 [(0,5),(2,0)]):=fun W hx=>HF6.out.kp (Kc.of (Ext.trans HS8.out hx) (Nat.le_refl _))
   have HSLL:Hid (∀ W,Ext w7 W→OwnG rowCh W 0 (.slice aL 2 2) sanL):=fun W hx=>HSL6.out.later (Ext.trans HS8.out hx) (Nat.le_refl _)
   obtain ⟨x0,y0,l0,hc0,hf0,hk0,hi0⟩:=HEN.out.at (k:=0) (by decide)
   obtain ⟨x1,y1,l1,hc1,hf1,hk1,hi1⟩:=HEN.out.at (k:=1) (by decide)
   obtain ⟨x2,y2,l2,hc2,hf2,hk2,hi2⟩:=HEN.out.at (k:=2) (by decide)
   obtain ⟨x3,y3,l3,hc3,hf3,hk3,hi3⟩:=HEN.out.at (k:=3) (by decide)
   obtain rfl:=hk0.eqC sanTake sanC0
   obtain rfl:=hk1.eqC sanTake sanC1
   obtain rfl:=hk2.eqC sanTake sanC2
   obtain rfl:=hk3.eqC sanTake sanC3
   have hg7:g7<w7.heap.size:=HEN.out.own.lt _ rfl
   have HC:Hid (∀ W,Ext w7 W→W.cell? ⟨g7,0,none⟩=some (.slice x0 0 y0)∧W.cell? ⟨g7,1,none⟩=some (.slice x1 1 y1)∧W.cell? ⟨g7,2,none⟩=some (.slice x2 1 y2)∧W.cell? ⟨g7,3,none⟩=some (.slice x3 0 y3)):=fun W hx =>
    ⟨(Below.cell hx (p:=⟨g7,0,none⟩) hg7).trans hc0,(Below.cell hx (p:=⟨g7,1,none⟩) hg7).trans hc1,(Below.cell hx (p:=⟨g7,2,none⟩) hg7).trans hc2,(Below.cell hx (p:=⟨g7,3,none⟩) hg7).trans hc3⟩
   have HF1:Hid (∀ W,Ext w7 W→FndS W x1 [(1,0)]):=fun W hx=>hf1.kp (Kc.of hx (Nat.le_refl _))
   have HF2:Hid (∀ W,Ext w7 W→FndS W x2 [(2,0)]):=fun W hx=>hf2.kp (Kc.of hx (Nat.le_refl _))
   have hi0':∀ W,(Instr.indexAt 45 (.slice (some ⟨g7,0,none⟩) 4 4) (.int .i64 0)).run Tryz.prog W=.ok (.pointer (some ⟨g7,0,none⟩)) W:=hi0
   have hi1':∀ W,(Instr.indexAt 45 (.slice (some ⟨g7,0,none⟩) 4 4) (.int .i64 1)).run Tryz.prog W=.ok (.pointer (some ⟨g7,1,none⟩)) W:=hi1
   have hi2':∀ W,(Instr.indexAt 45 (.slice (some ⟨g7,0,none⟩) 4 4) (.int .i64 2)).run Tryz.prog W=.ok (.pointer (some ⟨g7,2,none⟩)) W:=hi2
   have hi3':∀ W,(Instr.indexAt 45 (.slice (some ⟨g7,0,none⟩) 4 4) (.int .i64 3)).run Tryz.prog W=.ok (.pointer (some ⟨g7,3,none⟩)) W:=hi3
   clear hc0 hc1 hc2 hc3 hf0 hf1 hf2 hf3 hk0 hk1 hk2 hk3 hi0 hi1 hi2 hi3 HEN HSM6 HAU6 HSC6 HSL6 HF5b HF6 HS8 HW6 HX2 hg7
   obtain ⟨q0,q1,q2,q3⟩:=HC.out w7 (Ext.refl _)
   go_wp2_with fail
   clear q0 q1 q2 q3
   refine (same_lit w7 [(1,0)] [(1,0)] x1 y1 1 (HF1.out w7 (Ext.refl _)) rfl _ rfl (by decide) (by decide)).mono ?_
   rintro e w8 ⟨rfl,hb8⟩
   have HX8:Hid (Ext w7 w8):=hb8
   clear hb8
   obtain ⟨q0,q1,q2,q3⟩:=HC.out w8 HX8.out
   go_wp2_with fail
   clear q0 q1 q2 q3
   refine (same_lit w8 [(2,0)] [(2,0)] x2 y2 1 (HF2.out w8 HX8.out) rfl _ rfl (by decide) (by decide)).mono ?_
   rintro e w9 ⟨rfl,hb9⟩
   have HX9:Hid (Ext w7 w9):=Ext.trans HX8.out hb9
   clear hb9
   obtain ⟨q0,q1,q2,q3⟩:=HC.out w9 HX9.out
   go_wp2_with fail
   clear q0 q1 q2 q3 hi0' hi1' hi2' hi3'
   refine (same_lit w9 [(0,0)] [(0,0)] a5 c5 1 (HFA.out w9 HX9.out) rfl _ rfl (by decide) (by decide)).mono ?_
   rintro e w10 ⟨rfl,hb10⟩
   have HX10:Hid (Ext w7 w10):=Ext.trans HX9.out hb10
   clear hb10
   go_wp2_with fail
   refine (same_lit w10 [(0,5),(2,0)] [(0,5),(2,0)] a6 c6 2 (HFB.out w10 HX10.out) rfl _ rfl (by decide) (by decide)).mono ?_
   rintro e w11 ⟨rfl,hb11⟩
   have HX11:Hid (Ext w7 w11):=Ext.trans HX10.out hb11
   clear hb11
   go_wp2_with fail
   refine (lvalid_any [] none 0 w11 (fun k hk=>absurd hk (Nat.not_lt_zero _)) (by decide)).mono ?_
   rw [sanV1]
   rintro e w12 ⟨rfl,hb12⟩
   have HX12:Hid (Ext w7 w12):=Ext.trans HX11.out hb12
   clear hb12
   go_wp2_with fail
   refine (val_lit w12 w12.heap.size 1 [⟨aL,2,2⟩] [sanL] rfl rfl rfl _ rfl (by decide) (one_el (HSLL.out w12 HX12.out))).mono ?_
   rw [sanV2]
   rintro e w13 ⟨rfl,hb13⟩
   have HX13:Hid (Ext w7 w13):=Ext.trans HX12.out hb13
   clear hb13
   go_wp2_with fail
   refine (val_lit (w13.alloc (.cells #[] 55)) (w13.heap.size+1) 1 [⟨some ⟨w13.heap.size,0,none⟩,0,0⟩] [[]] (World.size_alloc ..) rfl rfl _ rfl (by decide) (one_el (OwnG.empty rowCh (heap_alloc_new _ _) (Nat.zero_le _)))).mono ?_
   rw [sanV3]
   rintro e w14 ⟨rfl,hb14⟩
   have HX14:Hid (Ext w7 w14):=Ext.trans (Ext.trans HX13.out ((Below.refl _ _).alloc (Nat.le_refl _) _)) hb14
   clear hb14
   go_wp2_with fail
   refine (val_lit (w14.alloc (.cells #[.int .u8 98,.int .i64 0,.int .u8 97,.int .i64 0] 55)) (w14.heap.size+1) 1 [⟨some ⟨w14.heap.size,0,none⟩,2,2⟩] [[⟨98,0⟩,⟨97,0⟩]] (World.size_alloc ..) rfl rfl _ rfl (by decide) (one_el (ownG_lit rowCh_ok (heap_alloc_new _ _) rfl (Nat.zero_le _) rfl (show (2:Nat)≤1000000 by decide)))).mono ?_
   rw [sanV4]
   rintro e w15 ⟨rfl,hb15⟩
   have HX15:Hid (Ext w7 w15):=Ext.trans (Ext.trans HX14.out ((Below.refl _ _).alloc (Nat.le_refl _) _)) hb15
   clear hb15
   obtain ⟨w16,hrun,hown16,hb16⟩:=make_slts w15 41 (by decide)
   have HO16:=Lib.hid hown16
   have HX16:Hid (Ext w7 w16):=Ext.trans HX15.out hb16
   have hrun2:(Instr.makeSlice 39 (.int .i64 41) (.int .i64 41)).run Tryz.prog w15=.ok (.slice (some ⟨w15.heap.size,0,none⟩) 41 41) w16:=hrun
   clear hown16 hb16 hrun
   go_wp2_with fail
   clear hrun2
   have hss:SltsG w16 0 (.slice (some ⟨w15.heap.size,0,none⟩) 41 41) (List.replicate 41 []):=⟨_,HO16.out,rfl,fun k x s h1 h2=>by
    have h3:=List.mem_of_getElem? h1
    have h4:=List.mem_of_getElem? h2
    rw [List.eq_of_mem_replicate h3,List.eq_of_mem_replicate h4]
    exact OwnG.nil _ _ _⟩
   have hv:=lvalid_any (List.replicate 41 []) (some ⟨w15.heap.size,0,none⟩) 41 w16 hss.slotS.1 (by rw [List.length_replicate];decide)
   rw [List.length_replicate,sanV5] at hv
   refine hv.mono ?_
   rintro e w17 ⟨rfl,hb17⟩
   have HX17:Hid (Ext w7 w17):=Ext.trans HX16.out hb17
   clear hb17
   go_wp2_with fail
   go_ret
   exact ⟨rfl,Ext.trans HW7.out HX17.out⟩
end Go.Proofs.YthjmdgejnakcmaaGreatDoor
