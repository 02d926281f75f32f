/- What further laws need besides. -/
import Derived.Test.YthjmdgejnakcmaaGreatDoorMX1
import Derived.Test.YthjmdgejnakcmaaGreatDoorMF1
import Derived.Test.YthjmdgejnakcmaaGreatDoorMK1
import Derived.Test.YthjmdgejnakcmaaGreatDoorMK5
import Derived.Test.YthjmdgejnakcmaaGreatDoorMK6
import Derived.Test.YthjmdgejnakcmaaGreatDoorMD1
import Derived.Test.YthjmdgejnakcmaaGreatDoorMD6
import Derived.Test.YthjmdgejnakcmaaGreatDoorMF4
import Derived.Test.YthjmdgejnakcmaaGreatDoorMF5
import Derived.Test.YthjmdgejnakcmaaGreatDoorMK7
namespace Go.Proofs.YthjmdgejnakcmaaGreatDoor
open Go.RowKit Fl
set_option linter.unusedVariables false
set_option linter.unusedSimpArgs false
theorem FndOk.costs {R:List Rl} {acc:Int} {L:List Slt} {W:List (List UInt8)} {i:Nat} {l:List (Nat × Nat)} (h:FndOk R acc L W i l) {k:Nat} (hk:k<W.length) {d:Nat} (hd:Whole R acc L i W[k] d):∃ c,(k,c)∈l∧c≤d:=by
 obtain ⟨c,hc⟩:=least_ex ⟨d,hd⟩
 exact ⟨c,(h.mem k c).2 ⟨hk,hc⟩,hc.2 d hd⟩
end Go.Proofs.YthjmdgejnakcmaaGreatDoor
namespace Go.Proofs.YthjmdgejnakcmaaGreatDoor
open Go.RowKit Go.WideShapes Fl
set_option linter.unusedVariables false
set_option linter.unusedSimpArgs false
set_option maxHeartbeats 6400000 in
set_option maxRecDepth 100000 in
theorem
    rtyped_any (s:ByteArray) (w:World) (hs:s.size≤1000000) :
  Calls Tryz.prog 15 #[.string s] w fun e w'=>TypedP s w e w'∧Below w.heap.size w w':=by
 go_enter Tryz.func15,Tryz.ntmps15
 go_wp2_with fail
 have HS0:Hid (SltsR (w.alloc (.cells #[] 53)) w.heap.size (.slice (some ⟨w.heap.size,0,none⟩) 0 0) [] []):=⟨OwnG.empty rowSlts (heap_alloc_new _ _) (Nat.le_refl _),rfl,fun k x s h=>by simp at h⟩
 have HB0:Hid (Below w.heap.size w (w.alloc (.cells #[] 53))):=(Below.refl _ _).alloc (Nat.le_refl _) _
 go_loopg [3,4] s.size (fun g v3 v4 wr=>∃ i:Nat,v4=.int .i64 (i:Int)∧i≤s.size∧g=s.size - i∧SltsG wr w.heap.size v3 ((typL s).take i)∧Below w.heap.size w wr)
 case atStart=>exact ⟨0,rfl,Nat.zero_le _,rfl,⟨_,HS0.out⟩,HB0.out⟩
 case round =>
  clear HS0 HB0
  obtain ⟨i,rfl,hi,hgk,⟨Ls,hq⟩,hb⟩:=hrel
  obtain ⟨a3,c3,hv3, -, -⟩:=hq.own.form
  subst hv3
  have HQ:=Lib.hid hq;have HGK:=Lib.hid hgk;have HB:=Lib.hid hb
  have hll:Ls.length=i:=by rw [hq.len,List.length_take,typL_len];omega
  have HLL:=Lib.hid hll
  clear hq hgk hb hll
  by_cases hlt:i<s.size
  ·
   have HN:Hid ((typL s).take (i+1)=(typL s).take i ++ [[⟨s[i],0⟩]]):=by
    show _=_
    have h:=List.getElem?_eq_some_iff.1 (typL_get hlt)
    obtain ⟨h1,h2⟩:=h
    rw [List.take_succ_eq_append_getElem h1,h2]
   go_wp2_with (at_builtin;go_loud (refine wpList_append_g (v:=.slice a3 Ls.length c3) rowSlts_ok rfl _ _ rfl rfl ((HQ.out.own.later ((Below.refl _ _).alloc (Nat.le_refl _) _) (Nat.le_refl _)).later ((Below.refl _ _).alloc (Nat.le_refl _) _) (Nat.le_refl _)) ⟨wr.heap.size+1,0,none⟩ 1 [⟨some ⟨wr.heap.size,0,none⟩,1,1⟩] (by simp [go_sem,Act.eval]) (cells_built (by have h:=heap_alloc_new (wr.alloc (.cells #[.int .u8 (s[i].toNat:Int),.int .i64 0] 55)) (.cells #[.slice (some ⟨wr.heap.size,0,none⟩) 1 1] 53);rw [World.size_alloc] at h;exact h)) (by have:=HLL.out;simp only [List.length_singleton];omega) (by have:=HB.out.size;simp only [World.size_alloc];omega) ?_);intro v16 w16 hown16 hgrow16 hat16;have HO16:=Lib.hid hown16;have HG16:=Lib.hid hgrow16;clear hown16 hgrow16 hat16)
   go_roundg (s.size - (i+1))
   case measure=>have:=HGK.out;omega
   case rel =>
    obtain ⟨wa,hwa⟩:∃ wa,wr.alloc (.cells #[.int .u8 (s[i].toNat:Int),.int .i64 0] 55)=wa:=⟨_,rfl⟩
    have hxa:Ext wr wa:=by rw [← hwa];exact (Below.refl _ _).alloc (Nat.le_refl _) _
    have hga:wa.heap[wr.heap.size]? = some (.cells #[.int .u8 (s[i].toNat:Int),.int .i64 0] 55 (0,0)):=by rw [← hwa];exact heap_alloc_new _ _
    have HG16:=HG16.out
    rw [hwa] at HG16
    obtain ⟨wb,hwb⟩:∃ wb,wa.alloc (.cells #[.slice (some ⟨wr.heap.size,0,none⟩) 1 1] 53)=wb:=⟨_,rfl⟩
    have hxb:Ext wa wb:=by rw [← hwb];exact (Below.refl _ _).alloc (Nat.le_refl _) _
    rw [hwb] at HG16
    have hxc:Ext wr wb:=Ext.trans hxa hxb
    have hgb:=(hxb.block _ (Array.getElem?_eq_some_iff.1 hga).1).trans hga
    have hx16:ElS wb ⟨some ⟨wr.heap.size,0,none⟩,1,1⟩ [⟨s[i],0⟩]:=ElS.of (ownCh_one hgb (Nat.le_refl _))
    have hq16:=SltsR.push (HQ.out.later hxc (Nat.le_refl _)) HO16.out HG16 hx16
    rw [← HN.out] at hq16
    exact ⟨i+1,by go_num,by omega,rfl,⟨_,hq16⟩,(HB.out.trans (Below.mono hxc HB.out.size)).grown HG16 (by have:=HB.out.size;have:=hxc.size;omega) fun q hq=>HQ.out.own.ge q hq⟩
  ·
   have hall:(typL s).take i=typL s:=List.take_of_length_le (by rw [typL_len];omega)
   obtain rfl:i=s.size:=by omega
   have HALL:=Lib.hid hall
   clear hall
   go_wp2_with fail
   go_ret
   have h:=HQ.out
   rw [HALL.out] at h
   have hl2:=HLL.out
   rw [hl2] at h ⊢
   exact ⟨⟨_,_,rfl,_,h⟩,HB.out⟩
end Go.Proofs.YthjmdgejnakcmaaGreatDoor
namespace Go.Proofs.YthjmdgejnakcmaaGreatDoor
open Go.RowKit Go.WideShapes Fl
set_option linter.unusedVariables false
set_option linter.unusedSimpArgs false
def costO:Option Nat→Int
 | none=>1000000000
 | some c=>(c:Int)
theorem letC_snoc {s:Slt} {x:Ch} {c:UInt8} (hd:(s ++ [x]).Pairwise fun a b=>a.key≠b.key):letC (s ++ [x]) c=if x.key=c then some x.cost.toNat else letC s c:=by
 unfold letC
 rw [List.find?_append]
 by_cases hx:x.key=c
 ·
  rw [if_pos hx]
  have hn:s.find? (fun h=>h.key == c)=none:=by
   rw [List.find?_eq_none]
   intro y hy e
   have e2:y.key=c:=by simpa using e
   exact (List.pairwise_append.1 hd).2.2 y hy x (by simp) (by rw [e2,hx])
  rw [hn]
  simp [hx]
 ·
  rw [if_neg hx]
  simp [hx]
set_option maxHeartbeats 400000 in
theorem far_any (w:World):Calls Tryz.prog 38 #[] w fun e w'=>e=.returned (.int .i64 1000000000)∧w=w':=by
 go_enter Tryz.func38,Tryz.ntmps38
 go_wp2
 go_ret
 exact ⟨rfl,rfl⟩
set_option maxHeartbeats 3200000 in
set_option maxRecDepth 100000 in
theorem
    letters_ref_any (C:Nat) (L:List Slt) (s:ByteArray) (a:Option Addr) (cap:Nat) (w:World) (hX:SlotS w a L) (hl:L.length≤9223372036854775807) (hB:SlotsB C L) (hC:C≤1000000) (hD:DisL L) (hs:s.size≤100) :
  Calls Tryz.prog 22 #[.slice a L.length cap,.string s] w fun e w'=>e=.returned (.int .i64 (costO (letsC L (bts s))))∧Below w.heap.size w w':=by
 have HX:=Lib.hid hX;have HBD:=Lib.hid hB;have HD:=Lib.hid hD
 clear hX hB hD
 by_cases hlt0:L.length<s.size
 ·
  have hI:(L.length:Int)<(s.size:Int):=by omega
  have HR:Hid (letsC L (bts s)=none):=by
   show _=_
   cases e:letsC L (bts s) with
   | none=>rfl
   | some c=>have:=letsC_len e;rw [bts_len] at this;omega
  go_enter Tryz.func22,Tryz.ntmps22
  go_wp2_with fail
  refine (far_any w).mono ?_
  rintro e w1 ⟨rfl,rfl⟩
  go_wp2_with fail
  go_ret
  exact ⟨by rw [HR.out];rfl,Below.refl _ _⟩
 have hI:¬ (L.length:Int)<(s.size:Int):=by omega
 go_enter Tryz.func22,Tryz.ntmps22
 go_wp2_with fail
 go_loopg [5,6] s.size (fun g v5 v6 wr=>∃ i sum:Nat,v5=.int .i64 (sum:Int)∧v6=.int .i64 (i:Int)∧i≤s.size∧g=s.size - i∧sum≤i*C∧letsC L (bts s)=(letsC (L.drop i) ((bts s).drop i)).map (sum+·)∧Below w.heap.size w wr)
 case atStart=>exact ⟨0,0,rfl,rfl,Nat.zero_le _,rfl,Nat.zero_le _,by simp,Below.refl _ _⟩
 case round =>
  obtain ⟨i,sum,rfl,rfl,hi,hgk,hsum,hls,hB⟩:=hrel
  have HB:=Lib.hid hB;have HGK:=Lib.hid hgk;have HLS:=Lib.hid hls;have HSUM:=Lib.hid hsum
  clear hB hgk hls hsum
  by_cases hlt:i<s.size
  ·
   have hltL:i<L.length:=by omega
   obtain ⟨b1,o1,ha1,hb1,aa,cc,q0,hle,harc⟩:=(HX.out.later HB.out (Nat.le_refl _)).at hltL
   have hi1:=idx_slots a b1 o1 L.length cap i ha1 hltL
   have HLS2:Hid (letsC L (bts s)=match letC L[i] s[i] with | none=>none | some x=>(letsC (L.drop (i+1)) ((bts s).drop (i+1))).map (sum+x+·)):=by
    show _=_
    have h1:L.drop i=L[i] :: L.drop (i+1):=List.drop_eq_getElem_cons hltL
    have h2:(bts s).drop i=s[i] :: (bts s).drop (i+1):=List.drop_eq_getElem_cons (by rw [bts_len];exact hlt)
    rw [HLS.out,h1,h2]
    simp only [letsC]
    cases letC L[i] s[i] with
    | none=>rfl
    | some x =>
     simp only [Option.map_map]
     congr 1
     funext y
     simp only [Function.comp]
     omega
   have hsb:=HBD.out L[i] (List.getElem_mem hltL)
   have hsd:=HD.out L[i] (List.getElem_mem hltL)
   obtain ⟨t,ht⟩:∃ t,L[i]=t:=⟨_,rfl⟩
   rw [ht] at q0 hle harc HLS2 hsb hsd
   have HQ0:=Lib.hid q0;have HARC:=Lib.hid harc;have HSB:=Lib.hid hsb;have HSD:=Lib.hid hsd
   clear ha1 ht harc hsb hsd HLS
   go_wp2_with fail
   refine (far_any _).mono ?_
   rintro e w1 ⟨rfl,rfl⟩
   go_wp2_with fail
   clear q0
   obtain ⟨wo,hwo⟩:∃ wo:World,wo=wr:=⟨wr,rfl⟩
   subst hwo
   go_loopg [7,8] t.length (fun g v7 v8 wt=>∃ k:Nat,v7=.int .i64 (costO (letC (t.take k) s[i]))∧v8=.int .i64 (k:Int)∧k≤t.length∧g=t.length - k∧Below wo.heap.size wo wt)
   case atStart=>exact ⟨0,rfl,rfl,Nat.zero_le _,rfl,Below.refl _ _⟩
   case round =>
    obtain ⟨k,rfl,rfl,hk,hgk,hb⟩:=hrel
    have HB2:=Lib.hid hb;have HGK2:=Lib.hid hgk
    have q0:=(HB2.out.cell (p:=⟨b1,o1+i,none⟩) hb1).trans HQ0.out
    have hb1':b1<wr.heap.size:=Nat.lt_of_lt_of_le hb1 hb.size
    have HBW:Hid (Below w.heap.size w wr):=HB.out.trans (hb.mono HB.out.size)
    clear hb hgk
    by_cases hlk:k<t.length
    ·
     obtain ⟨b2,o2,ha2,hb2,p0,p1⟩:=(HARC.out.later HB2.out (Nat.le_refl _)).ch hlk
     have hi2:=idx_chs aa b2 o2 t.length cc k ha2 hlk
     have htk:t.take (k+1)=t.take k ++ [t[k]]:=List.take_succ_eq_append_getElem hlk
     have HN:Hid (letC (t.take (k+1)) s[i]=if t[k].key=s[i] then some t[k].cost.toNat else letC (t.take k) s[i]):=by
      show _=_
      rw [htk]
      refine letC_snoc ?_
      rw [← htk]
      exact List.Pairwise.sublist (List.take_sublist _ _) HSD.out
     have hx0:=HSB.out t[k] (List.getElem_mem hlk)
     obtain ⟨x,hx⟩:∃ x,t[k]=x:=⟨_,rfl⟩
     rw [hx] at p0 p1 HN hx0
     have HX0:=Lib.hid hx0
     clear ha2 htk hx hx0
     by_cases hxe:x.key=s[i]
     ·
      have hcmp:((x.key.toNat:Int) == (s[i].toNat:Int))=true:=by rw [hxe];simp
      have HCO:Hid (Value.int .i64 x.cost=.int .i64 (costO (letC (t.take (k+1)) s[i]))):=by
       show _=_
       rw [HN.out,if_pos hxe]
       have:=HX0.out
       simp only [costO]
       rw [Int.toNat_of_nonneg this.1]
      clear hxe
      go_wp2
      go_quiet (fail)
      go_wp2
      go_roundg (t.length - (k+1))
      case measure=>have:=HGK2.out;omega
      case rel=>exact ⟨k+1,HCO.out,by go_num,by omega,rfl,below_drewN HB2.out _⟩
     ·
      have hcmp:((x.key.toNat:Int) == (s[i].toNat:Int))=false:=by
       simp only [beq_eq_false_iff_ne,ne_eq]
       intro e
       exact hxe (UInt8.toNat_inj.1 (by omega))
      have HCO:Hid (letC (t.take (k+1)) s[i]=letC (t.take k) s[i]):=by
       show _=_
       rw [HN.out,if_neg hxe]
      clear hxe
      go_wp2
      go_quiet (fail)
      go_wp2
      go_roundg (t.length - (k+1))
      case measure=>have:=HGK2.out;omega
      case rel=>exact ⟨k+1,by rw [HCO.out],by go_num,by omega,rfl,below_drewN HB2.out _⟩
    ·
     have htk:t.take k=t:=List.take_of_length_le (by omega)
     rw [htk]
     clear htk
     cases hlc:letC t s[i] with
     | none =>
      have HR:Hid (letsC L (bts s)=none):=by show _=_;rw [HLS2.out,hlc]
      have hco:costO none=1000000000:=rfl
      rw [hco]
      clear hco hlc
      go_wp2_with fail
      refine (far_any _).mono ?_
      rintro e w1 ⟨rfl,rfl⟩
      go_wp2_with fail
      refine (far_any _).mono ?_
      rintro e w1 ⟨rfl,rfl⟩
      go_wp2_with fail
      go_ret
      exact ⟨by rw [HR.out];rfl,HBW.out⟩
     | some x =>
      have hxC:x≤C:=letC_le HSB.out hlc
      have HLS3:Hid (letsC L (bts s)=(letsC (L.drop (i+1)) ((bts s).drop (i+1))).map (sum+x+·)):=by show _=_;rw [HLS2.out,hlc]
      have hco:costO (some x)=(x:Int):=rfl
      rw [hco]
      have hne:((x:Int) == 1000000000)=false:=by simp only [beq_eq_false_iff_ne,ne_eq];omega
      have HSUM2:Hid (sum+x≤(i+1)*C):=by show _≤_;have:=HSUM.out;rw [Nat.succ_mul];omega
      have hsum100:sum+x≤100*1000000:=Nat.le_trans HSUM2.out (Nat.mul_le_mul (by omega) hC)
      clear hco hlc hxC
      go_wp2_with fail
      refine (far_any _).mono ?_
      rintro e w1 ⟨rfl,rfl⟩
      go_wp2_with fail
      go_roundg (s.size - (i+1))
      case measure=>have:=HGK.out;omega
      case rel=>exact ⟨i+1,sum+x,by go_num,by go_num,by omega,rfl,HSUM2.out,HLS3.out,HBW.out⟩
  ·
   have HR:Hid (letsC L (bts s)=some sum):=by
    show _=_
    have hd:(bts s).drop i=[]:=List.drop_eq_nil_of_le (by rw [bts_len];omega)
    rw [HLS.out,hd,letsC_nil]
    rfl
   go_wp2_with fail
   go_ret
   exact ⟨by rw [HR.out];rfl,HB.out⟩
end Go.Proofs.YthjmdgejnakcmaaGreatDoor
namespace Go.Proofs.YthjmdgejnakcmaaGreatDoor
open Go.RowKit Go.WideShapes
set_option linter.unusedVariables false
set_option linter.unusedSimpArgs false
instance:Inhabited BR:=⟨⟨none,0,0,fun _=>0⟩⟩
end Go.Proofs.YthjmdgejnakcmaaGreatDoor
namespace Go.Proofs.YthjmdgejnakcmaaGreatDoor.Fl
set_option linter.unusedVariables false
set_option linter.unusedSimpArgs false
open Go.ChangeShapes Go.WideShapes Go.ChangeAt Go.RowKit
instance:Inhabited RR:=⟨⟨none,0,0,none,0,0,0,0,0,fun _=>0,fun _=>0⟩⟩
section
variable {H:Type} {enc:TypeId × Value→H} {w:World} {base:Nat} {spare:Nat→Bool} {held:Bool} {d:DataW H} {p:List MemPlace} {r:Reach} {b0:Nat} {v:Value}
end
end Go.Proofs.YthjmdgejnakcmaaGreatDoor.Fl
namespace Go.Proofs.YthjmdgejnakcmaaGreatDoor
open Go.RowKit Go.WideShapes Fl
set_option linter.unusedVariables false
set_option linter.unusedSimpArgs false
theorem rts_mono {R:List Rl} {L L':List Slt} (hl:L.length≤L'.length) (h:∀ (i:Nat) (r:List UInt8) (k:Nat),letsC (L.drop i) r=some k→letsC (L'.drop i) r=some k) {i m:Nat} {o:List UInt8} {c:Nat} (hr:RtS R L i m o c):RtS R L' i m o c:=by
 induction hr with
 | start=>exact .start
 | step h1 hr hf hm hk ih=>exact .step ih hr hf hm (h _ _ _ hk)
end Go.Proofs.YthjmdgejnakcmaaGreatDoor
namespace Go.Proofs.YthjmdgejnakcmaaGreatDoor
open Go.RowKit Go.WideShapes Fl
set_option linter.unusedVariables false
set_option linter.unusedSimpArgs false
def hasW (l:List (Nat × Nat)) (p c n:Nat):Bool:=l.any fun q=>q.1 == p && decide (q.2≤c+n)
theorem hasW_succ {l:List (Nat × Nat)} {p c n k:Nat} (hk:k<l.length):hasW (l.take (k+1)) p c n=(hasW (l.take k) p c n || (l[k].1 == p && decide (l[k].2≤c+n))):=by
 rw [List.take_succ_eq_append_getElem hk]
 unfold hasW
 rw [List.any_append]
 simp
theorem idx_fnV (a:Option Addr) (b o n c k:Nat) (ha:a=some ⟨b,o,none⟩) (hk:k<n) (w:World):(Instr.indexAt 48 (.slice a n c) (.int .i64 (k:Int))).run Tryz.prog w=.ok (.pointer (some ⟨b,o+k*2,none⟩)) w:=by
 subst ha
 have h0:(0:Int)≤(k:Int):=by omega
 have h1:(k:Int)<(n:Int):=by omega
 simp [go_sem,h0,h1]
theorem gdA (a:Act) (s:Nat) (v:Value) (h:a.tmps.getD s undef=v):a.tmps[s]?.getD undef=v:=by rw [Array.getD_eq_getD_getElem?] at h;exact h
set_option maxHeartbeats 6400000 in
set_option maxRecDepth 100000 in
theorem
    covers_any (la lb:List (Nat × Nat)) (a b:Option Addr) (c d n:Nat) (w:World) (hA:FndS w a la) (hB:FndS w b lb) (hla:la.length≤1000) (hlb:lb.length≤1000) (hca:∀ p∈la,p.2≤900000000000) (hcb:∀ p∈lb,p.2≤900000000000) (hn:n≤1000000000) (hcov:∀ p∈lb,hasW la p.1 p.2 n=true) :
  Calls Tryz.prog 23 #[.slice a la.length c,.slice b lb.length d,.int .i64 (n:Int)] w fun e w'=>e=.returned (.bool true)∧Below w.heap.size w w':=by
 have HA:=Lib.hid hA;have HB:=Lib.hid hB;have HCA:=Lib.hid hca;have HCB:=Lib.hid hcb;have HCV:=Lib.hid hcov
 clear hA hB hca hcb hcov
 go_enter Tryz.func23,Tryz.ntmps23
 go_wp2_with fail
 go_loopg [7] lb.length (fun g v7 wr=>∃ i:Nat,v7=.int .i64 (i:Int)∧i≤lb.length∧g=lb.length - i∧Ext w wr)
 case atStart=>exact ⟨0,rfl,Nat.zero_le _,rfl,Ext.refl _⟩
 case round =>
  obtain ⟨i,rfl,hi,hgk,hxr⟩:=hrel
  have HXR:=Lib.hid hxr;have HGK:=Lib.hid hgk
  clear hxr hgk
  by_cases hil:i<lb.length
  ·
   have hilI
        :
         (i:Int)<(lb.length:Int):=by omega
   obtain ⟨b2,o2,ha2,hb2,q2,q3⟩:=(HB.out.kp (Kc.of HXR.out (Nat.le_refl _))) i hil
   have hix2:=idx_fnV b b2 o2 lb.length d i ha2 hil
   have hm2:=List.getElem_mem hil
   have hcv:=HCV.out _ hm2
   have hc2:=HCB.out _ hm2
   obtain ⟨p,hp⟩:∃ p,lb[i].1=p:=⟨_,rfl⟩
   obtain ⟨e2,he2⟩:∃ e2,lb[i].2=e2:=⟨_,rfl⟩
   rw [hp] at q2 hcv
   rw [he2] at q3 hcv hc2
   have HQ2:=Lib.hid q2;have HQ3:=Lib.hid q3;have HB2:=Lib.hid hb2;have HIX2:=Lib.hid hix2;have HCW:=Lib.hid hcv
   obtain ⟨wo,hwo⟩:∃ wo:World,wo=wr:=⟨wr,rfl⟩
   subst hwo
   clear ha2 hm2 hcv hp he2 q2 q3 hb2 hix2
   go_wp2_with fail
   go_loopg [8,9] la.length (fun g v8 v9 wr=>∃ (k:Nat) (f:Bool),v9=.int .i64 (k:Int)∧v8=.bool f∧f=hasW (la.take k) p e2 n∧k≤la.length∧g=la.length - k∧Ext wo wr)
   case atStart=>exact ⟨0,false,rfl,rfl,rfl,Nat.zero_le _,rfl,Ext.refl _⟩
   case round =>
    obtain ⟨k,f,rfl,rfl,hf,hk,hgk2,hxk⟩:=hrel
    have HXK:=Lib.hid hxk;have HGK2:=Lib.hid hgk2;have HF:=Lib.hid hf
    clear hxk hgk2 hf
    by_cases hkl:k<la.length
    ·
     have hklI:(k:Int)<(la.length:Int):=by omega
     obtain ⟨b1,o1,ha1,hb1,q0,q1⟩:=(HA.out.kp (Kc.of (Ext.trans HXR.out HXK.out) (Nat.le_refl _))) k hkl
     have hix1:=idx_fnV a b1 o1 la.length c k ha1 hkl
     have hc1:=HCA.out _ (List.getElem_mem hkl)
     have HSU:=Lib.hid (hasW_succ (p:=p) (c:=e2) (n:=n) hkl)
     obtain ⟨p1,hp1⟩:∃ p1,la[k].1=p1:=⟨_,rfl⟩
     obtain ⟨e1,he1⟩:∃ e1,la[k].2=e1:=⟨_,rfl⟩
     rw [hp1] at q0 HSU
     rw [he1] at q1 HSU hc1
     have HQ0:=Lib.hid q0;have HQ1:=Lib.hid q1;have HB1:=Lib.hid hb1;have HIX1:=Lib.hid hix1
     have HWS:Hid (IntKind.i64.wrap ((e2:Int)+(n:Int))=(e2:Int)+(n:Int)):=by show _=_;rw [IntKind.wrap_i64];omega
     have HS0:Hid (Ext wo wr):=HXK.out
     obtain ⟨wq,hwq⟩:∃ wq:World,wq=wr:=⟨wr,rfl⟩
     subst hwq
     clear ha1 hp1 he1 q0 q1 hb1 hix1
     go_wp2_with fail
     cases f with
     | true =>
      refine wp_region_st (by kernel_rfl) (Vs [fun v _=>v=.bool true,fun v _=>v=.bool true,fun v _=>v=undef,fun v _=>v=undef,fun v _=>v=undef,fun v _=>v=undef,fun v _=>v=undef,fun v _=>v=undef,fun v _=>v=undef,fun v _=>v=undef,fun v _=>v=undef,fun v _=>v=undef,fun v _=>v=undef,fun v _=>v=undef,fun v _=>v=undef,fun v _=>v=undef,fun v _=>v=undef,fun v _=>v=undef,fun v _=>v=undef,fun v _=>v=undef,fun v _=>v=undef,fun v _=>v=undef,fun v _=>v=undef,fun v _=>v=undef,fun v _=>v=undef,fun v _=>v=undef,fun v _=>v=undef,fun v _=>v=undef,fun v _=>v=.bool true,fun v _=>v=.bool true]) (Xs []) (fun fL=>(fun W=>Ext wq W) ) [0,1,3,3,15,31,63,3,3,387,899,1923,4095,8191,16383,16383,65535,131071,262143,16383,16383,1589247,3686399,7880703,16383,33046527,67108863,134217727,268435455,536870911] 53 30 (by kernel_rfl) rfl ?hV ?hS ?hop ?hfin ?hlast
      case hV =>
       refine xs_stays (vs_stays (by simp only [List.mem_cons,List.not_mem_nil,or_false,forall_eq_or_imp,forall_eq];and_intros <;> exact stays_const _)) ?_
       exact trivial
      case hS =>
       intro fL hf
       show (fun W=>Ext wq W)  _
       first | exact Ext.refl _ | exact drew_ext _
      case hop =>
       refine ⟨?_,?_,?_,?_,?_,?_,?_,?_,?_,?_,?_,?_,?_,?_,?_,?_,?_,?_,?_,?_,?_,?_,?_,?_,?_,?_,?_,?_,?_,?_,trivial⟩
       all_goals first | rw [if_neg (by decide)] | rw [if_pos (by decide)]
       all_goals try intro ac W fL hsz hfi hms hdn hS0 hdep hbase hund
       all_goals try have hS:(fun W=>Ext wq W)  W:=hS0
       all_goals try (
        have q0:=(Below.cell hS (p:=⟨b1,o1+k*2,none⟩) HB1.out).trans HQ0.out
        have q1:=(Below.cell hS (p:=⟨b1,o1+k*2+1,none⟩) HB1.out).trans HQ1.out
        have q2:=(Below.cell (Ext.trans HS0.out hS) (p:=⟨b2,o2+i*2,none⟩) HB2.out).trans HQ2.out
        have q3:=(Below.cell (Ext.trans HS0.out hS) (p:=⟨b2,o2+i*2+1,none⟩) HB2.out).trans HQ3.out
        have hix1:=HIX1.out;have hix2:=HIX2.out;have hws:=HWS.out)
       all_goals try have hh0:=gdA ac 0 (.slice a la.length c) (hbase 0 (by kernel_rfl))
       all_goals try have hh1:=gdA ac 1 (.slice b lb.length d) (hbase 1 (by kernel_rfl))
       all_goals try have hh2:=gdA ac 2 (.int .i64 (n:Int)) (hbase 2 (by kernel_rfl))
       all_goals try have hh7:=gdA ac 7 (.int .i64 (i:Int)) (hbase 7 (by kernel_rfl))
       all_goals try have hh8:=gdA ac 8 (.bool true) (hund 29 8 (by decide) (hdn 29 (by decide) (by decide)) rfl)
       all_goals try have hh9:=gdA ac 9 (.int .i64 (k:Int)) (hbase 9 (by kernel_rfl))
       all_goals try have dd22:=gdA ac 22 (.bool true) (hdep 0 (by decide))
       all_goals try have dd23:=gdA ac 23 (.bool true) (hdep 1 (by decide))
       all_goals try have dd35:=gdA ac 35 (undef) (hdep 13 (by decide))
       all_goals try have dd49:=gdA ac 49 (undef) (hdep 27 (by decide))
       all_goals try have dd50:=gdA ac 50 (.bool true) (hdep 28 (by decide))
       all_goals try clear hbase hdep hms hdn hund
       all_goals try exact opOk_skip (j:=1) (d:=23) (b:=true) rfl (by kernel_rfl) dd23 rfl ⟨rfl,hS0⟩
       all_goals try exact opOk_skip_undef (j:=13) (d:=35) rfl (by kernel_rfl) dd35 ⟨rfl,hS0⟩
       all_goals (refine opOk_run rfl (.inl ⟨_,W,?_,rfl,Ext.refl _,hS0⟩);clear hsz hS hS0 hfi;simp [go_sem,Act.eval, *];done)
      case hlast =>
       intro h;exact absurd rfl h
      case hfin =>
       intro _ ac W hsz hdf fL hf hS0 hv hbase
       have hS:(fun W=>Ext wq W)  W:=hS0
       clear hS0
       obtain ⟨sx,hsx,hsA⟩:=act_puts [22,23,24,25,26,27,28,29,30,31,32,33,34,35,36,37,38,39,40,41,42,43,44,45,46,47,48,49,50,8] (by kernel_rfl) hsz hdf hbase
       have e8:sx 8=.bool true:=(hsx 8).trans (hv 29 (by decide))
       rw [hsA]
       simp only [List.foldl]
       rw [e8]
       clear e8
       simp only [Act.put,List.setIfInBounds_toArray,List.set_cons_succ,List.set_cons_zero]
       clear hsA hsx hv hbase hsz hdf hf
       have HS8:=Lib.hid hS
       clear hS
       go_wp2_with fail
       go_roundg (la.length - (k+1))
       case measure=>have:=HGK2.out;omega
       case rel=>exact ⟨k+1,true,by go_num,rfl,by rw [HSU.out,← HF.out];rfl,by omega,rfl,Ext.trans HXK.out HS8.out⟩
     | false
         =>
      by_cases hpe:p1=p
      ·
       have hbe:((p1:Int) == (p:Int))=true:=by rw [hpe];simp
       obtain ⟨bb,hbb⟩:∃ bb,decide ((e1:Int)≤(e2:Int)+(n:Int))=bb:=⟨_,rfl⟩
       have HBN:Hid (bb=decide (e1≤e2+n)):=by show _=_;rw [← hbb];exact decide_eq_decide.2 (by omega)
       refine wp_region_st (by kernel_rfl) (Vs [fun v _=>v=.bool false,fun v _=>v=.bool false,fun v _=>v=.slice a la.length c,fun v _=>v=.int .i64 (k:Int),fun v _=>v=.pointer (some ⟨b1,o1+k*2,none⟩),fun v _=>v=.pointer (some ⟨b1,o1+k*2,none⟩),fun v _=>v=.int .i64 (p1:Int),fun v _=>v=.slice b lb.length d,fun v _=>v=.int .i64 (i:Int),fun v _=>v=.pointer (some ⟨b2,o2+i*2,none⟩),fun v _=>v=.pointer (some ⟨b2,o2+i*2,none⟩),fun v _=>v=.int .i64 (p:Int),fun v _=>v=.bool true,fun v _=>v=.bool true,fun v _=>v=.slice a la.length c,fun v _=>v=.int .i64 (k:Int),fun v _=>v=.pointer (some ⟨b1,o1+k*2,none⟩),fun v _=>v=.pointer (some ⟨b1,o1+k*2+1,none⟩),fun v _=>v=.int .i64 (e1:Int),fun v _=>v=.slice b lb.length d,fun v _=>v=.int .i64 (i:Int),fun v _=>v=.pointer (some ⟨b2,o2+i*2,none⟩),fun v _=>v=.pointer (some ⟨b2,o2+i*2+1,none⟩),fun v _=>v=.int .i64 (e2:Int),fun v _=>v=.int .i64 (n:Int),fun v _=>v=.int .i64 ((e2:Int)+(n:Int)),fun v _=>v=.bool bb,fun v _=>v=.bool bb,fun v _=>v=.bool bb,fun v _=>v=.bool bb]) (Xs []) (fun fL=>(fun W=>Ext wq W) ) [0,1,3,3,15,31,63,3,3,387,899,1923,4095,8191,16383,16383,65535,131071,262143,16383,16383,1589247,3686399,7880703,16383,33046527,67108863,134217727,268435455,536870911] 53 30 (by kernel_rfl) rfl ?hV ?hS ?hop ?hfin ?hlast
       case hV =>
        refine xs_stays (vs_stays (by simp only [List.mem_cons,List.not_mem_nil,or_false,forall_eq_or_imp,forall_eq];and_intros <;> exact stays_const _)) ?_
        exact trivial
       case hS =>
        intro fL hf
        show (fun W=>Ext wq W)  _
        first | exact Ext.refl _ | exact drew_ext _
       case hop =>
        refine ⟨?_,?_,?_,?_,?_,?_,?_,?_,?_,?_,?_,?_,?_,?_,?_,?_,?_,?_,?_,?_,?_,?_,?_,?_,?_,?_,?_,?_,?_,?_,trivial⟩
        all_goals first | rw [if_neg (by decide)] | rw [if_pos (by decide)]
        all_goals try intro ac W fL hsz hfi hms hdn hS0 hdep hbase hund
        all_goals try have hS:(fun W=>Ext wq W)  W:=hS0
        all_goals try (
         have q0:=(Below.cell hS (p:=⟨b1,o1+k*2,none⟩) HB1.out).trans HQ0.out
         have q1:=(Below.cell hS (p:=⟨b1,o1+k*2+1,none⟩) HB1.out).trans HQ1.out
         have q2:=(Below.cell (Ext.trans HS0.out hS) (p:=⟨b2,o2+i*2,none⟩) HB2.out).trans HQ2.out
         have q3:=(Below.cell (Ext.trans HS0.out hS) (p:=⟨b2,o2+i*2+1,none⟩) HB2.out).trans HQ3.out
         have hix1:=HIX1.out;have hix2:=HIX2.out;have hws:=HWS.out)
        all_goals try have hh0:=gdA ac 0 (.slice a la.length c) (hbase 0 (by kernel_rfl))
        all_goals try have hh1:=gdA ac 1 (.slice b lb.length d) (hbase 1 (by kernel_rfl))
        all_goals try have hh2:=gdA ac 2 (.int .i64 (n:Int)) (hbase 2 (by kernel_rfl))
        all_goals try have hh7:=gdA ac 7 (.int .i64 (i:Int)) (hbase 7 (by kernel_rfl))
        all_goals try have hh8:=gdA ac 8 (.bool false) (hund 29 8 (by decide) (hdn 29 (by decide) (by decide)) rfl)
        all_goals try have hh9:=gdA ac 9 (.int .i64 (k:Int)) (hbase 9 (by kernel_rfl))
        all_goals try have dd22:=gdA ac 22 (.bool false) (hdep 0 (by decide))
        all_goals try have dd23:=gdA ac 23 (.bool false) (hdep 1 (by decide))
        all_goals try have dd24:=gdA ac 24 (.slice a la.length c) (hdep 2 (by decide))
        all_goals try have dd25:=gdA ac 25 (.int .i64 (k:Int)) (hdep 3 (by decide))
        all_goals try have dd26:=gdA ac 26 (.pointer (some ⟨b1,o1+k*2,none⟩)) (hdep 4 (by decide))
        all_goals try have dd27:=gdA ac 27 (.pointer (some ⟨b1,o1+k*2,none⟩)) (hdep 5 (by decide))
        all_goals try have dd28:=gdA ac 28 (.int .i64 (p1:Int)) (hdep 6 (by decide))
        all_goals try have dd29:=gdA ac 29 (.slice b lb.length d) (hdep 7 (by decide))
        all_goals try have dd30:=gdA ac 30 (.int .i64 (i:Int)) (hdep 8 (by decide))
        all_goals try have dd31:=gdA ac 31 (.pointer (some ⟨b2,o2+i*2,none⟩)) (hdep 9 (by decide))
        all_goals try have dd32:=gdA ac 32 (.pointer (some ⟨b2,o2+i*2,none⟩)) (hdep 10 (by decide))
        all_goals try have dd33:=gdA ac 33 (.int .i64 (p:Int)) (hdep 11 (by decide))
        all_goals try have dd34:=gdA ac 34 (.bool true) (hdep 12 (by decide))
        all_goals try have dd35:=gdA ac 35 (.bool true) (hdep 13 (by decide))
        all_goals try have dd36:=gdA ac 36 (.slice a la.length c) (hdep 14 (by decide))
        all_goals try have dd37:=gdA ac 37 (.int .i64 (k:Int)) (hdep 15 (by decide))
        all_goals try have dd38:=gdA ac 38 (.pointer (some ⟨b1,o1+k*2,none⟩)) (hdep 16 (by decide))
        all_goals try have dd39:=gdA ac 39 (.pointer (some ⟨b1,o1+k*2+1,none⟩)) (hdep 17 (by decide))
        all_goals try have dd40:=gdA ac 40 (.int .i64 (e1:Int)) (hdep 18 (by decide))
        all_goals try have dd41:=gdA ac 41 (.slice b lb.length d) (hdep 19 (by decide))
        all_goals try have dd42:=gdA ac 42 (.int .i64 (i:Int)) (hdep 20 (by decide))
        all_goals try have dd43:=gdA ac 43 (.pointer (some ⟨b2,o2+i*2,none⟩)) (hdep 21 (by decide))
        all_goals try have dd44:=gdA ac 44 (.pointer (some ⟨b2,o2+i*2+1,none⟩)) (hdep 22 (by decide))
        all_goals try have dd45:=gdA ac 45 (.int .i64 (e2:Int)) (hdep 23 (by decide))
        all_goals try have dd46:=gdA ac 46 (.int .i64 (n:Int)) (hdep 24 (by decide))
        all_goals try have dd47:=gdA ac 47 (.int .i64 ((e2:Int)+(n:Int))) (hdep 25 (by decide))
        all_goals try have dd48:=gdA ac 48 (.bool bb) (hdep 26 (by decide))
        all_goals try have dd49:=gdA ac 49 (.bool bb) (hdep 27 (by decide))
        all_goals try have dd50:=gdA ac 50 (.bool bb) (hdep 28 (by decide))
        all_goals try clear hbase hdep hms hdn hund
        all_goals try (refine opOk_runG (j:=1) (d:=23) (b:=false) rfl (by kernel_rfl) dd23 rfl (.inl ⟨_,W,?_,rfl,Ext.refl _,hS0⟩);clear hsz hS hS0 hfi;simp [go_sem,Act.eval, *];done)
        all_goals try (refine opOk_runG (j:=13) (d:=35) (b:=true) rfl (by kernel_rfl) dd35 rfl (.inl ⟨_,W,?_,rfl,Ext.refl _,hS0⟩);clear hsz hS hS0 hfi;simp [go_sem,Act.eval, *];done)
        all_goals (refine opOk_run rfl (.inl ⟨_,W,?_,rfl,Ext.refl _,hS0⟩);clear hsz hS hS0 hfi;simp [go_sem,Act.eval, *];done)
       case hlast =>
        intro h;exact absurd rfl h
       case hfin =>
        intro _ ac W hsz hdf fL hf hS0 hv hbase
        have hS:(fun W=>Ext wq W)  W:=hS0
        clear hS0
        obtain ⟨sx,hsx,hsA⟩:=act_puts [22,23,24,25,26,27,28,29,30,31,32,33,34,35,36,37,38,39,40,41,42,43,44,45,46,47,48,49,50,8] (by kernel_rfl) hsz hdf hbase
        have e8:sx 8=.bool bb:=(hsx 8).trans (hv 29 (by decide))
        rw [hsA]
        simp only [List.foldl]
        rw [e8]
        clear e8
        simp only [Act.put,List.setIfInBounds_toArray,List.set_cons_succ,List.set_cons_zero]
        clear hsA hsx hv hbase hsz hdf hf
        have HS8:=Lib.hid hS
        clear hS
        go_wp2_with fail
        go_roundg (la.length - (k+1))
        case measure=>have:=HGK2.out;omega
        case rel=>exact ⟨k+1,bb,by go_num,rfl,by rw [HSU.out,← HF.out];simp [hpe,HBN.out],by omega,rfl,Ext.trans HXK.out HS8.out⟩
      ·
       have hbe:((p1:Int) == (p:Int))=false:=by rw [beq_eq_false_iff_ne];omega
       refine wp_region_st (by kernel_rfl) (Vs [fun v _=>v=.bool false,fun v _=>v=.bool false,fun v _=>v=.slice a la.length c,fun v _=>v=.int .i64 (k:Int),fun v _=>v=.pointer (some ⟨b1,o1+k*2,none⟩),fun v _=>v=.pointer (some ⟨b1,o1+k*2,none⟩),fun v _=>v=.int .i64 (p1:Int),fun v _=>v=.slice b lb.length d,fun v _=>v=.int .i64 (i:Int),fun v _=>v=.pointer (some ⟨b2,o2+i*2,none⟩),fun v _=>v=.pointer (some ⟨b2,o2+i*2,none⟩),fun v _=>v=.int .i64 (p:Int),fun v _=>v=.bool false,fun v _=>v=.bool false,fun v _=>v=undef,fun v _=>v=undef,fun v _=>v=undef,fun v _=>v=undef,fun v _=>v=undef,fun v _=>v=undef,fun v _=>v=undef,fun v _=>v=undef,fun v _=>v=undef,fun v _=>v=undef,fun v _=>v=undef,fun v _=>v=undef,fun v _=>v=undef,fun v _=>v=.bool false,fun v _=>v=.bool false,fun v _=>v=.bool false]) (Xs []) (fun fL=>(fun W=>Ext wq W) ) [0,1,3,3,15,31,63,3,3,387,899,1923,4095,8191,16383,16383,65535,131071,262143,16383,16383,1589247,3686399,7880703,16383,33046527,67108863,134217727,268435455,536870911] 53 30 (by kernel_rfl) rfl ?hV ?hS ?hop ?hfin ?hlast
       case hV =>
        refine xs_stays (vs_stays (by simp only [List.mem_cons,List.not_mem_nil,or_false,forall_eq_or_imp,forall_eq];and_intros <;> exact stays_const _)) ?_
        exact trivial
       case hS =>
        intro fL hf
        show (fun W=>Ext wq W)  _
        first | exact Ext.refl _ | exact drew_ext _
       case hop =>
        refine ⟨?_,?_,?_,?_,?_,?_,?_,?_,?_,?_,?_,?_,?_,?_,?_,?_,?_,?_,?_,?_,?_,?_,?_,?_,?_,?_,?_,?_,?_,?_,trivial⟩
        all_goals first | rw [if_neg (by decide)] | rw [if_pos (by decide)]
        all_goals try intro ac W fL hsz hfi hms hdn hS0 hdep hbase hund
        all_goals try have hS:(fun W=>Ext wq W)  W:=hS0
        all_goals try (
         have q0:=(Below.cell hS (p:=⟨b1,o1+k*2,none⟩) HB1.out).trans HQ0.out
         have q1:=(Below.cell hS (p:=⟨b1,o1+k*2+1,none⟩) HB1.out).trans HQ1.out
         have q2:=(Below.cell (Ext.trans HS0.out hS) (p:=⟨b2,o2+i*2,none⟩) HB2.out).trans HQ2.out
         have q3:=(Below.cell (Ext.trans HS0.out hS) (p:=⟨b2,o2+i*2+1,none⟩) HB2.out).trans HQ3.out
         have hix1:=HIX1.out;have hix2:=HIX2.out;have hws:=HWS.out)
        all_goals try have hh0:=gdA ac 0 (.slice a la.length c) (hbase 0 (by kernel_rfl))
        all_goals try have hh1:=gdA ac 1 (.slice b lb.length d) (hbase 1 (by kernel_rfl))
        all_goals try have hh2:=gdA ac 2 (.int .i64 (n:Int)) (hbase 2 (by kernel_rfl))
        all_goals try have hh7:=gdA ac 7 (.int .i64 (i:Int)) (hbase 7 (by kernel_rfl))
        all_goals try have hh8:=gdA ac 8 (.bool false) (hund 29 8 (by decide) (hdn 29 (by decide) (by decide)) rfl)
        all_goals try have hh9:=gdA ac 9 (.int .i64 (k:Int)) (hbase 9 (by kernel_rfl))
        all_goals try have dd22:=gdA ac 22 (.bool false) (hdep 0 (by decide))
        all_goals try have dd23:=gdA ac 23 (.bool false) (hdep 1 (by decide))
        all_goals try have dd24:=gdA ac 24 (.slice a la.length c) (hdep 2 (by decide))
        all_goals try have dd25:=gdA ac 25 (.int .i64 (k:Int)) (hdep 3 (by decide))
        all_goals try have dd26:=gdA ac 26 (.pointer (some ⟨b1,o1+k*2,none⟩)) (hdep 4 (by decide))
        all_goals try have dd27:=gdA ac 27 (.pointer (some ⟨b1,o1+k*2,none⟩)) (hdep 5 (by decide))
        all_goals try have dd28:=gdA ac 28 (.int .i64 (p1:Int)) (hdep 6 (by decide))
        all_goals try have dd29:=gdA ac 29 (.slice b lb.length d) (hdep 7 (by decide))
        all_goals try have dd30:=gdA ac 30 (.int .i64 (i:Int)) (hdep 8 (by decide))
        all_goals try have dd31:=gdA ac 31 (.pointer (some ⟨b2,o2+i*2,none⟩)) (hdep 9 (by decide))
        all_goals try have dd32:=gdA ac 32 (.pointer (some ⟨b2,o2+i*2,none⟩)) (hdep 10 (by decide))
        all_goals try have dd33:=gdA ac 33 (.int .i64 (p:Int)) (hdep 11 (by decide))
        all_goals try have dd34:=gdA ac 34 (.bool false) (hdep 12 (by decide))
        all_goals try have dd35:=gdA ac 35 (.bool false) (hdep 13 (by decide))
        all_goals try have dd48:=gdA ac 48 (undef) (hdep 26 (by decide))
        all_goals try have dd49:=gdA ac 49 (.bool false) (hdep 27 (by decide))
        all_goals try have dd50:=gdA ac 50 (.bool false) (hdep 28 (by decide))
        all_goals try clear hbase hdep hms hdn hund
        all_goals try (refine opOk_runG (j:=1) (d:=23) (b:=false) rfl (by kernel_rfl) dd23 rfl (.inl ⟨_,W,?_,rfl,Ext.refl _,hS0⟩);clear hsz hS hS0 hfi;simp [go_sem,Act.eval, *];done)
        all_goals try exact opOk_skip (j:=13) (d:=35) (b:=false) rfl (by kernel_rfl) dd35 rfl ⟨rfl,hS0⟩
        all_goals (refine opOk_run rfl (.inl ⟨_,W,?_,rfl,Ext.refl _,hS0⟩);clear hsz hS hS0 hfi;simp [go_sem,Act.eval, *];done)
       case hlast =>
        intro h;exact absurd rfl h
       case hfin =>
        intro _ ac W hsz hdf fL hf hS0 hv hbase
        have hS:(fun W=>Ext wq W)  W:=hS0
        clear hS0
        obtain ⟨sx,hsx,hsA⟩:=act_puts [22,23,24,25,26,27,28,29,30,31,32,33,34,35,36,37,38,39,40,41,42,43,44,45,46,47,48,49,50,8] (by kernel_rfl) hsz hdf hbase
        have e8:sx 8=.bool false:=(hsx 8).trans (hv 29 (by decide))
        rw [hsA]
        simp only [List.foldl]
        rw [e8]
        clear e8
        simp only [Act.put,List.setIfInBounds_toArray,List.set_cons_succ,List.set_cons_zero]
        clear hsA hsx hv hbase hsz hdf hf
        have HS8:=Lib.hid hS
        clear hS
        go_wp2_with fail
        go_roundg (la.length - (k+1))
        case measure=>have:=HGK2.out;omega
        case rel=>exact ⟨k+1,false,by go_num,rfl,by rw [HSU.out,← HF.out];simp [hpe],by omega,rfl,Ext.trans HXK.out HS8.out⟩
    ·
     obtain rfl:k=la.length:=by omega
     have hklI:¬ (la.length:Int)<(la.length:Int):=by omega
     have hft:f=true:=by rw [HF.out,List.take_length];exact HCW.out
     subst hft
     go_wp2_with fail
     go_roundg (lb.length - (i+1))
     case measure=>have:=HGK.out;omega
     case rel=>exact ⟨i+1,by go_num,by omega,rfl,Ext.trans HXR.out HXK.out⟩
  ·
   obtain rfl:i=lb.length:=by omega
   have hilI:¬ (lb.length:Int)<(lb.length:Int):=by omega
   go_wp2_with fail
   go_ret
   exact ⟨rfl,HXR.out⟩
end Go.Proofs.YthjmdgejnakcmaaGreatDoor
