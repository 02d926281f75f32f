/- Texts that the claims share: K17, K21, K22, K23, K24, K26, K25, K27, K28, K29, K30, K15, K18, K20, K32, NK, N5, NC, ND. -/
import Derived.Deep.QuietTactic
import Derived.BigQuiet
import Derived.Test.YtpljngaejaehcaaGreatDoorMK5
import Derived.Test.YtpljngaejaehcaaGreatDoorMK4
import Derived.Test.YtpljngaejaehcaaGreatDoorMK2
import Derived.Test.YtpljngaejaehcaaGreatDoorMD4
import Derived.Test.YtpljngaejaehcaaGreatDoorMD1
import Derived.Test.YtpljngaejaehcaaGreatDoorMF4
set_option maxHeartbeats 12800000
set_option maxRecDepth 100000
set_option linter.unusedVariables false
set_option linter.unusedSimpArgs false
namespace Go.Proofs.YtpljngaejaehcaaGreatDoor
open Go.RowKit Go.WideShapes Fl
def kyA (s:Slt) (k:Nat):Nat:=((s[k]?).map fun c=>c.key.toNat).getD 0
def okC (s:Slt) (k:Nat):Bool:=match s[k]? with
 | none=>true
 | some c=>decide (97≤c.key.toNat) && (decide (c.key.toNat≤122) && (decide (0≤c.cost) && (decide (c.cost≤1000) && (decide (k=0) || decide (kyA s (k - 1)<c.key.toNat)))))
def okS (s:Slt):Bool:=decide (1≤s.length) && (decide (s.length≤8) && (List.range s.length).all (okC s))
def validB (L:List Slt):Bool:=decide (L.length≤40) && L.all okS
theorem NI {s:Slt} {k:Nat} (hk:k<s.length):okC s k=true↔97≤s[k].key.toNat∧s[k].key.toNat≤122∧0≤s[k].cost∧s[k].cost≤1000∧(k=0∨kyA s (k - 1)<s[k].key.toNat):=by
 unfold okC;rw [AA hk];simp only [Bool.and_eq_true,Bool.or_eq_true,decide_eq_true_eq]
theorem Pt {s:Slt} {k:Nat} (hk:k<s.length):kyA s k=s[k].key.toNat:=by
 unfold kyA;rw [AA hk];rfl
theorem FY {p:Nat→Bool} {n:Nat}:(List.range (n+1)).all p=((List.range n).all p && p n):=by
 rw [List.range_succ,List.all_append];simp
theorem Ia {p:Nat→Bool} {n k:Nat} (hk:k<n) (h:p k=false):(List.range n).all p=false:=by
 cases e:(List.range n).all p with
 | false=>rfl
 | true=>rw [List.all_eq_true] at e;rw [e k (AV.2 hk)] at h;cases h
theorem GV {s:Slt} {k:Nat} (hk:k<s.length) (h:okC s k=false):okS s=false:=by
 unfold okS;rw [Ia hk h];simp
theorem RF {s:Slt} {k:Nat} (hk:k<(chA s).length):(chA s)[k].c=((s[k]'(by rw [Cy] at hk;exact hk)).key.toNat:Int):=by simp [chA]
theorem Pu {s:Slt} {k:Nat} (hk:k<(chA s).length):(chA s)[k].t=(s[k]'(by rw [Cy] at hk;exact hk)).cost:=by simp [chA]
theorem DD.ch {w:World} {a:Option Addr} {s:Slt} (h:DD w a (chA s)) {k:Nat} (hk:k<s.length) :
  ∃ b o,a=some ⟨b,o,none⟩∧b<w.heap.size∧w.cell? ⟨b,o+k*2,none⟩=some (.int .u8 (s[k].key.toNat:Int))∧w.cell? ⟨b,o+k*2+1,none⟩=some (.int .i64 s[k].cost):=by
 have ja:k<(chA s).length:=by rw [Cy];exact hk
 obtain ⟨b,o,h1,h2,h3,h4⟩:=h k ja;rw [RF ja] at h3;rw [Pu ja] at h4;exact ⟨b,o,h1,h2,h3,h4⟩
theorem vslot_any (s:Slt) (a:Option Addr) (c:Nat) (w:World) (hA:DD w a (chA s)) (hl:s.length≤9223372036854775807) :
  Calls Tryz.prog 73 #[.slice a s.length c] w fun e w'=>e=.returned (.bool (okS s))∧Below w.heap.size w w':=by
 have HA:=A0 hA;clear hA;by_cases h1:s.length<1
 ·have HR:Hid (okS s=false):=by show _=_;unfold okS;simp;omega
  have jJ:(s.length:Int)<1:=by omega
  go_enter Tryz.func73,Tryz.ntmps73
  go_wp2_with fail
  go_ret;exact ⟨Aa HR.out.symm,Below.refl _ _⟩
 have jJ:¬ (s.length:Int)<1:=by omega
 by_cases h2:8<s.length
 ·have HR:Hid (okS s=false):=by show _=_;unfold okS;simp;omega
  have jK:(8:Int)<(s.length:Int):=by omega
  go_enter Tryz.func73,Tryz.ntmps73
  go_wp2_with fail
  go_ret;exact ⟨Aa HR.out.symm,Below.refl _ _⟩
 have jK:¬ (8:Int)<(s.length:Int):=by omega
 go_enter Tryz.func73,Tryz.ntmps73
 go_wp2_with fail
 go_loopg [15] s.length (fun g v15 wr=>∃ j:Nat,v15=.int .i64 (j:Int)∧j≤s.length∧g=s.length - j∧(List.range j).all (okC s)=true∧Below w.heap.size w wr)
 case atStart=>exact ⟨0,rfl,Nat.zero_le _,rfl,rfl,Below.refl _ _⟩
 case round =>
  obtain ⟨j,rfl,hj,jF,jp,hb⟩:=hrel;have jh:=A0 jp;have HB:=A0 hb;have jy:=A0 jF;clear jp hb jF;by_cases jg:j<s.length
  ·obtain ⟨
       b1,o1,ha1,hb1,q0,q1⟩:=(HA.out.later HB.out (A3 _)).ch jg
   have hi1:=Hm a b1 o1 s.length c j ha1 jg;have ji:=A0 (NI jg);obtain ⟨kI,jw⟩:∃ kI:Int,(s[j].key.toNat:Int)=kI:=⟨_,rfl⟩
   obtain ⟨cI,ju⟩:∃ cI:Int,s[j].cost=cI:=⟨_,rfl⟩
   rw [jw] at q0;rw [ju] at q1;have jn:=A0 jw;have jr:=A0 ju;clear jw ju ha1;by_cases g1:kI<97
   ·have HR:Hid (okS s=false):=GV jg (by
     cases e:okC s j with
     | false=>rfl
     | true=>have:=ji.out.1 e;have:=jn.out;omega)
    go_wp2_with fail
    go_ret;exact ⟨Aa HR.out.symm,HB.out.trans (((Below.refl _ _).alloc (A3 _) _).mono HB.out.size)⟩
   by_cases g2:122<kI
   ·have HR:Hid (okS s=false):=GV jg (by
     cases e:okC s j with
     | false=>rfl
     | true=>have:=ji.out.1 e;have:=jn.out;omega)
    go_wp2_with fail
    go_ret;exact ⟨Aa HR.out.symm,HB.out.trans (((Below.refl _ _).alloc (A3 _) _).mono HB.out.size)⟩
   by_cases g3:cI<0
   ·have HR:Hid (okS s=false):=GV jg (by
     cases e:okC s j with
     | false=>rfl
     | true=>have:=ji.out.1 e;have:=jr.out;omega)
    go_wp2_with fail
    go_ret;exact ⟨Aa HR.out.symm,HB.out.trans (((Below.refl _ _).alloc (A3 _) _).mono HB.out.size)⟩
   by_cases g4:1000<cI
   ·have HR:Hid (okS s=false):=GV jg (by
     cases e:okC s j with
     | false=>rfl
     | true=>have:=ji.out.1 e;have:=jr.out;omega)
    go_wp2_with fail
    go_ret;exact ⟨Aa HR.out.symm,HB.out.trans (((Below.refl _ _).alloc (A3 _) _).mono HB.out.size)⟩
   have hK0:0≤kI:=by omega
   by_cases jv:j=0
   ·have HO:Hid (okC s j=true):=ji.out.2 (by have:=jn.out;have:=jr.out;omega);have HJ:Hid (¬ (0:Int)<(j:Int)):=by show ¬ _;omega
    clear jv
    go_wp2_with fail
    obtain ⟨w5,jd⟩:∃ w5,wr.alloc (.cells #[.int .u8 kI,.int .i64 cI] 79)=w5:=⟨_,rfl⟩
    have je:Hid (Ext wr w5):=by show Ext _ _;rw [← jd];exact (Below.refl _ _).alloc (A3 _) _
    rw [jd];clear jd;refine Am (by kernel_rfl) (Vs [vq (.int .i64 (j:Int)),vq (.bool false),vq (.bool false),vq (undef),vq (undef),vq (undef),vq (undef),vq (undef),vq (undef),vq (undef),vq (undef),vq (undef),vq (.bool false)]) (fun W=>Ext w5 W) 52 (by kernel_rfl) rfl ?hVx ?hSx ?hS (Ay ?hop) ?hfin
    case hop =>
     refine ⟨?_,?k1,?_,?_,?_,?_,?_,?_,?_,?_,?_,?_,?_,trivial⟩
     all_goals
      intro A W jb hS jc ja;skip;have h0:A.tmps.getD 0 undef=.slice a s.length c:=ja 0 (by kernel_rfl);have h3:A.tmps.getD 3 undef=.int .i64 (j:Int):=ja 3 (by kernel_rfl);have h4:A.tmps.getD 4 undef=.pointer (some ⟨wr.heap.size,0,none⟩):=ja 4 (by kernel_rfl);clear ja;simp [AY,Region.binds,Vs,vq] at jc
     case k1 =>
      refine AX rfl (.inl ⟨_,W,?_,rfl,Ext.refl _⟩);clear jb hS;have jG:=HJ.out;simp [go_sem,Act.eval, *];omega
     all_goals first
      | (refine AX rfl (.inl ⟨_,W,?_,rfl,Ext.refl _⟩);clear jb hS;simp [go_sem,Act.eval, *];done)
      | exact DM (j:=2) (d:=40) (b:=false) rfl (by kernel_rfl) (by simp only [jc]) rfl rfl
    case hVx=>exact Af (by simp only [AS,List.not_mem_nil,or_false,forall_eq_or_imp,forall_eq];and_intros <;> exact AW _)
    case hSx=>exact fun W W' h hx=>Ext.trans h hx
    case hS=>exact Ext.refl _
    case hfin =>
     intro A W jb jf hS hv ja;obtain ⟨x,hx,hA⟩:=Ag [38,39,40,41,42,43,44,45,46,47,48,49,50] (by kernel_rfl) jb jf ja;have e50:x 50=.bool false:=(hx 50).trans (hv 12 (by decide));rw [hA];simp only [List.foldl];rw [e50];clear e50;simp only [Act.put,List.setIfInBounds_toArray,List.set_cons_succ,List.set_cons_zero];clear hA hx hv ja jb jf;have jo:Hid (Ext w5 W):=hS;clear hS
     go_wp2_with fail
     go_roundg (s.length - (j+1))
     case measure=>have:=jy.out;omega
     case rel=>exact ⟨j+1,by go_num,by omega,rfl,by rw [FY,jh.out,HO.out];rfl,HB.out.trans (Below.mono (Ext.trans je.out jo.out) HB.out.size)⟩
   ·obtain ⟨p,jI⟩:∃ p,j=p+1:=⟨j - 1,by omega⟩
    have hp:p<s.length:=by omega
    have jk:(j:Int) - 1=(p:Int):=by omega
    have jl:IntKind.i64.wrap ((j:Int) - 1)=(p:Int):=by rw [jk];exact IntWalk.i64_in _ (by omega)
    obtain ⟨b2,o2,jE,js,l0, -⟩:=(HA.out.later HB.out (A3 _)).ch hp;have hi2:=Hm a b2 o2 s.length c p jE hp;obtain ⟨pI,jx⟩:∃ pI:Int,(s[p].key.toNat:Int)=pI:=⟨_,rfl⟩
    rw [jx] at l0;have jH:kyA s (j - 1)=s[p].key.toNat:=by rw [jI];exact Pt hp
    have jA:=A0 jH;have jC:=A0 jx;have jB:=A0 jk;have jD:=A0 jl;have HJ:Hid ((0:Int)<(j:Int)):=by show _<_;omega
    have jq:¬ j=0:=jv;have jz:=A0 jq;clear jE jk jl jH jx jI jv jq;by_cases g5:kI≤pI
    ·have HR:Hid (okS s=false):=GV jg (by
      cases e:okC s j with
      | false=>rfl
      | true=>have:=ji.out.1 e;have:=jn.out;have:=jA.out;have:=jC.out;have:=jz.out;omega)
     go_wp2_with fail
     obtain ⟨w5,jd⟩:∃ w5,wr.alloc (.cells #[.int .u8 kI,.int .i64 cI] 79)=w5:=⟨_,rfl⟩
     have je:Hid (Ext wr w5):=by show Ext _ _;rw [← jd];exact (Below.refl _ _).alloc (A3 _) _
     have jm:Hid (w5.heap[wr.heap.size]? = some (.cells #[.int .u8 kI,.int .i64 cI] 79 (0,0))):=by show _=_;rw [← jd];exact heap_alloc_new _ _
     have jt:Hid (w5.cell? ⟨b2,o2+p*2,none⟩=some (.int .u8 pI)):=Eq.trans (Below.cell je.out (p:=⟨b2,o2+p*2,none⟩) js) l0;have jj:b2<w5.heap.size:=A7 js (Below.size je.out);rw [jd];clear jd l0;refine Am (by kernel_rfl) (Vs [vq (.int .i64 (j:Int)),vq (.bool true),vq (.bool true),vq (.slice a s.length c),vq (.int .i64 (j:Int)),vq (.int .i64 (p:Int)),vq (.pointer (some ⟨b2,o2+p*2,none⟩)),vq (.pointer (some ⟨b2,o2+p*2,none⟩)),vq (.int .u8 pI),vq (.pointer (some ⟨wr.heap.size,0,none⟩)),vq (.int .u8 kI),vq (.bool true),vq (.bool true)]) (fun W=>Ext w5 W) 52 (by kernel_rfl) rfl ?hVx ?hSx ?hS (Ay ?hop) ?hfin
     case hop =>
      refine ⟨?_,?k1,?_,?_,?_,?_,?_,?_,?_,?_,?_,?_,?_,trivial⟩
      all_goals
       intro A W jb hS jc ja;have l0:=Eq.trans (Below.cell hS (p:=⟨b2,o2+p*2,none⟩) jj) jt.out;have d0:=Eq.trans (Below.cell hS (p:=⟨wr.heap.size,0,none⟩) (A5.1 jm.out).1) (cell_of_row w5 wr.heap.size 0 _ _ (0,0) jm.out);rw [show (#[.int .u8 kI,.int .i64 cI]:Array Value)[0]? = some (.int .u8 kI) from rfl] at d0;have jk:=jB.out;have jl:=jD.out;rw [jk] at jl;have h0:A.tmps.getD 0 undef=.slice a s.length c:=ja 0 (by kernel_rfl);have h3:A.tmps.getD 3 undef=.int .i64 (j:Int):=ja 3 (by kernel_rfl);have h4:A.tmps.getD 4 undef=.pointer (some ⟨wr.heap.size,0,none⟩):=ja 4 (by kernel_rfl);clear ja;simp [AY,Region.binds,Vs,vq] at jc
      case k1 =>
       refine AX rfl (.inl ⟨_,W,?_,rfl,Ext.refl _⟩);clear jb hS;have jG:=HJ.out;simp [go_sem,Act.eval, *];omega
      all_goals first
       | (refine AX rfl (.inl ⟨_,W,?_,rfl,Ext.refl _⟩);clear jb hS;simp [go_sem,Act.eval, *];done)
       | (refine Al (j:=2) (d:=40) (b:=true) rfl (by kernel_rfl) (by simp only [jc]) rfl (.inl ⟨_,W,?_,rfl,Ext.refl _⟩);clear jb hS;simp [go_sem,Act.eval, *];done)
     case hVx=>exact Af (by simp only [AS,List.not_mem_nil,or_false,forall_eq_or_imp,forall_eq];and_intros <;> exact AW _)
     case hSx=>exact fun W W' h hx=>Ext.trans h hx
     case hS=>exact Ext.refl _
     case hfin =>
      intro A W jb jf hS hv ja;obtain ⟨x,hx,hA⟩:=Ag [38,39,40,41,42,43,44,45,46,47,48,49,50] (by kernel_rfl) jb jf ja;have e50:x 50=.bool true:=(hx 50).trans (hv 12 (by decide));rw [hA];simp only [List.foldl];rw [e50];clear e50;simp only [Act.put,List.setIfInBounds_toArray,List.set_cons_succ,List.set_cons_zero];clear hA hx hv ja jb jf;have jo:Hid (Ext w5 W):=hS;clear hS
      go_wp2_with fail
      go_ret;exact ⟨Aa HR.out.symm,HB.out.trans (Below.mono (Ext.trans je.out jo.out) HB.out.size)⟩
    ·have HO:Hid (okC s j=true):=ji.out.2 (by have:=jn.out;have:=jr.out;have:=jA.out;have:=jC.out;have:=jz.out;omega)
     go_wp2_with fail
     obtain ⟨w5,jd⟩:∃ w5,wr.alloc (.cells #[.int .u8 kI,.int .i64 cI] 79)=w5:=⟨_,rfl⟩
     have je:Hid (Ext wr w5):=by show Ext _ _;rw [← jd];exact (Below.refl _ _).alloc (A3 _) _
     have jm:Hid (w5.heap[wr.heap.size]? = some (.cells #[.int .u8 kI,.int .i64 cI] 79 (0,0))):=by show _=_;rw [← jd];exact heap_alloc_new _ _
     have jt:Hid (w5.cell? ⟨b2,o2+p*2,none⟩=some (.int .u8 pI)):=Eq.trans (Below.cell je.out (p:=⟨b2,o2+p*2,none⟩) js) l0;have jj:b2<w5.heap.size:=A7 js (Below.size je.out);rw [jd];clear jd l0;refine Am (by kernel_rfl) (Vs [vq (.int .i64 (j:Int)),vq (.bool true),vq (.bool true),vq (.slice a s.length c),vq (.int .i64 (j:Int)),vq (.int .i64 (p:Int)),vq (.pointer (some ⟨b2,o2+p*2,none⟩)),vq (.pointer (some ⟨b2,o2+p*2,none⟩)),vq (.int .u8 pI),vq (.pointer (some ⟨wr.heap.size,0,none⟩)),vq (.int .u8 kI),vq (.bool false),vq (.bool false)]) (fun W=>Ext w5 W) 52 (by kernel_rfl) rfl ?hVx ?hSx ?hS (Ay ?hop) ?hfin
     case hop =>
      refine ⟨?_,?k1,?_,?_,?_,?_,?_,?_,?_,?_,?_,?_,?_,trivial⟩
      all_goals
       intro A W jb hS jc ja;have l0:=Eq.trans (Below.cell hS (p:=⟨b2,o2+p*2,none⟩) jj) jt.out;have d0:=Eq.trans (Below.cell hS (p:=⟨wr.heap.size,0,none⟩) (A5.1 jm.out).1) (cell_of_row w5 wr.heap.size 0 _ _ (0,0) jm.out);rw [show (#[.int .u8 kI,.int .i64 cI]:Array Value)[0]? = some (.int .u8 kI) from rfl] at d0;have jk:=jB.out;have jl:=jD.out;rw [jk] at jl;have h0:A.tmps.getD 0 undef=.slice a s.length c:=ja 0 (by kernel_rfl);have h3:A.tmps.getD 3 undef=.int .i64 (j:Int):=ja 3 (by kernel_rfl);have h4:A.tmps.getD 4 undef=.pointer (some ⟨wr.heap.size,0,none⟩):=ja 4 (by kernel_rfl);clear ja;simp [AY,Region.binds,Vs,vq] at jc
      case k1 =>
       refine AX rfl (.inl ⟨_,W,?_,rfl,Ext.refl _⟩);clear jb hS;have jG:=HJ.out;simp [go_sem,Act.eval, *];omega
      all_goals first
       | (refine AX rfl (.inl ⟨_,W,?_,rfl,Ext.refl _⟩);clear jb hS;simp [go_sem,Act.eval, *];done)
       | (refine Al (j:=2) (d:=40) (b:=true) rfl (by kernel_rfl) (by simp only [jc]) rfl (.inl ⟨_,W,?_,rfl,Ext.refl _⟩);clear jb hS;simp [go_sem,Act.eval, *];done)
     case hVx=>exact Af (by simp only [AS,List.not_mem_nil,or_false,forall_eq_or_imp,forall_eq];and_intros <;> exact AW _)
     case hSx=>exact fun W W' h hx=>Ext.trans h hx
     case hS=>exact Ext.refl _
     case hfin =>
      intro A W jb jf hS hv ja;obtain ⟨x,hx,hA⟩:=Ag [38,39,40,41,42,43,44,45,46,47,48,49,50] (by kernel_rfl) jb jf ja;have e50:x 50=.bool false:=(hx 50).trans (hv 12 (by decide));rw [hA];simp only [List.foldl];rw [e50];clear e50;simp only [Act.put,List.setIfInBounds_toArray,List.set_cons_succ,List.set_cons_zero];clear hA hx hv ja jb jf;have jo:Hid (Ext w5 W):=hS;clear hS
      go_wp2_with fail
      go_roundg (s.length - (j+1))
      case measure=>have:=jy.out;omega
      case rel=>exact ⟨j+1,by go_num,by omega,rfl,by rw [FY,jh.out,HO.out];rfl,HB.out.trans (Below.mono (Ext.trans je.out jo.out) HB.out.size)⟩
  ·have HR:Hid (okS s=true):=by
    show _=_;have e:j=s.length:=by omega
    have h:=jh.out;rw [e] at h;unfold okS;rw [h];simp;omega
   go_wp2_with fail
   go_ret;exact ⟨Aa HR.out.symm,HB.out⟩
def MR (L:List Slt):Prop:=∀ s∈L,s.Pairwise fun a b=>a.key≠b.key
theorem Ba {w:World} {g:Nat} {m a:Int} {b:Option Addr} {n c:Nat} (h:w.heap[g]? = some (.cells #[.int .i64 m,.int .u8 a,.slice b n c] 33 (0,0))) :
  w.cell? ⟨g,0,none⟩=some (.int .i64 m)∧w.cell? ⟨g,1,none⟩=some (.int .u8 a)∧w.cell? ⟨g,2,none⟩=some (.slice b n c):=by
 refine ⟨?_,?_,?_⟩ <;> (rw [cell_of_row w g _ _ _ (0,0) h];rfl)
theorem MS (s:Slt) (a:Option Addr) (c:Nat) (w:World) (hA:DD w a (chA s)) (hl:s.length≤9223372036854775807) :
  Calls Tryz.prog 72 #[.slice a s.length c] w fun e w'=>e=.returned (.bool (!okS s))∧Below w.heap.size w w':=by
 have hv:=vslot_any s a c w hA hl;have HV:=A0 hv;clear hA hv
 go_enter Tryz.func72,Tryz.ntmps72
 go_wp2_with fail
 refine HV.out.mono ?_;rintro e w1 ⟨rfl,hb⟩;have HB:=A0 hb;clear hb;obtain ⟨r,hr⟩:∃ r,okS s=r:=⟨_,rfl⟩
 rw [hr];have HR:=A0 hr;clear hr;cases r with
 | true =>
  go_wp2_with fail
  go_ret;exact ⟨Aa (by rw [HR.out];rfl),HB.out⟩
 | false =>
  go_wp2_with fail
  go_ret;exact ⟨Aa (by rw [HR.out];rfl),HB.out⟩
theorem idx_valid_any (L:List Slt) (a:Option Addr) (cap:Nat) (w:World) (hX:CE w a L) (hl:L.length≤9223372036854775807) :
  Calls Tryz.prog 100 #[.slice a L.length cap,.func (.func 72) #[] #[]] w fun e w'=>(∃ i:Int,e=.returned (.int .i64 i)∧decide (0≤i)=!L.all okS)∧Below w.heap.size w w':=by
 have HX:=A0 hX;clear hX
 go_enter Tryz.func100,Tryz.ntmps100
 go_wp2
 go_loopg [8] L.length (fun g v8 wr=>∃ j:Nat,v8=.int .i64 (j:Int)∧j≤L.length∧g=L.length - j∧(L.take j).all okS=true∧Below w.heap.size w wr)
 case atStart=>exact ⟨0,rfl,Nat.zero_le _,rfl,rfl,Below.refl _ _⟩
 case round =>
  obtain ⟨j,rfl,hj,jg,ht,hB⟩:=hrel;have HT:=A0 ht;have HB:=A0 hB;have ji:=A0 jg;clear ht hB jg;by_cases jb:j<L.length
  ·obtain ⟨b1,o1,jf,hb1,aa,cc,q0,jh,ja⟩:=(HX.out.later HB.out (A3 _)).at jb;have hi1:=JQ a b1 o1 L.length cap j jf jb;have hv:=MS L[j] aa cc wr ja jh;have je:Hid (L.take (j+1)=L.take j ++ [L[j]]):=AN jb;have jd:Hid (L[j]∈L):=AG jb;obtain ⟨s,hs⟩:∃ s,L[j]=s:=⟨_,rfl⟩
   rw [hs] at hv q0 je jd;have HV:=A0 hv;clear jf hs ja hv jh
   go_wp2_with fail
   refine HV.out.mono ?_;rintro e w1 ⟨rfl,hb⟩;have jc:Hid (Below w.heap.size w w1):=HB.out.trans (hb.mono HB.out.size);clear hb;obtain ⟨r,hr⟩:∃ r,okS s=r:=⟨_,rfl⟩
   rw [hr];have HR:=A0 hr;clear hr;cases r with
   | false =>
    have HN:Hid (L.all okS=false):=by
     show _=_;cases e:L.all okS with
     | false=>rfl
     | true=>have:=List.all_eq_true.1 e s jd.out;rw [HR.out] at this;cases this
    go_wp2_with fail
    go_ret;exact ⟨⟨_,rfl,by rw [HN.out];simp⟩,jc.out⟩
   | true =>
    go_wp2_with fail
    go_roundg (L.length - (j+1))
    case measure=>have:=ji.out;omega
    case rel=>exact ⟨j+1,by go_num,by omega,rfl,by rw [je.out,List.all_append,HT.out];simp [HR.out],jc.out⟩
  ·have HN:Hid (L.all okS=true):=by
    have h:=HT.out;rw [AF (by omega)] at h;exact h
   go_wp2_with fail
   go_ret;exact ⟨⟨_,rfl,by rw [HN.out];rfl⟩,HB.out⟩
theorem Ib (L:List Slt) (a:Option Addr) (cap:Nat) (w:World) (hX:CE w a L) (hl:L.length≤9223372036854775807) :
  Calls Tryz.prog 71 #[.slice a L.length cap,.func (.func 72) #[] #[]] w fun e w'=>e=.returned (.bool (!L.all okS))∧Below w.heap.size w w':=by
 have hv:=idx_valid_any L a cap w hX hl;have HV:=A0 hv;clear hX hv
 go_enter Tryz.func71,Tryz.ntmps71
 go_wp2_with fail
 refine HV.out.mono ?_;rintro e w1 ⟨⟨i,rfl,hi⟩,hb⟩;have HB:=A0 hb;have HI:=A0 hi;clear hb hi
 go_wp2_with fail
 go_ret;exact ⟨Aa HI.out,HB.out⟩
theorem MT (L:List Slt) (a:Option Addr) (cap:Nat) (w:World) (hX:CE w a L) (hl:L.length≤9223372036854775807) :
  Calls Tryz.prog 41 #[.slice a L.length cap] w fun e w'=>e=.returned (.bool (validB L))∧Below w.heap.size w w':=by
 have hv:=Ib L a cap w hX hl;have HV:=A0 hv;clear hX hv;by_cases h40:40<L.length
 ·have ja:(40:Int)<(L.length:Int):=by omega
  have HR:Hid (validB L=false):=by show _=_;unfold validB;simp;omega
  go_enter Tryz.func41,Tryz.ntmps41
  go_wp2_with fail
  go_ret;exact ⟨Aa HR.out.symm,Below.refl _ _⟩
 ·have ja:¬ (40:Int)<(L.length:Int):=by omega
  have HR:Hid (validB L=L.all okS):=by show _=_;unfold validB;rw [decide_eq_true (by omega)];rfl
  go_enter Tryz.func41,Tryz.ntmps41
  go_wp2_with fail
  refine HV.out.mono ?_;rintro e w1 ⟨rfl,hb⟩;have HB:=A0 hb;clear hb;obtain ⟨r,hr⟩:∃ r,L.all okS=r:=⟨_,rfl⟩
  have jb:Hid (validB L=r):=HR.out.trans hr;rw [hr];clear hr HV HR;cases r with
  | true =>
   go_wp2_with fail
   go_ret;exact ⟨Aa jb.out.symm,HB.out⟩
  | false =>
   go_wp2_with fail
   go_ret;exact ⟨Aa jb.out.symm,HB.out⟩
structure FR (w:World) (S:Sch) (b:Option Addr) (c:Nat):Prop where
 fair:JP S.rules
 mo:∀ r∈S.rules,r.frm<S.modes∧r.dst<S.modes
 m0:1≤S.modes
 m8:S.modes≤8
 a0:0≤S.acc
 a1:S.acc≤255
 len:S.rules.length≤64
 out:∀ r∈S.rules,r.out.size≤1000
 cap:S.rules.length≤c
 rul:BG w b S.rules
theorem FR.go {w w1:World} {S:Sch} {b:Option Addr} {c:Nat} (h:FR w S b c) (hb:Below w.heap.size w w1):FR w1 S b c :=
 ⟨h.fair,h.mo,h.m0,h.m8,h.a0,h.a1,h.len,h.out,h.cap,h.rul.later hb (A3 _)⟩
theorem Ic {S:Sch} (h:Fl.validB S=true) {r:Rl} (hr:r∈S.rules):CW S.modes r=true:=by
 obtain ⟨i,hi,rfl⟩:=List.mem_iff_getElem.1 hr;have hv:=((EZ S).1 h).2 i hi hi;unfold CI at hv;rw [Bool.and_eq_true] at hv;exact hv.1
theorem Ey {m:Int} {r:Rl} (h:CW m r=true):0≤r.frm∧r.frm<m∧0≤r.dst∧r.dst<m∧r.inp.size≤4∧r.out.size≤4∧0≤r.cost∧r.cost≤1000:=by
 unfold CW at h;simp only [Bool.and_eq_true,decide_eq_true_eq] at h;obtain ⟨h1,h2,h3,h4,h5,h6,h7,h8,h9,ja⟩:=h;exact ⟨h1,h2,h3,h4,by omega,by omega,h9,ja⟩
theorem FR.of_valid {w:World} {S:Sch} {b:Option Addr} {c:Nat} (hv:Fl.validB S=true) (ha:0≤S.acc) (ja:S.acc≤255) (hc:S.rules.length≤c) (hr:BG w b S.rules):FR w S b c:=by
 have hf:=IZ hv ha ja;have h1:=hf.m0;have h2:=hf.m1;refine ⟨fun r hr=>?_,fun r hr=>?_,by omega,by omega,ha,ja,hf.len,fun r hr=>?_,hc,hr⟩
 ·have h:=Ey (Ic hv hr);exact CQ.2 ⟨h.1,by omega,h.2.2.1,by omega,h.2.2.2.2.1,h.2.2.2.2.2.2.1,h.2.2.2.2.2.2.2⟩
 · have h:=Ey (Ic hv hr);exact ⟨h.2.1,h.2.2.2.1⟩
 · have h:=Ey (Ic hv hr);omega
structure Df (w:World) (a:Option Addr) (c:Nat) (L:List Slt):Prop where
 s:CE w a L
 ha:(∀ b,a=some b→∃ b' o',b=⟨b',o',none⟩)∧(a=none→L=[])
 cap:L.length≤c
 len:L.length≤40
 bnd:Bp 300 L
 dis:MR L
theorem Df.go {w w1:World} {a:Option Addr} {c:Nat} {L:List Slt} (h:Df w a c L) (hb:Below w.heap.size w w1):Df w1 a c L :=
 ⟨h.s.later hb (A3 _),h.ha,h.cap,h.len,h.bnd,h.dis⟩
theorem Df.of {w:World} {B:Nat} {a:Option Addr} {n c:Nat} {L:List Slt} (h:Cd w B (.slice a n c) L) (hl:L.length≤40) (hb:Bp 300 L) (hd:MR L):Df w a c L∧n=L.length:=by
 obtain ⟨h1,h2,h3⟩:=h.slotS;refine ⟨⟨h1,⟨fun b hb=>?_,fun e=>?_⟩,h3,hl,hb,hd⟩,h2⟩
 ·obtain ⟨Ls,hr⟩:=h;rcases hr.own.blk with ⟨e,_⟩ | ⟨g,c2,e,_⟩
  · injection e with e1;rw [e1] at hb;cases hb
  · injection e with e1;rw [e1] at hb;injection hb with hb;exact ⟨g,0,hb.symm⟩
 ·obtain ⟨Ls,hr⟩:=h;rcases hr.own.blk with ⟨_,e2⟩ | ⟨g,c2,e2,_⟩
  · have:=hr.len;rw [e2] at this;exact List.eq_nil_of_length_eq_zero this.symm
  · injection e2 with e1;rw [e] at e1;cases e1
def EnP (R:List Rl) (acc:Int) (L:List Slt) (W:List (List UInt8)) (w:World) (e:Ending) (w':World):Prop:=Rg R acc L W w.heap.size e w'∧Below w.heap.size w w'
theorem MU {N i:Nat} (hN:N≤201) (hi:i≤40):8*N*(i*((8*N+1)*(1000+4*300))+(8*N+1)*(1000+4*300)+2)≤900000000000:=by
 have h1:(8*N+1)*(1000+4*300)≤1609*2200:=Nat.mul_le_mul (by omega) (by decide);have h2:i*((8*N+1)*(1000+4*300))≤40*(1609*2200):=Nat.mul_le_mul hi h1;have h3:8*N*(i*((8*N+1)*(1000+4*300))+(8*N+1)*(1000+4*300)+2)≤1608*(40*(1609*2200)+1609*2200+2):=Nat.mul_le_mul (by omega) (by omega);omega
theorem CJ.inc {Ws:List ByteArray} (hd:CJ Ws):(Ws.map bts).Pairwise fun a b=>Op.bytesLess a b=true:=by
 rw [AR];refine hd.sorted.imp fun {x y} h=>?_;unfold ltS at h;rw [ByteArray.toList_eq,ByteArray.toList_eq] at h;exact h
section
variable {w:World} {S:Sch} {b aD aL:Option Addr} {cS nD cD cL:Nat} {Ws:List ByteArray} {L:List Slt}
theorem SJ (hS:FR w S b cS) (hD:IQ w aD nD cD Ws) (hW:Ws.length≤10) (hL:Df w aL cL L) :
  Calls Tryz.prog 44 #[.agg #[.int .i64 S.modes,.int .u8 S.acc,.slice b S.rules.length cS],.slice aD nD cD,.slice aL L.length cL] w (EnP S.rules S.acc L (Ws.map bts) w):=by
 have ja:=PX hD.dict;have jc:∀ x∈Ws,x.size≤20:=fun x hx=>(EV (hD.dict.word x hx)).2.1;have jb:=hD.len;have h:=ends_any S.rules S.modes S.acc b cS (ofF (Aj 0 Ws)) aD cD aL L cL 300 w hS.rul (by have:=hS.len;omega) (fun r hr=>by have:=hS.out r hr;omega) hD.rows hD.big (Qz hD.dict)
  (by rw [ja];omega) (by rw [ja];exact jc) (by rw [ja];exact hD.dict.inc) hL.s (by have:=hL.len;omega) hL.bnd (by decide) (by rw [ja];exact fun N i hN hi=>MU (by omega) (by have:=hL.len;omega)) hS.a0 hS.a1
 rw [ja,← jb] at h;exact h
end
structure EnR (R:List Rl) (acc:Int) (L:List Slt) (W:List (List UInt8)) (g:Nat) (Ls:List SV) (w:World):Prop where
 own:AZ CZ w 0 (.slice (some ⟨g,0,none⟩) (L.length+1) (L.length+1)) Ls
 len:Ls.length=L.length+1
 ok:∀ (k:Nat) (h:k<Ls.length),∃ l,AZ C2 w 0 (svS Ls[k]) l∧PJ R acc L W k l
def EnS (R:List Rl) (acc:Int) (L:List Slt) (W:List (List UInt8)) (v:Value) (w:World):Prop:=∃ g Ls,v=.slice (some ⟨g,0,none⟩) (L.length+1) (L.length+1)∧EnR R acc L W g Ls w
theorem SK {R:List Rl} {acc:Int} {L:List Slt} {W:List (List UInt8)} {w w':World} {e:Ending} (h:EnP R acc L W w e w'):∃ v,e=.returned v∧EnS R acc L W v w'∧Below w.heap.size w w':=by
 obtain ⟨⟨g,Ls,he,h1,h2,h3⟩,hb⟩:=h;exact ⟨_,he,⟨g,Ls,rfl,h1.mono (Nat.zero_le _),h2,fun k hk=>by obtain ⟨l,h4,h5⟩:=h3 k hk (by omega);exact ⟨l,h4.mono (Nat.zero_le _),h5⟩⟩,hb⟩
theorem Pv {N i j:Nat} {pre rest:List (Nat × Nat)} (h:spn N=pre ++ (i,j) :: rest) (hne:j≠i+1):∃ p,pre=p ++ [(i,j - 1)]:=by
 have hs:=IC N;rw [h,List.pairwise_append] at hs;obtain ⟨h1,h2,h3⟩:=hs;have hm:(i,j)∈spn N:=by rw [h];simp
 obtain ⟨h4,h5⟩:=GD.1 hm;have jb:(i,j - 1)∈spn N:=GD.2 ⟨by omega,by omega⟩;rw [h] at jb;have ja:(i,j - 1)∈pre:=by
  rcases AT.1 jb with h6 | h6
  · exact h6
  ·rcases AS.1 h6 with h6 | h6
   · injection h6 with _ h6;omega
   · have:=(AQ.1 h2).1 _ h6;simp only at this;omega
 rcases List.eq_nil_or_concat pre with rfl | ⟨p,y,rfl⟩
 · cases ja
 ·rw [List.concat_eq_append] at h1 h3 ja ⊢;refine ⟨p,?_⟩;obtain ⟨a,b⟩:=y;have h7:=h3 (a,b) (by simp) (i,j) A9;rw [List.pairwise_append] at h1;have h8:(i,j - 1)=(a,b)∨(i<a∨i=a∧j - 1<b):=by
   rcases AT.1 ja with h8 | h8
   · exact .inr (h1.2.2 _ h8 (a,b) (by simp))
   · exact .inl (by simpa using h8)
  simp only at h7;congr 2;rcases h8 with h8 | h8
  · exact h8.symm
  · ext <;> simp only <;> omega
theorem Kc.walk {A B:World} {row:Option Nat} (hg:A.grownBy B row) (hr:∀ r,row=some r→∃ o:Obj,A.heap[r]? = some o∧o.isCells=false):Kc A B:=by
 refine ⟨hg.size,fun q cs t f hq=>?_⟩;refine (hg.block q (A5.1 hq).1 fun e=>?_).trans hq;obtain ⟨o,h1,h2⟩:=hr q e.symm;rw [hq] at h1;cases h1;cases h2
theorem MV {α:Type} {B:Nat} {I:List α→World→Prop} (h:∀ pre A C,Kc A C→I pre A→I pre C):OwnFrom B I:=fun s A C row hs hg hr=>h s A C (Kc.walk hg fun r e=>(hr r e).2) hs
theorem Hh (b o n cap i:Nat) (hi:i≤n) (hn:n≤cap):∃ o',(i<cap→o'=o+i)∧∀ w:World,
  (Instr.slice 41 (.slice (some ⟨b,o,none⟩) n cap) (some (.int .i64 (i:Int))) none none).run Tryz.prog w=.ok (.slice (some ⟨b,o',none⟩) (n - i) (cap - i)) w:=by
 have h0:(0:Int)≤(i:Int):=by omega
 have h1:(i:Int)≤(n:Int):=by omega
 have h2:(n:Int)≤(cap:Int):=by omega
 refine ⟨if cap=i then o else o+i,fun h=>if_neg (by omega),fun w=>?_⟩;simp [go_sem,Instr.slice,Instr.sliceBounds,Instr.sliceBound,asIntOf,h0,h1,h2,Addr.add,hi];by_cases e:cap=i
 · simp [e]
 ·by_cases e0:i=0
  · simp [e0]
  · simp [e,e0]
theorem Df.sub {w:World} {b o o' c:Nat} {L:List Slt} (h:Df w (some ⟨b,o,none⟩) c L) {i j:Nat} (hij:i≤j) (hj:j≤L.length) (ho:i<c→o'=o+i):Df w (some ⟨b,o',none⟩) (c - i) ((L.drop i).take (j - i)) where
 s
  := fun k hk=>by
  rw [AK,List.length_drop] at hk;obtain ⟨b',o2,e,h2,aa,cc,h3,h4,h5⟩:=h.s (i+k) (by omega);injection e with e;injection e with e1 e2;subst e1 e2;have hc:=h.cap;have ja:=ho (by omega);refine ⟨b,o',rfl,h2,aa,cc,?_,?_,?_⟩
  · rw [List.getElem_take,List.getElem_drop,ja,Nat.add_assoc];exact h3
  · rw [List.getElem_take,List.getElem_drop];exact h4
  · rw [List.getElem_take,List.getElem_drop];exact h5
 ha:=⟨fun b2 hb=>⟨b,o',by injection hb with hb;exact hb.symm⟩,fun e=>by cases e⟩
 cap:=by rw [AK,List.length_drop];have:=h.cap;omega
 len:=by rw [AK,List.length_drop];have:=h.len;omega
 bnd:=fun s hs=>h.bnd s (List.mem_of_mem_drop (List.mem_of_mem_take hs))
 dis:=fun s hs=>h.dis s (List.mem_of_mem_drop (List.mem_of_mem_take hs))
theorem Ez {S:Sch} (h:BU S=0):Fl.validB S=true:=by
 cases e:Fl.validB S with
 | true=>rfl
 | false=>rw [BU,if_neg (by rw [e];decide)] at h;cases h
attribute [local go_sem] Oper.semAt_some
theorem KM (w:World) (o0 o1 o2 o3 o4:Obj):∃ w5,(((((w.alloc o0).alloc o1).alloc o2).alloc o3).alloc o4)=w5∧Ext w w5∧w5.heap[w.heap.size]? = some o0∧w5.heap[w.heap.size+1]? = some o1∧w5.heap[w.heap.size+2]? = some o2∧w5.heap[w.heap.size+3]? = some o3∧w5.heap[w.heap.size+4]? = some o4∧w5.heap.size=w.heap.size+5:=by
 have x:∀ (W:World) (o:Obj),Ext W (W.alloc o):=fun W o=>(Below.refl _ _).alloc (A3 _) _;have n:∀ (W:World) (o:Obj),(W.alloc o).heap[W.heap.size]? = some o:=fun W o=>World.alloc_heap_new W o;have k:∀ (W:World) (o p:Obj) (i:Nat),W.heap[i]? = some p→(W.alloc o).heap[i]? = some p:=fun W o p i h=>(Below.block (x W o) _ (A5.1 h).1).trans h;refine ⟨_,rfl,Ext.trans (x _ _) (Ext.trans (x _ _) (Ext.trans (x _ _) (Ext.trans (x _ _) (x _ _)))),k _ _ _ _ (k _ _ _ _ (k _ _ _ _ (k _ _ _ _ (n _ _)))),?_,?_,?_,?_,by simp⟩
 · exact k _ _ _ _ (k _ _ _ _ (k _ _ _ _ (by have:=n (w.alloc o0) o1;rwa [A6] at this)))
 · exact k _ _ _ _ (k _ _ _ _ (by have:=n ((w.alloc o0).alloc o1) o2;rwa [A6,A6] at this))
 · exact k _ _ _ _ (by have:=n (((w.alloc o0).alloc o1).alloc o2) o3;rwa [A6,A6,A6] at this)
 ·have:=n ((((w.alloc o0).alloc o1).alloc o2).alloc o3) o4
  rwa [A6,A6,A6,A6] at this
theorem Ai {w5:World} {g:Nat} {o:Obj} (h:w5.heap[g]? = some o):∀ W,Ext w5 W→W.heap[g]? = some o:=fun W hx=>(Below.block hx _ (A5.1 h).1).trans h
theorem Ax {w:World} {g:Nat} {a b c d:Value} {t:TypeId} {f:Nat × Nat} (h:w.heap[g]? = some (.cells #[a,b,c,d] t f)):w.cell? ⟨g,0,none⟩=some a∧w.cell? ⟨g,1,none⟩=some b∧w.cell? ⟨g,2,none⟩=some c∧w.cell? ⟨g,3,none⟩=some d:=by
 refine ⟨?_,?_,?_,?_⟩ <;> (rw [cell_of_row w g _ _ _ f h];rfl)
theorem BA {w:World} {g:Nat} {a:Value} {t:TypeId} {f:Nat × Nat} (h:w.heap[g]? = some (.cells #[a] t f)):w.cell? ⟨g,0,none⟩=some a:=by rw [cell_of_row w g _ _ _ f h];rfl
theorem EnR.kc {R:List Rl} {acc:Int} {L:List Slt} {W:List (List UInt8)} {g:Nat} {Ls:List SV} {w w':World} (h:EnR R acc L W g Ls w) (hk:Kc w w'):EnR R acc L W g Ls w' :=
 ⟨h.own.kc hk,h.len,fun k hl=>by obtain ⟨l,h1,h2⟩:=h.ok k hl;exact ⟨l,h1.kc hk,h2⟩⟩
theorem EnS.kc {R:List Rl} {acc:Int} {L:List Slt} {W:List (List UInt8)} {v:Value} {w w':World} (h:EnS R acc L W v w) (hk:Kc w w'):EnS R acc L W v w':=by
 obtain ⟨g,Ls,h1,h2⟩:=h;exact ⟨g,Ls,h1,h2.kc hk⟩
noncomputable def EL (R:List Rl) (acc:Int) (L:List Slt) (Wb:List (List UInt8)) (pre:List (Nat × Nat)):List Edg:=pre.flatMap fun p=>E6 p.1 p.2 (Gj R acc (L.drop p.1) Wb (p.2 - p.1))
structure LI (R:List Rl) (acc:Int) (L:List Slt) (Wb:List (List UInt8)) (gs g10:Nat) (pre:List (Nat × Nat)) (W:World):Prop where
 sp:W.heap[g10+1+1]? = some (.cells #[.int .i64 (L.length:Int)] 3 (0,0))
 ed:∃ vE,W.heap[g10]? = some (.cells #[.int .i64 (L.length:Int),vE] 45 (0,0))∧AZ BB W g10 vE (EL R acc L Wb pre)
 en:∃ vN,W.heap[g10+1]? = some (.cells #[vN] 103 (0,0))∧∀ p i j,pre=p ++ [(i,j)]→EnS R acc (L.drop i) Wb vN W
theorem LI.kc {R:List Rl} {acc:Int} {L:List Slt} {Wb:List (List UInt8)} {gs g10:Nat} {pre:List (Nat × Nat)} {A C:World} (hk:Kc A C) (h:LI R acc L Wb gs g10 pre A):LI R acc L Wb gs g10 pre C where
 sp:=hk.block _ _ _ _ h.sp
 ed:=by obtain ⟨v,h1,h2⟩:=h.ed;exact ⟨v,hk.block _ _ _ _ h1,h2.kc hk⟩
 en:=by obtain ⟨v,h1,h2⟩:=h.en;exact ⟨v,hk.block _ _ _ _ h1,fun p i j e=>(h2 p i j e).kc hk⟩
def Tq (g:Nat) (w w':World):Prop:=w.grownBy w' (some g)
section
variable {g:Nat} {w w1 w2:World}
theorem Tq.of (h:Ext w w1):Tq g w w1:=⟨Below.os h,Below.tape h,Below.output h,Below.size h,fun k hk _=>Below.block h k hk⟩
theorem Tq.trans (h:Tq g w w1) (h2:Tq g w1 w2):Tq g w w2 :=
 ⟨h2.os.trans h.os,h2.tape.trans h.tape,h2.output.trans h.output,A8 h.size h2.size,fun k hk ja=>(h2.block k (A7 hk h.size) ja).trans (h.block k hk ja)⟩
theorem Tq.below (h:Tq g w w1) {B:Nat} (hB:B≤g) (hw:B≤w.heap.size):Below B w w1 :=
 ⟨h.os,h.tape,h.output,h.size,fun k hk=>h.block k (by omega) fun e=>by injection e with e;omega⟩
theorem Tq.set (w:World) (g i:Nat) (v:Value):Tq g w (w.setCell ⟨g,i,none⟩ v) :=
 ⟨rfl,rfl,rfl,by rw [World.size_setCell];exact A3 _,fun k hk ja=>Below.heap_setCell _ _ _ _ fun e=>ja (by rw [e])⟩
theorem Tq.at (h:Tq g w w1) {q:Nat} (hq:q≠g) {o:Obj} (ho:w.heap[q]? = some o):w1.heap[q]? = some o:=(h.block q (A5.1 ho).1 (fun e=>hq (by cases e;rfl))).trans ho
theorem Tq.row {α:Type} {T:BQ α} {B:Nat} {v:Value} {L:List α} (ho:AZ T w B v L) {cs:Array Value} {t:TypeId} {f:Nat × Nat} (hg:w.heap[g]? = some (.cells cs t f)) (ht:t≠T.e) (h:Tq g w w1):AZ T w1 B v L:=ho.keep fun q hq=>by
 obtain ⟨cs2,h1⟩:=Au ho hq;have ja:q≠g:=fun e=>by
  rw [e,hg] at h1;injection h1 with h1;injection h1 with _ h2;exact ht h2
 rw [h.at ja h1,h1]
theorem Tq.ends {R:List Rl} {acc:Int} {L:List Slt} {W:List (List UInt8)} {v:Value} (he:EnS R acc L W v w) {cs:Array Value} {t:TypeId} {f:Nat × Nat} (hg:w.heap[g]? = some (.cells cs t f)) (h1:t≠C2.e) (h2:t≠CZ.e) (h:Tq g w w1):EnS R acc L W v w1:=by
 obtain ⟨gN,Ls,e,hr⟩:=he;exact ⟨gN,Ls,e,h.row hr.own hg h2,hr.len,fun k hk=>by obtain ⟨l,h3,h4⟩:=hr.ok k hk;exact ⟨l,h.row h3 hg h1,h4⟩⟩
end
structure Rb (g:Nat) (A B:World):Prop where
 os:B.os=A.os
 tape:B.tape=A.tape
 output:B.output=A.output
 size:A.heap.size≤B.heap.size
 low:∀ q,q<g→q<A.heap.size→B.heap[q]? = A.heap[q]?
 keep:∀ q o,A.heap[q]? = some o→q≠g→(∀ cs f,o≠.cells cs BB.e f)→B.heap[q]? = some o
section
variable {g:Nat} {A B C:World}
theorem Rb.of (h:Ext A B):Rb g A B:=⟨Below.os h,Below.tape h,Below.output h,Below.size h,fun q _ hq=>Below.block h q hq,fun q o hq _ _=>(Below.block h q (A5.1 hq).1).trans hq⟩
theorem Rb.trans (h:Rb g A B) (k:Rb g B C):Rb g A C:=⟨k.os.trans h.os,k.tape.trans h.tape,k.output.trans h.output,A8 h.size k.size,fun q hq hl=>(k.low q hq (A7 hl h.size)).trans (h.low q hq hl),fun q o hq ja ho=>k.keep q o (h.keep q o hq ja ho) ja ho⟩
theorem Rb.set (W:World) (g i:Nat) (v:Value):Rb g W (W.setCell ⟨g,i,none⟩ v):=⟨rfl,rfl,rfl,by rw [World.size_setCell];exact A3 _,fun q hq _=>Below.heap_setCell _ _ _ _ (by show q≠g;omega),fun q o hq ja _=>(Below.heap_setCell _ _ _ _ ja).trans hq⟩
theorem Rb.grown {v:Value} {E:List Edg} (ho:AZ BB A g v E) (hg:A.grownBy B v.ownBlock):Rb g A B:=⟨hg.os,hg.tape,hg.output,hg.size,fun q hq hl=>hg.block q hl fun e=>by have:=ho.ge q e.symm;omega,fun q o hq _ ja=>(hg.block q (A5.1 hq).1 fun e=>by
 obtain ⟨cs,h1⟩:=Au ho e.symm;rw [hq] at h1;injection h1 with h1;exact ja _ _ h1).trans hq⟩
theorem Rb.below (h:Rb g A B) (hA:g≤A.heap.size):Below g A B:=⟨h.os,h.tape,h.output,h.size,fun q hq=>h.low q hq (by omega)⟩
theorem Rb.row {α:Type} {T:BQ α} {D:Nat} {v:Value} {L:List α} (h:Rb g A B) (ho:AZ T A D v L) {cs:Array Value} {t:TypeId} {f:Nat × Nat} (hg:A.heap[g]? = some (.cells cs t f)) (ht:t≠T.e) (hT:T.e≠BB.e):AZ T B D v L:=ho.keep fun q hq=>by
 obtain ⟨cs2,h1⟩:=Au ho hq;have ja:q≠g:=fun e=>by
  rw [e,hg] at h1;injection h1 with h1;injection h1 with _ h2;exact ht h2
 rw [h.keep q _ h1 ja (fun cs3 f3 e=>by injection e with _ e;exact hT e),h1]
theorem Rb.ends {R:List Rl} {acc:Int} {L:List Slt} {W:List (List UInt8)} {v:Value} (h:Rb g A B) (he:EnS R acc L W v A) {cs:Array Value} {t:TypeId} {f:Nat × Nat} (hg:A.heap[g]? = some (.cells cs t f)) (h1:t≠C2.e) (h2:t≠CZ.e):EnS R acc L W v B:=by
 obtain ⟨gN,Ls,e,hr⟩:=he;exact ⟨gN,Ls,e,h.row hr.own hg h2 (by decide),hr.len,fun k hk=>by obtain ⟨l,h3,h4⟩:=hr.ok k hk;exact ⟨l,h.row h3 hg h1 (by decide),h4⟩⟩
end
theorem Id (W:World) (a b c d:Value) (t:TypeId):∀ (j:Nat) (u:Value),[a,b,c,d][j]? = some u→(W.alloc (.cells #[a,b,c,d] t (0,0))).cell? ((⟨W.heap.size,0,none⟩:Addr).add j)=some u:=fun j u h=>by
 have hn:=heap_alloc_new W (.cells #[a,b,c,d] t (0,0));rw [show ((⟨W.heap.size,0,none⟩:Addr).add j)=⟨W.heap.size,j,none⟩ by cases j <;> simp [Addr.add],cell_of_row _ _ j _ _ _ hn];simpa [eq_comm] using h
theorem La {W w3:World} {g:Nat} {tmp:Obj} {n:Value} {aX a1:Option Addr} {cX n1 c1:Nat} {E F:List Edg}
  (hc:W.heap[g]? = some (.cells #[n,.slice aX E.length cX] 45 (0,0))) (jc:AZ BB W g (.slice aX E.length cX) E)
  (ja:AZ BB w3 g (.slice a1 n1 c1) F) (jb:(W.alloc tmp).grownBy w3 (Value.slice aX E.length cX).ownBlock) :
  w3.heap[g]? = some (.cells #[n,.slice aX E.length cX] 45 (0,0))∧(w3.setCell ⟨g,1,none⟩ (.slice a1 n1 c1)).heap[g]? = some (.cells #[n,.slice a1 n1 c1] 45 (0,0))∧AZ BB (w3.setCell ⟨g,1,none⟩ (.slice a1 n1 c1)) g (.slice a1 n1 c1) F∧Rb g W (w3.setCell ⟨g,1,none⟩ (.slice a1 n1 c1))∧KeepsOthers W (w3.setCell ⟨g,1,none⟩ (.slice a1 n1 c1)):=by
 have je:=(A5.1 hc).1;have jd:AZ BB (W.alloc tmp) g (.slice aX E.length cX) E:=jc.alloc _;have jf:∀ q,(Value.slice aX E.length cX).ownBlock=some q→q≠g:=fun q e h=>by
  obtain ⟨cs,h1⟩:=Au jc e;rw [h,hc] at h1;injection h1 with h1;injection h1 with _ h2;exact absurd h2 (by decide)
 have h3:w3.heap[g]? = some (.cells #[n,.slice aX E.length cX] 45 (0,0)):=(jb.block g (by rw [A6];omega) (fun e=>jf g e.symm rfl)).trans ((Below.heap_alloc _ _ _ je).trans hc);have hr:Rb g W w3:=(Rb.of ((Below.refl _ _).alloc (A3 _) _)).trans (Rb.grown jd jb);refine ⟨h3,Ao h3 rfl,ja.keep fun q hq=>Below.heap_setCell _ _ _ _ ?_,hr.trans (Rb.set _ _ _ _),((KeepsOthers.alloc _ _).trans (KeepsOthers.of_grownBy jb fun q o hq ho=>?_)).trans (KeepsOthers.setCell _ _ _)⟩
 ·intro e;obtain ⟨cs,h1⟩:=Au ja hq;rw [show q=g from e,h3] at h1;injection h1 with h1;injection h1 with _ h2;exact absurd h2 (by decide)
 ·obtain ⟨cs,h1⟩:=Au jd hq;rw [ho] at h1;injection h1 with h1;rw [h1];rfl
theorem EnR.at2 {R:List Rl} {acc:Int} {L:List Slt} {W:List (List UInt8)} {g:Nat} {Ls:List SV} {w:World} (h:EnR R acc L W g Ls w) {k:Nat} (hk:k<L.length+1) :
  ∃ a c l,w.cell? ⟨g,k,none⟩=some (.slice a l.length c)∧AZ C2 w 0 (.slice a l.length c) l∧PJ R acc L W k l:=by
 have jc:k<Ls.length:=by rw [h.len];exact hk
 obtain ⟨l,h1,h2⟩:=h.ok k jc;obtain ⟨a,c,he, -, -⟩:=h1.form;have jb:=h.own.cell EW jc (j:=0) (by decide);have e1:k*CZ.k+0=k:=by show k*1+0=k;omega
 rw [e1] at jb;have ja:w.cell? ⟨g,k,none⟩=some (svS Ls[k]):=jb;rw [he] at ja h1;exact ⟨a,c,l,ja,h1,h2⟩
def EnV (R:List Rl) (acc:Int) (L:List Slt) (Wb:List (List UInt8)) (Wr:World) (g:Nat) (v:Value) (W:World):Prop:=∃ W0,Ext Wr W0∧EnS R acc L Wb v W0∧Tq g W0 W
theorem OR (R:List Rl) (acc:Int) (L:List Slt) (Wb:List (List UInt8)) (Wr:World) (g:Nat):Bb (EnV R acc L Wb Wr g):=by
 rintro v w w' ⟨W0,h1,h2,h3⟩ hx;exact ⟨W0,h1,h2,h3.trans (Tq.of hx)⟩
theorem RG {R:List Rl} {acc:Int} {L:List Slt} {Wb:List (List UInt8)} {Wr:World} {g:Nat}:∀ v w w',EnV R acc L Wb Wr g v w→Tq g w w'→EnV R acc L Wb Wr g v w':=by
 rintro v w w' ⟨W0,h1,h2,h3⟩ hx;exact ⟨W0,h1,h2,h3.trans hx⟩
def Ie (R:List Rl) (acc:Int) (L:List Slt) (Wb:List (List UInt8)) (Wr:World) (g:Nat) (b:Bool) (W:World):Prop:=match b with
 | false=>Ext Wr W
 | true=>∃ v W0,Ext Wr W0∧EnS R acc L Wb v W0∧Tq g W0 W∧W.heap[g]? = some (.cells #[v] 103 (0,0))
theorem Ie.ext {R:List Rl} {acc:Int} {L:List Slt} {Wb:List (List UInt8)} {Wr:World} {g:Nat}:∀ (b:Bool) (W W':World),Ie R acc L Wb Wr g b W→Ext W W'→Ie R acc L Wb Wr g b W':=fun b W W' h hx=>by
 cases b with
 | false=>exact Ext.trans h hx
 | true =>
  obtain ⟨v,W0,h1,h2,h3,h4⟩:=h;exact ⟨v,W0,h1,h2,h3.trans (Tq.of hx),(Below.block hx _ (A5.1 h4).1).trans h4⟩
theorem Lb {R:List Rl} {acc:Int} {L:List Slt} {W:List (List UInt8)} {i:Nat} {l:List (Nat × Nat)} (h:DY R acc L W i l):l.length≤W.length:=by
 rw [h.eqF];exact ID
theorem Lc {R:List Rl} {acc:Int} {L:List Slt} {Wb:List (List UInt8)} {pre rest:List (Nat × Nat)} (h:spn L.length=pre ++ rest) (hl:L.length≤6) (hw:Wb.length≤10):(EL R acc L Wb pre).length≤210:=by
 have h1:(EL R acc L Wb pre).length≤pre.length*Wb.length:=Gk fun p _=>by unfold E6;rw [AM];exact ID
 have h2:=NA _ hl;rw [h,AB] at h2;have h3:pre.length*Wb.length≤21*10:=Nat.mul_le_mul (by omega) hw;omega
def SL (n:Nat) (E:List Edg) (w:World) (e:Ending) (w':World):Prop:=∃ v,e=.returned (.tuple #[.agg #[.int .i64 (n:Int),v],.int .i64 0])∧AZ BB w' w.heap.size v E∧Ext w w'
theorem lbuild_ok (S:Sch) (b aw aL:Option Addr) (cS cw cL:Nat) (mv1 mv2 mv3:Value) (Ws:List ByteArray) (L:List Slt) (w:World) (hS:FR w S b cS) (hv:Fl.validB S=true) (hs:BU S=0) (hT:Tab w)
  (hM:∀ W,Ext w W→Calls Tryz.prog 40 #[.agg #[.slice aw Ws.length cw,mv1,mv2,mv3]] W fun e w'=>e=.returned (.bool true)∧Ext W w')
  (k8:∀ W,Ext w W→Calls Tryz.prog 41 #[.slice aL L.length cL] W fun e w'=>e=.returned (.bool true)∧Ext W w')
  (hW:BH w aw Ws) (hd:CJ Ws) (yL:Ws.length≤cw) (jg:Ws.length≤10) (hL:Df w aL cL L) (yi:L.length≤6) :
  Calls Tryz.prog 14 #[.agg #[.int .i64 S.modes,.int .u8 S.acc,.slice b S.rules.length cS],.agg #[.slice aw Ws.length cw,mv1,mv2,mv3],.slice aL L.length cL] w (SL L.length (Ct S.rules S.acc L (Ws.map bts)) w):=by
 have HS:=A0 hS;have HM:=A0 hM;have yw:=A0 k8;have HW:=A0 hW;have HD:=A0 hd;have HL:=A0 hL;have HT:=A0 hT;have kd:=IZ hv hS.a0 hS.a1;have kt:=A0 kd;have yx:=A0 hs;have kH:=hS.cap;have hl64:=hS.len;have yC:=hS.a0;have jL:=hS.a1;clear hS hM k8 hW hd hL hT kd hs;obtain ⟨i0,ye,yq,yr,ys⟩:=info_parts Cv.info;refine (callsIn_wide (n:=9)).1 ?_;refine callsIn_of_wp_marks Tryz.func14 rfl trivial ?_ rfl;simp only [Tryz.ntmps14,List.size_toArray,List.length_cons,List.length_nil,Nat.reduceAdd,Nat.reduceSub,Array.replicate_succ,Array.replicate_zero,List.push_toArray,List.append_toArray,List.nil_append,List.cons_append]
 gi_wp2_with fail
 refine ⟨trivial,?_⟩;obtain ⟨w5,ym,yn,h0,h1,h2,h3,h4,kZ⟩:=KM w (.cells #[.int .i64 S.modes,.int .u8 S.acc,.slice b S.rules.length cS] 33) (.cells #[.slice aw Ws.length cw,mv1,mv2,mv3] 39) (.cells #[.slice aL L.length cL] 41) (.cells #[.int .i64 0,.slice none 0 0] 45) (.cells #[.int .i64 0] 46);rw [ym];have j0:=A0 yn;have H0:=A0 (Ai h0);have H1:=A0 (Ai h1);have H2:=A0 (Ai h2);have H3:=A0 (Ai h3);have H4:=A0 (Ai h4);obtain ⟨gs,kL⟩:∃ gs,w.heap.size=gs:=⟨_,rfl⟩
 have yv:=A0 kL;rw [kL] at H0 H1 H2 H3 H4 kZ ⊢;have yz:=A0 kZ;clear ym yn h0 h1 h2 h3 h4 kL kZ;have kR:=Fl.sound_any S b cS w5 (HS.out.rul.later j0.out (A3 _)) yC jL (by omega) kH (fun _=>kt.out);rw [yx.out] at kR;refine (callsIn_wide.2 kR).mono ?_;clear kR;rintro e w6 ⟨rfl,ya⟩;have kz:Hid (Ext w5 w6):=ya;clear ya;obtain ⟨m0,m1,m2,m3⟩:=Ax (H1.out w6 kz.out)
 gi_wp2_with fail
 refine ⟨trivial,?_⟩;refine (callsIn_wide.2 (HM.out w6 (Ext.trans j0.out kz.out))).mono ?_;rintro e w7 ⟨rfl,yo⟩;have kA:Hid (Ext w5 w7):=Ext.trans kz.out yo;clear yo m0 m1 m2 m3;have l0:=BA (H2.out w7 kA.out)
 gi_wp2_with fail
 refine ⟨trivial,?_⟩;refine (callsIn_wide.2 (yw.out w7 (Ext.trans j0.out kA.out))).mono ?_;rintro e w8 ⟨rfl,yp⟩;have kB:Hid (Ext w5 w8):=Ext.trans kA.out yp;clear yp l0;obtain ⟨m0,m1,m2,m3⟩:=Ax (H1.out w8 kB.out)
 gi_wp2_with fail
 refine ⟨trivial,?_⟩;have jY:Ext w w8:=Ext.trans j0.out kB.out;refine (callsIn_wide.2 (R6 HD.out (HW.out.later jY (A3 _)) rfl yL (HT.out.go jY))).mono ?_;clear jY;rintro e w9 ⟨aD,nD,cD,rfl,k9,yb⟩;have kl:Hid (Ext w5 w9):=Ext.trans kB.out yb;have yt:Hid (∀ W,Ext w9 W→IQ W aD nD cD Ws):=fun W hx=>k9.go hx;clear yb k9 m0 m1 m2 m3;have l0:=BA (H2.out w9 kl.out);have yM:gs+5≤w9.heap.size:=by have:=yz.out;have:=kl.out.size;omega
 gi_wp2_with fail
 refine ⟨trivial,?_⟩;clear l0;obtain ⟨w10,jg⟩:∃ w10,w9.alloc (.cells #[.slice aD nD cD] 69)=w10:=⟨_,rfl⟩
 have kY:w10.heap.size=w9.heap.size+1:=by rw [← jg];simp
 have jX:Ext w9 w10:=by rw [← jg];exact (Below.refl _ _).alloc (A3 _) _
 have h8:w10.heap[w9.heap.size]? = some (.cells #[.slice aD nD cD] 69 (0,0)):=by rw [← jg];exact heap_alloc_new _ _
 rw [jg];obtain ⟨g10,jz⟩:∃ g10,w10.heap.size=g10:=⟨_,rfl⟩
 have yG:w9.heap.size+1=g10:=by omega
 obtain ⟨g9,kI⟩:∃ g9,w9.heap.size=g9:=⟨_,rfl⟩
 have jw:Hid (Ext w5 w10):=Ext.trans kl.out jX;have jD:=A0 jX;rw [kI] at yG h8 yM kY ⊢;have H8:=A0 (Ai h8);clear jg jX h8;refine (callsIn_wide.2 (O5 (L.length:Int) _)).mono ?_;rintro e w' ⟨rfl,rfl⟩
 gi_wp2_with fail
 obtain ⟨w13,jo⟩:∃ w13,((w10.alloc (.cells #[.int .i64 (L.length:Int),.slice none 0 0] 45)).alloc (.cells #[.slice none 0 0] 103)).alloc (.cells #[.int .i64 (L.length:Int)] 3)=w13:=⟨_,rfl⟩
 have x:∀ (W:World) (o:Obj),Ext W (W.alloc o):=fun W o=>(Below.refl _ _).alloc (A3 _) _;have n:∀ (W:World) (o:Obj),(W.alloc o).heap[W.heap.size]? = some o:=fun W o=>World.alloc_heap_new W o;have k:∀ (W:World) (o p:Obj) (i:Nat),W.heap[i]? = some p→(W.alloc o).heap[i]? = some p:=fun W o p i h=>(Below.block (x W o) _ (A5.1 h).1).trans h;have k10:w13.heap[g10]? = some (.cells #[.int .i64 (L.length:Int),.slice none 0 0] 45 (0,0)):=by rw [← jo,← jz];exact k _ _ _ _ (k _ _ _ _ (n _ _))
 have k11:w13.heap[g10+1]? = some (.cells #[.slice none 0 0] 103 (0,0)):=by
  rw [← jo,← jz];exact k _ _ _ _ (by have:=n (w10.alloc (.cells #[.int .i64 (L.length:Int),.slice none 0 0] 45)) (.cells #[.slice none 0 0] 103);rwa [A6] at this)
 have k12:w13.heap[g10+1+1]? = some (.cells #[.int .i64 (L.length:Int)] 3 (0,0)):=by
  rw [← jo,← jz];have:=n ((w10.alloc (.cells #[.int .i64 (L.length:Int),.slice none 0 0] 45)).alloc (.cells #[.slice none 0 0] 103)) (.cells #[.int .i64 (L.length:Int)] 3);rwa [A6,A6] at this
 have ki:Ext w10 w13:=by rw [← jo];exact Ext.trans (x _ _) (Ext.trans (x _ _) (x _ _))
 have hz13:w13.heap.size=g10+3:=by rw [← jo,← jz];simp
 rw [jo];clear jo x n k;have HX13:=A0 ki;refine Iz (w0:=w13) rfl (by omega) (gf:=77) (lb:=#[.pointer (some ⟨g10+1+1,0,none⟩)]) rfl trivial (enters_of Tryz.func77 (by kernel_rfl) rfl)
  (spans_at L.length (g10+1+1) w13 (by omega) (BA k12) (by omega)) (fun h k=>h.trans k) (fun W l o o' hl _ _ _=>KpB.obj (by omega)) (Below.refl _ _) (fun _=>rfl)
  (fun pre W=>LI S.rules S.acc L (Ws.map bts) gs g10 pre W∧Below g10 w10 W) (fun _ _ _=>False) (OwnFrom.and (MV fun pre A C hk h=>h.kc hk) (ownFrom_below (by omega) (by omega))) (fun _ _ _ _ _ h=>h.elim)
  ⟨⟨k12,⟨_,k10,AZ.nil BB _ _⟩,⟨_,k11,fun p i j e=>by simp at e⟩⟩,by rw [← jz];exact ki⟩
  (fun x=>{ tmps:=#[.agg #[.int .i64 S.modes,.int .u8 S.acc,.slice b S.rules.length cS],.agg #[.slice aw Ws.length cw,mv1,mv2,mv3],.slice aL L.length cL,.pointer (some ⟨gs,0,none⟩),.pointer (some ⟨gs+1,0,none⟩),.pointer (some ⟨gs+1+1,0,none⟩),.pointer (some ⟨gs+1+1+1,0,none⟩),.pointer (some ⟨gs+1+1+1+1,0,none⟩),.pointer (some ⟨g9,0,none⟩),.int .i64 0,.pointer (some ⟨g10,0,none⟩),.pointer (some ⟨g10+1,0,none⟩),.int .i64 (x.1:Int),.int .i64 (x.2:Int),undef,undef,.bool false,.agg #[.int .i64 S.modes,.int .u8 S.acc,.slice b S.rules.length cS],.int .i64 0,.bool false,undef,.bool false,.agg #[.slice aw Ws.length cw,mv1,mv2,mv3],.bool true,.bool false,undef,.bool false,.slice aL L.length cL,.bool true,.bool false,undef,.tuple #[.slice aD nD cD,.int .i64 0],.pointer (some ⟨gs+1,0,none⟩),.slice aw Ws.length cw,.tuple #[.slice aD nD cD,.int .i64 0],.slice aD nD cD,.int .i64 0,.int .i64 0,.bool false,undef,.slice aL L.length cL,.int .i64 (L.length:Int),.agg #[.int .i64 (L.length:Int),.slice none 0 0],.slice aL L.length cL,.int .i64 (L.length:Int),.func (.func 77) #[] #[.pointer (some ⟨g10+1+1,0,none⟩)],.int .i64 (x.1:Int),.int .i64 (x.2:Int),undef,undef,undef,undef,undef,undef,undef,undef,undef,undef,undef,undef,undef,undef,undef,undef,undef,undef,undef,undef,undef,undef,undef,undef,undef,undef,undef,undef,undef,undef,undef,undef,undef,undef,undef,undef,undef,undef,undef,undef],defers:=[] }) ?assign ?body ?done ?stop
 case assign =>
  intro l x W K hK
  gi_wp2
  exact hK
 case body
      =>
  rintro l pre ⟨i,j⟩ rest Wr kX ⟨jS,jE⟩;have yf:=GD.1 (show (i,j)∈spn L.length by rw [kX];simp);obtain ⟨yf,yh⟩:=yf;obtain ⟨bL,oL,km⟩:∃ bL oL,aL=some ⟨bL,oL,none⟩:=by
   cases km:aL with
   | none=>rw [HL.out.ha.2 km] at yh;simp at yh;omega
   | some b2 =>
    obtain ⟨b',o',h⟩:=HL.out.ha.1 b2 km;exact ⟨b',o',by rw [h]⟩
  subst km;obtain ⟨vE,e10,jj⟩:=jS.ed;obtain ⟨vN,e11,kb⟩:=jS.en;have e12:=jS.sp;obtain ⟨aE,cE,kS, -, -⟩:=jj.form;subst kS;have hwz:g10+1+1<Wr.heap.size:=(A5.1 e12).1;have kM:gs+5≤g10:=by omega
  have blk:∀ q o,q<g10→w10.heap[q]? = some o→Wr.heap[q]? = some o:=fun q o hq h=>(jE.block q hq).trans h;have b0:=blk gs _ (by omega) (H0.out w10 jw.out);have b2:=blk (gs+1+1) _ (by omega) (H2.out w10 jw.out);have b9:=blk g9 _ (by omega) (H8.out w10 (Ext.refl _));have k6:Hid (Ext w9 Wr):=Below.trans jD.out (jE.mono (by have:=jD.out.size;omega));have k7:Hid (Ext w Wr):=Ext.trans j0.out (Ext.trans kl.out k6.out);have j3:=A0 e10;have jh:=A0 e11;have jB:=A0 e12;have j8:=A0 jj;have yu:=A0 kb;have kk:=A0 jE;have kC:=A0 kX;have k0:=A0 b0;have k1:=A0 b2;have k4:=A0 b9;have j7:Hid ((L.drop i).length=L.length - i):=List.length_drop;have yc:=HL.out.cap;obtain ⟨oI,yj,ko⟩:=Hh bL oL L.length cL i (by omega) yc;have k5:=A0 ko;have ky:Hid (∀ W,Ext Wr W→Df W (some ⟨bL,oI,none⟩) (cL - i) (L.drop i)):=fun W hx=>by
   have h:=(HL.out.go (Ext.trans k7.out hx)).sub (o':=oI) (i:=i) (j:=L.length) (by omega) (A3 _) yj
   rwa [AF (by rw [List.length_drop];exact A3 _)] at h
  clear jS jE e10 e11 e12 jj kb kX blk b0 b2 b9 ko yj yc;have hw1:IntKind.i64.wrap ((i:Int)+1)=(i:Int)+1:=IntWalk.i64_in _ (by omega);by_cases yg:j=i+1
  ·subst
      yg
   have yJ:(((i+1:Nat):Int) == (i:Int)+1)=true:=by rw [beq_iff_eq];omega
   gi_wp2_with fail
   refine J0 (bn:=true) (by kernel_rfl) (by kernel_rfl) (Vs [vq (.agg #[.int .i64 S.modes,.int .u8 S.acc,.slice b S.rules.length cS]),vq (.slice aD nD cD),vq (.slice (some ⟨bL,oL,none⟩) L.length cL),vq (.int .i64 (i:Int)),vq (.slice (some ⟨bL,oI,none⟩) (L.length - i) (cL - i)),EnV S.rules S.acc (L.drop i) (Ws.map bts) Wr (g10+1),fun _ _=>True]) (Xs [Ext,Ext,Ext,Ext,Ext,Ext,(Tq (g10+1))]) (fun fL=>(Ie S.rules S.acc (L.drop i) (Ws.map bts) Wr (g10+1)) (fL 6)) [0,0,0,0,12,31,63] 88 7 (by kernel_rfl) rfl ?hVn ?hV ?hS ?hop ?hfin ?hlast
   case hVn=>exact S2 (ks:=[6]) (by kernel_rfl) (by intro k hk;simp at hk;subst hk;intro v w _;trivial)
   case hV =>
    refine Az (Af (by simp only [AS,List.not_mem_nil,or_false,forall_eq_or_imp,forall_eq];exact ⟨AW _,AW _,AW _,AW _,AW _,OR _ _ _ _ _ _,Lq (fun _=>True)⟩)) ?_;exact ⟨.inl rfl,.inl rfl,.inl rfl,.inl rfl,.inl rfl,.inl rfl,.inr (Aw ⟨fun _ _=>fun _ _ _ h _=>h,fun _ _=>fun _ _ _ h _=>h,fun _ _=>fun _ _ _ h _=>h,fun _ _=>fun _ _ _ h _=>h,fun _ _=>fun _ _ _ h _=>h,fun _ _=>RG,fun h=>absurd rfl h,trivial⟩),trivial⟩
   case hS =>
    intro fL hf;show (Ie S.rules S.acc (L.drop i) (Ws.map bts) Wr (g10+1)) (fL 6) _;rw [hf 6 (by decide)]
    first | exact Ext.refl _ | exact B8 _
   case hop =>
    refine ⟨?_,?_,?_,?_,?_,?c5,?c6,trivial⟩
    all_goals first | rw [if_neg (by decide)] | rw [if_pos (by decide)]
    case c6 =>
     intro ac W fL jV j2 kn Jx js jc ja jW;have hS:(Ie S.rules S.acc (L.drop i) (Ws.map bts) Wr (g10+1)) (fL 6) W:=js;have jy:fL 6=false:=(by first | exact j2 | exact Jx 6 (by decide) (by decide));rw [jy] at hS
     have jp:Ext Wr W:=hS;obtain ⟨d0,d1,d2⟩:=Ba ((Below.block jp gs (by omega)).trans k0.out);have y0:=BA ((Below.block jp g9 (by omega)).trans k4.out);have l0:=BA ((Below.block jp (gs+1+1) (by omega)).trans k1.out);have ko:=k5.out
     try have d57:EnV S.rules S.acc (L.drop i) (Ws.map bts) Wr (g10+1) (ac.tmps.getD 57 undef) W:=jc 5 (by decide)
     have jd:=(Below.block jp (g10+1) (by omega)).trans jh.out;have c11:=BA jd;have fz:W.frozen? ⟨g10+1,0,none⟩=false:=by simp [World.frozen?,jd]
     have kO:=gdA ac 11 (.pointer (some ⟨g10+1,0,none⟩)) (ja 11 (by kernel_rfl));have jc:=DJ jc;simp [Cg,AY,vq] at jc;clear ja kn Jx jW;obtain ⟨W0,kj,⟨gN,LsN,e57,kh⟩,jn⟩:=d57;rw [A4] at e57;refine AX rfl (.inr ⟨rfl,W.setCell ⟨g10+1,0,none⟩ (.slice (some ⟨gN,0,none⟩) ((L.drop i).length+1) ((L.drop i).length+1)),?r1,?r2,?r3,?r4⟩)
     case r2=>trivial
     case r3=>exact Tq.set _ _ _ _
     case r1=>clear jV hS js j2 jp jd kh jc kj jn;simp [go_sem,Act.eval, *]
     case r4 =>
      show Ie S.rules S.acc (L.drop i) (Ws.map bts) Wr (g10+1) (upd fL 6 6) _;rw [show upd fL 6 6=true from if_pos rfl];exact ⟨_,W0,kj,⟨gN,LsN,rfl,kh⟩,jn.trans (Tq.set _ _ _ _),Ao jd rfl⟩
    all_goals refine Lw _ _ _ _ _ _ _ ?_
    all_goals try intro ac W fL jV j2 kn Jx js jc ja jW
    all_goals try have hS:(Ie S.rules S.acc (L.drop i) (Ws.map bts) Wr (g10+1)) (fL 6) W:=js
    all_goals try (have jy:fL 6=true:=kn 6 (by decide);rw [jy] at hS)
    all_goals try (have jy:fL 6=false:=(by first | exact j2 | exact Jx 6 (by decide) (by decide));rw [jy] at hS)
    all_goals try (
     have jp:Ext Wr W:=hS;obtain ⟨d0,d1,d2⟩:=Ba ((Below.block jp gs (by omega)).trans k0.out);have y0:=BA ((Below.block jp g9 (by omega)).trans k4.out);have l0:=BA ((Below.block jp (gs+1+1) (by omega)).trans k1.out);have ko:=k5.out
     try have d57:EnV S.rules S.acc (L.drop i) (Ws.map bts) Wr (g10+1) (ac.tmps.getD 57 undef) W:=jc 5 (by decide)
     have jd:=(Below.block jp (g10+1) (by omega)).trans jh.out;have c11:=BA jd;have fz:W.frozen? ⟨g10+1,0,none⟩=false:=by simp [World.frozen?,jd])
    all_goals try have hh3:=gdA ac 3 (.pointer (some ⟨gs,0,none⟩)) (ja 3 (by kernel_rfl))
    all_goals try have hh8:=gdA ac 8 (.pointer (some ⟨g9,0,none⟩)) (ja 8 (by kernel_rfl))
    all_goals try have hh5:=gdA ac 5 (.pointer (some ⟨gs+1+1,0,none⟩)) (ja 5 (by kernel_rfl))
    all_goals try have hh12:=gdA ac 12 (.int .i64 (i:Int)) (ja 12 (by kernel_rfl))
    all_goals try have kO:=gdA ac 11 (.pointer (some ⟨g10+1,0,none⟩)) (ja 11 (by kernel_rfl))
    all_goals try have d57:(EnV S.rules S.acc (L.drop i) (Ws.map bts) Wr (g10+1)) (ac.tmps.getD 57 undef) W:=jc 5 (by decide)
    all_goals try (have jc:=DJ jc;simp [Cg,AY,vq] at jc)
    all_goals try clear ja kn Jx jW
    case c5 =>
     have yB:(Ie S.rules S.acc (L.drop i) (Ws.map bts) Wr (g10+1)) ((upd fL 5) 6) W:=js;refine AX rfl (.inr ⟨44,#[.agg #[.int .i64 S.modes,.int .u8 S.acc,.slice b S.rules.length cS],.slice aD nD cD,.slice (some ⟨bL,oI,none⟩) (L.length - i) (cL - i)],W,by (clear jV hS js yB j2 jp jd;simp [go_sem,Act.eval, *]),?_⟩);have kb:=SJ (HS.out.go (Ext.trans k7.out jp)) (yt.out W (Ext.trans k6.out jp)) jg (ky.out W jp);rw [j7.out] at kb;refine kb.mono ?_;rintro e w' hp;obtain ⟨v,rfl,hv,hb⟩:=SK hp;exact ⟨_,rfl,⟨⟨w',Ext.trans jp hb,hv,Tq.of (Ext.refl _)⟩,hb,Ie.ext _ _ _ js hb⟩⟩
    all_goals (refine AX rfl (.inl ⟨_,W,?_,rfl,Ext.refl _,js⟩);clear jV hS js j2;simp [go_sem,Act.eval, *];done)
   case hlast =>
    intro h;exact absurd rfl h
   case hfin
        =>
    intro _ ac W jV yd fL hf js hv ja;have hS:(Ie S.rules S.acc (L.drop i) (Ws.map bts) Wr (g10+1)) (fL 6) W:=js;clear js;rw [hf 6 (by decide)] at hS;obtain ⟨sx,yK,yl⟩:=Ag [52,53,54,55,56,57] (by kernel_rfl) jV yd ja;rw [yl];simp only [List.foldl];simp only [Act.put,List.setIfInBounds_toArray,List.set_cons_succ,List.set_cons_zero];clear yl yK hv ja jV yd hf;obtain ⟨v57,W0,kW,ka,jn,jN⟩:=hS;obtain ⟨W1,jK⟩:∃ W1:World,W1=W:=⟨W,rfl⟩
    rw [← jK] at jn jN ⊢;clear jK;have jd:=(Below.block kW (g10+1) (by omega)).trans jh.out;have jq:Hid (EnS S.rules S.acc (L.drop i) (Ws.map bts) v57 W1):=jn.ends ka jd (by decide) (by decide);have jr:Hid (Tq (g10+1) Wr W1):=(Tq.of kW).trans jn;have jZ:=A0 jN;obtain ⟨d,hd⟩:∃ d:Nat,d=1:=⟨_,rfl⟩
    have HJ:Hid (i+1=i+d):=by show _=_;omega
    have yF:d≤L.length - i:=by omega
    clear kW ka jn jN jd;subst hd;obtain ⟨gN,LsN,kT,jT⟩:=jq.out;subst kT;obtain ⟨aF,cF,lF,yE,kg,jM⟩:=jT.at2 (k:=1) (by have:=j7.out;omega);have kP:∀ W,(Instr.indexAt 103 (.slice (some ⟨gN,0,none⟩) ((L.drop i).length+1) ((L.drop i).length+1)) (.int .i64 1)).run Tryz.prog W=.ok (.pointer (some ⟨gN,1,none⟩)) W:=fun W=>IR gN _ _ 1 (by have:=j7.out;omega) W;have kQ:=Lb jM.toDY;rw [AM] at kQ;have kw:=A0 kg;have kv:Hid (lF=Gj S.rules S.acc (L.drop i) (Ws.map bts) 1):=jM.toDY.eqF;have c11:=BA jZ.out;have e12:=jr.out.at (by omega) jB.out;have e10:=jr.out.at (by omega) j3.out;have ji:=A0 e12;have jb:=A0 e10;have jt:Hid (AZ BB W1 g10 (.slice aE (EL S.rules S.acc L (Ws.map bts) pre).length cE) (EL S.rules S.acc L (Ws.map bts) pre)):=jr.out.row j8.out jh.out (by decide);have kx:Hid (Below g10 w10 W1):=kk.out.trans (jr.out.below (by omega) (by omega));have kV:g10+1+1<W1.heap.size:=(A5.1 e12).1;have kJ:gN<W1.heap.size:=jT.own.lt _ rfl;have kG:(EL S.rules S.acc L (Ws.map bts) pre).length≤210:=Lc kC.out yi (by rw [AM];exact jg);obtain ⟨EP,jJ⟩:∃ EP,EL S.rules S.acc L (Ws.map bts) pre=EP:=⟨_,rfl⟩
    rw [jJ] at jt kG jb;have kp:=A0 jJ;clear kg jM e12 e10 jT jJ
    gi_wp2_with fail
    gi_loopw [65] (fun v W2=>∃ (k:Nat) (vE2:Value),v=.int .i64 (k:Int)∧k≤lF.length∧W2.heap[g10]? = some (.cells #[.int .i64 (L.length:Int),vE2] 45 (0,0))∧AZ BB W2 g10 vE2 (EP ++ E6 i (i+1) (lF.take k))∧Rb g10 W1 W2∧KeepsOthers W1 W2) (fun v _=>lF.length - (intOf v).toNat)
    case atStart=>exact ⟨0,_,rfl,Nat.zero_le _,jb.out,by simpa [E6] using jt.out,Rb.of (Ext.refl _),KeepsOthers.refl _⟩
    case round =>
     obtain ⟨k,vE2,rfl,hk,jx,jf,jU,kf⟩:=hrel;obtain ⟨aX,cX,kU, -, -⟩:=jf.form;subst kU;obtain ⟨EE,jC⟩:∃ EE,EP ++ E6 i (i+1) (lF.take k)=EE:=⟨_,rfl⟩
     have j9:EE.length=EP.length+k:=by rw [← jC];simp [E6];omega
     rw [jC] at jx jf;have ju:=A0 jf;have jv:=A0 jU;have jG:=A0 kf;have j4:=A0 jx;have j5:=A0 jC;have j6:=A0 j9;have jH:Hid (AZ C2 wr 0 (.slice aF lF.length cF) lF):=jU.row kw.out jb.out (by decide) (by decide);have kK:g10<wr.heap.size:=(A5.1 jx).1;have x1:wr.cell? ⟨g10,1,none⟩=some (.slice aX EE.length cX):=by rw [cell_of_row _ _ 1 _ _ _ jx];rfl
     clear jf jU kf jx jC;by_cases jQ:k<lF.length
     ·have
         jR:(k:Int)<(lF.length:Int):=by omega
      obtain ⟨b1,o1,jL,yD,y0,y1⟩:=jH.out.fnds.1.at jQ;have yI:=NF aF b1 o1 lF.length cF k jL jQ;obtain ⟨f1,jO⟩:∃ f1,lF[k].1=f1:=⟨_,rfl⟩
      obtain ⟨f2,jP⟩:∃ f2,lF[k].2=f2:=⟨_,rfl⟩
      rw [jO] at y0;rw [jP] at y1;have kq:=A0 jO;have kr:=A0 jP;clear jO jP jL;clear j9
      gi_wp2_with (first
       | (
         gi_at_builtin
         have jl:=Id (wr.alloc (.cells #[.int .i64 (f1:Int),.int .i64 (f2:Int)] 75 (0,0))) (.int .i64 (i:Int)) (.int .i64 ((i:Int)+1)) (.int .i64 (f1:Int)) (.int .i64 (f2:Int)) 62;rw [A6] at jl;have jm:AZ BB (wr.alloc (.cells #[.int .i64 (f1:Int),.int .i64 (f2:Int)] 75 (0,0))) g10 (.slice aX EE.length cX) EE:=ju.out.alloc _;refine wpListIn_append_own _ rfl _ _ 43 rfl g10 62 i0 BB.z 4 32 Tryz.underlying43 ye yq yr ys rfl (by decide) _ _ _ rfl (jm.alloc _) ⟨wr.heap.size+1,0,none⟩ 1 1 [.int .i64 (i:Int),.int .i64 ((i:Int)+1),.int .i64 (f1:Int),.int .i64 (f2:Int)] rfl rfl jl (by simp [Value.oneCell']) (by unfold maxLen;have:=j6.out;omega) (by have:=j6.out;omega) (by simp;omega) ?_;intro v' w3 je ke jA;have jk:AZ BB w3 g10 v' (EE ++ [((i:Int),((i:Int)+1:Int),(f1:Int),(f2:Int))]):=by unfold AZ;rw [AB,List.flatMap_append];exact je
         obtain ⟨g1,c1,rfl⟩:=ownsRow_succ je;obtain ⟨h3,q1,q2,q3,q4⟩:=La ((Below.heap_alloc _ _ _ kK).trans j4.out) jm jk ke;have c3:w3.cell? ⟨g10,1,none⟩=some (.slice aX EE.length cX):=by rw [cell_of_row _ _ 1 _ _ _ h3];rfl
         have z3:w3.frozen? ⟨g10,1,none⟩=false:=by simp [World.frozen?,h3]
         have HR:=A0 (And.intro q1 (And.intro q2 (And.intro q3 q4)));clear q1 q2 q3 q4 h3 ke jA jk je jl jm))
      go_roundw
      case rel =>
       obtain ⟨q1,q2,q3,q4⟩:=HR.out;have kD:EP ++ E6 i (i+1) (lF.take (k+1))=EE ++ [((i:Int),((i:Int)+1:Int),(f1:Int),(f2:Int))]:=by
        rw [← j5.out,List.append_assoc,AN jQ];unfold E6;rw [List.map_append];simp [kq.out,kr.out]
       have hx:Ext wr (wr.alloc (.cells #[.int .i64 (f1:Int),.int .i64 (f2:Int)] 75 (0,0))):=(Below.refl _ _).alloc (A3 _) _;exact ⟨k+1,_,by go_num,by omega,q1,by rw [kD];exact q2,jv.out.trans ((Rb.of hx).trans q3),jG.out.trans ((KeepsOthers.alloc _ _).trans q4)⟩
      case measure=>simp [intOf];omega
     ·have jR:¬ (k:Int)<(lF.length:Int):=by omega
      obtain rfl:k=lF.length:=by omega
      have yH:¬ (20000:Int)<(EE.length:Int):=by omega
      gi_wp2
      have kE:i+1 - i=1:=by have:=HJ.out;omega
      have jI:EL S.rules S.acc L (Ws.map bts) (pre ++ [(i,i+1)])=EE:=by
       have h1:EL S.rules S.acc L (Ws.map bts) (pre ++ [(i,i+1)])=EL S.rules S.acc L (Ws.map bts) pre ++ E6 i (i+1) (Gj S.rules S.acc (L.drop i) (Ws.map bts) (i+1 - i)):=by
        unfold EL;rw [List.flatMap_append,List.flatMap_cons,List.flatMap_nil,List.append_nil]
       rw [h1,kE,← kv.out,kp.out,← j5.out,List.take_length]
      have k11:=jv.out.keep _ _ jZ.out (by omega) (fun cs f e=>by injection e with _ e;exact absurd e (by decide));have k12:=jv.out.keep _ _ ji.out (by omega) (fun cs f e=>by injection e with _ e;exact absurd e (by decide));have kF:KeepsOthers Wr W1:=KeepsOthers.of_grownBy jr.out fun q o hq ho=>by
       obtain rfl:g10+1=q:=by injection hq
       rw [jh.out] at ho;injection ho with ho;rw [← ho];rfl
      refine ⟨by first | exact KeepsOthers.from jG.out _ | exact KeepsOthers.from (kF.trans jG.out) _,?_,⟨k12,⟨_,j4.out,by rw [jI];exact ju.out⟩,⟨_,k11,fun p i' j' e=>?_⟩⟩,kx.out.trans (jv.out.below (by omega))⟩
      ·unfold KpB;rw [BA k12]
       first | rw [BA ji.out] | rw [BA jB.out]
      ·have h2:=(List.append_inj' e rfl).2;injection h2 with h2;injection h2 with h2 h3;rw [← h2];exact jv.out.ends jq.out jb.out (by decide) (by decide)
  ·have yJ
        : ((j:Int) == (i:Int)+1)=false:=by rw [beq_eq_false_iff_ne];omega
   obtain ⟨pp,yk⟩:=Pv kC.out yg;have jq:Hid (EnS S.rules S.acc (L.drop i) (Ws.map bts) vN Wr):=yu.out pp i (j - 1) yk;have jr:Hid (Tq (g10+1) Wr Wr):=Tq.of (Ext.refl _);have jZ:=A0 jh.out;obtain ⟨W1,jK⟩:∃ W1:World,W1=Wr:=⟨Wr,rfl⟩
   rw [← jK] at jq jZ;have jr:Hid (Tq (g10+1) Wr W1):=by show Tq _ _ _;rw [jK];exact jr.out
   obtain ⟨d,hd⟩:∃ d:Nat,j - i=d:=⟨_,rfl⟩
   have hwd:IntKind.i64.wrap ((j:Int) - (i:Int))=(d:Int):=by rw [IntWalk.i64_in _ (by omega)];omega
   have HJ:Hid (j=i+d):=by show _=_;omega
   have yF:d≤L.length - i:=by omega
   rw [← jK];clear jK hd yk;obtain ⟨gN,LsN,kT,jT⟩:=jq.out;subst kT;obtain ⟨aF,cF,lF,yE,kg,jM⟩:=jT.at2 (k:=d) (by have:=j7.out;omega);have kP:∀ W,(Instr.indexAt 103 (.slice (some ⟨gN,0,none⟩) ((L.drop i).length+1) ((L.drop i).length+1)) (.int .i64 (d:Int))).run Tryz.prog W=.ok (.pointer (some ⟨gN,d,none⟩)) W:=fun W=>IR gN _ _ d (by have:=j7.out;omega) W;have kQ:=Lb jM.toDY;rw [AM] at kQ;have kw:=A0 kg;have kv:Hid (lF=Gj S.rules S.acc (L.drop i) (Ws.map bts) d):=jM.toDY.eqF;have c11:=BA jZ.out;have e12:=jr.out.at (by omega) jB.out;have e10:=jr.out.at (by omega) j3.out;have ji:=A0 e12;have jb:=A0 e10;have jt:Hid (AZ BB W1 g10 (.slice aE (EL S.rules S.acc L (Ws.map bts) pre).length cE) (EL S.rules S.acc L (Ws.map bts) pre)):=jr.out.row j8.out jh.out (by decide);have kx:Hid (Below g10 w10 W1):=kk.out.trans (jr.out.below (by omega) (by omega));have kV:g10+1+1<W1.heap.size:=(A5.1 e12).1;have kJ:gN<W1.heap.size:=jT.own.lt _ rfl;have kG:(EL S.rules S.acc L (Ws.map bts) pre).length≤210:=Lc kC.out yi (by rw [AM];exact jg);obtain ⟨EP,jJ⟩:∃ EP,EL S.rules S.acc L (Ws.map bts) pre=EP:=⟨_,rfl⟩
   rw [jJ] at jt kG jb;have kp:=A0 jJ;clear kg jM e12 e10 jT jJ
   gi_wp2_with fail
   gi_loopw [65] (fun v W2=>∃ (k:Nat) (vE2:Value),v=.int .i64 (k:Int)∧k≤lF.length∧W2.heap[g10]? = some (.cells #[.int .i64 (L.length:Int),vE2] 45 (0,0))∧AZ BB W2 g10 vE2 (EP ++ E6 i (j) (lF.take k))∧Rb g10 W1 W2∧KeepsOthers W1 W2) (fun v _=>lF.length - (intOf v).toNat)
   case atStart=>exact ⟨0,_,rfl,Nat.zero_le _,jb.out,by simpa [E6] using jt.out,Rb.of (Ext.refl _),KeepsOthers.refl _⟩
   case round =>
    obtain ⟨k,vE2,rfl,hk,jx,jf,jU,kf⟩:=hrel;obtain ⟨aX,cX,kU, -, -⟩:=jf.form;subst kU;obtain ⟨EE,jC⟩:∃ EE,EP ++ E6 i (j) (lF.take k)=EE:=⟨_,rfl⟩
    have j9:EE.length=EP.length+k:=by rw [← jC];simp [E6];omega
    rw [jC] at jx jf;have ju:=A0 jf;have jv:=A0 jU;have jG:=A0 kf;have j4:=A0 jx;have j5:=A0 jC;have j6:=A0 j9;have jH:Hid (AZ C2 wr 0 (.slice aF lF.length cF) lF):=jU.row kw.out jb.out (by decide) (by decide);have kK:g10<wr.heap.size:=(A5.1 jx).1;have x1:wr.cell? ⟨g10,1,none⟩=some (.slice aX EE.length cX):=by rw [cell_of_row _ _ 1 _ _ _ jx];rfl
    clear jf jU kf jx jC;by_cases jQ:k<lF.length
    ·have
        jR:(k:Int)<(lF.length:Int):=by omega
     obtain ⟨b1,o1,jL,yD,y0,y1⟩:=jH.out.fnds.1.at jQ;have yI:=NF aF b1 o1 lF.length cF k jL jQ;obtain ⟨f1,jO⟩:∃ f1,lF[k].1=f1:=⟨_,rfl⟩
     obtain ⟨f2,jP⟩:∃ f2,lF[k].2=f2:=⟨_,rfl⟩
     rw [jO] at y0;rw [jP] at y1;have kq:=A0 jO;have kr:=A0 jP;clear jO jP jL;clear j9
     gi_wp2_with (first
      | (
        gi_at_builtin
        have jl:=Id (wr.alloc (.cells #[.int .i64 (f1:Int),.int .i64 (f2:Int)] 75 (0,0))) (.int .i64 (i:Int)) (.int .i64 ((j:Int))) (.int .i64 (f1:Int)) (.int .i64 (f2:Int)) 62;rw [A6] at jl;have jm:AZ BB (wr.alloc (.cells #[.int .i64 (f1:Int),.int .i64 (f2:Int)] 75 (0,0))) g10 (.slice aX EE.length cX) EE:=ju.out.alloc _;refine wpListIn_append_own _ rfl _ _ 43 rfl g10 62 i0 BB.z 4 32 Tryz.underlying43 ye yq yr ys rfl (by decide) _ _ _ rfl (jm.alloc _) ⟨wr.heap.size+1,0,none⟩ 1 1 [.int .i64 (i:Int),.int .i64 ((j:Int)),.int .i64 (f1:Int),.int .i64 (f2:Int)] rfl rfl jl (by simp [Value.oneCell']) (by unfold maxLen;have:=j6.out;omega) (by have:=j6.out;omega) (by simp;omega) ?_;intro v' w3 je ke jA;have jk:AZ BB w3 g10 v' (EE ++ [((i:Int),((j:Int):Int),(f1:Int),(f2:Int))]):=by unfold AZ;rw [AB,List.flatMap_append];exact je
        obtain ⟨g1,c1,rfl⟩:=ownsRow_succ je;obtain ⟨h3,q1,q2,q3,q4⟩:=La ((Below.heap_alloc _ _ _ kK).trans j4.out) jm jk ke;have c3:w3.cell? ⟨g10,1,none⟩=some (.slice aX EE.length cX):=by rw [cell_of_row _ _ 1 _ _ _ h3];rfl
        have z3:w3.frozen? ⟨g10,1,none⟩=false:=by simp [World.frozen?,h3]
        have HR:=A0 (And.intro q1 (And.intro q2 (And.intro q3 q4)));clear q1 q2 q3 q4 h3 ke jA jk je jl jm))
     go_roundw
     case rel =>
      obtain ⟨q1,q2,q3,q4⟩:=HR.out;have kD:EP ++ E6 i (j) (lF.take (k+1))=EE ++ [((i:Int),((j:Int):Int),(f1:Int),(f2:Int))]:=by
       rw [← j5.out,List.append_assoc,AN jQ];unfold E6;rw [List.map_append];simp [kq.out,kr.out]
      have hx:Ext wr (wr.alloc (.cells #[.int .i64 (f1:Int),.int .i64 (f2:Int)] 75 (0,0))):=(Below.refl _ _).alloc (A3 _) _;exact ⟨k+1,_,by go_num,by omega,q1,by rw [kD];exact q2,jv.out.trans ((Rb.of hx).trans q3),jG.out.trans ((KeepsOthers.alloc _ _).trans q4)⟩
     case measure=>simp [intOf];omega
    ·have jR:¬ (k:Int)<(lF.length:Int):=by omega
     obtain rfl:k=lF.length:=by omega
     have yH:¬ (20000:Int)<(EE.length:Int):=by omega
     gi_wp2
     have kE:j - i=d:=by have:=HJ.out;omega
     have jI:EL S.rules S.acc L (Ws.map bts) (pre ++ [(i,j)])=EE:=by
      have h1:EL S.rules S.acc L (Ws.map bts) (pre ++ [(i,j)])=EL S.rules S.acc L (Ws.map bts) pre ++ E6 i (j) (Gj S.rules S.acc (L.drop i) (Ws.map bts) (j - i)):=by
       unfold EL;rw [List.flatMap_append,List.flatMap_cons,List.flatMap_nil,List.append_nil]
      rw [h1,kE,← kv.out,kp.out,← j5.out,List.take_length]
     have k11:=jv.out.keep _ _ jZ.out (by omega) (fun cs f e=>by injection e with _ e;exact absurd e (by decide));have k12:=jv.out.keep _ _ ji.out (by omega) (fun cs f e=>by injection e with _ e;exact absurd e (by decide));have kF:KeepsOthers Wr W1:=KeepsOthers.of_grownBy jr.out fun q o hq ho=>by
      obtain rfl:g10+1=q:=by injection hq
      rw [jh.out] at ho;injection ho with ho;rw [← ho];rfl
     refine ⟨by first | exact KeepsOthers.from jG.out _ | exact KeepsOthers.from (kF.trans jG.out) _,?_,⟨k12,⟨_,j4.out,by rw [jI];exact ju.out⟩,⟨_,k11,fun p i' j' e=>?_⟩⟩,kx.out.trans (jv.out.below (by omega))⟩
     ·unfold KpB;rw [BA k12]
      first | rw [BA ji.out] | rw [BA jB.out]
     ·have h2:=(List.append_inj' e rfl).2;injection h2 with h2;injection h2 with h2 h3;rw [← h2];exact jv.out.ends jq.out jb.out (by decide) (by decide)
 case done =>
  rintro D W hD ⟨jS,jE⟩ hK;obtain ⟨vE,e10,jj⟩:=jS.ed;obtain ⟨aE,cE,kS, -, -⟩:=jj.form;subst kS;obtain ⟨E,hE⟩:∃ E,EL S.rules S.acc L (Ws.map bts) (spn L.length)=E:=⟨_,rfl⟩
  have HE:Hid (Ct S.rules S.acc L (Ws.map bts)=E):=hE;rw [hE] at jj e10;have jF:Ext w w10:=Ext.trans j0.out jw.out;have kM:gs+5≤g10:=by omega
  have blk:∀ q o,q<g10→w10.heap[q]? = some o→W.heap[q]? = some o:=fun q o hq h=>(jE.block q hq).trans h;have b3:W.heap[gs+1+1+1]? = some (.cells #[.int .i64 0,.slice none 0 0] 45 (0,0)):=blk _ _ (by omega) (H3.out w10 jw.out);have b4:W.heap[gs+1+1+1+1]? = some (.cells #[.int .i64 0] 46 (0,0)):=blk _ _ (by omega) (H4.out w10 jw.out);have x0:W.cell? ⟨g10,0,none⟩=some (.int .i64 (L.length:Int)):=by rw [cell_of_row W _ 0 _ _ _ e10];rfl
  have x1:W.cell? ⟨g10,1,none⟩=some (.slice aE E.length cE):=by rw [cell_of_row W _ 1 _ _ _ e10];rfl
  have f3:∀ i,W.frozen? ⟨gs+1+1+1,i,none⟩=false:=fun i=>by simp [World.frozen?,b3]
  have f4:∀ i,W.frozen? ⟨gs+1+1+1+1,i,none⟩=false:=fun i=>by simp [World.frozen?,b4]
  have c30:W.cell? ⟨gs+1+1+1,0,none⟩=some (.int .i64 0):=by rw [cell_of_row W _ 0 _ _ _ b3];rfl
  have c31:W.cell? ⟨gs+1+1+1,1,none⟩=some (.slice none 0 0):=by rw [cell_of_row W _ 1 _ _ _ b3];rfl
  have c40:=BA b4;have hgw:w.heap.size≤gs:=Nat.le_of_eq yv.out;have kN:w.heap.size≤g10:=by omega
  have j8:=A0 jj;have k2:=A0 b3;have k3:=A0 b4;have HK:=A0 hK;have kk:=A0 jE;have yy:=A0 jF;clear jj b3 b4 hK jE jF blk e10 jS hE
  gi_wp2
  obtain ⟨W2,j1⟩:∃ W2,((W.setCell ⟨gs+1+1+1,0,none⟩ (.int .i64 (L.length:Int))).setCell ⟨gs+1+1+1,1,none⟩ (.slice aE E.length cE)).setCell ⟨gs+1+1+1+1,0,none⟩ (.int .i64 0)=W2:=⟨_,rfl⟩
  rw [j1];have ku:W2.heap[D]? = some (.deferred (some [])):=by
   rw [← j1];exact ((KeepsOthers.setCell W _ _).trans ((KeepsOthers.setCell _ _ _).trans (KeepsOthers.setCell _ _ _))).same D _ HK.out rfl
  have b32:W2.heap[gs+1+1+1]? = some (.cells #[.int .i64 (L.length:Int),.slice aE E.length cE] 45 (0,0)):=by
   rw [← j1,Below.heap_setCell _ _ _ _ (by show gs+1+1+1≠gs+1+1+1+1;omega)];exact Ao (Ao k2.out rfl) rfl
  have b42:W2.heap[gs+1+1+1+1]? = some (.cells #[.int .i64 0] 46 (0,0)):=by
   rw [← j1];exact Ao (by rw [Below.heap_setCell _ _ _ _ (by show gs+1+1+1+1≠gs+1+1+1;omega),Below.heap_setCell _ _ _ _ (by show gs+1+1+1+1≠gs+1+1+1;omega)];exact k3.out) rfl
  have yA:Below w.heap.size w W2:=by
   rw [← j1];exact (((Below.trans yy.out (kk.out.mono (by omega))).setCell (p:=⟨gs+1+1+1,0,none⟩) (by show w.heap.size≤gs+1+1+1;omega) _).setCell (p:=⟨gs+1+1+1,1,none⟩) (by show w.heap.size≤gs+1+1+1;omega) _).setCell (p:=⟨gs+1+1+1+1,0,none⟩) (by show w.heap.size≤gs+1+1+1+1;omega) _
  have own2:AZ BB W2 g10 (.slice aE E.length cE) E:=j8.out.keep fun q hq=>by
   obtain ⟨cs,h1⟩:=Au j8.out hq;have n3:q≠gs+1+1+1:=fun e=>by
    rw [e,k2.out] at h1;injection h1 with h1;injection h1 with _ h2;exact absurd h2 (by decide)
   have n4:q≠gs+1+1+1+1:=fun e=>by
    rw [e,k3.out] at h1;injection h1 with h1;injection h1 with _ h2;exact absurd h2 (by decide)
   rw [← j1,Below.heap_setCell _ _ _ _ n4,Below.heap_setCell _ _ _ _ n3,Below.heap_setCell _ _ _ _ n3]
  have own3:AZ BB (W2.putObj D (.deferred none)) g10 (.slice aE E.length cE) E:=ownsRow_putObj own2 _ ku rfl;have q3:(W2.putObj D (.deferred none)).heap[gs+1+1+1]? = some (.cells #[.int .i64 (L.length:Int),.slice aE E.length cE] 45 (0,0)):=(World.putObj_heap_other (by omega)).trans b32;have q4:(W2.putObj D (.deferred none)).heap[gs+1+1+1+1]? = some (.cells #[.int .i64 0] 46 (0,0)):=(World.putObj_heap_other (by omega)).trans b42;have r30:(W2.putObj D (.deferred none)).cell? ⟨gs+1+1+1,0,none⟩=some (.int .i64 (L.length:Int)):=by rw [cell_of_row _ _ 0 _ _ _ q3];rfl
  have r31:(W2.putObj D (.deferred none)).cell? ⟨gs+1+1+1,1,none⟩=some (.slice aE E.length cE):=by rw [cell_of_row _ _ 1 _ _ _ q3];rfl
  have r40:=BA q4;refine ⟨by simp,.inl ⟨_,_,rfl,run_takeDeferred ku,?_⟩⟩;refine ⟨.tuple #[.agg #[.int .i64 (L.length:Int),.slice aE E.length cE],.int .i64 0],by simp [results,Tryz.f14,go_sem,r30,r31,r40],?_⟩;rw [HE.out];exact ⟨_,rfl,own3.mono kN,yA.trans (belowK_b (w:=w) (A3 _) W2 D _ _ (by omega) ku rfl rfl)⟩
 case stop =>
  rintro D c pre W _ _ h _;exact h.elim
attribute [local go_sem] Oper.semAt_some
def MW (n:Int) (w:World) (e:Ending) (w':World):Prop:=e=.returned (.tuple #[.agg #[.int .i64 0,.slice none 0 0],.int .i64 n])∧Ext w w'
theorem KN {w w5 W:World} {gs:Nat} {m:Int} (ja:Ext w w5) (hgs:w.heap.size=gs) (hx:Ext w5 W)
  (b3:W.heap[gs+1+1+1]? = some (.cells #[.int .i64 0,.slice none 0 0] 45 (0,0))) (b4:W.heap[gs+1+1+1+1]? = some (.cells #[.int .i64 0] 46 (0,0))) :
  ∃ W2,((W.setCell ⟨gs+1+1+1,0,none⟩ (.int .i64 0)).setCell ⟨gs+1+1+1,1,none⟩ (.slice none 0 0)).setCell ⟨gs+1+1+1+1,0,none⟩ (.int .i64 m)=W2∧Ext w W2∧W2.cell? ⟨gs+1+1+1,0,none⟩=some (.int .i64 0)∧W2.cell? ⟨gs+1+1+1,1,none⟩=some (.slice none 0 0)∧W2.cell? ⟨gs+1+1+1+1,0,none⟩=some (.int .i64 m):=by
 have b32:(((W.setCell ⟨gs+1+1+1,0,none⟩ (.int .i64 0)).setCell ⟨gs+1+1+1,1,none⟩ (.slice none 0 0)).setCell ⟨gs+1+1+1+1,0,none⟩ (.int .i64 m)).heap[gs+1+1+1]? = some (.cells #[.int .i64 0,.slice none 0 0] 45 (0,0)):=by
  rw [Below.heap_setCell _ _ _ _ (by show gs+1+1+1≠gs+1+1+1+1;omega)];exact Ao (Ao b3 rfl) rfl
 have b42:(((W.setCell ⟨gs+1+1+1,0,none⟩ (.int .i64 0)).setCell ⟨gs+1+1+1,1,none⟩ (.slice none 0 0)).setCell ⟨gs+1+1+1+1,0,none⟩ (.int .i64 m)).heap[gs+1+1+1+1]? = some (.cells #[.int .i64 m] 46 (0,0)) :=
  Ao (by rw [Below.heap_setCell _ _ _ _ (by show gs+1+1+1+1≠gs+1+1+1;omega),Below.heap_setCell _ _ _ _ (by show gs+1+1+1+1≠gs+1+1+1;omega)];exact b4) rfl
 refine ⟨_,rfl,?_,?_,?_,BA b42⟩
 · exact (((Ext.trans ja hx).setCell (p:=⟨gs+1+1+1,0,none⟩) (by show w.heap.size≤gs+1+1+1;omega) _).setCell (p:=⟨gs+1+1+1,1,none⟩) (by show w.heap.size≤gs+1+1+1;omega) _).setCell (p:=⟨gs+1+1+1+1,0,none⟩) (by show w.heap.size≤gs+1+1+1+1;omega) _
 · rw [cell_of_row _ _ 0 _ _ _ b32];rfl
 · rw [cell_of_row _ _ 1 _ _ _ b32];rfl
theorem F0 (S:Sch) (b aw aL:Option Addr) (cS cw cL:Nat) (mv1 mv2 mv3:Value) (nw nL:Nat) (w:World) (hR:BG w b S.rules) (jb:S.rules.length≤cS) (hl64:S.rules.length≤64) (jf:0≤S.acc) (jg:S.acc≤255) (hs:BU S≠0) :
  Calls Tryz.prog 14 #[.agg #[.int .i64 S.modes,.int .u8 S.acc,.slice b S.rules.length cS],.agg #[.slice aw nw cw,mv1,mv2,mv3],.slice aL nL cL] w (MW 20 w):=by
 have HR:=A0 hR;have jo:=A0 hs;clear hR hs;refine (callsIn_wide (n:=9)).1 ?_;refine callsIn_of_wp_marks Tryz.func14 rfl trivial ?_ rfl;simp only [Tryz.ntmps14,List.size_toArray,List.length_cons,List.length_nil,Nat.reduceAdd,Nat.reduceSub,Array.replicate_succ,Array.replicate_zero,List.push_toArray,List.append_toArray,List.nil_append,List.cons_append]
 gi_wp2_with fail
 refine ⟨trivial,?_⟩;obtain ⟨w5,jj,jk,h0,h1,h2,h3,h4,jd⟩:=KM w (.cells #[.int .i64 S.modes,.int .u8 S.acc,.slice b S.rules.length cS] 33) (.cells #[.slice aw nw cw,mv1,mv2,mv3] 39) (.cells #[.slice aL nL cL] 41) (.cells #[.int .i64 0,.slice none 0 0] 45) (.cells #[.int .i64 0] 46);rw [jj];have je:=A0 jk;have H0:=A0 (Ai h0);have H1:=A0 (Ai h1);have H2:=A0 (Ai h2);have H3:=A0 (Ai h3);have H4:=A0 (Ai h4);obtain ⟨gs,jc⟩:∃ gs,w.heap.size=gs:=⟨_,rfl⟩
 have jn:=A0 jc;rw [jc] at H0 H1 H2 H3 H4 jd ⊢;have HZ5:=A0 jd;clear jj jk h0 h1 h2 h3 h4 jc jd;have ji:=Fl.sound_any S b cS w5 (HR.out.later je.out (A3 _)) jf jg (by omega) jb (fun h=>IZ h jf jg);refine (callsIn_wide.2 ji).mono ?_;clear ji;rintro e w6 ⟨rfl,jh⟩;have ja:Hid (Ext w5 w6):=jh;clear jh;have hne:(BU S == 0)=false:=by rw [beq_eq_false_iff_ne];exact jo.out
 have b3:w6.heap[gs+1+1+1]? = some (.cells #[.int .i64 0,.slice none 0 0] 45 (0,0)):=H3.out w6 ja.out;have b4:w6.heap[gs+1+1+1+1]? = some (.cells #[.int .i64 0] 46 (0,0)):=H4.out w6 ja.out;have f3:∀ i,w6.frozen? ⟨gs+1+1+1,i,none⟩=false:=fun i=>by simp [World.frozen?,b3]
 have f4:∀ i,w6.frozen? ⟨gs+1+1+1+1,i,none⟩=false:=fun i=>by simp [World.frozen?,b4]
 have c30:w6.cell? ⟨gs+1+1+1,0,none⟩=some (.int .i64 0):=by rw [cell_of_row w6 _ 0 _ _ _ b3];rfl
 have c31:w6.cell? ⟨gs+1+1+1,1,none⟩=some (.slice none 0 0):=by rw [cell_of_row w6 _ 1 _ _ _ b3];rfl
 have c40:=BA b4;have jl:=A0 b3;have jm:=A0 b4;clear b3 b4
 gi_wp2
 obtain ⟨W2,jq,jp,r30,r31,r40⟩:=KN (m:=20) je.out jn.out ja.out jl.out jm.out;rw [jq];refine ⟨.tuple #[.agg #[.int .i64 0,.slice none 0 0],.int .i64 20],by simp [results,Tryz.f14,go_sem,r30,r31,r40],rfl,jp⟩
theorem KO (S:Sch) (b aw aL:Option Addr) (cS cw cL:Nat) (mv1 mv2 mv3:Value) (nw nL:Nat) (w:World) (hS:FR w S b cS) (hv:Fl.validB S=true) (hs:BU S=0)
  (hM:∀ W,Ext w W→Calls Tryz.prog 40 #[.agg #[.slice aw nw cw,mv1,mv2,mv3]] W fun e w'=>e=.returned (.bool false)∧Ext W w') :
  Calls Tryz.prog 14 #[.agg #[.int .i64 S.modes,.int .u8 S.acc,.slice b S.rules.length cS],.agg #[.slice aw nw cw,mv1,mv2,mv3],.slice aL nL cL] w (MW 110 w):=by
 have HS:=A0 hS;have HM:=A0 hM;have ja:=IZ hv hS.a0 hS.a1;have jb:=A0 ja;have jq:=A0 hs;have jf:=hS.cap;have hl64:=hS.len;have jt:=hS.a0;have ju:=hS.a1;clear hS hM ja hs;refine (callsIn_wide (n:=9)).1 ?_;refine callsIn_of_wp_marks Tryz.func14 rfl trivial ?_ rfl;simp only [Tryz.ntmps14,List.size_toArray,List.length_cons,List.length_nil,Nat.reduceAdd,Nat.reduceSub,Array.replicate_succ,Array.replicate_zero,List.push_toArray,List.append_toArray,List.nil_append,List.cons_append]
 gi_wp2_with fail
 refine ⟨trivial,?_⟩;obtain ⟨w5,jk,jl,h0,h1,h2,h3,h4,ji⟩:=KM w (.cells #[.int .i64 S.modes,.int .u8 S.acc,.slice b S.rules.length cS] 33) (.cells #[.slice aw nw cw,mv1,mv2,mv3] 39) (.cells #[.slice aL nL cL] 41) (.cells #[.int .i64 0,.slice none 0 0] 45) (.cells #[.int .i64 0] 46);rw [jk];have jc:=A0 jl;have H0:=A0 (Ai h0);have H1:=A0 (Ai h1);have H2:=A0 (Ai h2);have H3:=A0 (Ai h3);have H4:=A0 (Ai h4);obtain ⟨gs,jg⟩:∃ gs,w.heap.size=gs:=⟨_,rfl⟩
 have jp:=A0 jg;rw [jg] at H0 H1 H2 H3 H4 ji ⊢;have HZ5:=A0 ji;clear jk jl h0 h1 h2 h3 h4 jg ji;have jh:=Fl.sound_any S b cS w5 (HS.out.rul.later jc.out (A3 _)) jt ju (by omega) jf (fun _=>jb.out);rw [jq.out] at jh;refine (callsIn_wide.2 jh).mono ?_;clear jh;rintro e w6 ⟨rfl,jj⟩;have jd:Hid (Ext w5 w6):=jj;clear jj;obtain ⟨m0,m1,m2,m3⟩:=Ax (H1.out w6 jd.out)
 gi_wp2_with fail
 refine ⟨trivial,?_⟩;refine (callsIn_wide.2 (HM.out w6 (Ext.trans jc.out jd.out))).mono ?_;rintro e w7 ⟨rfl,jm⟩;have je:Hid (Ext w5 w7):=Ext.trans jd.out jm;clear jm m0 m1 m2 m3;have b3:w7.heap[gs+1+1+1]? = some (.cells #[.int .i64 0,.slice none 0 0] 45 (0,0)):=H3.out w7 je.out;have b4:w7.heap[gs+1+1+1+1]? = some (.cells #[.int .i64 0] 46 (0,0)):=H4.out w7 je.out;have f3:∀ i,w7.frozen? ⟨gs+1+1+1,i,none⟩=false:=fun i=>by simp [World.frozen?,b3]
 have f4:∀ i,w7.frozen? ⟨gs+1+1+1+1,i,none⟩=false:=fun i=>by simp [World.frozen?,b4]
 have c30:w7.cell? ⟨gs+1+1+1,0,none⟩=some (.int .i64 0):=by rw [cell_of_row w7 _ 0 _ _ _ b3];rfl
 have c31:w7.cell? ⟨gs+1+1+1,1,none⟩=some (.slice none 0 0):=by rw [cell_of_row w7 _ 1 _ _ _ b3];rfl
 have c40:=BA b4;have jn:=A0 b3;have jo:=A0 b4;clear b3 b4
 gi_wp2
 obtain ⟨W2,js,jr,r30,r31,r40⟩:=KN (m:=110) jc.out jp.out je.out jn.out jo.out;rw [js];refine ⟨.tuple #[.agg #[.int .i64 0,.slice none 0 0],.int .i64 110],by simp [results,Tryz.f14,go_sem,r30,r31,r40],rfl,jr⟩
theorem KP (S:Sch) (b aw aL:Option Addr) (cS cw cL:Nat) (mv1 mv2 mv3:Value) (nw nL:Nat) (w:World) (hS:FR w S b cS) (hv:Fl.validB S=true) (hs:BU S=0)
  (hM:∀ W,Ext w W→Calls Tryz.prog 40 #[.agg #[.slice aw nw cw,mv1,mv2,mv3]] W fun e w'=>e=.returned (.bool true)∧Ext W w')
  (jk:∀ W,Ext w W→Calls Tryz.prog 41 #[.slice aL nL cL] W fun e w'=>e=.returned (.bool false)∧Ext W w') :
  Calls Tryz.prog 14 #[.agg #[.int .i64 S.modes,.int .u8 S.acc,.slice b S.rules.length cS],.agg #[.slice aw nw cw,mv1,mv2,mv3],.slice aL nL cL] w (MW 130 w):=by
 have HS:=A0 hS;have HM:=A0 hM;have jt:=A0 jk;have ja:=IZ hv hS.a0 hS.a1;have jc:=A0 ja;have ju:=A0 hs;have jg:=hS.cap;have hl64:=hS.len;have jx:=hS.a0;have jy:=hS.a1;clear hS hM jk ja hs;refine (callsIn_wide (n:=9)).1 ?_;refine callsIn_of_wp_marks Tryz.func14 rfl trivial ?_ rfl;simp only [Tryz.ntmps14,List.size_toArray,List.length_cons,List.length_nil,Nat.reduceAdd,Nat.reduceSub,Array.replicate_succ,Array.replicate_zero,List.push_toArray,List.append_toArray,List.nil_append,List.cons_append]
 gi_wp2_with fail
 refine ⟨trivial,?_⟩;obtain ⟨w5,jm,jn,h0,h1,h2,h3,h4,jj⟩:=KM w (.cells #[.int .i64 S.modes,.int .u8 S.acc,.slice b S.rules.length cS] 33) (.cells #[.slice aw nw cw,mv1,mv2,mv3] 39) (.cells #[.slice aL nL cL] 41) (.cells #[.int .i64 0,.slice none 0 0] 45) (.cells #[.int .i64 0] 46);rw [jm];have jb:=A0 jn;have H0:=A0 (Ai h0);have H1:=A0 (Ai h1);have H2:=A0 (Ai h2);have H3:=A0 (Ai h3);have H4:=A0 (Ai h4);obtain ⟨gs,jh⟩:∃ gs,w.heap.size=gs:=⟨_,rfl⟩
 have js:=A0 jh;rw [jh] at H0 H1 H2 H3 H4 jj ⊢;have HZ5:=A0 jj;clear jm jn h0 h1 h2 h3 h4 jh jj;have ji:=Fl.sound_any S b cS w5 (HS.out.rul.later jb.out (A3 _)) jx jy (by omega) jg (fun _=>jc.out);rw [ju.out] at ji;refine (callsIn_wide.2 ji).mono ?_;clear ji;rintro e w6 ⟨rfl,jl⟩;have jd:Hid (Ext w5 w6):=jl;clear jl;obtain ⟨m0,m1,m2,m3⟩:=Ax (H1.out w6 jd.out)
 gi_wp2_with fail
 refine ⟨trivial,?_⟩;refine (callsIn_wide.2 (HM.out w6 (Ext.trans jb.out jd.out))).mono ?_;rintro e w7 ⟨rfl,jo⟩;have je:Hid (Ext w5 w7):=Ext.trans jd.out jo;clear jo m0 m1 m2 m3;have l0:=BA (H2.out w7 je.out)
 gi_wp2_with fail
 refine ⟨trivial,?_⟩;refine (callsIn_wide.2 (jt.out w7 (Ext.trans jb.out je.out))).mono ?_;rintro e w8 ⟨rfl,jp⟩;have jf:Hid (Ext w5 w8):=Ext.trans je.out jp;clear jp l0;have b3:w8.heap[gs+1+1+1]? = some (.cells #[.int .i64 0,.slice none 0 0] 45 (0,0)):=H3.out w8 jf.out;have b4:w8.heap[gs+1+1+1+1]? = some (.cells #[.int .i64 0] 46 (0,0)):=H4.out w8 jf.out;have f3:∀ i,w8.frozen? ⟨gs+1+1+1,i,none⟩=false:=fun i=>by simp [World.frozen?,b3]
 have f4:∀ i,w8.frozen? ⟨gs+1+1+1+1,i,none⟩=false:=fun i=>by simp [World.frozen?,b4]
 have c30:w8.cell? ⟨gs+1+1+1,0,none⟩=some (.int .i64 0):=by rw [cell_of_row w8 _ 0 _ _ _ b3];rfl
 have c31:w8.cell? ⟨gs+1+1+1,1,none⟩=some (.slice none 0 0):=by rw [cell_of_row w8 _ 1 _ _ _ b3];rfl
 have c40:=BA b4;have jq:=A0 b3;have jr:=A0 b4;clear b3 b4
 gi_wp2
 obtain ⟨W2,jw,jv,r30,r31,r40⟩:=KN (m:=130) jb.out js.out jf.out jq.out jr.out;rw [jw];refine ⟨.tuple #[.agg #[.int .i64 0,.slice none 0 0],.int .i64 130],by simp [results,Tryz.f14,go_sem,r30,r31,r40],rfl,jv⟩
end Go.Proofs.YtpljngaejaehcaaGreatDoor
