/- Texts that the claims share: RefC, Flaw5, Flaw6, RefD, Next, Next2, Ref2, Made, AppE. -/
import Derived.Laws.AppendOwnNone
import Derived.Test.YthjmdgejnakcmaaGreatDoorMF2
import Derived.Test.YthjmdgejnakcmaaGreatDoorMA1
import Derived.Test.YthjmdgejnakcmaaGreatDoorMF1
set_option maxHeartbeats 6400000
set_option maxRecDepth 100000
set_option linter.unusedVariables false
set_option linter.unusedSimpArgs false
namespace Go.Proofs.YthjmdgejnakcmaaGreatDoor.Fl
open Go.RowKit
theorem Gq (B n L:Nat):CQ (fun v W=>Gp W B v n L):=fun v w w' h hx=>by
 obtain ⟨g,hv,hg,hr⟩:=h;exact ⟨g,hv,hg,(Below.block hx g (A9.1 hr).1).trans hr⟩
theorem IR (k:Nat) (c:Value):CQ (fun v W=>∃ g,v=.pointer (some ⟨g,k,none⟩)∧W.cell? ⟨g,k,none⟩=some c):=fun v w w' h hx=>by
 obtain ⟨g,hv,hr⟩:=h;exact ⟨g,hv,(Below.cell (p:=⟨g,k,none⟩) hx (World.block_lt_of_cell? w _ hr)).trans hr⟩
theorem rdead_any (S:Sch) (a:Option Addr) (cap:Nat) (i:Nat) (w:World) (hR:BL w a S.rules) (hS:Fit S) (hi:i<S.rules.length) :
  Calls Tryz.prog 84 #[.agg #[.int .i64 S.modes,.int .u8 S.acc,.slice a S.rules.length cap],.int .i64 (i:Int)] w fun e w'=>e=.returned (.bool (Ja (Cr S) (BX S) S.rules[i]))∧Below w.heap.size w w':=by
 have HR:=A6 hR;have HS:=A6 hS;obtain ⟨m0,m1,h0,h1,hlen,jm⟩:=hS;obtain ⟨f0,f1,t0,t1⟩:=jm i hi;clear jm;obtain ⟨mm,jp⟩:=Int.eq_ofNat_of_zero_le (show 0≤S.modes by omega);have HM:Hid (S.modes.toNat=mm):=by show _=_;omega
 have f2:S.rules[i].frm<(mm:Int):=by omega
 have t2:S.rules[i].dst<(mm:Int):=by omega
 clear jp;obtain ⟨b,o,ha,hb,q0,q1,q2,q3,q4⟩:=hR.at hi;have hidx:=Bp a b o S.rules.length cap i ha hi;have HA:=A6 ha;clear ha hR q2 q3 q4;obtain ⟨o1,ji⟩:∃ o,(Cr S).testBit S.rules[i].frm.toNat=o:=⟨_,rfl⟩
 obtain ⟨o2,jj⟩:∃ o,(BX S).testBit S.rules[i].dst.toNat=o:=⟨_,rfl⟩
 have HE:Hid (Ja (Cr S) (BX S) S.rules[i]=(!o1 || !o2)):=by show _=_;rw [Ja,ji,jj]
 have jl:=A6 ji;have jo:=A6 jj;clear ji jj;have hd0:(0:Int)≤(i:Int):=by omega
 have hiI:(i:Int)<(S.rules.length:Int):=by omega
 have jk:Hid (BL (w.alloc (.cells #[.int .i64 S.modes,.int .u8 S.acc,.slice a S.rules.length cap] 32)) a S.rules):=HR.out.later ((Below.refl _ _).alloc (A7 _) _) (A7 _);cases o1 with
 | false
     =>
  go_enter Tryz.func84,Tryz.ntmps84
  go_wp2;refine B6 (by kernel_rfl) (Vs [fun v _=>v=.agg #[.int .i64 S.modes,.int .u8 S.acc,.slice a S.rules.length cap],fun v W=>Gp W w.heap.size v mm (Cr S),fun v _=>v=.pointer (some ⟨w.heap.size,2,none⟩),fun v _=>v=.slice a S.rules.length cap,fun v _=>v=.int .i64 (i:Int),fun v _=>v=.pointer (some ⟨b,o+i*5,none⟩),fun v _=>v=.pointer (some ⟨b,o+i*5,none⟩),fun v _=>v=.int .i64 S.rules[i].frm,fun v W=>∃ g,v=.pointer (some ⟨g,S.rules[i].frm.toNat,none⟩)∧W.cell? ⟨g,S.rules[i].frm.toNat,none⟩=some (.bool false),fun v _=>v=.bool false,fun v _=>v=.bool true,fun v _=>v=.bool true,
   fun v _=>v=undef,fun v _=>v=undef,fun v _=>v=undef,fun v _=>v=undef,fun v _=>v=undef,fun v _=>v=undef,fun v _=>v=undef,fun v _=>v=undef,fun v _=>v=undef,fun v _=>v=undef,fun v _=>v=undef,fun v _=>v=.bool true,fun v _=>v=.bool true]) (fun W=>Below (w.heap.size+1) (w.alloc (.cells #[.int .i64 S.modes,.int .u8 S.acc,.slice a S.rules.length cap] 32)) W) 29 (by kernel_rfl) rfl ?hVx ?hSx ?hS (BN ?hop) ?hfin
  case hop =>
   refine ⟨?_,?_,?_,?_,?_,?_,?_,?_,?_,?_,?_,?_,?_,?_,?_,?_,?_,?_,?_,?_,?_,?_,?_,?_,?_,trivial⟩
   all_goals
    intro A W jd hS ja jb;obtain ⟨hz,hc,hf⟩:=BE hS rfl;simp only [AA] at hz;have h1:A.tmps.getD 1 undef=.int .i64 (i:Int):=jb 1 (by kernel_rfl);have h2:A.tmps.getD 2 undef=.pointer (some ⟨w.heap.size,0,none⟩):=jb 2 (by kernel_rfl);clear jb;simp [Aq,Region.binds,Vs] at ja
    first
     | exact C2 (j:=11) (d:=16) (b:=true) rfl (by kernel_rfl) (by first | exact ja | exact ja.2 | exact ja.2.2 | exact ja.2.2.2) rfl rfl
     | (refine Ao rfl (.inl ⟨_,W,?_,rfl,Ext.refl _⟩);clear jd;simp [go_sem,Act.eval, *];done)
     | skip
   ·refine Ao rfl (.inr ⟨87,#[.agg #[.int .i64 S.modes,.int .u8 S.acc,.slice a S.rules.length cap],.int .i64 ((0:Nat):Int)],W,by (clear jd;simp [go_sem,Act.eval, *]),?_⟩);refine (rreached_any S a cap 0 _ (jk.out.later hS (by simp)) HS.out (by have:=HM.out;omega)).mono ?_;rintro e w1 ⟨v,rfl,⟨g2,hv,jn,jc⟩,hb⟩;exact ⟨v,rfl,⟨g2,by rw [HM.out] at hv;exact hv,by omega,by rw [HM.out] at jc;exact jc⟩,hb⟩
   ·obtain ⟨⟨g,hv,hg,je⟩,jg⟩:=ja;refine Ao rfl (.inl ⟨.pointer (some ⟨g,S.rules[i].frm.toNat,none⟩),W,?_,⟨g,rfl,by rw [Bg je (by omega),jl.out]⟩,Ext.refl _⟩);clear jd;simp [go_sem,Act.eval, *]
   ·obtain ⟨g,hv,hq⟩:=ja;refine Ao rfl (.inl ⟨.bool false,W,?_,rfl,Ext.refl _⟩);clear jd;simp [go_sem,Act.eval, *]
  case hVx=>exact Av (by simp only [Aj,List.not_mem_nil,or_false,forall_eq_or_imp,forall_eq];exact ⟨An _,Gq _ _ _,An _,An _,An _,An _,An _,An _,IR _ _,An _,An _,An _,An _,An _,An _,An _,An _,An _,An _,An _,An _,An _,An _,An _,An _⟩)
  case hSx=>exact fun W W' h hx=>h.trans (Below.mono hx (by have:=h.size;simp only [AA] at this;omega))
  case hS=>go_grown
  case hfin =>
   intro A W jd jf hS hv jb;have e4:A.tmps.getD 4 undef=.bool true:=hv 24 (by decide);have hA:=MO (n:=29) jd jf;generalize hx:(fun i=>A.tmps.getD i undef)=x at hA;have e4':x 4=.bool true:=by rw [← hx];exact e4
   rw [hA];clear hA hx e4 hv jb jd jf;simp only [List.range,List.range.loop,List.map];rw [e4'];have hB:Below w.heap.size w W:=((Below.refl _ _).alloc (A7 _) _).trans (hS.mono (by omega));go_wp2;go_ret;exact ⟨Au HE.out.symm,hB⟩
 | true =>
  go_enter Tryz.func84,Tryz.ntmps84
  go_wp2;refine B6 (by kernel_rfl) (Vs [fun v _=>v=.agg #[.int .i64 S.modes,.int .u8 S.acc,.slice a S.rules.length cap],fun v W=>Gp W w.heap.size v mm (Cr S),fun v _=>v=.pointer (some ⟨w.heap.size,2,none⟩),fun v _=>v=.slice a S.rules.length cap,fun v _=>v=.int .i64 (i:Int),fun v _=>v=.pointer (some ⟨b,o+i*5,none⟩),fun v _=>v=.pointer (some ⟨b,o+i*5,none⟩),fun v _=>v=.int .i64 S.rules[i].frm,fun v W=>∃ g,v=.pointer (some ⟨g,S.rules[i].frm.toNat,none⟩)∧W.cell? ⟨g,S.rules[i].frm.toNat,none⟩=some (.bool true),fun v _=>v=.bool true,fun v _=>v=.bool false,fun v _=>v=.bool false,
   fun v _=>v=.agg #[.int .i64 S.modes,.int .u8 S.acc,.slice a S.rules.length cap],fun v W=>Gp W w.heap.size v mm (BX S),fun v _=>v=.pointer (some ⟨w.heap.size,2,none⟩),fun v _=>v=.slice a S.rules.length cap,fun v _=>v=.int .i64 (i:Int),fun v _=>v=.pointer (some ⟨b,o+i*5,none⟩),fun v _=>v=.pointer (some ⟨b,o+i*5+1,none⟩),fun v _=>v=.int .i64 S.rules[i].dst,fun v W=>∃ g,v=.pointer (some ⟨g,S.rules[i].dst.toNat,none⟩)∧W.cell? ⟨g,S.rules[i].dst.toNat,none⟩=some (.bool o2),fun v _=>v=.bool o2,fun v _=>v=.bool (!o2),fun v _=>v=.bool (!o2),fun v _=>v=.bool (!o2)]) (fun W=>Below (w.heap.size+1) (w.alloc (.cells #[.int .i64 S.modes,.int .u8 S.acc,.slice a S.rules.length cap] 32)) W) 29 (by kernel_rfl) rfl ?hVx ?hSx ?hS (BN ?hop) ?hfin
  case hop =>
   refine ⟨?_,?_,?_,?_,?_,?_,?_,?_,?_,?_,?_,?_,?_,?_,?_,?_,?_,?_,?_,?_,?_,?_,?_,?_,?_,trivial⟩
   all_goals
    intro A W jd hS ja jb;obtain ⟨hz,hc,hf⟩:=BE hS rfl;simp only [AA] at hz;have h1:A.tmps.getD 1 undef=.int .i64 (i:Int):=jb 1 (by kernel_rfl);have h2:A.tmps.getD 2 undef=.pointer (some ⟨w.heap.size,0,none⟩):=jb 2 (by kernel_rfl);clear jb;simp [Aq,Region.binds,Vs] at ja
    first
     | (refine Ao rfl (.inl ⟨_,W,?_,rfl,Ext.refl _⟩);clear jd;simp [go_sem,Act.eval, *];done)
     | (refine B2 (j:=11) (d:=16) (b:=false) rfl (by kernel_rfl) (by first | exact ja | exact ja.2 | exact ja.2.2 | exact ja.2.2.2) rfl (.inl ⟨_,W,?_,rfl,Ext.refl _⟩);clear jd;simp [go_sem,Act.eval, *];done)
     | skip
   ·refine Ao rfl (.inr ⟨87,#[.agg #[.int .i64 S.modes,.int .u8 S.acc,.slice a S.rules.length cap],.int .i64 ((0:Nat):Int)],W,by (clear jd;simp [go_sem,Act.eval, *]),?_⟩);refine (rreached_any S a cap 0 _ (jk.out.later hS (by simp)) HS.out (by have:=HM.out;omega)).mono ?_;rintro e w1 ⟨v,rfl,⟨g2,hv,jn,jc⟩,hb⟩;exact ⟨v,rfl,⟨g2,by rw [HM.out] at hv;exact hv,by omega,by rw [HM.out] at jc;exact jc⟩,hb⟩
   ·obtain ⟨⟨g,hv,hg,je⟩,jg⟩:=ja;refine Ao rfl (.inl ⟨.pointer (some ⟨g,S.rules[i].frm.toNat,none⟩),W,?_,⟨g,rfl,by rw [Bg je (by omega),jl.out]⟩,Ext.refl _⟩);clear jd;simp [go_sem,Act.eval, *]
   ·obtain ⟨g,hv,hq⟩:=ja;refine Ao rfl (.inl ⟨.bool true,W,?_,rfl,Ext.refl _⟩);clear jd;simp [go_sem,Act.eval, *]
   ·refine B2 (j:=11) (d:=16) (b:=false) rfl (by kernel_rfl) ja.2 rfl (.inr ⟨56,#[.agg #[.int .i64 S.modes,.int .u8 S.acc,.slice a S.rules.length cap]],W,by (clear jd;simp [go_sem,Act.eval, *]),?_⟩);refine (rlive_any S a cap _ (jk.out.later hS (by simp)) HS.out).mono ?_;rintro e w1 ⟨v,rfl,⟨g2,hv,jn,jc⟩,hb⟩;exact ⟨v,rfl,⟨g2,by rw [HM.out] at hv;exact hv,by omega,by rw [HM.out] at jc;exact jc⟩,hb⟩
   ·obtain ⟨⟨g,hv,hg,je⟩,jg,jh⟩:=ja;refine B2 (j:=11) (d:=16) (b:=false) rfl (by kernel_rfl) jh rfl (.inl ⟨.pointer (some ⟨g,S.rules[i].dst.toNat,none⟩),W,?_,⟨g,rfl,by rw [Bg je (by omega),jo.out]⟩,Ext.refl _⟩);clear jd;simp [go_sem,Act.eval, *]
   ·obtain ⟨⟨g,hv,hq⟩,jh⟩:=ja;refine B2 (j:=11) (d:=16) (b:=false) rfl (by kernel_rfl) jh rfl (.inl ⟨.bool o2,W,?_,rfl,Ext.refl _⟩);clear jd;simp [go_sem,Act.eval, *]
  case hVx=>exact Av (by simp only [Aj,List.not_mem_nil,or_false,forall_eq_or_imp,forall_eq];exact ⟨An _,Gq _ _ _,An _,An _,An _,An _,An _,An _,IR _ _,An _,An _,An _,An _,Gq _ _ _,An _,An _,An _,An _,An _,An _,IR _ _,An _,An _,An _,An _⟩)
  case hSx=>exact fun W W' h hx=>h.trans (Below.mono hx (by have:=h.size;simp only [AA] at this;omega))
  case hS=>go_grown
  case hfin =>
   intro A W jd jf hS hv jb;have e4:A.tmps.getD 4 undef=.bool (!o2):=hv 24 (by decide);have hA:=MO (n:=29) jd jf;generalize hx:(fun i=>A.tmps.getD i undef)=x at hA;have e4':x 4=.bool (!o2):=by rw [← hx];exact e4
   rw [hA];clear hA hx e4 hv jb jd jf;simp only [List.range,List.range.loop,List.map];rw [e4'];have hB:Below w.heap.size w W:=((Below.refl _ _).alloc (A7 _) _).trans (hS.mono (by omega));go_wp2;go_ret;exact ⟨Au HE.out.symm,hB⟩
def Po (A B:Nat):Bool:=(List.range 8).any fun m=>A.testBit m && !B.testBit m
theorem RS {A B:Nat} (hA:A<256) (hB:B<256):bits BinOp.andNot IntKind.u8 (A:Int) (B:Int)=((A &&& (255 - B):Nat):Int):=by
 have hx:A &&& (255 - B)<2 ^ 8:=Nat.and_lt_two_pow _ (by omega);show IntKind.u8.wrap ((BitVec.ofInt 8 (A:Int) &&& ~~~ BitVec.ofInt 8 (B:Int)).toNat:Int)=_;rw [BitVec.toNat_and,BitVec.toNat_not,ofInt_u8 A hA,ofInt_u8 B hB,IntKind.wrap_u8'];have e:2 ^ 8 - 1 - B=255 - B:=by omega
 rw [e];omega
theorem Mz {A B:Nat} (hB:B<256) (m:Nat):(A &&& (255 - B)).testBit m=(A.testBit m && (decide (m<8) && !B.testBit m)):=by
 rw [Nat.testBit_and,show 255 - B=2 ^ 8 - (B+1) by omega,Nat.testBit_two_pow_sub_succ (by omega)]
theorem Pp {A B:Nat} (hA:A<256) (hB:B<256):(bits BinOp.andNot IntKind.u8 (A:Int) (B:Int) != 0)=Po A B:=by
 rw [RS hA hB,Bool.eq_iff_iff,bne_iff_ne,Po,List.any_eq_true];constructor
 ·intro h;have h':(A &&& (255 - B))≠0:=by omega
  obtain ⟨m,hm⟩:=Nat.exists_testBit_of_ne_zero h';rw [Mz hB] at hm;simp only [Bool.and_eq_true,decide_eq_true_eq] at hm;exact ⟨m,by simp [hm.2.1],by simp [hm.1,hm.2.2]⟩
 ·rintro ⟨m,hm,h⟩ h0;have h1:(A &&& (255 - B))=0:=by omega
  have:=Mz (A:=A) hB m;rw [h1,Nat.zero_testBit] at this;simp at hm;simp only [Bool.and_eq_true] at h;rw [h.1,h.2] at this;simp [hm] at this
open Classical in
noncomputable def Cf (S:Sch):Int :=
 if validB S=true then (if (BX S).testBit 0=true then (if Po (Cr S) (BX S)=true then 40 else if Mm S=[] then 0 else 41) else 50) else 20
theorem sound_any (S:Sch) (a:Option Addr) (cap:Nat) (w:World) (hR:BL w a S.rules) (h0:0≤S.acc) (h1:S.acc≤255) (hl:S.rules.length≤9223372036854775807) (jc:S.rules.length≤cap) (hS:validB S=true→Fit S) :
  Calls Tryz.prog 71 #[.agg #[.int .i64 S.modes,.int .u8 S.acc,.slice a S.rules.length cap]] w fun e w'=>e=.returned (.int .i64 (Cf S))∧Below w.heap.size w w':=by
 have HR:=A6 hR;have HS:=A6 hS;clear hR hS;by_cases hv:validB S=true
 ·have ja:=A6 (HS.out hv);have HV:=A6 hv;obtain ⟨A,hA⟩:∃ A,Cr S=A:=⟨_,rfl⟩
  obtain ⟨B,jm⟩:∃ B,BX S=B:=⟨_,rfl⟩
  have jp:A<256:=by rw [← hA];exact Ip ja.out
  have jf:B<256:=by rw [← jm];exact Jb ja.out
  have HA:=A6 hA;have jb:=A6 jm;clear hA jm;have jk:=Dr B 0;have hd:=Pp jp jf;obtain ⟨o,ho⟩:∃ o,Po A B=o:=⟨_,rfl⟩
  rw [ho] at hd;have HO:=A6 ho;clear ho;by_cases jg:B.testBit 0=true
  ·have jd:=A6 jg;clear jg;by_cases jj:o=true
   ·subst jj;have HE:Hid (40=Cf S):=by show _=_;rw [Cf,if_pos hv,HA.out,jb.out,if_pos jd.out,if_pos HO.out]
    clear hv
    go_enter Tryz.func71,Tryz.ntmps71
    go_wp2_with (first | (go_at_call 98;refine (F1 S a cap _ (HR.out.later (by first | exact hB | go_grown) (A7 _)) h0 h1 hl jc).mono ?_;rintro e w1 ⟨he,hb⟩;rw [HV.out] at he;subst he;obtain ⟨hz,hc,hf⟩:=BB hb (by first | (simp only [AA,World.size_setCell,World.size_drew];rfl) | rfl);have hB:=Ap (B:=w.heap.size) (w:=w) (by go_grown) hb (A7 _);clear hb) | (go_at_call 99;refine (live_any S a cap _ (HR.out.later (by first | exact hB | go_grown) (A7 _)) ja.out).mono ?_;rintro e w2 ⟨he,hb⟩;rw [show Fa S.eds S.modes.toNat S.acc.toNat=B from jb.out] at he;subst he;obtain ⟨hz,hc,hf⟩:=BB hb (by first | (simp only [AA,World.size_setCell,World.size_drew];rfl) | rfl);have hB:=Ap (B:=w.heap.size) (w:=w) (by go_grown) hb (A7 _);clear hb) | (go_at_call 100;refine (jk _ jf (by omega) (by omega)).mono ?_;rintro e w4 ⟨he,rfl⟩;rw [show B.testBit (0:Int).toNat=_ from jd.out] at he;subst he))
    go_region_held3 (fun w'=>w'.cell? ⟨w.heap.size,0,none⟩=some (.int .i64 S.modes)∧w'.cell? ⟨w.heap.size,1,none⟩=some (.int .u8 S.acc)∧w'.cell? ⟨w.heap.size,2,none⟩=some (.slice a S.rules.length cap)) (first | (simp [go_sem, *];done) | go_keep) (first | (go_at_call 101;refine (reached_any S a cap _ (HR.out.later (by first | exact hB | go_grown) (A7 _)) ja.out).mono ?_;rintro e w3 ⟨he,hb⟩;rw [show EV S.eds S.modes.toNat=A from HA.out] at he;subst he;obtain ⟨hz,hc,hf⟩:=BB hb (by first | (simp only [AA,World.size_setCell,World.size_drew];rfl) | rfl);have hB:=Ap (B:=w.heap.size) (w:=w) (by go_grown) hb (A7 _);clear hb) | (go_at_call 99;refine (live_any S a cap _ (HR.out.later (by first | exact hB | go_grown) (A7 _)) ja.out).mono ?_;rintro e w2 ⟨he,hb⟩;rw [show Fa S.eds S.modes.toNat S.acc.toNat=B from jb.out] at he;subst he;obtain ⟨hz,hc,hf⟩:=BB hb (by first | (simp only [AA,World.size_setCell,World.size_drew];rfl) | rfl);have hB:=Ap (B:=w.heap.size) (w:=w) (by go_grown) hb (A7 _);clear hb))
    go_wp2;go_ret;exact ⟨BY HE.out,hB⟩
   ·obtain rfl:o=false:=by simpa using jj
    by_cases je:Mm S=[]
    ·have jl:=A6 je;have HE:Hid (0=Cf S):=by show _=_;rw [Cf,if_pos hv,HA.out,jb.out,if_pos jd.out,if_neg (by rw [HO.out];simp),if_pos je]
     clear hv jj je
     go_enter Tryz.func71,Tryz.ntmps71
     go_wp2_with (first | (go_at_call 98;refine (F1 S a cap _ (HR.out.later (by first | exact hB | go_grown) (A7 _)) h0 h1 hl jc).mono ?_;rintro e w1 ⟨he,hb⟩;rw [HV.out] at he;subst he;obtain ⟨hz,hc,hf⟩:=BB hb (by first | (simp only [AA,World.size_setCell,World.size_drew];rfl) | rfl);have hB:=Ap (B:=w.heap.size) (w:=w) (by go_grown) hb (A7 _);clear hb) | (go_at_call 99;refine (live_any S a cap _ (HR.out.later (by first | exact hB | go_grown) (A7 _)) ja.out).mono ?_;rintro e w2 ⟨he,hb⟩;rw [show Fa S.eds S.modes.toNat S.acc.toNat=B from jb.out] at he;subst he;obtain ⟨hz,hc,hf⟩:=BB hb (by first | (simp only [AA,World.size_setCell,World.size_drew];rfl) | rfl);have hB:=Ap (B:=w.heap.size) (w:=w) (by go_grown) hb (A7 _);clear hb) | (go_at_call 100;refine (jk _ jf (by omega) (by omega)).mono ?_;rintro e w4 ⟨he,rfl⟩;rw [show B.testBit (0:Int).toNat=_ from jd.out] at he;subst he))
     go_region_held3 (fun w'=>w'.cell? ⟨w.heap.size,0,none⟩=some (.int .i64 S.modes)∧w'.cell? ⟨w.heap.size,1,none⟩=some (.int .u8 S.acc)∧w'.cell? ⟨w.heap.size,2,none⟩=some (.slice a S.rules.length cap)) (first | (simp [go_sem, *];done) | go_keep) (first | (go_at_call 101;refine (reached_any S a cap _ (HR.out.later (by first | exact hB | go_grown) (A7 _)) ja.out).mono ?_;rintro e w3 ⟨he,hb⟩;rw [show EV S.eds S.modes.toNat=A from HA.out] at he;subst he;obtain ⟨hz,hc,hf⟩:=BB hb (by first | (simp only [AA,World.size_setCell,World.size_drew];rfl) | rfl);have hB:=Ap (B:=w.heap.size) (w:=w) (by go_grown) hb (A7 _);clear hb) | (go_at_call 99;refine (live_any S a cap _ (HR.out.later (by first | exact hB | go_grown) (A7 _)) ja.out).mono ?_;rintro e w2 ⟨he,hb⟩;rw [show Fa S.eds S.modes.toNat S.acc.toNat=B from jb.out] at he;subst he;obtain ⟨hz,hc,hf⟩:=BB hb (by first | (simp only [AA,World.size_setCell,World.size_drew];rfl) | rfl);have hB:=Ap (B:=w.heap.size) (w:=w) (by go_grown) hb (A7 _);clear hb))
     go_wp2_with (first | (go_at_call 102;refine (endless_any S a cap _ (HR.out.later (by first | exact hB | go_grown) (A7 _)) ja.out).mono ?_;rintro e w5 ⟨v,rfl,ji,hb⟩;have hv:=ji.2 jl.out;subst hv;clear ji;obtain ⟨hz,hc,hf⟩:=BB hb (by first | (simp only [AA,World.size_setCell,World.size_drew];rfl) | rfl);have hB:=Ap (B:=w.heap.size) (w:=w) (by go_grown) hb (A7 _);clear hb))
     go_ret;exact ⟨BY HE.out,hB⟩
    ·have jl:=A6 je;have HE:Hid (41=Cf S):=by show _=_;rw [Cf,if_pos hv,HA.out,jb.out,if_pos jd.out,if_neg (by rw [HO.out];simp),if_neg je]
     have jn:0<(Mm S).length:=by rcases h:Mm S with _ | ⟨x,l⟩;exact absurd h je;simp
     obtain ⟨n,hn⟩:∃ n,(Mm S).length=n:=⟨_,rfl⟩
     rw [hn] at jn;have HN:=A6 hn;clear hv jj je hn
     go_enter Tryz.func71,Tryz.ntmps71
     go_wp2_with (first | (go_at_call 98;refine (F1 S a cap _ (HR.out.later (by first | exact hB | go_grown) (A7 _)) h0 h1 hl jc).mono ?_;rintro e w1 ⟨he,hb⟩;rw [HV.out] at he;subst he;obtain ⟨hz,hc,hf⟩:=BB hb (by first | (simp only [AA,World.size_setCell,World.size_drew];rfl) | rfl);have hB:=Ap (B:=w.heap.size) (w:=w) (by go_grown) hb (A7 _);clear hb) | (go_at_call 99;refine (live_any S a cap _ (HR.out.later (by first | exact hB | go_grown) (A7 _)) ja.out).mono ?_;rintro e w2 ⟨he,hb⟩;rw [show Fa S.eds S.modes.toNat S.acc.toNat=B from jb.out] at he;subst he;obtain ⟨hz,hc,hf⟩:=BB hb (by first | (simp only [AA,World.size_setCell,World.size_drew];rfl) | rfl);have hB:=Ap (B:=w.heap.size) (w:=w) (by go_grown) hb (A7 _);clear hb) | (go_at_call 100;refine (jk _ jf (by omega) (by omega)).mono ?_;rintro e w4 ⟨he,rfl⟩;rw [show B.testBit (0:Int).toNat=_ from jd.out] at he;subst he))
     go_region_held3 (fun w'=>w'.cell? ⟨w.heap.size,0,none⟩=some (.int .i64 S.modes)∧w'.cell? ⟨w.heap.size,1,none⟩=some (.int .u8 S.acc)∧w'.cell? ⟨w.heap.size,2,none⟩=some (.slice a S.rules.length cap)) (first | (simp [go_sem, *];done) | go_keep) (first | (go_at_call 101;refine (reached_any S a cap _ (HR.out.later (by first | exact hB | go_grown) (A7 _)) ja.out).mono ?_;rintro e w3 ⟨he,hb⟩;rw [show EV S.eds S.modes.toNat=A from HA.out] at he;subst he;obtain ⟨hz,hc,hf⟩:=BB hb (by first | (simp only [AA,World.size_setCell,World.size_drew];rfl) | rfl);have hB:=Ap (B:=w.heap.size) (w:=w) (by go_grown) hb (A7 _);clear hb) | (go_at_call 99;refine (live_any S a cap _ (HR.out.later (by first | exact hB | go_grown) (A7 _)) ja.out).mono ?_;rintro e w2 ⟨he,hb⟩;rw [show Fa S.eds S.modes.toNat S.acc.toNat=B from jb.out] at he;subst he;obtain ⟨hz,hc,hf⟩:=BB hb (by first | (simp only [AA,World.size_setCell,World.size_drew];rfl) | rfl);have hB:=Ap (B:=w.heap.size) (w:=w) (by go_grown) hb (A7 _);clear hb))
     go_wp2_with (first | (go_at_call 102;refine (endless_any S a cap _ (HR.out.later (by first | exact hB | go_grown) (A7 _)) ja.out).mono ?_;rintro e w5 ⟨v,rfl,ji,hb⟩;obtain ⟨g,cp,hv⟩:=ji.1.slv jl.out;rw [HN.out] at hv;subst hv;clear ji;obtain ⟨hz,hc,hf⟩:=BB hb (by first | (simp only [AA,World.size_setCell,World.size_drew];rfl) | rfl);have hB:=Ap (B:=w.heap.size) (w:=w) (by go_grown) hb (A7 _);clear hb))
     go_ret;exact ⟨BY HE.out,hB⟩
  ·have jh:B.testBit 0=false:=by simpa using jg
   have jd:=A6 jh;have HE:Hid (50=Cf S):=by show _=_;rw [Cf,if_pos hv,jb.out,if_neg jg]
   clear hv jg jh hd
   go_enter Tryz.func71,Tryz.ntmps71
   go_wp2_with (first | (go_at_call 98;refine (F1 S a cap _ (HR.out.later (by first | exact hB | go_grown) (A7 _)) h0 h1 hl jc).mono ?_;rintro e w1 ⟨he,hb⟩;rw [HV.out] at he;subst he;obtain ⟨hz,hc,hf⟩:=BB hb (by first | (simp only [AA,World.size_setCell,World.size_drew];rfl) | rfl);have hB:=Ap (B:=w.heap.size) (w:=w) (by go_grown) hb (A7 _);clear hb) | (go_at_call 99;refine (live_any S a cap _ (HR.out.later (by first | exact hB | go_grown) (A7 _)) ja.out).mono ?_;rintro e w2 ⟨he,hb⟩;rw [show Fa S.eds S.modes.toNat S.acc.toNat=B from jb.out] at he;subst he;obtain ⟨hz,hc,hf⟩:=BB hb (by first | (simp only [AA,World.size_setCell,World.size_drew];rfl) | rfl);have hB:=Ap (B:=w.heap.size) (w:=w) (by go_grown) hb (A7 _);clear hb) | (go_at_call 100;refine (jk _ jf (by omega) (by omega)).mono ?_;rintro e w4 ⟨he,rfl⟩;rw [show B.testBit (0:Int).toNat=_ from jd.out] at he;subst he))
   go_ret;exact ⟨BY HE.out,hB⟩
 ·have jo:validB S=false:=by simpa using hv
  have HV:=A6 jo;have HE:Hid (20=Cf S):=by show _=_;rw [Cf,if_neg hv]
  clear hv jo
  go_enter Tryz.func71,Tryz.ntmps71
  go_wp2_with (first | (go_at_call 98;refine (F1 S a cap _ (HR.out.later (by first | exact hB | go_grown) (A7 _)) h0 h1 hl jc).mono ?_;rintro e w1 ⟨he,hb⟩;rw [HV.out] at he;subst he;obtain ⟨hz,hc,hf⟩:=BB hb (by first | (simp only [AA,World.size_setCell,World.size_drew];rfl) | rfl);have hB:=Ap (B:=w.heap.size) (w:=w) (by go_grown) hb (A7 _);clear hb))
  go_ret;exact ⟨BY HE.out,hB⟩
theorem KX (S:Sch) (a:Option Addr) (cap:Nat) (w:World) (hR:BL w a S.rules) (hS:Fit S) (hm:0<S.modes.toNat) :
  Calls Tryz.prog 87 #[.agg #[.int .i64 S.modes,.int .u8 S.acc,.slice a S.rules.length cap],.int .i64 0] w fun e w'=>∃ v,e=.returned v∧Gp w' w.heap.size v S.modes.toNat (Cr S)∧Below w.heap.size w w':=rreached_any S a cap 0 w hR hS hm
theorem IS {w:World} {ops:Array Oper} {rest:List Oper} {o:Oper} {a:Act} {Q:Exit→Act→World→Prop} (jd:o.guard=none) (s x:Operand)
  (ho:o.op=.call { callee:=.builtin .append,args:=#[s,x],argTypes:=#[79,79] }) (base:Nat) (v:Value) (n:Nat) (xs:List Value) (hs:a.eval s=v) (ja:w.ownsRow base 3 1 v n xs)
  (B0:Nat) (vx:Value) (ys:List Nat) (hx:a.eval x=vx) (jc:Ch w B0 vx ys) (hl:n+ys.length≤1000) (jb:base≤w.heap.size)
  (h:∀ v' w',w'.ownsRow base 3 1 v' (n+ys.length) (xs ++ F3 ys)→w.grownBy w' v.ownBlock→wpList Tryz.prog ops Q rest (a.put o.dst v') w'):wpList Tryz.prog ops Q (o :: rest) a w:=by
 obtain ⟨i0,hi,je,jf,jg⟩:=info_parts Fd;rcases id jc.2 with ⟨rfl,h0⟩ | ⟨g,cp,cur,rfl,_⟩
 ·obtain rfl:ys=[]:=List.eq_nil_of_length_eq_zero h0;refine wpList_append_own_none jd s x 79 ho base 3 i0 1 Tryz.underlying79 hi v n xs hs ja hx (h v w ?_ (World.grownBy.refl w _));simpa [F3] using ja
 ·refine wpList_append_own w jd s x 79 ho base 3 i0 (.int .i64 0) 1 8 Tryz.underlying79 hi je jf jg rfl (by decide) v n xs hs ja ⟨g,0,none⟩ ys.length cp (F3 ys) hx (by rw [Ik];omega)
   (fun j u hj=>World.ownsRow.cells (g:=g) jc rfl j u hj) (fun u hu=>by obtain ⟨k,_,rfl⟩:=AP.1 hu;rfl) (by unfold maxLen;omega) (by omega) jb (fun v' w' h1 h2 _=>h v' w' h1 h2)
structure Wk where
 is:Nat→Bool
 ch:Nat→List Nat
def Wk.empty:Wk:=⟨fun _=>false,fun _=>[]⟩
def Wk.put (k:Wk) (t:Nat) (l:List Nat):Wk:=⟨fun j=>if j=t then true else k.is j,fun j=>if j=t then l else k.ch j⟩
def
  stepK (use:Rl→Bool) (K:Wk) (O:Wk) (i:Nat) (r:Rl):Wk :=
 if K.is r.frm.toNat && use r then
  (if !O.is r.dst.toNat || BJ (ints (K.ch r.frm.toNat ++ [i])) (ints (O.ch r.dst.toNat)) then O.put r.dst.toNat (K.ch r.frm.toNat ++ [i]) else O)
 else O
def Ca (use:Rl→Bool) (R:List Rl) (K:Wk):Nat→Wk
 | 0=>Wk.empty
 | k+1=>if h:k<R.length then stepK use K (Ca use R K k) k R[k] else Ca use R K k
def Dw (use:Rl→Bool) (R:List Rl) (K:Wk):Wk:=Ca use R K R.length
def wkL (is:Nat→Bool) (vs:Nat→Value):List Value:=(List.range 8).map (fun i=>Value.bool (is i)) ++ (List.range 8).map vs
theorem OE {is:Nat→Bool} {vs:Nat→Value} {i:Nat} (h:i<8):(wkL is vs)[i]? = some (.bool (is i)):=by
 rw [wkL,AQ (by simpa using h),List.getElem?_map,List.getElem?_range h];rfl
theorem OF {is:Nat→Bool} {vs:Nat→Value} {i:Nat} (h:i<8):(wkL is vs)[8+i]? = some (vs i):=by
 rw [wkL,AR (by simp),List.getElem?_map];simp [h]
def CF (w:World) (g:Nat) (is:Nat→Bool) (vs:Nat→Value):Prop:=w.heap[g]? = some (.cells (wkL is vs).toArray 190 (0,0))
theorem CF.is {w:World} {g i:Nat} {is:Nat→Bool} {vs:Nat→Value} (h:CF w g is vs) (hi:i<8):w.cell? ⟨g,i,none⟩=some (.bool (is i)):=by
 rw [cell_of_row w g i _ _ (0,0) h,List.getElem?_toArray,OE hi]
theorem CF.vs {w:World} {g i:Nat} {is:Nat→Bool} {vs:Nat→Value} (h:CF w g is vs) (hi:i<8):w.cell? ⟨g,8+i,none⟩=some (vs i):=by
 rw [cell_of_row w g _ _ _ (0,0) h,List.getElem?_toArray,OF hi]
theorem CF.free {w:World} {g i:Nat} {is:Nat→Bool} {vs:Nat→Value} (h:CF w g is vs):w.frozen? ⟨g,i,none⟩=false:=by unfold CF at h;simp [World.frozen?,h]
theorem CF.below {w w1:World} {g B:Nat} {is:Nat→Bool} {vs:Nat→Value} (h:CF w g is vs) (hb:Below B w w1) (hg:g<B):CF w1 g is vs:=(hb.block g hg).trans h
theorem CF.lt {w:World} {g:Nat} {is:Nat→Bool} {vs:Nat→Value} (h:CF w g is vs):g<w.heap.size:=(A9.1 h).1
theorem JE (is:Nat→Bool) (vs:Nat→Value):(wkL is vs).length=16:=by simp [wkL]
theorem T1 {is is':Nat→Bool} {vs vs':Nat→Value} {l:List Value} (hl:l.length=16) (h1:∀ i,i<8→l[i]? = some (.bool (is i))) (h2:∀ i,i<8→l[8+i]? = some (vs i)):l=wkL is vs:=by
 apply List.ext_getElem?;intro i;by_cases h:i<8
 · rw [h1 i h,OE h]
 ·by_cases h':i<16
  ·obtain ⟨j,rfl⟩:∃ j,i=8+j:=⟨i - 8,by omega⟩
   rw [h2 j (by omega),OF (by omega)]
  · rw [Ac (by omega),Ac (by rw [JE];omega)]
theorem CF.set {w:World} {g t:Nat} {is:Nat→Bool} {vs:Nat→Value} {v:Value} (h:CF w g is vs) (ht:t<8) :
  CF ((w.setCell ⟨g,t,none⟩ (.bool true)).setCell ⟨g,8+t,none⟩ v) g (fun j=>if j=t then true else is j) (fun j=>if j=t then v else vs j):=by
 unfold CF at h ⊢;simp only [World.setCell];rw [Array.getElem?_modify,if_pos rfl,Array.getElem?_modify,if_pos rfl,h];simp only [Option.map_some,Option.isSome_none,Bool.false_eq_true,if_false];congr 2;apply Array.ext';simp only [Array.toList_setIfInBounds];refine T1 (is':=is) (vs':=vs) (by simp [JE]) (fun i hi=>?_) (fun i hi=>?_)
 ·rw [List.getElem?_set_ne (by omega),List.getElem?_set];by_cases e:t=i
  · subst e;rw [if_pos rfl,JE,if_pos (by omega),if_pos rfl]
  · rw [if_neg e,OE hi,if_neg (fun h=>e h.symm)]
 ·rw [List.getElem?_set];by_cases e:t=i
  · subst e;rw [if_pos rfl,List.length_set,JE,if_pos (by omega),if_pos rfl]
  · rw [if_neg (by omega),List.getElem?_set_ne (by omega),OF hi,if_neg (fun h=>e h.symm)]
structure NX (B:Nat) (M:World) (g:Nat) (K O:Wk) (vK vO:Nat→Value) (wr:World):Prop where
 okK:∀ t,t<8→Ch wr 0 (vK t) (K.ch t)
 okO:∀ t,t<8→Ch wr B (vO t) (O.ch t)
 row:CF wr g O.is vO
 bl:Below g M wr
 gB:B≤g
section
variable {B:Nat} {M:World} {g:Nat} {K O:Wk} {vK vO:Nat→Value} {wr w1:World}
theorem NX.below (h:NX B M g K O vK vO wr) (hb:Below wr.heap.size wr w1):NX B M g K O vK vO w1 :=
 ⟨fun t ht=>(h.okK t ht).below hb (h.okK t ht).lt,fun t ht=>(h.okO t ht).below hb (h.okO t ht).lt,h.row.below hb h.row.lt,h.bl.trans (hb.mono (by have:=h.row.lt;omega)),h.gB⟩
theorem Lq {w:World} {B g i:Nat} {v u:Value} {xs:List Nat} {is:Nat→Bool} {vs:Nat→Value} (h:Ch w B v xs) (hg:CF w g is vs) (u2:Value) (i2:Nat):Ch ((w.setCell ⟨g,i,none⟩ u).setCell ⟨g,i2,none⟩ u2) B v xs:=by
 refine h.same fun b hb=>?_;have ja:b≠g:=fun e=>by
  obtain ⟨cs',h2⟩:=h.own hb;rw [e] at h2;unfold CF at hg;rw [hg] at h2;cases h2
 rw [Below.heap_setCell _ _ _ _ ja,Below.heap_setCell _ _ _ _ ja]
theorem NX.store (h:NX B M g K O vK vO wr) {t:Nat} (ht:t<8) {v:Value} {l:List Nat} (hv:Ch wr B v l) :
  NX B M g K (O.put t l) vK (fun j=>if j=t then v else vO j) ((wr.setCell ⟨g,t,none⟩ (.bool true)).setCell ⟨g,8+t,none⟩ v):=by
 refine ⟨fun j hj=>Lq (h.okK j hj) h.row _ _,fun j hj=>?_,h.row.set ht,(h.bl.setCell (A7 _) _).setCell (A7 _) _,h.gB⟩;show Ch _ _ (if j=t then v else vO j) (if j=t then l else O.ch j);by_cases e:j=t
 · rw [if_pos e,if_pos e];exact Lq hv h.row _ _
 · rw [if_neg e,if_neg e];exact Lq (h.okO j hj) h.row _ _
end
theorem Pq {use:Rl→Bool} {K O:Wk} {i L:Nat} {r:Rl} (hK:∀ t,t<8→(K.ch t).length≤L) (hO:∀ t,t<8→(O.ch t).length≤L+1) (hf:r.frm.toNat<8):∀ t,t<8→((stepK use K O i r).ch t).length≤L+1:=by
 intro t ht;unfold stepK;split
 ·split
  ·show (if t=r.dst.toNat then K.ch r.frm.toNat ++ [i] else O.ch t).length≤L+1;split
   · have:=hK _ hf;rw [AF];simp only [List.length_cons,List.length_nil];omega
   · exact hO t ht
  · exact hO t ht
 · exact hO t ht
theorem FL {use:Rl→Bool} {R:List Rl} {K:Wk} {L:Nat} (hK:∀ t,t<8→(K.ch t).length≤L) (hf:∀ r∈R,r.frm.toNat<8):∀ k t,t<8→((Ca use R K k).ch t).length≤L+1
 | 0,t,_=>by simp [Ca,Wk.empty]
 | k+1,t,ht=>by
  rw [Ca];split
  · rename_i h;exact Pq hK (FL hK hf k) (hf _ (AO h)) t ht
  · exact FL hK hf k t ht
def CG (silent:Bool) (r:Rl):Bool:=!silent || CI r
theorem OG (r:Rl):(CI r=true→(!r.inp.toList.isEmpty)=false)∧(CI r=false→(!r.inp.toList.isEmpty)=true):=by
 have:r.inp.toList.isEmpty=decide (r.inp.size=0):=by
  rw [ByteArray.toList_eq,Bool.eq_iff_iff,decide_eq_true_iff,List.isEmpty_iff,← ByteArray.size_data];constructor
  · intro h;rw [← Array.length_toList,h];rfl
  · intro h;exact List.eq_nil_of_length_eq_zero (by rw [Array.length_toList];exact h)
 unfold CI;rw [this];cases decide (r.inp.size=0) <;> simp
theorem B7 {w:World} {g i:Nat} {y:Value} {cs cs':Array Value} {t:TypeId} {f:Nat × Nat} (h:w.heap[g]? = some (.cells cs t f)) (hc:cs.setIfInBounds i y=cs'):(w.setCell ⟨g,i,none⟩ y).heap[g]? = some (.cells cs' t f):=by
 simp only [World.setCell];rw [Array.getElem?_modify,if_pos rfl,h,← hc];rfl
theorem Tl {w:World} {g:Nat} {x0 x1 x2 x3 x4 x5 x6 x7 x8 x9 x10 x11 x12 x13 x14 x15 y0 y1 y2 y3 y4 y5 y6 y7 y8 y9 y10 y11 y12 y13 y14 y15:Value} {t:TypeId} {f:Nat × Nat} (h:w.heap[g]? = some (.cells #[x0,x1,x2,x3,x4,x5,x6,x7,x8,x9,x10,x11,x12,x13,x14,x15] t f)) :
  ((((((((((((((((w.setCell ⟨g,0,none⟩ y0).setCell ⟨g,1,none⟩ y1).setCell ⟨g,2,none⟩ y2).setCell ⟨g,3,none⟩ y3).setCell ⟨g,4,none⟩ y4).setCell ⟨g,5,none⟩ y5).setCell ⟨g,6,none⟩ y6).setCell ⟨g,7,none⟩ y7).setCell ⟨g,8,none⟩ y8).setCell ⟨g,9,none⟩ y9).setCell ⟨g,10,none⟩ y10).setCell ⟨g,11,none⟩ y11).setCell ⟨g,12,none⟩ y12).setCell ⟨g,13,none⟩ y13).setCell ⟨g,14,none⟩ y14).setCell ⟨g,15,none⟩ y15).heap[g]? = some (.cells #[y0,y1,y2,y3,y4,y5,y6,y7,y8,y9,y10,y11,y12,y13,y14,y15] t f):=by
 have h0:=B7 (i:=0) (y:=y0) (cs':=#[y0,x1,x2,x3,x4,x5,x6,x7,x8,x9,x10,x11,x12,x13,x14,x15]) h rfl;have h1:=B7 (i:=1) (y:=y1) (cs':=#[y0,y1,x2,x3,x4,x5,x6,x7,x8,x9,x10,x11,x12,x13,x14,x15]) h0 rfl;have h2:=B7 (i:=2) (y:=y2) (cs':=#[y0,y1,y2,x3,x4,x5,x6,x7,x8,x9,x10,x11,x12,x13,x14,x15]) h1 rfl;have h3:=B7 (i:=3) (y:=y3) (cs':=#[y0,y1,y2,y3,x4,x5,x6,x7,x8,x9,x10,x11,x12,x13,x14,x15]) h2 rfl;have h4:=B7 (i:=4) (y:=y4) (cs':=#[y0,y1,y2,y3,y4,x5,x6,x7,x8,x9,x10,x11,x12,x13,x14,x15]) h3 rfl;have h5:=B7 (i:=5) (y:=y5) (cs':=#[y0,y1,y2,y3,y4,y5,x6,x7,x8,x9,x10,x11,x12,x13,x14,x15]) h4 rfl;have h6:=B7 (i:=6) (y:=y6) (cs':=#[y0,y1,y2,y3,y4,y5,y6,x7,x8,x9,x10,x11,x12,x13,x14,x15]) h5 rfl;have h7:=B7 (i:=7) (y:=y7) (cs':=#[y0,y1,y2,y3,y4,y5,y6,y7,x8,x9,x10,x11,x12,x13,x14,x15]) h6 rfl;have h8:=B7 (i:=8) (y:=y8) (cs':=#[y0,y1,y2,y3,y4,y5,y6,y7,y8,x9,x10,x11,x12,x13,x14,x15]) h7 rfl;have h9:=B7 (i:=9) (y:=y9) (cs':=#[y0,y1,y2,y3,y4,y5,y6,y7,y8,y9,x10,x11,x12,x13,x14,x15]) h8 rfl;have ja:=B7 (i:=10) (y:=y10) (cs':=#[y0,y1,y2,y3,y4,y5,y6,y7,y8,y9,y10,x11,x12,x13,x14,x15]) h9 rfl;have jb:=B7 (i:=11) (y:=y11) (cs':=#[y0,y1,y2,y3,y4,y5,y6,y7,y8,y9,y10,y11,x12,x13,x14,x15]) ja rfl;have jc:=B7 (i:=12) (y:=y12) (cs':=#[y0,y1,y2,y3,y4,y5,y6,y7,y8,y9,y10,y11,y12,x13,x14,x15]) jb rfl;have jd:=B7 (i:=13) (y:=y13) (cs':=#[y0,y1,y2,y3,y4,y5,y6,y7,y8,y9,y10,y11,y12,y13,x14,x15]) jc rfl;have je:=B7 (i:=14) (y:=y14) (cs':=#[y0,y1,y2,y3,y4,y5,y6,y7,y8,y9,y10,y11,y12,y13,y14,x15]) jd rfl;have jf:=B7 (i:=15) (y:=y15) (cs':=#[y0,y1,y2,y3,y4,y5,y6,y7,y8,y9,y10,y11,y12,y13,y14,y15]) je rfl;exact jf
theorem P7 {w:World} {g:Nat} {y0 y1 y2 y3 y4 y5 y6 y7 y8 y9 y10 y11 y12 y13 y14 y15:Value} {t:TypeId} {f:Nat × Nat} (h:w.heap[g]? = some (.cells #[y0,y1,y2,y3,y4,y5,y6,y7,y8,y9,y10,y11,y12,y13,y14,y15] t f)) :
  w.cell? ⟨g,0,none⟩=some y0∧w.cell? ⟨g,1,none⟩=some y1∧w.cell? ⟨g,2,none⟩=some y2∧w.cell? ⟨g,3,none⟩=some y3∧w.cell? ⟨g,4,none⟩=some y4∧w.cell? ⟨g,5,none⟩=some y5∧w.cell? ⟨g,6,none⟩=some y6∧w.cell? ⟨g,7,none⟩=some y7∧w.cell? ⟨g,8,none⟩=some y8∧w.cell? ⟨g,9,none⟩=some y9∧w.cell? ⟨g,10,none⟩=some y10∧w.cell? ⟨g,11,none⟩=some y11∧w.cell? ⟨g,12,none⟩=some y12∧w.cell? ⟨g,13,none⟩=some y13∧w.cell? ⟨g,14,none⟩=some y14∧w.cell? ⟨g,15,none⟩=some y15:=by
 refine ⟨?_,?_,?_,?_,?_,?_,?_,?_,?_,?_,?_,?_,?_,?_,?_,?_⟩
 all_goals (rw [cell_of_row w g _ _ _ f h];rfl)
theorem Lr {w:World} {g b:Nat} {y0 y1 y2 y3 y4 y5 y6 y7 y8 y9 y10 y11 y12 y13 y14 y15:Value} (hb:b≠g):((((((((((((((((w.setCell ⟨g,0,none⟩ y0).setCell ⟨g,1,none⟩ y1).setCell ⟨g,2,none⟩ y2).setCell ⟨g,3,none⟩ y3).setCell ⟨g,4,none⟩ y4).setCell ⟨g,5,none⟩ y5).setCell ⟨g,6,none⟩ y6).setCell ⟨g,7,none⟩ y7).setCell ⟨g,8,none⟩ y8).setCell ⟨g,9,none⟩ y9).setCell ⟨g,10,none⟩ y10).setCell ⟨g,11,none⟩ y11).setCell ⟨g,12,none⟩ y12).setCell ⟨g,13,none⟩ y13).setCell ⟨g,14,none⟩ y14).setCell ⟨g,15,none⟩ y15).heap[b]? = w.heap[b]?:=by
 rw [Below.heap_setCell _ _ _ _ hb,Below.heap_setCell _ _ _ _ hb,Below.heap_setCell _ _ _ _ hb,Below.heap_setCell _ _ _ _ hb,Below.heap_setCell _ _ _ _ hb,Below.heap_setCell _ _ _ _ hb,Below.heap_setCell _ _ _ _ hb,Below.heap_setCell _ _ _ _ hb,Below.heap_setCell _ _ _ _ hb,Below.heap_setCell _ _ _ _ hb,Below.heap_setCell _ _ _ _ hb,Below.heap_setCell _ _ _ _ hb,Below.heap_setCell _ _ _ _ hb,Below.heap_setCell _ _ _ _ hb,Below.heap_setCell _ _ _ _ hb,Below.heap_setCell _ _ _ _ hb]
theorem U0 (w:World) (o1 o2 o3:Obj):CF ((((w.alloc o1).alloc o2).alloc o3).alloc (.cells #[.bool false,.bool false,.bool false,.bool false,.bool false,.bool false,.bool false,.bool false,.slice none 0 0,.slice none 0 0,.slice none 0 0,.slice none 0 0,.slice none 0 0,.slice none 0 0,.slice none 0 0,.slice none 0 0] 190)) (w.heap.size+1+1+1) Wk.empty.is (fun _=>.slice none 0 0):=by
 have h:=heap_alloc_new (((w.alloc o1).alloc o2).alloc o3) (.cells #[.bool false,.bool false,.bool false,.bool false,.bool false,.bool false,.bool false,.bool false,.slice none 0 0,.slice none 0 0,.slice none 0 0,.slice none 0 0,.slice none 0 0,.slice none 0 0,.slice none 0 0,.slice none 0 0] 190);unfold CF;have e:(wkL Wk.empty.is (fun _=>Value.slice none 0 0)).toArray=#[.bool false,.bool false,.bool false,.bool false,.bool false,.bool false,.bool false,.bool false,.slice none 0 0,.slice none 0 0,.slice none 0 0,.slice none 0 0,.slice none 0 0,.slice none 0 0,.slice none 0 0,.slice none 0 0]:=rfl;rw [e];simpa using h
theorem next_any
         (S:Sch) (a:Option Addr) (cap:Nat) (K:Wk) (vK:Nat→Value) (silent:Bool) (L:Nat) (w:World) (hR:BL w a S.rules) (hS:Fit S) (hK:∀ t,t<8→Ch w 0 (vK t) (K.ch t)) (hL:∀ t,t<8→(K.ch t).length≤L) (hL2:L≤100) :
  Calls Tryz.prog 109 #[.agg #[.int .i64 S.modes,.int .u8 S.acc,.slice a S.rules.length cap],.agg #[.bool (K.is 0),.bool (K.is 1),.bool (K.is 2),.bool (K.is 3),.bool (K.is 4),.bool (K.is 5),.bool (K.is 6),.bool (K.is 7),vK 0,vK 1,vK 2,vK 3,vK 4,vK 5,vK 6,vK 7],.bool silent] w fun e w'=>∃ (vO:Nat→Value),e=.returned (.agg (wkL (Dw (CG silent) S.rules K).is vO).toArray)∧(∀ t,t<8→Ch w' w.heap.size (vO t) ((Dw (CG silent) S.rules K).ch t))∧Below w.heap.size w w':=by
 have HR:=A6 hR;have HS:=A6 hS;have HK:=A6 hK;have HL:=A6 hL;have hlen:=hS.len;have hm1:=hS.m1;clear hR hS hK hL;have jb:∀ t,t<8→∃ b n c,vK t=.slice b n c:=fun t ht=>(HK.out t ht).form;obtain ⟨b0,n0,c0,e0⟩:=jb 0 (by omega);obtain ⟨b1,n1,c1,e1⟩:=jb 1 (by omega);obtain ⟨b2,n2,c2,e2⟩:=jb 2 (by omega);obtain ⟨b3,n3,c3,e3⟩:=jb 3 (by omega);obtain ⟨b4,n4,c4,e4⟩:=jb 4 (by omega);obtain ⟨b5,n5,c5,e5⟩:=jb 5 (by omega);obtain ⟨b6,n6,c6,e6⟩:=jb 6 (by omega);obtain ⟨b7,n7,c7,e7⟩:=jb 7 (by omega);clear jb
 go_enter Tryz.func109,Tryz.ntmps109
 go_upto_region 3 with fail
 have jS:Hid (CF (((w.alloc (.cells #[.int .i64 S.modes,.int .u8 S.acc,.slice a S.rules.length cap] 32)).alloc (.cells #[.bool (K.is 0),.bool (K.is 1),.bool (K.is 2),.bool (K.is 3),.bool (K.is 4),.bool (K.is 5),.bool (K.is 6),.bool (K.is 7),.slice b0 n0 c0,.slice b1 n1 c1,.slice b2 n2 c2,.slice b3 n3 c3,.slice b4 n4 c4,.slice b5 n5 c5,.slice b6 n6 c6,.slice b7 n7 c7] 190)).alloc (.cells #[.bool false,.bool false,.bool false,.bool false,.bool false,.bool false,.bool false,.bool false,.slice none 0 0,.slice none 0 0,.slice none 0 0,.slice none 0 0,.slice none 0 0,.slice none 0 0,.slice none 0 0,.slice none 0 0] 190)) (w.heap.size+1) K.is vK):=by
  have h:=heap_alloc_new (w.alloc (.cells #[.int .i64 S.modes,.int .u8 S.acc,.slice a S.rules.length cap] 32)) (.cells #[.bool (K.is 0),.bool (K.is 1),.bool (K.is 2),.bool (K.is 3),.bool (K.is 4),.bool (K.is 5),.bool (K.is 6),.bool (K.is 7),.slice b0 n0 c0,.slice b1 n1 c1,.slice b2 n2 c2,.slice b3 n3 c3,.slice b4 n4 c4,.slice b5 n5 c5,.slice b6 n6 c6,.slice b7 n7 c7] 190);show CF _ _ _ _;unfold CF;have e:(wkL K.is vK).toArray=#[.bool (K.is 0),.bool (K.is 1),.bool (K.is 2),.bool (K.is 3),.bool (K.is 4),.bool (K.is 5),.bool (K.is 6),.bool (K.is 7),.slice b0 n0 c0,.slice b1 n1 c1,.slice b2 n2 c2,.slice b3 n3 c3,.slice b4 n4 c4,.slice b5 n5 c5,.slice b6 n6 c6,.slice b7 n7 c7]:=by
   rw [← e0,← e1,← e2,← e3,← e4,← e5,← e6,← e7];rfl
  rw [e,Below.heap_alloc _ _ _ (by simp)];simpa using h
 have jF:Hid (NX w.heap.size (((w.alloc (.cells #[.int .i64 S.modes,.int .u8 S.acc,.slice a S.rules.length cap] 32)).alloc (.cells #[.bool (K.is 0),.bool (K.is 1),.bool (K.is 2),.bool (K.is 3),.bool (K.is 4),.bool (K.is 5),.bool (K.is 6),.bool (K.is 7),.slice b0 n0 c0,.slice b1 n1 c1,.slice b2 n2 c2,.slice b3 n3 c3,.slice b4 n4 c4,.slice b5 n5 c5,.slice b6 n6 c6,.slice b7 n7 c7] 190)).alloc (.cells #[.bool false,.bool false,.bool false,.bool false,.bool false,.bool false,.bool false,.bool false,.slice none 0 0,.slice none 0 0,.slice none 0 0,.slice none 0 0,.slice none 0 0,.slice none 0 0,.slice none 0 0,.slice none 0 0] 190)) (w.heap.size+1+1+1) K Wk.empty vK (fun _=>.slice none 0 0) ((((w.alloc (.cells #[.int .i64 S.modes,.int .u8 S.acc,.slice a S.rules.length cap] 32)).alloc (.cells #[.bool (K.is 0),.bool (K.is 1),.bool (K.is 2),.bool (K.is 3),.bool (K.is 4),.bool (K.is 5),.bool (K.is 6),.bool (K.is 7),.slice b0 n0 c0,.slice b1 n1 c1,.slice b2 n2 c2,.slice b3 n3 c3,.slice b4 n4 c4,.slice b5 n5 c5,.slice b6 n6 c6,.slice b7 n7 c7] 190)).alloc (.cells #[.bool false,.bool false,.bool false,.bool false,.bool false,.bool false,.bool false,.bool false,.slice none 0 0,.slice none 0 0,.slice none 0 0,.slice none 0 0,.slice none 0 0,.slice none 0 0,.slice none 0 0,.slice none 0 0] 190)).alloc (.cells #[.bool false,.bool false,.bool false,.bool false,.bool false,.bool false,.bool false,.bool false,.slice none 0 0,.slice none 0 0,.slice none 0 0,.slice none 0 0,.slice none 0 0,.slice none 0 0,.slice none 0 0,.slice none 0 0] 190))) :=
  ⟨fun t ht=>(HK.out t ht).below (show Below w.heap.size w _ by go_grown) (HK.out t ht).lt,fun t ht=>Ch.nil _ _,U0 _ _ _ _,by go_grown,by omega⟩
 clear e0 e1 e2 e3 e4 e5 e6 e7
 go_loopw [8] (fun i wr=>∃ (k:Nat) (vO:Nat→Value),k≤S.rules.length∧i=.int .i64 k∧NX w.heap.size (((w.alloc (.cells #[.int .i64 S.modes,.int .u8 S.acc,.slice a S.rules.length cap] 32)).alloc (.cells #[.bool (K.is 0),.bool (K.is 1),.bool (K.is 2),.bool (K.is 3),.bool (K.is 4),.bool (K.is 5),.bool (K.is 6),.bool (K.is 7),.slice b0 n0 c0,.slice b1 n1 c1,.slice b2 n2 c2,.slice b3 n3 c3,.slice b4 n4 c4,.slice b5 n5 c5,.slice b6 n6 c6,.slice b7 n7 c7] 190)).alloc (.cells #[.bool false,.bool false,.bool false,.bool false,.bool false,.bool false,.bool false,.bool false,.slice none 0 0,.slice none 0 0,.slice none 0 0,.slice none 0 0,.slice none 0 0,.slice none 0 0,.slice none 0 0,.slice none 0 0] 190)) (w.heap.size+1+1+1) K (Ca (CG silent) S.rules K k) vK vO wr) (fun i _=>S.rules.length - (intOf i).toNat)
 case atStart=>exact ⟨0,_,by omega,rfl,jF.out⟩
 case round =>
  obtain ⟨k,vO,hk,rfl,jz⟩:=hrel;have jc:=A6 jz;have js:=jz.bl;have hB:Below w.heap.size w wr:=(show Below w.heap.size w (((w.alloc (.cells #[.int .i64 S.modes,.int .u8 S.acc,.slice a S.rules.length cap] 32)).alloc (.cells #[.bool (K.is 0),.bool (K.is 1),.bool (K.is 2),.bool (K.is 3),.bool (K.is 4),.bool (K.is 5),.bool (K.is 6),.bool (K.is 7),.slice b0 n0 c0,.slice b1 n1 c1,.slice b2 n2 c2,.slice b3 n3 c3,.slice b4 n4 c4,.slice b5 n5 c5,.slice b6 n6 c6,.slice b7 n7 c7] 190)).alloc (.cells #[.bool false,.bool false,.bool false,.bool false,.bool false,.bool false,.bool false,.bool false,.slice none 0 0,.slice none 0 0,.slice none 0 0,.slice none 0 0,.slice none 0 0,.slice none 0 0,.slice none 0 0,.slice none 0 0] 190)) by go_grown).trans (js.mono (by omega));obtain ⟨hz, -, -⟩:=BE js rfl;obtain ⟨-,hc,hf⟩:=BE (js.mono (show w.heap.size+1≤(w.heap.size+1+1+1) by omega)) rfl;simp only [AA] at hz;have jd:CF wr (w.heap.size+1) K.is vK:=jS.out.below js (by omega);by_cases jy:k<S.rules.length
  ·obtain ⟨
       b,
         o,ha,hb,q0,q1,q2,q3,q4⟩:=(HR.out.later hB (A7 _)).at jy
   have hidx:=Bp a b o S.rules.length cap k ha jy;have HA:=A6 ha;clear ha;obtain ⟨f0,f1,t0,t1⟩:=HS.out.at0 k jy;have f8:S.rules[k].frm<8:=by omega
   have t8:S.rules[k].dst<8:=by omega
   have qk:=jd.is (i:=S.rules[k].frm.toNat) (by omega);have qv:=jd.vs (i:=S.rules[k].frm.toNat) (by omega);obtain ⟨bf,nf,cf,ef⟩:=(HK.out S.rules[k].frm.toNat (by omega)).form;rw [ef] at qv;have jQ:=A6 ef;clear ef;obtain ⟨kf,jI⟩:∃ kf,K.is S.rules[k].frm.toNat=kf:=⟨_,rfl⟩
   rw [jI] at qk;obtain ⟨O,hO⟩:∃ O,Ca (CG silent) S.rules K k=O:=⟨_,rfl⟩
   have HO:=A6 hO;have HN:Hid (Ca (CG silent) S.rules K (k+1)=stepK (CG silent) K O k S.rules[k]):=by show _=_;rw [Ca,dif_pos jy,hO]
   rw [hO] at jc;have jD:=A6 jI;have HKrow:=A6 jd;clear jI hO jz jd;have jf:=OG S.rules[k];cases kf with
   | false =>
    have jq:Hid (Ca (CG silent) S.rules K (k+1)=O):=by show _=_;rw [HN.out,stepK,jD.out,Bool.false_and,if_neg (by simp)]
    clear jf;go_wp2
    go_roundw
    case rel=>exact ⟨k+1,vO,by omega,by go_num,by rw [jq.out];exact jc.out.below (by go_grown)⟩
    case measure=>simp [intOf];omega
   | true =>
    have ja:=jc.out.row;have qo:=ja.is (i:=S.rules[k].dst.toNat) (by omega);have qov:=ja.vs (i:=S.rules[k].dst.toNat) (by omega);obtain ⟨bo,no,co,eo⟩:=(jc.out.okO S.rules[k].dst.toNat (by omega)).form;rw [eo] at qov;have jR:=A6 eo;clear eo;have hgl:=ja.lt;have hz1:=ja.free (i:=S.rules[k].dst.toNat);have hz2:=ja.free (i:=8+S.rules[k].dst.toNat);clear ja;obtain ⟨of,jn⟩:∃ of,O.is S.rules[k].dst.toNat=of:=⟨_,rfl⟩
    rw [jn] at qo;have jT:=A6 jn;clear jn;have hL1:=HL.out S.rules[k].frm.toNat (by omega);have jW:Hid ((O.ch S.rules[k].dst.toNat).length≤L+1):=by show _≤_;rw [← HO.out];exact FL HL.out (fun r hr=>by obtain ⟨i,hi,rfl⟩:=List.mem_iff_getElem.1 hr;have:=HS.out.at0 i hi;omega) _ _ (by omega)
    have hOL1:=jW.out;have je:(silent=false∨silent=true∧CI S.rules[k]=true)∨(silent=true∧CI S.rules[k]=false):=by
     cases silent <;> cases CI S.rules[k] <;> simp
    rcases je with je | ⟨hs,he⟩
    ·have HU:Hid (CG silent S.rules[k]=true):=by
      show _=_;unfold CG;rcases je with h | ⟨h1,h2⟩
      · rw [h];rfl
      · rw [h2];simp
     have jq:Hid (Ca (CG silent) S.rules K (k+1)=if !O.is S.rules[k].dst.toNat || BJ (ints (K.ch S.rules[k].frm.toNat ++ [k])) (ints (O.ch S.rules[k].dst.toNat)) then O.put S.rules[k].dst.toNat (K.ch S.rules[k].frm.toNat ++ [k]) else O):=by
      show _=_;rw [HN.out,stepK,jD.out,HU.out,Bool.true_and,if_pos rfl]
     have jh:=fun h=>jf.1 h;have h7:World.ownsRow ((wr.alloc (.cells #[.int .i64 S.rules[k].frm,.int .i64 S.rules[k].dst,.string S.rules[k].inp,.string S.rules[k].out,.int .i64 S.rules[k].cost] 64)).alloc (.cells #[] 3)) (wr.heap.size+1) 3 1 (.slice (some ⟨wr.heap.size+1,0,none⟩) 0 0) 0 [] :=
      ⟨rfl,.inr ⟨_,0,#[],rfl,A7 _,by have:=heap_alloc_new (wr.alloc (.cells #[.int .i64 S.rules[k].frm,.int .i64 S.rules[k].dst,.string S.rules[k].inp,.string S.rules[k].out,.int .i64 S.rules[k].cost] 64)) (.cells #[] 3);simpa using this,A7 _,Nat.zero_le _,rfl,rfl⟩⟩
     have jt:Ch ((wr.alloc (.cells #[.int .i64 S.rules[k].frm,.int .i64 S.rules[k].dst,.string S.rules[k].inp,.string S.rules[k].out,.int .i64 S.rules[k].cost] 64)).alloc (.cells #[] 3)) 0 (.slice bf nf cf) (K.ch S.rules[k].frm.toNat):=by
      have h:=jc.out.okK S.rules[k].frm.toNat (by omega);rw [jQ.out] at h;exact h.below (by go_grown) h.lt
     obtain ⟨i0,hi,iz0,iz1,iz2⟩:=info_parts Fd;have jO:=A6 jt;have H7:=A6 h7;have hgE:w.heap.size+1+1+1+1≤wr.heap.size:=by omega
     clear jf h7 jt;obtain ⟨bb,jp⟩:∃ bb,BJ (ints (K.ch S.rules[k].frm.toNat ++ [k])) (ints (O.ch S.rules[k].dst.toNat))=bb:=⟨_,rfl⟩
     have jE:Hid (Ca (CG silent) S.rules K (k+1)=if !of || bb then O.put S.rules[k].dst.toNat (K.ch S.rules[k].frm.toNat ++ [k]) else O):=by
      show _=_;rw [jq.out,jT.out,jp]
     have jN:=A6 jp;clear jp;have jL:Hid (∀ W,NX w.heap.size (((w.alloc (.cells #[.int .i64 S.modes,.int .u8 S.acc,.slice a S.rules.length cap] 32)).alloc (.cells #[.bool (K.is 0),.bool (K.is 1),.bool (K.is 2),.bool (K.is 3),.bool (K.is 4),.bool (K.is 5),.bool (K.is 6),.bool (K.is 7),.slice b0 n0 c0,.slice b1 n1 c1,.slice b2 n2 c2,.slice b3 n3 c3,.slice b4 n4 c4,.slice b5 n5 c5,.slice b6 n6 c6,.slice b7 n7 c7] 190)).alloc (.cells #[.bool false,.bool false,.bool false,.bool false,.bool false,.bool false,.bool false,.bool false,.slice none 0 0,.slice none 0 0,.slice none 0 0,.slice none 0 0,.slice none 0 0,.slice none 0 0,.slice none 0 0,.slice none 0 0] 190)) (w.heap.size+1+1+1) K O vK vO W→SlS W bo (ints (O.ch S.rules[k].dst.toNat))∧no=(ints (O.ch S.rules[k].dst.toNat)).length):=fun W h=>by
      have h2:=h.okO S.rules[k].dst.toNat (by omega);rw [jR.out] at h2;exact ⟨h2.sls.1,h2.sls.2.trans (BH _).symm⟩
     have jX:(of=false∨of=true∧bb=true)∨(of=true∧bb=false):=by cases of <;> cases bb <;> simp
     rcases je with hs | ⟨hs,he⟩
     all_goals
      subst hs
      try have hemp3:=jh he
      clear jh;rcases jX with (jn | ⟨jn,jp⟩) | ⟨jn,jp⟩
     all_goals
      subst jn
      try subst jp
      go_wp2_with (first | (at_builtin;refine IS rfl _ _ rfl (wr.heap.size+1) (.slice (some ⟨wr.heap.size+1,0,none⟩) 0 0) 0 [] rfl H7.out 0 (.slice bf nf cf) (K.ch S.rules[k].frm.toNat) rfl jO.out (by omega) (by simp) ?_;intro v1 w1 ji jm;have jK:Hid (World.ownsRow w1 (wr.heap.size+1) 3 1 v1 (K.ch S.rules[k].frm.toNat).length (F3 (K.ch S.rules[k].frm.toNat))):=(by have h:=ji;rw [Nat.zero_add,List.nil_append] at h;exact h);have jG:Below wr.heap.size wr w1:=(by exact (((Below.refl _ wr).alloc (A7 _) _).alloc (by simp) _).grown jm (by simp only [AA];omega) (fun q hq=>by (have jJ:some (wr.heap.size+1)=some q:=hq;injection jJ;omega)));have hz3:=jG.size;have jk:Below (wr.heap.size+1) (wr.alloc (.cells #[.int .i64 S.rules[k].frm,.int .i64 S.rules[k].dst,.string S.rules[k].inp,.string S.rules[k].out,.int .i64 S.rules[k].cost] 64)) w1:=(by exact ((Below.refl _ _).alloc (by simp) _).grown jm (by simp only [AA];omega) (fun q hq=>by (have jJ:some (wr.heap.size+1)=some q:=hq;injection jJ;omega)));have jo:=jk.size;have HB1:=A6 jG;have jA:=A6 jk;clear ji jm jG jk) | (at_builtin;refine wpList_append_own _ rfl _ _ 79 rfl (wr.heap.size+1) 3 i0 (.int .i64 0) 1 8 Tryz.underlying79 hi iz0 iz1 iz2 rfl (by decide) v1 (K.ch S.rules[k].frm.toNat).length (F3 (K.ch S.rules[k].frm.toNat)) rfl (World.ownsRow.alloc jK.out _) ⟨w1.heap.size,0,none⟩ 1 1 [.int .i64 (k:Int)] rfl rfl (cell_one_new _ _ _) (by simp [Value.oneCell']) (by unfold maxLen;omega) (by omega) (by simp only [AA] at jo ⊢;omega) ?_;intro v2 w2 jj jv _;have jx:=A6 (Lf jj);have jH:Below (wr.heap.size+1) (wr.alloc (.cells #[.int .i64 S.rules[k].frm,.int .i64 S.rules[k].dst,.string S.rules[k].inp,.string S.rules[k].out,.int .i64 S.rules[k].cost] 64)) w2:=(by exact (jA.out.alloc (by simp only [AA] at jo ⊢;omega) _).grown jv (by simp only [AA] at jo ⊢;omega) (fun q hq=>by have:=jK.out;exact Ch.ge (xs:=K.ch S.rules[k].frm.toNat) this q hq));obtain ⟨jZ,hcA,hfA⟩:=BE jH rfl;have hzA2:wr.heap.size+1≤w2.heap.size:=(by simpa using jZ);have jl:Below wr.heap.size wr w2:=(by exact ((Below.refl _ wr).alloc (A7 _) _).trans (jH.mono (by omega)));have jg:=A6 (jc.out.below jl);obtain ⟨bA,nA,cA,jY⟩:=jx.out.form;subst jY;have jB:=A6 (jx.out.mono (show w.heap.size≤wr.heap.size+1 by omega));have hB:=hB.trans (jl.mono (show w.heap.size≤wr.heap.size by omega));clear jj jv jH jl) | (go_at_call 110;refine (before_any bA bo nA no cA co (ints (K.ch S.rules[k].frm.toNat ++ [k])) (ints (O.ch S.rules[k].dst.toNat)) _ (jx.out.sls.2.trans (BH _).symm) (jL.out _ jg.out).2 jx.out.sls.1 (jL.out _ jg.out).1 (by rw [BH,AF];simp only [List.length_cons,List.length_nil];omega) (by rw [BH];omega)).mono ?_;rintro ee w3 ⟨jM,hb⟩;rw [jN.out] at jM;subst jM;have jr:=A6 (jg.out.below hb);have jP:=A6 (jB.out.below hb jB.out.lt);obtain ⟨hzB,hcB,hfB⟩:=BB hb rfl;have hB:=hB.trans (hb.mono (show w.heap.size≤w2.heap.size by have:=hB.size;omega));clear hb) | fail)
      first
       | (
         go_roundw
         case rel=>first | exact ⟨k+1,vO,by omega,by go_num,by rw [jE.out];exact jr.out⟩ | exact ⟨k+1,_,by omega,by go_num,by rw [jE.out];exact jr.out.store (by omega) jP.out⟩ | exact ⟨k+1,_,by omega,by go_num,by rw [jE.out];exact jg.out.store (by omega) jB.out⟩
         case measure=>simp [intOf];omega)
       | fail
    ·have jq:Hid (Ca (CG silent) S.rules K (k+1)=O):=by show _=_;rw [HN.out,stepK,jD.out];unfold CG;rw [hs,he];rfl
     have hemp2:=jf.2 he;subst hs;clear jf he;go_wp2
     go_roundw
     case rel=>exact ⟨k+1,vO,by omega,by go_num,by rw [jq.out];exact jc.out.below (by go_grown)⟩
     case measure=>simp [intOf];omega
  ·obtain rfl:k=S.rules.length:=by omega
   go_upto_region 12 with fail
   obtain ⟨O,hO⟩:∃ O,Ca (CG silent) S.rules K S.rules.length=O:=⟨_,rfl⟩
   have HO:Hid (Dw (CG silent) S.rules K=O):=hO;have jc:Hid (NX w.heap.size (((w.alloc (.cells #[.int .i64 S.modes,.int .u8 S.acc,.slice a S.rules.length cap] 32)).alloc (.cells #[.bool (K.is 0),.bool (K.is 1),.bool (K.is 2),.bool (K.is 3),.bool (K.is 4),.bool (K.is 5),.bool (K.is 6),.bool (K.is 7),.slice b0 n0 c0,.slice b1 n1 c1,.slice b2 n2 c2,.slice b3 n3 c3,.slice b4 n4 c4,.slice b5 n5 c5,.slice b6 n6 c6,.slice b7 n7 c7] 190)).alloc (.cells #[.bool false,.bool false,.bool false,.bool false,.bool false,.bool false,.bool false,.bool false,.slice none 0 0,.slice none 0 0,.slice none 0 0,.slice none 0 0,.slice none 0 0,.slice none 0 0,.slice none 0 0,.slice none 0 0] 190)) (w.heap.size+1+1+1) K O vK vO wr):=by have:=jc.out;rw [hO] at this;exact this
   clear hO jz;have ja:=jc.out.row;obtain ⟨p0,m0,d0,g0⟩:=(jc.out.okO 0 (by omega)).form;obtain ⟨p1,m1,d1,g1⟩:=(jc.out.okO 1 (by omega)).form;obtain ⟨p2,m2,d2,g2⟩:=(jc.out.okO 2 (by omega)).form;obtain ⟨p3,m3,d3,g3⟩:=(jc.out.okO 3 (by omega)).form;obtain ⟨p4,m4,d4,g4⟩:=(jc.out.okO 4 (by omega)).form;obtain ⟨p5,m5,d5,g5⟩:=(jc.out.okO 5 (by omega)).form;obtain ⟨p6,m6,d6,g6⟩:=(jc.out.okO 6 (by omega)).form;obtain ⟨p7,m7,d7,g7⟩:=(jc.out.okO 7 (by omega)).form;have r0:=ja.is (i:=0) (by omega);have r1:=ja.is (i:=1) (by omega);have r2:=ja.is (i:=2) (by omega);have r3:=ja.is (i:=3) (by omega);have r4:=ja.is (i:=4) (by omega);have r5:=ja.is (i:=5) (by omega);have r6:=ja.is (i:=6) (by omega);have r7:=ja.is (i:=7) (by omega);have r8:=ja.vs (i:=0) (by omega);rw [g0] at r8;have r9:=ja.vs (i:=1) (by omega);rw [g1] at r9;have r10:=ja.vs (i:=2) (by omega);rw [g2] at r10;have r11:=ja.vs (i:=3) (by omega);rw [g3] at r11;have r12:=ja.vs (i:=4) (by omega);rw [g4] at r12;have r13:=ja.vs (i:=5) (by omega);rw [g5] at r13;have r14:=ja.vs (i:=6) (by omega);rw [g6] at r14;have r15:=ja.vs (i:=7) (by omega);rw [g7] at r15;simp only [Nat.reduceAdd] at r8 r9 r10 r11 r12 r13 r14 r15;have jw:wr.heap[w.heap.size+1+1]? = some (.cells #[.bool false,.bool false,.bool false,.bool false,.bool false,.bool false,.bool false,.bool false,.slice none 0 0,.slice none 0 0,.slice none 0 0,.slice none 0 0,.slice none 0 0,.slice none 0 0,.slice none 0 0,.slice none 0 0] 190 (0,0)):=by
    refine (js.block (w.heap.size+1+1) (by omega)).trans ?_;have:=heap_alloc_new ((w.alloc (.cells #[.int .i64 S.modes,.int .u8 S.acc,.slice a S.rules.length cap] 32)).alloc (.cells #[.bool (K.is 0),.bool (K.is 1),.bool (K.is 2),.bool (K.is 3),.bool (K.is 4),.bool (K.is 5),.bool (K.is 6),.bool (K.is 7),.slice b0 n0 c0,.slice b1 n1 c1,.slice b2 n2 c2,.slice b3 n3 c3,.slice b4 n4 c4,.slice b5 n5 c5,.slice b6 n6 c6,.slice b7 n7 c7] 190)) (.cells #[.bool false,.bool false,.bool false,.bool false,.bool false,.bool false,.bool false,.bool false,.slice none 0 0,.slice none 0 0,.slice none 0 0,.slice none 0 0,.slice none 0 0,.slice none 0 0,.slice none 0 0,.slice none 0 0] 190);simpa using this
   obtain ⟨s0,s1,s2,s3,s4,s5,s6,s7,s8,s9,s10,s11,s12,s13,s14,s15⟩:=P7 jw;have sf:∀ i,wr.frozen? ⟨w.heap.size+1+1,i,none⟩=false:=fun i=>by simp [World.frozen?,jw]
   have ju:=Tl (y0:=.bool (O.is 0)) (y1:=.bool (O.is 1)) (y2:=.bool (O.is 2)) (y3:=.bool (O.is 3)) (y4:=.bool (O.is 4)) (y5:=.bool (O.is 5)) (y6:=.bool (O.is 6)) (y7:=.bool (O.is 7)) (y8:=.slice p0 m0 d0) (y9:=.slice p1 m1 d1) (y10:=.slice p2 m2 d2) (y11:=.slice p3 m3 d3) (y12:=.slice p4 m4 d4) (y13:=.slice p5 m5 d5) (y14:=.slice p6 m6 d6) (y15:=.slice p7 m7 d7) jw;have jC:=A6 ju;have jU:=A6 jw;have jV:Hid (#[.bool (O.is 0),.bool (O.is 1),.bool (O.is 2),.bool (O.is 3),.bool (O.is 4),.bool (O.is 5),.bool (O.is 6),.bool (O.is 7),.slice p0 m0 d0,.slice p1 m1 d1,.slice p2 m2 d2,.slice p3 m3 d3,.slice p4 m4 d4,.slice p5 m5 d5,.slice p6 m6 d6,.slice p7 m7 d7]=(wkL O.is vO).toArray):=by
    show _=_;rw [← g0,← g1,← g2,← g3,← g4,← g5,← g6,← g7];rfl
   clear ja jw ju g0 g1 g2 g3 g4 g5 g6 g7;go_wp2;obtain ⟨u0,u1,u2,u3,u4,u5,u6,u7,u8,u9,u10,u11,u12,u13,u14,u15⟩:=P7 jC.out;refine bodyPost_ret (v:=.agg #[.bool (O.is 0),.bool (O.is 1),.bool (O.is 2),.bool (O.is 3),.bool (O.is 4),.bool (O.is 5),.bool (O.is 6),.bool (O.is 7),.slice p0 m0 d0,.slice p1 m1 d1,.slice p2 m2 d2,.slice p3 m3 d3,.slice p4 m4 d4,.slice p5 m5 d5,.slice p6 m6 d6,.slice p7 m7 d7]) (by simp [results,Tryz.results109,go_sem,u0,u1,u2,u3,u4,u5,u6,u7,u8,u9,u10,u11,u12,u13,u14,u15]) rfl ⟨vO,?_,?_,?_⟩
   · rw [jV.out,HO.out]
   ·intro t ht;rw [HO.out];refine (jc.out.okO t ht).same fun q hq=>Lr fun e=>?_;obtain ⟨cs',h2⟩:=(jc.out.okO t ht).own hq;rw [e,jU.out] at h2;cases h2
   · exact ((((((((((((((((hB.setCell (by simp;omega) _)).setCell (by simp;omega) _).setCell (by simp;omega) _).setCell (by simp;omega) _).setCell (by simp;omega) _).setCell (by simp;omega) _).setCell (by simp;omega) _).setCell (by simp;omega) _).setCell (by simp;omega) _).setCell (by simp;omega) _).setCell (by simp;omega) _).setCell (by simp;omega) _).setCell (by simp;omega) _).setCell (by simp;omega) _).setCell (by simp;omega) _).setCell (by simp;omega) _
def inB (a b c:Int):Bool:=decide (b≤a) && decide (a≤c)
theorem Hj {a b c:Int} (h:b≤a) (h2:a≤c):inB a b c=true:=by simp [inB,h,h2]
theorem Gj {a b c:Int} (h:¬ (b≤a∧a≤c)):inB a b c=false:=by
 unfold inB;rw [Bool.and_eq_false_iff];simp;omega
theorem Fe (a b c:Int) (w:World):Calls Tryz.prog 80 #[.int .i64 a,.int .i64 b,.int .i64 c] w fun e w'=>e=.returned (.bool (inB a b c))∧w'=w:=by
 by_cases h:b≤a
 ·by_cases h2:a≤c
  ·have H:=A6 (Hj h h2)
   go_enter Tryz.func80,Tryz.ntmps80
   go_wp2;go_ret;exact ⟨Au (by rw [H.out];try (simp [h2])),rfl⟩
  ·have H:=A6 (Gj (a:=a) (b:=b) (c:=c) (by omega))
   go_enter Tryz.func80,Tryz.ntmps80
   go_wp2;go_ret;exact ⟨Au (by rw [H.out];try (simp;omega)),rfl⟩
 ·have H:=A6 (Gj (a:=a) (b:=b) (c:=c) (by omega))
  go_enter Tryz.func80,Tryz.ntmps80
  go_wp2;go_ret;exact ⟨Au (by rw [H.out];try (simp;omega)),rfl⟩
theorem N1 {c:Int}:(BP c == 1)=(decide (97≤c) && decide (c≤122)):=by
 unfold BP;by_cases h:97≤c∧c≤122
 · simp [h]
 ·rw [if_neg h];have:(decide (97≤c) && decide (c≤122))=false:=by rw [Bool.and_eq_false_iff];simp;omega
  rw [this];split
  · rfl
  · split <;> rfl
theorem small_any (s:ByteArray) (w:World) (hs:s.size≤9223372036854775807) :
  Calls Tryz.prog 81 #[.string s] w fun e w'=>e=.returned (.bool (FZ s))∧w=w':=by
 go_enter Tryz.func81,Tryz.ntmps81
 go_wp2
 go_loop [3] (fun i=>∃ k:Nat,k≤s.size∧i=.int .i64 k∧Nq (s.data.toList.take k)=true) (fun i=>s.size - (intOf i).toNat)
 case atStart=>exact ⟨0,Nat.zero_le _,rfl,rfl⟩
 case round =>
  obtain ⟨k,hk,rfl,ht⟩:=hrel;have HT:=A6 ht;clear ht;by_cases ja:k<s.size
  ·have b0:(0:Int)≤(s[k].toNat:Int):=by omega
   have b1:(s[k].toNat:Int)≤255:=by have:=s[k].toNat_lt;omega
   by_cases hc:(97:Int)≤(s[k].toNat:Int)∧(s[k].toNat:Int)≤122
   ·have HC:Hid ((BP (s[k].toNat:Int) == 1)=true):=by show _=true;rw [N1];simp;omega
    obtain ⟨q1,q2⟩:=hc;go_wp2
    go_round
    case rel=>exact ⟨k+1,by omega,by go_num,EU s k ja HT.out HC.out⟩
    case measure=>simp [intOf];omega
   ·have HC:Hid ((BP (s[k].toNat:Int) == 1)=false):=by show _=false;rw [N1,Bool.and_eq_false_iff];simp;omega
    by_cases q1:(97:Int)≤(s[k].toNat:Int)
    ·have q2:(122:Int)<(s[k].toNat:Int):=by omega
     clear hc;go_wp2;go_ret;exact ⟨Au (DS s k ja HC.out).symm,rfl⟩
    ·clear hc;go_wp2;go_ret;exact ⟨Au (DS s k ja HC.out).symm,rfl⟩
  ·have HA:=A6 (ET s k ja);go_wp2;go_ret;exact ⟨Au (by rw [FZ,← HA.out];exact HT.out.symm),rfl⟩
theorem Ff {c:Int}:(BP c == 0)=(!(decide (97≤c) && decide (c≤122)) && (!(decide (65≤c) && decide (c≤90)) && !(decide (48≤c) && decide (c≤57)))):=by
 unfold BP;by_cases h:97≤c∧c≤122
 · simp [h]
 ·by_cases h2:65≤c∧c≤90
  · rw [if_neg h,if_pos h2];simp [h2]
  ·by_cases h3:48≤c∧c≤57
   · rw [if_neg h,if_neg h2,if_pos h3];simp [h3]
   · rw [if_neg h,if_neg h2,if_neg h3];simp;omega
theorem plain_any (s:ByteArray) (w:World) (hs:s.size≤9223372036854775807) :
  Calls Tryz.prog 82 #[.string s] w fun e w'=>e=.returned (.bool (DO s))∧w=w':=by
 go_enter Tryz.func82,Tryz.ntmps82
 go_wp2
 go_loop [3] (fun i=>∃ k:Nat,k≤s.size∧i=.int .i64 k∧FY (s.data.toList.take k)=true) (fun i=>s.size - (intOf i).toNat)
 case atStart=>exact ⟨0,Nat.zero_le _,rfl,rfl⟩
 case round
       =>
  obtain ⟨k,hk,rfl,ht⟩:=hrel;have HT:=A6 ht;clear ht;by_cases ja:k<s.size
  ·have
      b0:(0:Int)≤(s[k].toNat:Int):=by omega
   have b1:(s[k].toNat:Int)≤255:=by have:=s[k].toNat_lt;omega
   rcases (show ((97:Int)≤(s[k].toNat:Int)∧(s[k].toNat:Int)≤122)∨((65:Int)≤(s[k].toNat:Int)∧(s[k].toNat:Int)≤90)∨((48:Int)≤(s[k].toNat:Int)∧(s[k].toNat:Int)≤57)∨((122:Int)<(s[k].toNat:Int))∨((90:Int)<(s[k].toNat:Int)∧(s[k].toNat:Int)<97)∨((57:Int)<(s[k].toNat:Int)∧(s[k].toNat:Int)<65)∨((s[k].toNat:Int)<48) by omega) with h | h | h | h | h | h | h
   all_goals first
    | (
      have HC:Hid ((!(BP (s[k].toNat:Int) == 0))=true):=by
       show _=true;rw [Ff];simp;omega
      go_wp2
      go_round
      case rel=>exact ⟨k+1,by omega,by go_num,EU s k ja HT.out HC.out⟩
      case measure=>simp [intOf];omega)
    | (
      have HC:Hid ((!(BP (s[k].toNat:Int) == 0))=false):=by
       show _=false;rw [Ff];simp;omega
      go_wp2;go_ret;exact ⟨Au (DS s k ja HC.out).symm,rfl⟩)
  ·have HA:=A6 (ET s k ja);go_wp2;go_ret;exact ⟨Au (by rw [DO,← HA.out];exact HT.out.symm),rfl⟩
theorem Ps (m:Int) (r:Rl):Da m r=(inB r.frm 0 (m - 1) && (inB r.dst 0 (m - 1) && (decide ((r.inp.size:Int)≤4) && (FZ r.inp && (decide ((r.out.size:Int)≤4) && (DO r.out && inB r.cost 0 1000)))))):=by
 unfold Da inB;rw [show decide (r.frm≤m - 1)=decide (r.frm<m) from by rw [decide_eq_decide];omega,show decide (r.dst≤m - 1)=decide (r.dst<m) from by rw [decide_eq_decide];omega];simp only [Bool.and_assoc]
theorem LB (r q:Rl):Ek r q=Ek q r:=by
 unfold Ek;rw [show decide (r.frm=q.frm)=decide (q.frm=r.frm) from by rw [decide_eq_decide];exact eq_comm,show decide (r.dst=q.dst)=decide (q.dst=r.dst) from by rw [decide_eq_decide];exact eq_comm,
  show decide (r.inp.toList=q.inp.toList)=decide (q.inp.toList=r.inp.toList) from by rw [decide_eq_decide];exact eq_comm,show decide (r.out.toList=q.out.toList)=decide (q.out.toList=r.out.toList) from by rw [decide_eq_decide];exact eq_comm,
  show decide (r.cost=q.cost)=decide (q.cost=r.cost) from by rw [decide_eq_decide];exact eq_comm]
theorem rright_any (S:Sch) (a:Option Addr) (cap i:Nat) (w:World) (hR:BL w a S.rules) (hl:S.rules.length≤9223372036854775807) (hi:i<S.rules.length) (hm:1≤S.modes) (hm2:S.modes≤8) :
  Calls Tryz.prog 53 #[.agg #[.int .i64 S.modes,.int .u8 S.acc,.slice a S.rules.length cap],.int .i64 (i:Int)] w fun e w'=>e=.returned (.bool (Cw S S.rules[i] (S.rules.take i)))∧Below w.heap.size w w':=by
 have HR:=A6 hR;clear hR;obtain ⟨b,o,ha,hbw,p0,p1,p2,p3,p4⟩:=HR.out.at hi;have jb:=Bp a b o S.rules.length cap i ha hi;have HA:=A6 ha;clear ha;generalize hr:S.rules[i]=r at *;have HRI:=A6 hr;clear hr
 go_enter Tryz.func53,Tryz.ntmps53
 go_wp2
 go_loopg [6] i (fun g j wr=>∃ k:Nat,k≤i∧g=i - k∧j=.int .i64 k∧(S.rules.take k).any (Ek r)=false∧Below (w.heap.size+2) ((w.alloc (.cells #[.int .i64 S.modes,.int .u8 S.acc,.slice a S.rules.length cap] 32)).alloc (.cells #[.int .i64 r.frm,.int .i64 r.dst,.string r.inp,.string r.out,.int .i64 r.cost] 64)) wr)
 case atStart=>exact ⟨0,Nat.zero_le _,rfl,rfl,rfl,Below.refl _ _⟩
 case round =>
  obtain ⟨k,hk,rfl,rfl,jf,je⟩:=hrel;have HN:=A6 jf;clear jf;have hB:Below w.heap.size w wr:=(((Below.refl _ _).alloc (A7 _) _).alloc (by simp) _).trans (je.mono (by omega));obtain ⟨hz,hc,hf⟩:=BE je rfl;by_cases jg:k<i
  ·have ja:k<S.rules.length:=by omega
   obtain ⟨b',o',jc,hb',q0,q1,q2,q3,q4⟩:=HR.out.at ja;have hidx:=Bp a b' o' S.rules.length cap k jc ja;have HA':=A6 jc;clear jc jb;have hcmp:=Kt S.rules[k] r;by_cases hq:Ek r S.rules[k]=true
   ·have jh:Ek S.rules[k] r=true:=by rw [LB];exact hq
    have HQ:Hid (Cw S r (S.rules.take i)=false):=by
     have:=Qs (R:=S.rules.take i) (p:=Ek r) (k:=k) (by rw [AV];omega) (by rw [List.getElem_take];exact hq);show _=false;simp [Cw,this]
    clear hq;go_wp2
    go_region
    go_wp2;go_ret;exact ⟨Au HQ.out.symm,by go_grown⟩
   ·have jd:Ek r S.rules[k]=false:=by simpa using hq
    have jh:Ek S.rules[k] r=false:=by rw [LB];exact jd
    have HQ:=A6 jd;clear hq jd;go_wp2
    go_region
    go_wp2
    go_roundg (i - (k+1))
    case rel=>exact ⟨k+1,by omega,rfl,by go_num,MS ja HN.out HQ.out,by go_grown⟩
    case measure=>omega
  ·obtain rfl:k=i:=by omega
   clear jg;have HG:Hid (Cw S r (S.rules.take k)=Da S.modes r):=by show _=_;simp [Cw,HN.out]
   have HI:=A6 (Ps S.modes r)
   go_wp2_with (first
    | (go_at_call 80;refine (Fe _ _ _ _).mono ?_;rintro e w' ⟨rfl,rfl⟩)
    | (go_at_call 81;refine (small_any _ _ (by omega)).mono ?_;rintro e w' ⟨rfl,rfl⟩)
    | (go_at_call 82;refine (plain_any _ _ (by omega)).mono ?_;rintro e w' ⟨rfl,rfl⟩))
   all_goals go_ret
   all_goals exact ⟨Au (by rw [HG.out,HI.out];first | (simp [*];done) | (simp [*];omega)),by go_grown⟩
theorem rcheck_any (S:Sch) (a:Option Addr) (cap:Nat) (w:World) (hR:BL w a S.rules) (h0:0≤S.acc) (h1:S.acc≤255) (hl:S.rules.length≤9223372036854775807) :
  Calls Tryz.prog 83 #[.agg #[.int .i64 S.modes,.int .u8 S.acc,.slice a S.rules.length cap]] w (Kv S w):=by
 by_cases hm:¬ (1≤S.modes∧S.modes≤8)
 ·have H:=A6 (Cx (S:=S) (Du (by unfold CR;simp only [Bool.and_eq_false_iff,decide_eq_false_iff_not];omega)));have g1:inB S.modes 1 8=false:=Gj hm;clear hm
  go_enter Tryz.func83,Tryz.ntmps83
  go_wp2_with fail
  go_quiet ((go_at_call 80;exact Calls.quiet_of_same (Fe _ _ _ _)))
  go_wp2
  go_ret2
  exact ⟨-1,by rw [H.out];rfl,((Below.refl _ _).alloc (A7 _) _).trans (below_drewN _ _)⟩
 have jk:1≤S.modes∧S.modes≤8:=by omega
 clear hm;obtain ⟨hm,je⟩:=jk;have g1:inB S.modes 1 8=true:=Hj hm je;obtain ⟨p2,ja⟩:∃ p,(2:Int) ^ S.modes.toNat=p:=⟨_,rfl⟩
 have hp0:0≤p2∧p2≤256:=by
  rw [← ja];exact Ow _ (by omega)
 have hw:wrap64 (2 ^ S.modes.toNat)=p2:=by rw [ja];exact IntWalk.wrap64_in _ (by omega)
 have jm:IntKind.i64.wrap (2 ^ S.modes.toNat)=p2:=by rw [ja];exact IntWalk.i64_in _ (by omega)
 have hs:wrap64 (p2 - 1)=p2 - 1:=IntWalk.wrap64_in _ (by omega);have jl:IntKind.i64.wrap (p2 - 1)=p2 - 1:=IntWalk.i64_in _ (by omega);by_cases hp:¬ (1≤S.acc∧S.acc≤p2 - 1)
 ·have H:=A6 (Cx (S:=S) (Du (by unfold CR;rw [ja];simp only [Bool.and_eq_false_iff,decide_eq_false_iff_not];omega)));have g2:inB S.acc 1 (p2 - 1)=false:=Gj hp;have jf:=A6 ja;clear ja hp
  go_enter Tryz.func83,Tryz.ntmps83
  go_wp2_with fail
  go_quiet ((go_at_call 80;exact Calls.quiet_of_same (Fe _ _ _ _)))
  go_wp2
  go_ret2
  exact ⟨-1,by rw [H.out];rfl,((Below.refl _ _).alloc (A7 _) _).trans (below_drewN _ _)⟩
 have jc:1≤S.acc∧S.acc≤p2 - 1:=by omega
 have g2:inB S.acc 1 (p2 - 1)=true:=Hj jc.1 jc.2;by_cases hl64:64<S.rules.length
 ·have H:=A6 (Cx (S:=S) (Du (by unfold CR;rw [ja];simp only [Bool.and_eq_false_iff,decide_eq_false_iff_not];omega)));have hd:decide (64<(S.rules.length:Int))=true:=by simp;omega
  have jf:=A6 ja;clear ja hp jc
  go_enter Tryz.func83,Tryz.ntmps83
  go_wp2_with fail
  go_quiet ((go_at_call 80;exact Calls.quiet_of_same (Fe _ _ _ _)))
  go_wp2
  go_ret2
  exact ⟨-1,by rw [H.out];rfl,((Below.refl _ _).alloc (A7 _) _).trans (below_drewN _ _)⟩
 have hd:decide (64<(S.rules.length:Int))=false:=by simp;omega
 have HH:Hid (CR S=true):=by show _=true;unfold CR;rw [ja];simp only [Bool.and_eq_true,decide_eq_true_eq];omega
 have jf:=A6 ja;clear ja hp jc;have HR:=A6 hR;clear hR
 go_enter Tryz.func83,Tryz.ntmps83
 go_wp2_with fail
 go_quiet ((go_at_call 80;exact Calls.quiet_of_same (Fe _ _ _ _)))
 go_wp2;clear hw jm hs jl g1 g2
 go_loopg [4] S.rules.length (fun g i wr=>∃ k:Nat,k≤S.rules.length∧g=S.rules.length - k∧i=.int .i64 k∧FB S k∧Below (w.heap.size+1) (w.alloc (.cells #[.int .i64 S.modes,.int .u8 S.acc,.slice a S.rules.length cap] 32)) wr)
 case atStart=>exact ⟨0,Nat.zero_le _,rfl,rfl,fun i _ h=>by omega,(below_drewN _ _)⟩
 case round =>
  obtain ⟨k,hk,rfl,rfl,hv,jd⟩:=hrel;have HV:=A6 hv;clear hv;have hB:Below w.heap.size w wr:=((Below.refl _ _).alloc (A7 _) _).trans (jd.mono (by omega));obtain ⟨hz,hc,hf⟩:=BE jd rfl;by_cases jb:k<S.rules.length
  ·have jg:Hid (BL wr a S.rules):=HR.out.later hB (A7 _);by_cases hg:Cw S S.rules[k] (S.rules.take k)=true
   ·have HB:Hid (FB S (k+1)):=Hf jb HV.out hg
    go_wp2_with (go_at_call 53;refine (rright_any S a cap k _ jg.out hl jb hm je).mono ?_;rintro e w1 ⟨rfl,hb⟩;obtain ⟨jn,jh,ji⟩:=BB hb rfl;have hB:=Ap (B:=w.heap.size) (w:=w) (by go_grown) hb (A7 _))
    go_roundg (S.rules.length - (k+1))
    case rel=>exact ⟨k+1,by omega,rfl,by go_num,HB.out,jd.trans ((by assumption:Below wr.heap.size wr w1).mono (by simp at hz;omega))⟩
    case measure=>omega
   ·have jj:Cw S S.rules[k] (S.rules.take k)=false:=by simpa using hg
    have HB:Hid (He S=20):=Cx (Nr jb jj);clear hg
    go_wp2_with (go_at_call 53;refine (rright_any S a cap k _ jg.out hl jb hm je).mono ?_;rintro e w1 ⟨rfl,hb⟩;obtain ⟨jn,jh,ji⟩:=BB hb rfl;have hB:=Ap (B:=w.heap.size) (w:=w) (by go_grown) hb (A7 _))
    go_ret2
    exact ⟨k,by rw [HB.out];rfl,by go_grown⟩
  ·obtain rfl:k=S.rules.length:=by omega
   have HB:Hid (He S=0):=Kw ⟨HH.out,HV.out⟩;go_wp2
   go_ret2
   exact ⟨_,by rw [HB.out];rfl,hB⟩
theorem Cg (S:Sch) (a:Option Addr) (cap:Nat) (w:World) (hR:BL w a S.rules) (h0:0≤S.acc) (h1:S.acc≤255) (hl:S.rules.length≤9223372036854775807) :
  Calls Tryz.prog 54 #[.agg #[.int .i64 S.modes,.int .u8 S.acc,.slice a S.rules.length cap]] w fun e w'=>e=.returned (.bool (validB S))∧Below w.heap.size w w':=by
 have HR:Hid (BL (w.alloc (.cells #[.int .i64 S.modes,.int .u8 S.acc,.slice a S.rules.length cap] 32)) a S.rules):=hR.later ((Below.refl _ _).alloc (A7 _) _) (A7 _);have HE:Hid ((He S == 0)=validB S):=by show _=_;unfold He;cases validB S <;> rfl
 clear hR
 go_enter Tryz.func54,Tryz.ntmps54
 go_wp2_with (go_at_call 83;refine (rcheck_any S a cap _ HR.out h0 h1 hl).mono ?_;rintro e w1 ⟨i,rfl,hb⟩;have hB:=Ap (B:=w.heap.size) (w:=w) (by go_grown) hb (A7 _);clear hb)
 go_ret;exact ⟨Au HE.out,hB⟩
def Rl.cells (r:Rl):List Value:=[.int .i64 r.frm,.int .i64 r.dst,.string r.inp,.string r.out,.int .i64 r.cost]
def Bb (R:List Rl):List Value:=R.flatMap Rl.cells
theorem CK (R:List Rl):(Bb R).length=R.length*5:=by
 induction R with
 | nil=>rfl
 | cons r R ih=>rw [Bb,List.flatMap_cons,AF];have:(R.flatMap Rl.cells).length=R.length*5:=ih;rw [this];simp [Rl.cells];omega
theorem Gr:∀ {R:List Rl} {i j:Nat} (hi:i<R.length) (hj:j<5),(Bb R)[i*5+j]? = R[i].cells[j]?
 | r :: R,0,j,_,hj=>by
  rw [Bb,List.flatMap_cons,Nat.zero_mul,Nat.zero_add,AQ (by simp [Rl.cells];omega)];rfl
 | r :: R,i+1,j,hi,hj=>by
  rw [Bb,List.flatMap_cons,AR (by simp [Rl.cells];omega)];have:(i+1)*5+j - r.cells.length=i*5+j:=by simp [Rl.cells];omega
  rw [this];exact Gr (R:=R) (by simpa using hi) hj
def DA (w:World) (B:Nat) (v:Value) (R:List Rl):Prop:=w.ownsRow B 64 5 v R.length (Bb R)
theorem DA.rules {w:World} {B:Nat} {v:Value} {R:List Rl} (h:DA w B v R):∃ a c,v=.slice a R.length c∧BL w a R∧R.length≤c:=by
 rcases id h.2 with ⟨rfl,h0⟩ | ⟨g,cap,cur,rfl,h1,h2,h3,h4⟩
 ·obtain rfl:R=[]:=List.eq_nil_of_length_eq_zero h0;exact ⟨none,0,rfl,.inl rfl,A7 _⟩
 ·refine ⟨some ⟨g,0,none⟩,cap,rfl,.inr ⟨g,0,rfl,(A9.1 h2).1,fun i hi=>?_⟩,h3⟩;have hc:∀ j,j<5→w.cell? ⟨g,0+i*5+j,none⟩=R[i].cells[j]?:=fun j hj=>by
   have hg:=Gr (R:=R) hi hj;cases hq:R[i].cells[j]? with
   | none=>simp [Rl.cells] at hq;omega
   | some u =>
    rw [hq] at hg;have:=World.ownsRow.cells (g:=g) h rfl (i*5+j) u hg;rw [Addr.add_lit] at this;rw [Nat.zero_add] at this ⊢;exact this
  exact ⟨hc 0 (by omega),hc 1 (by omega),hc 2 (by omega),hc 3 (by omega),hc 4 (by omega)⟩
theorem DA.below {w w1:World} {B C:Nat} {v:Value} {R:List Rl} (h:DA w B v R) (hb:Below C w w1) (hv:∀ g,v.ownBlock=some g→g<C):DA w1 B v R:=by
 refine ⟨h.1,h.2.imp id ?_⟩;rintro ⟨g,cap,cur,rfl,h1,h2,h3⟩;exact ⟨g,cap,cur,rfl,h1,(hb.block g (hv g rfl)).trans h2,h3⟩
theorem DA.ge {w:World} {B:Nat} {v:Value} {R:List Rl} (h:DA w B v R):∀ g,v.ownBlock=some g→B≤g:=by
 intro g hg;rcases h.2 with ⟨rfl,_⟩ | ⟨g',cap,cur,rfl,h1,h2,h3⟩
 · cases hg
 · cases hg;exact h1
theorem DA.lt {w:World} {B:Nat} {v:Value} {R:List Rl} (h:DA w B v R):∀ g,v.ownBlock=some g→g<w.heap.size:=by
 intro g hg;rcases h.2 with ⟨rfl,_⟩ | ⟨g',cap,cur,rfl,h1,h2,h3⟩
 · cases hg
 · cases hg;exact (A9.1 h2).1
theorem DA.drop {w:World} {B:Nat} {a:Option Addr} {n c:Nat} {R:List Rl} {r:Rl} (h:DA w B (.slice a n c) (R ++ [r])):DA w B (.slice a R.length c) R:=by
 refine ⟨by rw [CK],.inr ?_⟩;rcases h.2 with ⟨he,h0⟩ | ⟨g,cap,cur,he,h1,h2,h3,h4,h5,h6⟩
 · simp at h0
 ·injection he with e1 e2 e3;subst e1 e3;refine ⟨g,c,cur,rfl,h1,h2,by simp at h3;omega,h4,h5,?_⟩;have:Bb (R ++ [r])=Bb R ++ r.cells:=by simp [Bb]
  rw [this] at h6;have h7:=congrArg (List.take (R.length*5)) h6;have e7:List.take (R.length*5) (Bb R)=Bb R:=AM (by rw [CK];omega);rw [List.take_take,List.take_append_of_le_length (by rw [CK];omega),e7,show min (R.length*5) ((R ++ [r]).length*5)=R.length*5 by rw [AF];omega] at h7;exact h7
def IT (v0:Value) (r:Rl) (v:Value) (W:World):Prop:=∃ g,v=.slice (some ⟨g,0,none⟩) 1 1∧W.heap[g]? = some (.cells #[.int .i64 r.frm,.int .i64 r.dst,.string r.inp,.string r.out,.int .i64 r.cost] 64 (0,0))∧v0.ownBlock≠some g
theorem Lt (v0:Value) (r:Rl):CQ (IT v0 r):=by
 rintro v w w' ⟨g,hv,hg,ja⟩ hx;exact ⟨g,hv,(Below.block hx g (A9.1 hg).1).trans hg,ja⟩
theorem Lu (v0:Value) (r:Rl):∀ v w w',IT v0 r v w→World.grownBy w w' v0.ownBlock→IT v0 r v w':=by
 rintro v w w' ⟨g,hv,hg,ja⟩ hx;exact ⟨g,hv,(hx.block g (A9.1 hg).1 (fun e=>ja e.symm)).trans hg,ja⟩
theorem Iv:(Tryz.prog.info? 64).map (fun i=>(i.zero,i.size,i.bytes))=some (some (.agg #[.int .i64 0,.int .i64 0,.string ⟨#[]⟩,.string ⟨#[]⟩,.int .i64 0]),5,56):=by kernel_rfl
section
variable {w M0:World} {g ga:Nat} {T6 T4:Array Value} {mo ac:Int} {v:Value} {R:List Rl} {wr w1:World}
end
section
variable {w M0:World} {g ga:Nat} {T6 T4:Array Value} {mo ac:Int} {v:Value} {R:List Rl} {wr w1:World}
theorem DA.set {g i:Nat} {u:Value} {B:Nat} (h:DA wr B v R) (hg:g<B):DA (wr.setCell ⟨g,i,none⟩ u) B v R:=by
 refine ⟨h.1,h.2.imp id ?_⟩;rintro ⟨b,cap,cur,rfl,h1,h2,h3⟩;refine ⟨b,cap,cur,rfl,h1,?_,h3⟩;rw [Below.heap_setCell _ _ _ _ (by show b≠g;omega)];exact h2
end
section
variable {w M0:World} {g ga:Nat} {T6 T4:Array Value} {mo ac:Int} {v v':Value} {R':List Rl} {wr w1:World} {row:Option Nat}
end
theorem GZ {W:World} {g:Nat} {r:Rl} {t:TypeId} (h:W.heap[g]? = some (.cells #[.int .i64 r.frm,.int .i64 r.dst,.string r.inp,.string r.out,.int .i64 r.cost] t (0,0))):∀ j u,r.cells[j]? = some u→W.cell? ((⟨g,0,none⟩:Addr).add j)=some u:=by
 intro j u hj;have hc:=cell_of_row W g j _ _ (0,0) h;have e:(⟨g,0,none⟩:Addr).add j=⟨g,j,none⟩:=by rw [Addr.add_lit,Nat.zero_add]
 rw [e,hc];simpa [Rl.cells] using hj
theorem U1 (r:Rl):∀ u∈r.cells,u.oneCell'=true:=by
 intro u hu;simp only [Rl.cells,Aj,List.not_mem_nil,or_false] at hu;rcases hu with rfl | rfl | rfl | rfl | rfl <;> rfl
theorem OH {A:Act} {W:World} {o:Oper} {s x:Operand} {B:Nat} {v u:Value} {R:List Rl} {r:Rl}
  (ho:o.op=.call { callee:=.builtin .append,args:=#[s,x],argTypes:=#[30,30] }) (hs:A.eval s=v) (ja:DA W B v R) (hx:A.eval x=u) (hu:IT v r u W) (hl:R.length<1000) (hB:B≤W.heap.size) :
  FP Tryz.prog A o W (fun v' w'=>DA w' B v' (R ++ [r])∧W.grownBy w' v.ownBlock):=by
 obtain ⟨i0,hi,jb,jc,jd⟩:=info_parts Iv;obtain ⟨g,hv,hg,hne⟩:=hu;obtain ⟨v',w',hr,h1,h2,h3⟩:=run_append_own (P:=Tryz.prog) (w:=W) B 30 o.type 64 i0 _ 5 56 Tryz.underlying30 hi jb jc jd rfl (by decide) v R.length (Bb R) ja ⟨g,0,none⟩ 1 1 r.cells rfl (GZ hg) (U1 r) (by unfold maxLen;omega) (by omega) hB;refine .inl ⟨v',w',?_,?_,h2⟩
 ·unfold execOp;simp only [ho,resolve,invoke,builtin,Sem.run_bind,Sem.run_pure,Result.andThen_ok,List.map_toArray,List.map_cons,List.map_nil,hs,hx,hv,hr]
 ·have e:Bb R ++ r.cells=Bb (R ++ [r]):=by simp [Bb]
  have e2:(R ++ [r]).length=R.length+1:=by simp
  unfold DA;rw [e2,← e];exact h1
theorem DA.ruls {w:World} {B:Nat} {b:Option Addr} {n c:Nat} {R:List Rl} (h:DA w B (.slice b n c) R):BL w b R∧n=R.length∧R.length≤c:=by
 obtain ⟨a,c',he,h1,h2⟩:=h.rules;injection he with e1 e2 e3;subst e1 e3;exact ⟨h1,e2,h2⟩
theorem DA.mono {w:World} {B C:Nat} {v:Value} {R:List Rl} (h:DA w B v R) (hC:C≤B):DA w C v R :=
 ⟨h.1,h.2.imp id fun ⟨g,cap,cur,hv,hg,h2⟩=>⟨g,cap,cur,hv,AC hC hg,h2⟩⟩
theorem Jm {P:Program} {ops:Array Oper} {Q:Exit→Act→World→Prop} {L:Nat} {K:Act→World→Prop} {o:Oper} {A:Act} {W:World} {ty t:TypeId} {p v:Operand} {g:Nat} {x' y' z':Value} {n m:Int} {a:Option Addr} {k c:Nat}
  (ho:ops[L]? = some o) (hg:o.guard=none) (ja:o.op=.store ty p v) (hd:o.dst=none) (hp:A.eval p=.pointer (some ⟨g,0,none⟩)) (hv:A.eval v=.agg #[.int .i64 n,.int .u8 m,.slice a k c]) (hr:W.heap[g]? = some (.cells #[x',y',z'] t (0,0))) (jb:(sizeOf ty).run P W=.ok 3 W)
  (hK:K A (((W.setCell ⟨g,0,none⟩ (.int .i64 n)).setCell ⟨g,1,none⟩ (.int .u8 m)).setCell ⟨g,2,none⟩ (.slice a k c))):wpOp P ops Q L K A W:=by
 unfold wpOp;rw [ho];have hw:Region.wanted o (yielded ops A.tmps)=true:=by unfold Region.wanted;rw [hg]
 simp only [hw,if_pos];refine .inl ?_;unfold Oper.wp execOp;obtain ⟨c0,c1,c2⟩:=cells3 hr;have hf:∀ i,W.frozen? ⟨g,i,none⟩=false:=fun i=>by simp [World.frozen?,hr]
 simp only [ja,hp,hv];simp [go_sem,hf,c0,c1,c2,jb];rw [hd];exact hK
structure TX0 (wl:World) (B0 gt:Nat) (mo ac:Int) (v:Value) (wr:World):Prop where
 bl:Below B0 wl wr
 rep:wr.heap[gt]? = some (.cells #[.int .i64 mo,.int .u8 ac,v] 32 (0,0))
 ge:B0≤gt
structure TX (wl:World) (B0 gt:Nat) (mo ac:Int) (v:Value) (T:List Rl) (wr:World):Prop extends TX0 wl B0 gt mo ac v wr where
 own:DA wr B0 v T
section
variable {wl:World} {B0 gt:Nat} {mo ac:Int} {v v':Value} {T T':List Rl} {wr w1:World} {row:Option Nat}
theorem TX0.gs (h:TX0 wl B0 gt mo ac v wr):gt<wr.heap.size:=(A9.1 h.rep).1
theorem TX0.below (h:TX0 wl B0 gt mo ac v wr) (hb:Below wr.heap.size wr w1):TX0 wl B0 gt mo ac v w1 :=
 ⟨h.bl.trans (hb.mono (AC h.ge (Nat.le_of_lt h.gs))),(hb.block gt h.gs).trans h.rep,h.ge⟩
theorem TX.below (h:TX wl B0 gt mo ac v T wr) (hb:Below wr.heap.size wr w1):TX wl B0 gt mo ac v T w1:=⟨h.toTX0.below hb,h.own.below hb h.own.lt⟩
theorem TX0.cells (h:TX0 wl B0 gt mo ac v wr):wr.cell? ⟨gt,0,none⟩=some (.int .i64 mo)∧wr.cell? ⟨gt,1,none⟩=some (.int .u8 ac)∧wr.cell? ⟨gt,2,none⟩=some v:=cells3 h.rep
theorem TX0.free (h:TX0 wl B0 gt mo ac v wr) (i:Nat):wr.frozen? ⟨gt,i,none⟩=false:=by simp [World.frozen?,h.rep]
theorem DA.ne_of {B:Nat} {cs:Array Value} (h:DA wr B v T) (hr:wr.heap[gt]? = some (.cells cs 32 (0,0))):∀ q,v.ownBlock=some q→q≠gt:=by
 intro q hq e;subst e;rcases h.2 with ⟨rfl,_⟩ | ⟨g',cap,cur,rfl,h1,h2,h3⟩
 · cases hq
 ·cases hq;rw [hr] at h2;injection h2 with h2;injection h2 with _ h2 _;exact absurd h2 (by decide)
theorem TX0.grown (h:TX0 wl B0 gt mo ac v wr) (hg:wr.grownBy w1 row) (hr:∀ k,row=some k→B0≤k) (hn:∀ k,row=some k→k≠gt):TX0 wl B0 gt mo ac v w1 :=
 ⟨h.bl.grown hg (AC h.ge (Nat.le_of_lt h.gs)) hr,(hg.block gt h.gs (fun e=>hn gt e.symm rfl)).trans h.rep,h.ge⟩
theorem TX0.put (h:TX0 wl B0 gt mo ac v wr) (ho:DA wr B0 v' T'):TX wl B0 gt mo ac v' T' (wr.setCell ⟨gt,2,none⟩ v'):=by
 refine ⟨⟨h.bl.setCell h.ge _,B7 h.rep rfl,h.ge⟩,?_⟩;have ja:=ho.ne_of h.rep;refine ⟨ho.1,ho.2.imp id ?_⟩;rintro ⟨b,cap,cur,rfl,h1,h2,h3⟩;refine ⟨b,cap,cur,rfl,h1,?_,h3⟩;rw [Below.heap_setCell _ _ _ _ (ja b rfl)];exact h2
end
end Go.Proofs.YthjmdgejnakcmaaGreatDoor.Fl
