/- Texts that the claims share: K33, KV, KP, KL0. -/
import Derived.Test.YthjmdgejnakcmaaGreatDoorMK1
import Derived.Test.YthjmdgejnakcmaaGreatDoorMK7
import Derived.Test.YthjmdgejnakcmaaGreatDoorMF5
import Derived.Test.YthjmdgejnakcmaaGreatDoorMD6
set_option linter.unusedVariables false
set_option linter.unusedSimpArgs false
namespace Go.Proofs.YthjmdgejnakcmaaGreatDoor
open Go.RowKit Go.WideShapes Fl
theorem FN {α:Type} {T:CH α} (hT:T.Ok) {w:World} {B g n:Nat} {cs:Array Value} {L:List α} (h:w.heap[g]? = some (.cells cs T.e (0,0))) (hcs:cs.toList=L.flatMap T.enc) (hB:B≤g) (hn:n=L.length) (hl:n≤1000000):Ab T w B (.slice (some ⟨g,0,none⟩) n n) L:=by
 subst hn
 have hlen:=EN hT L
 have hsz:cs.size=L.length*T.k:=by rw [← Array.length_toList,hcs,hlen]
 refine ⟨hlen,.inr ⟨g,L.length,cs,rfl,hB,h,A3 _,by unfold maxLen;omega,hsz,?_⟩⟩
 rw [hcs,AF (by rw [hlen];exact A3 _)]
def FO:List Rl:=[⟨0,0,⟨#[97]⟩,⟨#[97]⟩,0⟩,⟨0,0,⟨#[98,97]⟩,⟨#[66]⟩,0⟩]
def T7:Sch:=⟨1,1,FO⟩
def GS:List ByteArray:=[⟨#[66]⟩,⟨#[97]⟩,⟨#[97,97]⟩]
def H9:Slt:=[⟨97,0⟩,⟨98,5⟩]
theorem Ti:Fl.validB T7=true:=Fl.valid_of (by decide +kernel)
theorem SG:CP GS:=Rn (by decide) (by decide) (by decide)
theorem Fg:∀ r∈FO,1≤r.inp.size:=by decide
theorem Tj:Ja FO 1 (CJ ⟨#[98,97]⟩) (GS.map bts) 2=[(0,0)]:=by decide +kernel
theorem Tk:Ja FO 1 [H9,H9] (GS.map bts) 2=[(0,5),(2,0)]:=by decide +kernel
theorem TP:Ja FO 1 (CJ ⟨#[97,97,98]⟩) (GS.map bts) 0=[]:=by decide +kernel
theorem TQ:Ja FO 1 (CJ ⟨#[97,97,98]⟩) (GS.map bts) 1=[(1,0)]:=by decide +kernel
theorem TR:Ja FO 1 (CJ ⟨#[97,97,98]⟩) (GS.map bts) 2=[(2,0)]:=by decide +kernel
theorem TS:Ja FO 1 (CJ ⟨#[97,97,98]⟩) (GS.map bts) 3=[]:=by decide +kernel
theorem TT:validB []=true:=by decide
theorem TU:validB [H9]=true:=by decide
theorem TW:validB [[]]=false:=by decide
theorem TY:validB [[⟨98,0⟩,⟨97,0⟩]]=false:=by decide
theorem TZ:validB (List.replicate 41 [])=false:=by decide
theorem O2 {w:World} {g n:Nat} {cs:Array Value} {Ls:List SV} {L:List Slt} (h:w.heap[g]? = some (.cells cs 53 (0,0))) (hcs:cs.toList=Ls.flatMap BH.enc) (hn:n=Ls.length) (hl:n≤1000000) (hlen:Ls.length=L.length)
  (hel:∀ (k:Nat) (x:SV) (s:Slt),Ls[k]? = some x→L[k]? = some s→Ab Cx w 0 (svS x) s):Eu w 0 (.slice (some ⟨g,0,none⟩) n n) L :=
 ⟨Ls,FN C5 h hcs (Nat.zero_le _) hn hl,hlen,hel⟩
theorem R5:Bq 300 [H9,H9]:=by unfold Bq;decide
theorem R6:Hw [H9,H9]:=by unfold Hw;decide
theorem Ha (w:World) (D E:List (Nat × Nat)) (a:Option Addr) (c n:Nat) (hD:Ey w a D) (hn:n=E.length) (cs:Array Value) (hcs:cs.toList=E.flatMap BZ.enc) (h1:D.length≤100) (h2:E.length≤100) :
  Calls Tryz.prog 20 #[.slice a D.length c,.slice (some ⟨w.heap.size,0,none⟩) n n] (w.alloc (.cells cs 59)) fun e w'=>e=.returned (.bool (decide (D=E)))∧Below w.heap.size w w':=by
 subst hn
 have hx:Ext w (w.alloc (.cells cs 59)):=(Below.refl _ _).alloc (A3 _) _
 refine (fsame_any D E a (some ⟨w.heap.size,0,none⟩) c E.length (w.alloc (.cells cs 59)) (hD.kp (Kc.of hx (A3 _))) (FN ET (B:=0) (heap_alloc_new _ _) hcs (Nat.zero_le _) rfl (by omega)).fnds.1 (by omega) (by omega)).mono ?_
 rintro e w' ⟨rfl,hb⟩
 exact ⟨rfl,Ext.trans hx hb⟩
theorem NR {w:World} {x:SV} {s:Slt} (h:Ab Cx w 0 (svS x) s):∀ (k:Nat) (y:SV) (t:Slt),[x][k]? = some y→[s][k]? = some t→Ab Cx w 0 (svS y) t:=fun k y t h1 h2=>by
 rcases k with _ | k
 · cases h1;cases h2;exact h
 · simp at h1
theorem LA (w:World) (g n:Nat) (Ls:List SV) (L:List Slt) (hg:w.heap.size=g) (hn:n=Ls.length) (hlen:Ls.length=L.length) (cs:Array Value) (hcs:cs.toList=Ls.flatMap BH.enc) (hl:n≤1000)
  (hel:∀ (k:Nat) (x:SV) (s:Slt),Ls[k]? = some x→L[k]? = some s→Ab Cx w 0 (svS x) s) :
  Calls Tryz.prog 26 #[.slice (some ⟨g,0,none⟩) n n] (w.alloc (.cells cs 53)) fun e w'=>e=.returned (.bool (validB L))∧Below w.heap.size w w':=by
 subst hg
 have hx:Ext w (w.alloc (.cells cs 53)):=(Below.refl _ _).alloc (A3 _) _
 obtain ⟨h1,h2,h3⟩:=(O2 (heap_alloc_new w (.cells cs 53)) hcs hn (by omega) hlen fun k x s h1 h2=>(hel k x s h1 h2).later hx (A3 _)).slotS
 rw [h2]
 refine (GR L (some ⟨w.heap.size,0,none⟩) L.length _ h1 (by omega)).mono ?_
 rintro e w' ⟨rfl,hb⟩
 exact ⟨rfl,Ext.trans hx hb⟩
theorem PF (w:World) (n:Nat) (hn:n≤1000000):∃ w',(Instr.makeSlice 39 (.int .i64 (n:Int)) (.int .i64 (n:Int))).run Tryz.prog w=.ok (.slice (some ⟨w.heap.size,0,none⟩) n n) w'∧Ab BH w' 0 (.slice (some ⟨w.heap.size,0,none⟩) n n) (List.replicate n ⟨none,0,0⟩)∧Ext w w':=by
 obtain ⟨i0,hi,hz0,hz1,hz2⟩:=info_parts C5.info
 have hb:i0.bytes*n≤64*1000000:=Nat.mul_le_mul (by rw [hz2];exact C5.b) hn
 obtain ⟨w',hrun,r1,r2⟩:=run_make_full (P:=Tryz.prog) w 0 BH.sl BH.e i0 BH.z BH.k C5.und hi hz0 hz1 .i64 .i64 n (by omega) (by unfold maxLen;omega) (Nat.zero_le _)
 refine ⟨w',hrun,?_,⟨r2.os,r2.tape,r2.output,r2.size,fun k hk=>r2.block k hk (by simp)⟩⟩
 unfold Ab
 rw [AT]
 have e:(madeCells BH.z.cells (n*BH.k)).toList=(List.replicate n (⟨none,0,0⟩:SV)).flatMap BH.enc:=by
  rw [FJ BH ⟨none,0,0⟩ rfl n]
  apply List.ext_getElem
  · simp [madeCells,BH]
  ·
   intro j h2 h3
   simp [madeCells,BH,Nat.mod_one,Value.cells]
 rw [← e]
 exact r1
set_option maxHeartbeats 6400000 in
set_option maxRecDepth 100000 in
theorem
    sanity_any (w:World) (hT:Tab w):Calls Tryz.prog 9 #[] w fun e w'=>e=.returned (.bool true)∧Below w.heap.size w w':=by
 have HT:=A0 hT;clear hT
 go_enter Tryz.func9,Tryz.ntmps9
 go_upto_region 2 with fail
 obtain ⟨w0,hw0⟩:∃ w0,w.alloc (.cells #[.int .i64 0,.int .i64 0,.string ⟨#[97]⟩,.string ⟨#[97]⟩,.int .i64 0,.int .i64 0,.int .i64 0,.string ⟨#[98,97]⟩,.string ⟨#[66]⟩,.int .i64 0] 64)=w0:=⟨_,rfl⟩
 rw [hw0]
 have hx0:Ext w w0:=by rw [← hw0];exact (Below.refl _ _).alloc (A3 _) _
 have hz0:w0.heap.size=w.heap.size+1:=by rw [← hw0,A6]
 have hro:Ab CE w0 0 (.slice (some ⟨w.heap.size,0,none⟩) 2 2) FO:=by rw [← hw0];exact FN Fc (heap_alloc_new _ _) rfl (Nat.zero_le _) rfl (by decide)
 obtain ⟨w1,hw1⟩:∃ w1,w0.alloc (.cells #[.int .i64 1,.int .u8 1,.slice (some ⟨w.heap.size,0,none⟩) 2 2] 32)=w1:=⟨_,rfl⟩
 rw [hw1]
 have hx1:Ext w0 w1:=by rw [← hw1];exact (Below.refl _ _).alloc (A3 _) _
 have HSM:Hid (Hy w1 T7 (some ⟨w.heap.size,0,none⟩) 2):=Hy.of_valid Ti (by decide) (by decide) (by decide) (hro.ruls.1.later hx1 (A3 _))
 have HSC:Hid (w1.heap[w.heap.size+1]? = some (.cells #[.int .i64 1,.int .u8 1,.slice (some ⟨w.heap.size,0,none⟩) 2 2] 32 (0,0))):=by
  show _=_
  rw [← hw1,← hz0];exact heap_alloc_new _ _
 have HX1:Hid (Ext w w1):=Ext.trans hx0 hx1
 have HT1:=A0 (HT.out.later HX1.out)
 clear hw0 hw1 hx0 hx1 hro hz0
 obtain ⟨gs,hgs⟩:∃ gs,w.heap.size+1=gs:=⟨_,rfl⟩
 obtain ⟨aR,haR⟩:∃ aR,(some ⟨w.heap.size,0,none⟩:Option Addr)=aR:=⟨_,rfl⟩
 rw [haR] at HSM HSC ⊢
 rw [hgs] at HSC ⊢
 clear hgs haR HT
 go_wp2_with fail
 refine (Ro SG (QQ (heap_alloc_new w1 _) rfl) rfl (A3 _) (HT1.out.later ((Below.refl _ _).alloc (A3 _) _))).mono ?_
 rintro e w2 ⟨aD,nD,cD,rfl,haut,hb2⟩
 have hx2:Ext w1 w2:=Ext.trans ((Below.refl _ _).alloc (A3 _) _) hb2
 have hnd:=haut.small.2
 have hnd0:((nD:Int) == 0)=false:=by rw [beq_eq_false_iff_ne];omega
 have HAU:=A0 haut;have HX2:=A0 (Ext.trans HX1.out hx2)
 have HSM2:=A0 (HSM.out.go hx2)
 have HSC2:=A0 ((hx2.block _ (A5.1 HSC.out).1).trans HSC.out)
 clear hb2 hx2 haut HSM HSC HX1 HT1
 go_upto_region 6 with fail
 obtain ⟨w3,hw3⟩:∃ w3,w2.alloc (.cells #[.int .u8 97,.int .i64 0,.int .u8 98,.int .i64 5] 55)=w3:=⟨_,rfl⟩
 rw [hw3]
 have HX3:Hid (Ext w2 w3):=by show Ext _ _;rw [← hw3];exact (Below.refl _ _).alloc (A3 _) _
 have HSL:Hid (Ab Cx w3 0 (.slice (some ⟨w2.heap.size,0,none⟩) 2 2) H9):=by show Ab _ _ _ _ _;rw [← hw3];exact FN EU (heap_alloc_new _ _) rfl (Nat.zero_le _) rfl (by decide)
 have HSM3:=A0 (HSM2.out.go HX3.out)
 have HAU3:=A0 (HAU.out.go HX3.out)
 have HSC3:=A0 ((HX3.out.block _ (A5.1 HSC2.out).1).trans HSC2.out)
 obtain ⟨aL,haL⟩:∃ aL,(some ⟨w2.heap.size,0,none⟩:Option Addr)=aL:=⟨_,rfl⟩
 rw [haL] at HSL ⊢
 clear hw3 haL HSM2 HAU HSC2
 refine Am (by kernel_rfl) (Vs [vq (.agg #[.int .i64 1,.int .u8 1,.slice aR 2 2]),vq (.slice aD nD cD),PE ⟨#[98,97]⟩,FnS FO 1 (CJ ⟨#[98,97]⟩) (GS.map bts) 2,FnS FO 1 (CJ ⟨#[98,97]⟩) (GS.map bts) 2]) (Xs []) (fun fL=>(fun W=>Ext w3 W) ) [0,0,0,7,15] 116 5 (by kernel_rfl) rfl ?hV ?hS ?hop ?hfin ?hlast
 case hV =>
  refine Ay (Ac (by simp only [AU,List.not_mem_nil,or_false,forall_eq_or_imp,forall_eq];exact ⟨AY _,AY _,JV _,Hz _ _ _ _ _,Hz _ _ _ _ _⟩)) ?_
  exact trivial
 case hS =>
  intro fL hf
  show (fun W=>Ext w3 W)  _
  first | exact Ext.refl _ | exact Bl _
 case hop =>
  refine ⟨?_,?_,?c2,?c3,?c4,trivial⟩
  all_goals first | rw [if_neg (by decide)] | rw [if_pos (by decide)]
  all_goals try intro ac W fL hsz hfi hms hdn hS0 hdep hbase hund
  all_goals try have hS:(fun W=>Ext w3 W)  W:=hS0
  all_goals try (
   have hsc:=(Below.block hS gs (A5.1 HSC3.out).1).trans HSC3.out
   obtain ⟨d0,d1,d2⟩:=DM hsc
   clear hsc)
  all_goals try have hh1:=gdA ac 1 (.pointer (some ⟨gs,0,none⟩)) (hbase 1 (by kernel_rfl))
  all_goals try have hh2:=gdA ac 2 (.slice aD nD cD) (hbase 2 (by kernel_rfl))
  all_goals try have d30:(PE ⟨#[98,97]⟩) (ac.tmps.getD 30 undef) W:=hdep 2 (by decide)
  all_goals try have d31:(FnS FO 1 (CJ ⟨#[98,97]⟩) (GS.map bts) 2) (ac.tmps.getD 31 undef) W:=hdep 3 (by decide)
  all_goals try (have hdep:=DS hdep;simp [D1,Aa,vq] at hdep)
  all_goals try clear hbase hms hdn hund
  case c2 =>
   have hS1:(fun W=>Ext w3 W)  W:=hS0
   refine AZ rfl (.inr ⟨16,#[.string ⟨#[98,97]⟩],W,by (clear hsz hS hS0 hS1 hfi;simp [go_sem,Act.eval, *]),?_⟩)
   refine (GQ ⟨#[98,97]⟩ W (by decide)).mono ?_
   rintro e w' ⟨hp,hb⟩
   obtain ⟨v,rfl,hv⟩:=IW hp (by decide)
   exact ⟨_,rfl,⟨hv,hb,Ext.trans hS0 hb⟩⟩
  case c3 =>
   have hS1:(fun W=>Ext w3 W)  W:=hS0
   obtain ⟨at9,ct9,et9,ht9⟩:=d30
   rw [A4] at et9
   refine AZ rfl (.inr ⟨21,#[.agg #[.int .i64 1,.int .u8 1,.slice aR 2 2],.slice aD nD cD,.slice at9 (⟨#[98,97]⟩:ByteArray).size ct9],W,by (clear hsz hS hS0 hS1 hfi ht9;simp [go_sem,Act.eval, *]),?_⟩)
   have h9:=L9 (HSM3.out.go hS) (HAU3.out.go hS) (by decide) ht9
   rw [CB] at h9
   refine h9.mono ?_
   rintro e w' hp
   obtain ⟨v,rfl,hv,hb⟩:=NP hp
   exact ⟨_,rfl,⟨hv,hb,Ext.trans hS0 hb⟩⟩
  case c4 =>
   have hS1:(fun W=>Ext w3 W)  W:=hS0
   refine AZ rfl (.inl ⟨_,W,?_,d31,Ext.refl _,hS1⟩)
   clear hsz hS hS0 hS1 hfi;simp [go_sem,Act.eval, *]
  all_goals (refine AZ rfl (.inl ⟨_,W,?_,rfl,Ext.refl _,hS0⟩);clear hsz hS hS0 hfi;simp [go_sem,Act.eval, *];done)
 case hlast =>
  intro h;exact absurd rfl h
 case hfin =>
  intro _ ac W hsz hdf fL hf hS0 hv hbase
  have hS:(fun W=>Ext w3 W)  W:=hS0
  clear hS0
  obtain ⟨sx,hsx,hsA⟩:=Af [28,29,30,31,5] (by kernel_rfl) hsz hdf hbase
  have hp5:FnS FO 1 (CJ ⟨#[98,97]⟩) (GS.map bts) 2 (ac.tmps.getD 5 undef) W:=hv 4 (by decide)
  obtain ⟨a5,c5,l5,e5v,hf5,hk5,hc5⟩:=hp5
  obtain rfl:=hk5.eqC Fg Tj
  have e5:sx 5=.slice a5 1 c5:=(hsx 5).trans e5v
  have HF5:=A0 hf5
  clear e5v hf5 hk5 hc5
  rw [hsA]
  simp only [List.foldl]
  simp only [Act.put,List.setIfInBounds_toArray,List.set_cons_succ,List.set_cons_zero]
  clear hsA hsx hv hbase hsz hdf hf
  have HS6:Hid (Ext w3 W):=hS
  rw [e5]
  clear hS
  obtain ⟨w4,hw4⟩:∃ w4:World,w4=W:=⟨W,rfl⟩
  rw [← hw4] at HS6 HF5 ⊢
  clear hw4
  have HSM4:=A0 (HSM3.out.go HS6.out)
  have HAU4:=A0 (HAU3.out.go HS6.out)
  have HSC4:=A0 ((Below.block HS6.out gs (A5.1 HSC3.out).1).trans HSC3.out)
  have HSL4:=A0 (HSL.out.later HS6.out (A3 _))
  have HW4:Hid (Ext w w4):=Ext.trans (Ext.trans HX2.out HX3.out) HS6.out
  obtain ⟨d0,d1,d2⟩:=DM HSC4.out
  clear HSM3 HAU3 HSC3 HS6 HX3
  go_wp2_with fail
  obtain ⟨w5,hw5⟩:∃ w5,w4.alloc (.cells #[.slice aL 2 2,.slice aL 2 2] 53)=w5:=⟨_,rfl⟩
  rw [hw5]
  have HX5:Hid (Ext w4 w5):=by show Ext _ _;rw [← hw5];exact (Below.refl _ _).alloc (A3 _) _
  have HS5:Hid (Ez w5 (some ⟨w4.heap.size,0,none⟩) 2 [H9,H9]):=by
   refine (Ez.of (O2 (Ls:=[⟨aL,2,2⟩,⟨aL,2,2⟩]) (L:=[H9,H9]) (g:=w4.heap.size) (n:=2) (by rw [← hw5];exact heap_alloc_new _ _) rfl rfl (by decide) rfl fun k x s h1 h2=>?_) (by decide) R5 R6).1
   have hsl:=HSL4.out.later HX5.out (A3 _)
   rcases k with _ | _ | k
   · cases h1;cases h2;exact hsl
   · cases h1;cases h2;exact hsl
   · simp at h1
  clear hw5 d0 d1 d2
  refine (L9 (S:=T7) (HSM4.out.go HX5.out) (HAU4.out.go HX5.out) (by decide) HS5.out).mono ?_
  rintro e w6 hp
  obtain ⟨v6,rfl,⟨a6,c6,l6,rfl,hf6,hk6,hc6⟩,hb6⟩:=NP hp
  obtain rfl:=hk6.eqC Fg Tk
  have HX6:Hid (Ext w4 w6):=Ext.trans HX5.out hb6
  have HF6:=A0 hf6
  have HF5b:=A0 (HF5.out.kp (Kc.of HX6.out (A3 _)))
  have HSM6:=A0 (HSM4.out.go HX6.out)
  have HAU6:=A0 (HAU4.out.go HX6.out)
  have HSC6:=A0 ((Below.block HX6.out gs (A5.1 HSC4.out).1).trans HSC4.out)
  have HSL6:=A0 (HSL4.out.later HX6.out (A3 _))
  have HW6:Hid (Ext w w6):=Ext.trans HW4.out HX6.out
  clear hf6 hk6 hc6 hb6 hp HSM4 HAU4 HSC4 HSL4 HX5 HS5 HX6 HF5
  go_upto_region 8 with fail
  refine Am (by kernel_rfl) (Vs [vq (.agg #[.int .i64 1,.int .u8 1,.slice aR 2 2]),vq (.slice aD nD cD),PE ⟨#[97,97,98]⟩,EnS FO 1 (CJ ⟨#[97,97,98]⟩) (GS.map bts),EnS FO 1 (CJ ⟨#[97,97,98]⟩) (GS.map bts)]) (Xs []) (fun fL=>(fun W=>Ext w6 W) ) [0,0,0,7,15] 116 5 (by kernel_rfl) rfl ?hV ?hS ?hop ?hfin ?hlast
  case hV =>
   refine Ay (Ac (by simp only [AU,List.not_mem_nil,or_false,forall_eq_or_imp,forall_eq];exact ⟨AY _,AY _,JV _,Dt _ _ _ _,Dt _ _ _ _⟩)) ?_
   exact trivial
  case hS =>
   intro fL hf
   show (fun W=>Ext w6 W)  _
   first | exact Ext.refl _ | exact Bl _
  case hop =>
   refine ⟨?_,?_,?c2,?c3,?c4,trivial⟩
   all_goals first | rw [if_neg (by decide)] | rw [if_pos (by decide)]
   all_goals try intro ac W fL hsz hfi hms hdn hS0 hdep hbase hund
   all_goals try have hS:(fun W=>Ext w6 W)  W:=hS0
   all_goals try (
    have hsc:=(Below.block hS gs (A5.1 HSC6.out).1).trans HSC6.out
    obtain ⟨d0,d1,d2⟩:=DM hsc
    clear hsc)
   all_goals try have hh1:=gdA ac 1 (.pointer (some ⟨gs,0,none⟩)) (hbase 1 (by kernel_rfl))
   all_goals try have hh2:=gdA ac 2 (.slice aD nD cD) (hbase 2 (by kernel_rfl))
   all_goals try have d40:(PE ⟨#[97,97,98]⟩) (ac.tmps.getD 40 undef) W:=hdep 2 (by decide)
   all_goals try have d41:(EnS FO 1 (CJ ⟨#[97,97,98]⟩) (GS.map bts)) (ac.tmps.getD 41 undef) W:=hdep 3 (by decide)
   all_goals try (have hdep:=DS hdep;simp [D1,Aa,vq] at hdep)
   all_goals try clear hbase hms hdn hund
   case c2 =>
    have hS1:(fun W=>Ext w6 W)  W:=hS0
    refine AZ rfl (.inr ⟨16,#[.string ⟨#[97,97,98]⟩],W,by (clear hsz hS hS0 hS1 hfi;simp [go_sem,Act.eval, *]),?_⟩)
    refine (GQ ⟨#[97,97,98]⟩ W (by decide)).mono ?_
    rintro e w' ⟨hp,hb⟩
    obtain ⟨v,rfl,hv⟩:=IW hp (by decide)
    exact ⟨_,rfl,⟨hv,hb,Ext.trans hS0 hb⟩⟩
   case c3 =>
    have hS1:(fun W=>Ext w6 W)  W:=hS0
    obtain ⟨at9,ct9,et9,ht9⟩:=d40
    rw [A4] at et9
    refine AZ rfl (.inr ⟨18,#[.agg #[.int .i64 1,.int .u8 1,.slice aR 2 2],.slice aD nD cD,.slice at9 (⟨#[97,97,98]⟩:ByteArray).size ct9],W,by (clear hsz hS hS0 hS1 hfi ht9;simp [go_sem,Act.eval, *]),?_⟩)
    have h9:=R4 (HSM6.out.go hS) (HAU6.out.go hS) (by decide) ht9
    rw [CB] at h9
    refine h9.mono ?_
    rintro e w' hp
    obtain ⟨v,rfl,hv,hb⟩:=NQ hp
    exact ⟨_,rfl,⟨hv,hb,Ext.trans hS0 hb⟩⟩
   case c4 =>
    have hS1:(fun W=>Ext w6 W)  W:=hS0
    refine AZ rfl (.inl ⟨_,W,?_,d41,Ext.refl _,hS1⟩)
    clear hsz hS hS0 hS1 hfi;simp [go_sem,Act.eval, *]
   all_goals (refine AZ rfl (.inl ⟨_,W,?_,rfl,Ext.refl _,hS0⟩);clear hsz hS hS0 hfi;simp [go_sem,Act.eval, *];done)
  case hlast =>
   intro h;exact absurd rfl h
  case hfin =>
   intro _ ac W hsz hdf fL hf hS0 hv hbase
   have hS:(fun W=>Ext w6 W)  W:=hS0
   clear hS0
   obtain ⟨sx,hsx,hsA⟩:=Af [38,39,40,41,7] (by kernel_rfl) hsz hdf hbase
   have hp7:EnS FO 1 (CJ ⟨#[97,97,98]⟩) (GS.map bts) (ac.tmps.getD 7 undef) W:=hv 4 (by decide)
   obtain ⟨g7,Ls7,e7v,hen7⟩:=hp7
   have e7:sx 7=.slice (some ⟨g7,0,none⟩) 4 4:=(hsx 7).trans e7v
   have HEN:=A0 hen7
   clear e7v hen7
   rw [hsA]
   simp only [List.foldl]
   simp only [Act.put,List.setIfInBounds_toArray,List.set_cons_succ,List.set_cons_zero]
   clear hsA hsx hv hbase hsz hdf hf
   have HS8:Hid (Ext w6 W):=hS
   rw [e7]
   clear hS
   obtain ⟨w7,hw7⟩:∃ w7:World,w7=W:=⟨W,rfl⟩
   rw [← hw7] at HS8 HEN ⊢
   clear hw7
   have HW7:Hid (Ext w w7):=Ext.trans HW6.out HS8.out
   have HFA:Hid (∀ W,Ext w7 W→Ey W a5 [(0,0)]):=fun W hx=>HF5b.out.kp (Kc.of (Ext.trans HS8.out hx) (A3 _))
   have HFB:Hid (∀ W,Ext w7 W→Ey W a6 [(0,5),(2,0)]):=fun W hx=>HF6.out.kp (Kc.of (Ext.trans HS8.out hx) (A3 _))
   have HSLL:Hid (∀ W,Ext w7 W→Ab Cx W 0 (.slice aL 2 2) H9):=fun W hx=>HSL6.out.later (Ext.trans HS8.out hx) (A3 _)
   obtain ⟨x0,y0,l0,hc0,hf0,hk0,hi0⟩:=HEN.out.at (k:=0) (by decide)
   obtain ⟨x1,y1,l1,hc1,hf1,hk1,hi1⟩:=HEN.out.at (k:=1) (by decide)
   obtain ⟨x2,y2,l2,hc2,hf2,hk2,hi2⟩:=HEN.out.at (k:=2) (by decide)
   obtain ⟨x3,y3,l3,hc3,hf3,hk3,hi3⟩:=HEN.out.at (k:=3) (by decide)
   obtain rfl:=hk0.eqC Fg TP
   obtain rfl:=hk1.eqC Fg TQ
   obtain rfl:=hk2.eqC Fg TR
   obtain rfl:=hk3.eqC Fg TS
   have hg7:g7<w7.heap.size:=HEN.out.own.lt _ rfl
   have HC:Hid (∀ W,Ext w7 W→W.cell? ⟨g7,0,none⟩=some (.slice x0 0 y0)∧W.cell? ⟨g7,1,none⟩=some (.slice x1 1 y1)∧W.cell? ⟨g7,2,none⟩=some (.slice x2 1 y2)∧W.cell? ⟨g7,3,none⟩=some (.slice x3 0 y3)):=fun W hx =>
    ⟨(Below.cell hx (p:=⟨g7,0,none⟩) hg7).trans hc0,(Below.cell hx (p:=⟨g7,1,none⟩) hg7).trans hc1,(Below.cell hx (p:=⟨g7,2,none⟩) hg7).trans hc2,(Below.cell hx (p:=⟨g7,3,none⟩) hg7).trans hc3⟩
   have HF1:Hid (∀ W,Ext w7 W→Ey W x1 [(1,0)]):=fun W hx=>hf1.kp (Kc.of hx (A3 _))
   have HF2:Hid (∀ W,Ext w7 W→Ey W x2 [(2,0)]):=fun W hx=>hf2.kp (Kc.of hx (A3 _))
   have hi0':∀ W,(Instr.indexAt 45 (.slice (some ⟨g7,0,none⟩) 4 4) (.int .i64 0)).run Tryz.prog W=.ok (.pointer (some ⟨g7,0,none⟩)) W:=hi0
   have hi1':∀ W,(Instr.indexAt 45 (.slice (some ⟨g7,0,none⟩) 4 4) (.int .i64 1)).run Tryz.prog W=.ok (.pointer (some ⟨g7,1,none⟩)) W:=hi1
   have hi2':∀ W,(Instr.indexAt 45 (.slice (some ⟨g7,0,none⟩) 4 4) (.int .i64 2)).run Tryz.prog W=.ok (.pointer (some ⟨g7,2,none⟩)) W:=hi2
   have hi3':∀ W,(Instr.indexAt 45 (.slice (some ⟨g7,0,none⟩) 4 4) (.int .i64 3)).run Tryz.prog W=.ok (.pointer (some ⟨g7,3,none⟩)) W:=hi3
   clear hc0 hc1 hc2 hc3 hf0 hf1 hf2 hf3 hk0 hk1 hk2 hk3 hi0 hi1 hi2 hi3 HEN HSM6 HAU6 HSC6 HSL6 HF5b HF6 HS8 HW6 HX2 hg7
   obtain ⟨q0,q1,q2,q3⟩:=HC.out w7 (Ext.refl _)
   go_wp2_with fail
   clear q0 q1 q2 q3
   refine (Ha w7 [(1,0)] [(1,0)] x1 y1 1 (HF1.out w7 (Ext.refl _)) rfl _ rfl (by decide) (by decide)).mono ?_
   rintro e w8 ⟨rfl,hb8⟩
   have HX8:Hid (Ext w7 w8):=hb8
   clear hb8
   obtain ⟨q0,q1,q2,q3⟩:=HC.out w8 HX8.out
   go_wp2_with fail
   clear q0 q1 q2 q3
   refine (Ha w8 [(2,0)] [(2,0)] x2 y2 1 (HF2.out w8 HX8.out) rfl _ rfl (by decide) (by decide)).mono ?_
   rintro e w9 ⟨rfl,hb9⟩
   have HX9:Hid (Ext w7 w9):=Ext.trans HX8.out hb9
   clear hb9
   obtain ⟨q0,q1,q2,q3⟩:=HC.out w9 HX9.out
   go_wp2_with fail
   clear q0 q1 q2 q3 hi0' hi1' hi2' hi3'
   refine (Ha w9 [(0,0)] [(0,0)] a5 c5 1 (HFA.out w9 HX9.out) rfl _ rfl (by decide) (by decide)).mono ?_
   rintro e w10 ⟨rfl,hb10⟩
   have HX10:Hid (Ext w7 w10):=Ext.trans HX9.out hb10
   clear hb10
   go_wp2_with fail
   refine (Ha w10 [(0,5),(2,0)] [(0,5),(2,0)] a6 c6 2 (HFB.out w10 HX10.out) rfl _ rfl (by decide) (by decide)).mono ?_
   rintro e w11 ⟨rfl,hb11⟩
   have HX11:Hid (Ext w7 w11):=Ext.trans HX10.out hb11
   clear hb11
   go_wp2_with fail
   refine (GR [] none 0 w11 (fun k hk=>absurd hk (Nat.not_lt_zero _)) (by decide)).mono ?_
   rw [TT]
   rintro e w12 ⟨rfl,hb12⟩
   have HX12:Hid (Ext w7 w12):=Ext.trans HX11.out hb12
   clear hb12
   go_wp2_with fail
   refine (LA w12 w12.heap.size 1 [⟨aL,2,2⟩] [H9] rfl rfl rfl _ rfl (by decide) (NR (HSLL.out w12 HX12.out))).mono ?_
   rw [TU]
   rintro e w13 ⟨rfl,hb13⟩
   have HX13:Hid (Ext w7 w13):=Ext.trans HX12.out hb13
   clear hb13
   go_wp2_with fail
   refine (LA (w13.alloc (.cells #[] 55)) (w13.heap.size+1) 1 [⟨some ⟨w13.heap.size,0,none⟩,0,0⟩] [[]] (A6 ..) rfl rfl _ rfl (by decide) (NR (Ab.empty Cx (heap_alloc_new _ _) (Nat.zero_le _)))).mono ?_
   rw [TW]
   rintro e w14 ⟨rfl,hb14⟩
   have HX14:Hid (Ext w7 w14):=Ext.trans (Ext.trans HX13.out ((Below.refl _ _).alloc (A3 _) _)) hb14
   clear hb14
   go_wp2_with fail
   refine (LA (w14.alloc (.cells #[.int .u8 98,.int .i64 0,.int .u8 97,.int .i64 0] 55)) (w14.heap.size+1) 1 [⟨some ⟨w14.heap.size,0,none⟩,2,2⟩] [[⟨98,0⟩,⟨97,0⟩]] (A6 ..) rfl rfl _ rfl (by decide) (NR (FN EU (heap_alloc_new _ _) rfl (Nat.zero_le _) rfl (show (2:Nat)≤1000000 by decide)))).mono ?_
   rw [TY]
   rintro e w15 ⟨rfl,hb15⟩
   have HX15:Hid (Ext w7 w15):=Ext.trans (Ext.trans HX14.out ((Below.refl _ _).alloc (A3 _) _)) hb15
   clear hb15
   obtain ⟨w16,hrun,hown16,hb16⟩:=PF w15 41 (by decide)
   have HO16:=A0 hown16
   have HX16:Hid (Ext w7 w16):=Ext.trans HX15.out hb16
   have hrun2:(Instr.makeSlice 39 (.int .i64 41) (.int .i64 41)).run Tryz.prog w15=.ok (.slice (some ⟨w15.heap.size,0,none⟩) 41 41) w16:=hrun
   clear hown16 hb16 hrun
   go_wp2_with fail
   clear hrun2
   have hss:Eu w16 0 (.slice (some ⟨w15.heap.size,0,none⟩) 41 41) (List.replicate 41 []):=⟨_,HO16.out,rfl,fun k x s h1 h2=>by
    have h3:=List.mem_of_getElem? h1
    have h4:=List.mem_of_getElem? h2
    rw [List.eq_of_mem_replicate h3,List.eq_of_mem_replicate h4]
    exact Ab.nil _ _ _⟩
   have hv:=GR (List.replicate 41 []) (some ⟨w15.heap.size,0,none⟩) 41 w16 hss.slotS.1 (by rw [AT];decide)
   rw [AT,TZ] at hv
   refine hv.mono ?_
   rintro e w17 ⟨rfl,hb17⟩
   have HX17:Hid (Ext w7 w17):=Ext.trans HX16.out hb17
   clear hb17
   go_wp2_with fail
   go_ret
   exact ⟨rfl,Ext.trans HW7.out HX17.out⟩
open Go.ChangeShapes Go.WideShapes Go.ChangeAt Go.RowKit Fl
structure KM where
 raw:Qa
 W:QS
 L:NA
def KM.val (x:KM):Value:=.agg #[.int .u8 x.raw.M,.int .u8 x.raw.A,.slice x.raw.a x.raw.len x.raw.cap,.slice x.W.a x.W.len x.W.cap,.slice x.L.a x.L.len x.L.cap]
structure CaseOk (w:World) (x:KM):Prop where
 raw:Qb w x.raw
 W:QT w x.W
 L:QR w x.L
section
variable {H:Type} {enc:TypeId × Value→H} {w:World} {base:Nat} {spare:Nat→Bool} {held:Bool} {d:DataW H} {p:List MemPlace} {r:Reach} {b0:Nat} {v:Value}
set_option maxRecDepth 100000 in
theorem NS {fuel:Nat} {cs:List Value} {x:DataW H × List MemPlace} (h:DataW.trod enc Tryz.prog w base spare held fuel 24 cs=some x) (hsz:cs.length=3):∃ q:Qa,cs=[.int .u8 q.M,.int .u8 q.A,.slice q.a q.len q.cap]∧Qb w q:=by
 obtain ⟨y0,y1,y2,n,_,_,h0,h1,h2⟩:=Go.Deep.trod_struct3 Tryz.underlying24 h
 match cs,hsz with
 | [c0,c1,c2],_ =>
  obtain ⟨M,e0,_,w0⟩:=DataW.trod_int Tryz.underlying5 h0
  obtain ⟨A,e1,_,w1⟩:=DataW.trod_int Tryz.underlying5 h1
  obtain ⟨a,len,cap,Q,e2,hQ⟩:=slice_raws h2
  have g0:c0=.int .u8 M:=List.head_eq_of_cons_eq e0
  have g1:c1=.int .u8 A:=List.head_eq_of_cons_eq e1
  have g2:c2=.slice a len cap:=List.head_eq_of_cons_eq e2
  subst g0 g1 g2
  exact ⟨⟨M,A,a,len,cap,Q⟩,rfl,(bounds_u8 w0).1,(bounds_u8 w0).2,(bounds_u8 w1).1,(bounds_u8 w1).2,hQ⟩
open Go.Deep in
set_option maxRecDepth 100000 in
theorem LB {fuel:Nat} {cs:List Value} {x:DataW H × List MemPlace} (h:DataW.trod enc Tryz.prog w base spare held fuel 25 cs=some x):∃ q:QS,cs=[.slice q.a q.len q.cap]∧QT w q:=by
 rcases open_slice1 Tryz.underlying25 (by kernel_rfl) h with ⟨h0,_⟩ | ⟨ad,len,cap,m,n,V,D,Pl,h0,hba,hl,hcm,hmm,_,hel⟩
 · exact ⟨⟨none,0,0,fun _=>default⟩,h0,fun i hi=>absurd hi (Nat.not_lt_zero i),by show 0≤_;omega⟩
 ·
  have hlm:len≤m:=by rw [hmm];split <;> omega
  have hle:len≤9223372036854775807:=by unfold maxLen at hcm;omega
  have key:∀ i,i<len→∃ q:BR,w.cell? (ad.add i)=some (.slice q.a q.n q.c)∧Bt w q.a q.n q.Z∧q.n≤9223372036854775807:=fun i hi=>by
   obtain ⟨h1,h2⟩:=hel i (by omega)
   obtain ⟨a1,l1,c1,Z,hz,g1,g2⟩:=Go.Proofs.YthjmdgejnakcmaaGreatDoor.slice_bytes h2
   have:V i=.slice a1 l1 c1:=List.head_eq_of_cons_eq hz
   rw [this] at h1
   exact ⟨⟨a1,l1,c1,Z⟩,h1,g1,g2⟩
  obtain ⟨Q,hQ⟩:=choose_lt (α:=BR) key
  refine ⟨⟨some ad,len,cap,Q⟩,h0,fun i (hi:i<len)=>?_,hle⟩
  obtain ⟨b,o,sp⟩:=ad
  have hs:=World.cell?_spot (hQ 0 (by omega)).1
  obtain rfl:sp=none:=by simpa [Addr.add] using hs
  have hk:=hQ i hi
  have hb:=World.block_lt_of_cell? w _ hk.1
  rw [DD] at hb
  rw [addr_add] at hk
  exact ⟨b,o,rfl,hb,hk⟩
set_option maxRecDepth 100000 in
theorem PG (hv:Value.okWide Tryz.prog w r b0 28 v) (h:DataW.Trod enc Tryz.prog w base spare held 28 v d p):∃ x:KM,v=x.val∧CaseOk w x:=by
 obtain ⟨cs,rfl,hsz⟩:∃ cs,v=.agg cs∧cs.size=5:=by
  unfold Value.okWide at hv
  rw [Tryz.underlying28] at hv
  obtain ⟨cs,h,h2,_⟩:=hv
  exact ⟨cs,h,h2.trans (by kernel_rfl)⟩
 obtain ⟨f,hf⟩:=h
 obtain ⟨y0,y1,y2,n,_,_,h0,h1,h2⟩:=Go.Deep.trod_struct3 Tryz.underlying28 hf
 have hcs:∃ c0 c1 c2 c3 c4,cs=#[c0,c1,c2,c3,c4]:=by
  obtain ⟨l⟩:=cs
  match l,hsz with
  | [c0,c1,c2,c3,c4],_=>exact ⟨c0,c1,c2,c3,c4,rfl⟩
 obtain ⟨c0,c1,c2,c3,c4,rfl⟩:=hcs
 have hC0:Tryz.prog.cellsOf 24=3:=by kernel_rfl
 have hC1:Tryz.prog.cellsOf 25=1:=by kernel_rfl
 have hC2:Tryz.prog.cellsOf 26=1:=by kernel_rfl
 rw [hC0] at h0
 rw [hC1] at h1
 rw [hC2] at h2
 obtain ⟨q,e0,hq⟩:=NS (cs:=[c0,c1,c2]) h0 rfl
 obtain ⟨qW,e1,hqW⟩:=LB (cs:=[c3]) h1
 obtain ⟨a,len,cap,Z,e2,hZ,hle⟩:=Go.Proofs.YthjmdgejnakcmaaGreatDoor.slice_bytes (cs:=[c4]) h2
 simp only [List.cons.injEq,and_true] at e0 e1 e2
 obtain ⟨rfl,rfl,rfl⟩:=e0
 subst e1 e2
 exact ⟨⟨q,qW,⟨a,len,cap,Z⟩⟩,rfl,hq,hqW,⟨hZ,hle⟩⟩
end
theorem PH {z:Int} (z0:0≤z):∀ h∈Ev z,0≤h.cost∧h.cost≤11:=fun h hh=>by
 unfold Ev H6 at hh
 obtain ⟨k,hk,rfl⟩:=AH.1 hh
 show 0≤(z / 7*(k:Int)) % 12∧(z / 7*(k:Int)) % 12≤11
 omega
theorem PI (z:Int):(Ev z).Pairwise fun a b=>a.key≠b.key:=by
 unfold Ev H6
 rw [AS]
 refine (List.Pairwise.filter _ (List.pairwise_lt_range (n:=3))).imp_of_mem fun {a b} ha hb hlt=>?_
 have h1:=AX.1 (AW.1 ha).1
 have h2:=AX.1 (AW.1 hb).1
 intro e
 have e2:(UInt8.ofNat (97+a)).toNat=(UInt8.ofNat (97+b)).toNat:=congrArg UInt8.toNat e
 rw [UInt8.toNat_ofNat',UInt8.toNat_ofNat'] at e2
 omega
theorem NU (z:Int):∀ h∈Ev z,97≤h.key.toNat∧h.key.toNat≤99:=fun h hh=>by
 unfold Ev H6 at hh
 obtain ⟨k,hk,rfl⟩:=AH.1 hh
 have h1:=AX.1 (AW.1 hk).1
 show 97≤(UInt8.ofNat (97+k)).toNat∧(UInt8.ofNat (97+k)).toNat≤99
 rw [UInt8.toNat_ofNat']
 omega
theorem R7 {z:Int} (z0:0≤z):Ev z≠[]:=fun e=>by
 have h:=congrArg List.length e
 unfold Ev H6 at h
 rw [AN] at h
 have h1:z % 7=0∨z % 7=1∨z % 7=2∨z % 7=3∨z % 7=4∨z % 7=5∨z % 7=6:=by omega
 have h3:List.range 3=[0,1,2]:=rfl
 rw [h3] at h
 rcases h1 with h1 | h1 | h1 | h1 | h1 | h1 | h1 <;> simp [JQ,h1,List.filter_cons] at h
structure T8 (L:List Slt):Prop where
 len:L.length≤5
 bnd:∀ s∈L,∀ h∈s,0≤h.cost∧h.cost≤11
 dis:Hw L
 keys:∀ s∈L,∀ h∈s,97≤h.key.toNat∧h.key.toNat≤99
 ne:∀ s∈L,s≠[]
theorem PJ {Z:Nat→Int} {n:Nat} (hn:n≤5) (hZ:∀ i,i<n→0≤Z i):T8 (Cs Z n):=by
 have hm:∀ s∈Cs Z n,∃ i,i<n∧s=Ev (Z i):=fun s hs=>by
  obtain ⟨i,hi,rfl⟩:=AH.1 hs
  exact ⟨i,AX.1 hi,rfl⟩
 refine ⟨by rw [JR];exact hn,fun s hs=>?_,fun s hs=>?_,fun s hs=>?_,fun s hs=>?_⟩
 · obtain ⟨i,hi,rfl⟩:=hm s hs;exact PH (hZ i hi)
 · obtain ⟨i,hi,rfl⟩:=hm s hs;exact PI _
 · obtain ⟨i,hi,rfl⟩:=hm s hs;exact NU _
 · obtain ⟨i,hi,rfl⟩:=hm s hs;exact R7 (hZ i hi)
theorem PK {w w0:World} {B:Nat} {v:Value} {Z:Nat→Int} {a:Option Addr} {n m:Nat} (hZ:Bt w0 a n Z) (hm:m≤n) (hm5:m≤5) (h:Eu w B v (Cs Z m)) (hnn:v≠.slice none 0 0):∃ L gL cL,v=.slice (some ⟨gL,0,none⟩) L.length cL∧Ez w (some ⟨gL,0,none⟩) cL L∧T8 L∧Eu w B (.slice (some ⟨gL,0,none⟩) L.length cL) L:=by
 have hok:T8 (Cs Z m):=PJ hm5 fun i hi=>by
  obtain ⟨b,o,_,_,_,h1,_⟩:=hZ.at (k:=i) (by omega)
  exact h1
 obtain ⟨Ls,hr⟩:=id h
 rcases hr.own.blk with ⟨e,_⟩ | ⟨g,c,e,_⟩
 · exact absurd e hnn
 ·
  rw [hr.len] at e
  subst e
  exact ⟨_,g,c,rfl,(Ez.of h (by have:=hok.len;omega) (fun s hs x hx=>⟨(hok.bnd s hs x hx).1,by have:=(hok.bnd s hs x hx).2;omega⟩) hok.dis).1,hok,h⟩
end Go.Proofs.YthjmdgejnakcmaaGreatDoor
