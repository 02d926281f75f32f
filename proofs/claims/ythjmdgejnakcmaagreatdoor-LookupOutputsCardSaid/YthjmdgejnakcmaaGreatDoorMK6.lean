/- Texts that the claims share: K33, KV, KP, KL0, O1, O2. -/
import Derived.Laws.Cover3
import Derived.Laws.ResultCell
import Derived.Test.YthjmdgejnakcmaaGreatDoorMK1
import Derived.Test.YthjmdgejnakcmaaGreatDoorMK5
import Derived.Test.YthjmdgejnakcmaaGreatDoorMF6
import Derived.Test.YthjmdgejnakcmaaGreatDoorMD6
import Derived.Test.YthjmdgejnakcmaaGreatDoorMK2
import Derived.Test.YthjmdgejnakcmaaGreatDoorMD1
import Derived.Test.YthjmdgejnakcmaaGreatDoorMD3
set_option maxHeartbeats 6400000
set_option maxRecDepth 100000
set_option linter.unusedVariables false
set_option linter.unusedSimpArgs false
namespace Go.Proofs.YthjmdgejnakcmaaGreatDoor
open Go.RowKit Go.WideShapes Fl
theorem G1 {α:Type} {T:Cu α} (hT:T.Ok) {w:World} {B g n:Nat} {cs:Array Value} {L:List α} (h:w.heap[g]? = some (.cells cs T.e (0,0))) (jb:cs.toList=L.flatMap T.enc) (hB:B≤g) (hn:n=L.length) (hl:n≤1000000):As T w B (.slice (some ⟨g,0,none⟩) n n) L:=by
 subst hn;have ja:=F6 hT L;have jc:cs.size=L.length*T.k:=by rw [← Array.length_toList,jb,ja]
 refine ⟨ja,.inr ⟨g,L.length,cs,rfl,hB,h,A7 _,by unfold maxLen;omega,jc,?_⟩⟩;rw [jb,AM (by rw [ja];exact A7 _)]
def G2:List Rl:=[⟨0,0,⟨#[97]⟩,⟨#[97]⟩,0⟩,⟨0,0,⟨#[98,97]⟩,⟨#[66]⟩,0⟩]
def UP:Sch:=⟨1,1,G2⟩
def H8:List ByteArray:=[⟨#[66]⟩,⟨#[97]⟩,⟨#[97,97]⟩]
def IC:Slt:=[⟨97,0⟩,⟨98,5⟩]
theorem VC:Fl.validB UP=true:=Fl.valid_of (by decide +kernel)
theorem Te:Cz H8:=TP (by decide) (by decide) (by decide)
theorem GQ:∀ r∈G2,1≤r.inp.size:=by decide
theorem VD:KU G2 1 (DZ ⟨#[98,97]⟩) (H8.map bts) 2=[(0,0)]:=by decide +kernel
theorem VE:KU G2 1 [IC,IC] (H8.map bts) 2=[(0,5),(2,0)]:=by decide +kernel
theorem Us:KU G2 1 (DZ ⟨#[97,97,98]⟩) (H8.map bts) 0=[]:=by decide +kernel
theorem Ut:KU G2 1 (DZ ⟨#[97,97,98]⟩) (H8.map bts) 1=[(1,0)]:=by decide +kernel
theorem Uu:KU G2 1 (DZ ⟨#[97,97,98]⟩) (H8.map bts) 2=[(2,0)]:=by decide +kernel
theorem Uv:KU G2 1 (DZ ⟨#[97,97,98]⟩) (H8.map bts) 3=[]:=by decide +kernel
theorem Uw:validB []=true:=by decide
theorem Ux:validB [IC]=true:=by decide
theorem Uy:validB [[]]=false:=by decide
theorem Uz:validB [[⟨98,0⟩,⟨97,0⟩]]=false:=by decide
theorem V0:validB (List.replicate 41 [])=false:=by decide
theorem PK {w:World} {g n:Nat} {cs:Array Value} {Ls:List SV} {L:List Slt} (h:w.heap[g]? = some (.cells cs 53 (0,0))) (jb:cs.toList=Ls.flatMap Bk.enc) (hn:n=Ls.length) (hl:n≤1000000) (ja:Ls.length=L.length)
  (jc:∀ (k:Nat) (x:SV) (s:Slt),Ls[k]? = some x→L[k]? = some s→As ED w 0 (svS x) s):J2 w 0 (.slice (some ⟨g,0,none⟩) n n) L :=
 ⟨Ls,G1 Ck h jb (Nat.zero_le _) hn hl,ja,jc⟩
theorem Sb:Cq 300 [IC,IC]:=by unfold Cq;decide
theorem Sc:ST [IC,IC]:=by unfold ST;decide
theorem ID (w:World) (D E:List (Nat × Nat)) (a:Option Addr) (c n:Nat) (hD:FW w a D) (hn:n=E.length) (cs:Array Value) (ja:cs.toList=E.flatMap DR.enc) (h1:D.length≤100) (h2:E.length≤100) :
  Calls Tryz.prog 20 #[.slice a D.length c,.slice (some ⟨w.heap.size,0,none⟩) n n] (w.alloc (.cells cs 59)) fun e w'=>e=.returned (.bool (decide (D=E)))∧Below w.heap.size w w':=by
 subst hn;have hx:Ext w (w.alloc (.cells cs 59)):=(Below.refl _ _).alloc (A7 _) _;refine (fsame_any D E a (some ⟨w.heap.size,0,none⟩) c E.length (w.alloc (.cells cs 59)) (hD.kp (Kc.of hx (A7 _))) (G1 GO (B:=0) (heap_alloc_new _ _) ja (Nat.zero_le _) rfl (by omega)).fnds.1 (by omega) (by omega)).mono ?_;rintro e w' ⟨rfl,hb⟩;exact ⟨rfl,Ext.trans hx hb⟩
theorem Om {w:World} {x:SV} {s:Slt} (h:As ED w 0 (svS x) s):∀ (k:Nat) (y:SV) (t:Slt),[x][k]? = some y→[s][k]? = some t→As ED w 0 (svS y) t:=fun k y t h1 h2=>by
 rcases k with _ | k
 · cases h1;cases h2;exact h
 · simp at h1
theorem MJ (w:World) (g n:Nat) (Ls:List SV) (L:List Slt) (hg:w.heap.size=g) (hn:n=Ls.length) (ja:Ls.length=L.length) (cs:Array Value) (jb:cs.toList=Ls.flatMap Bk.enc) (hl:n≤1000)
  (jc:∀ (k:Nat) (x:SV) (s:Slt),Ls[k]? = some x→L[k]? = some s→As ED w 0 (svS x) s) :
  Calls Tryz.prog 26 #[.slice (some ⟨g,0,none⟩) n n] (w.alloc (.cells cs 53)) fun e w'=>e=.returned (.bool (validB L))∧Below w.heap.size w w':=by
 subst hg;have hx:Ext w (w.alloc (.cells cs 53)):=(Below.refl _ _).alloc (A7 _) _;obtain ⟨h1,h2,h3⟩:=(PK (heap_alloc_new w (.cells cs 53)) jb hn (by omega) ja fun k x s h1 h2=>(jc k x s h1 h2).later hx (A7 _)).slotS;rw [h2];refine (H4 L (some ⟨w.heap.size,0,none⟩) L.length _ h1 (by omega)).mono ?_;rintro e w' ⟨rfl,hb⟩;exact ⟨rfl,Ext.trans hx hb⟩
theorem Qc (w:World) (n:Nat) (hn:n≤1000000):∃ w',(Instr.makeSlice 39 (.int .i64 (n:Int)) (.int .i64 (n:Int))).run Tryz.prog w=.ok (.slice (some ⟨w.heap.size,0,none⟩) n n) w'∧As Bk w' 0 (.slice (some ⟨w.heap.size,0,none⟩) n n) (List.replicate n ⟨none,0,0⟩)∧Ext w w':=by
 obtain ⟨i0,hi,jb,jc,jd⟩:=info_parts Ck.info;have hb:i0.bytes*n≤64*1000000:=Nat.mul_le_mul (by rw [jd];exact Ck.b) hn;obtain ⟨w',ja,r1,r2⟩:=run_make_full (P:=Tryz.prog) w 0 Bk.sl Bk.e i0 Bk.z Bk.k Ck.und hi jb jc .i64 .i64 n (by omega) (by unfold maxLen;omega) (Nat.zero_le _);refine ⟨w',ja,?_,⟨r2.os,r2.tape,r2.output,r2.size,fun k hk=>r2.block k hk (by simp)⟩⟩;unfold As;rw [List.length_replicate];have e:(madeCells Bk.z.cells (n*Bk.k)).toList=(List.replicate n (⟨none,0,0⟩:SV)).flatMap Bk.enc:=by
  rw [Fx Bk ⟨none,0,0⟩ rfl n];apply List.ext_getElem
  · simp [madeCells,Bk]
  ·intro j h2 h3;simp [madeCells,Bk,Nat.mod_one,Value.cells]
 rw [← e];exact r1
theorem sanity_any (w:World) (hT:Tab w):Calls Tryz.prog 9 #[] w fun e w'=>e=.returned (.bool true)∧Below w.heap.size w w':=by
 have HT:=A6 hT;clear hT
 go_enter Tryz.func9,Tryz.ntmps9
 go_upto_region 2 with fail
 obtain ⟨w0,jX⟩:∃ w0,w.alloc (.cells #[.int .i64 0,.int .i64 0,.string ⟨#[97]⟩,.string ⟨#[97]⟩,.int .i64 0,.int .i64 0,.int .i64 0,.string ⟨#[98,97]⟩,.string ⟨#[66]⟩,.int .i64 0] 64)=w0:=⟨_,rfl⟩
 rw [jX];have kU:Ext w w0:=by rw [← jX];exact (Below.refl _ _).alloc (A7 _) _
 have kV:w0.heap.size=w.heap.size+1:=by rw [← jX,AA]
 have kQ:As Cj w0 0 (.slice (some ⟨w.heap.size,0,none⟩) 2 2) G2:=by rw [← jX];exact G1 GM (heap_alloc_new _ _) rfl (Nat.zero_le _) rfl (by decide)
 obtain ⟨w1,jY⟩:∃ w1,w0.alloc (.cells #[.int .i64 1,.int .u8 1,.slice (some ⟨w.heap.size,0,none⟩) 2 2] 32)=w1:=⟨_,rfl⟩
 rw [jY];have ki:Ext w0 w1:=by rw [← jY];exact (Below.refl _ _).alloc (A7 _) _
 have j5:Hid (KJ w1 UP (some ⟨w.heap.size,0,none⟩) 2):=KJ.of_valid VC (by decide) (by decide) (by decide) (kQ.ruls.1.later ki (A7 _));have jy:Hid (w1.heap[w.heap.size+1]? = some (.cells #[.int .i64 1,.int .u8 1,.slice (some ⟨w.heap.size,0,none⟩) 2 2] 32 (0,0))):=by
  show _=_;rw [← jY,← kV];exact heap_alloc_new _ _
 have j6:Hid (Ext w w1):=Ext.trans kU ki;have kn:=A6 (HT.out.later j6.out);clear jX jY kU ki kQ kV;obtain ⟨gs,kF⟩:∃ gs,w.heap.size+1=gs:=⟨_,rfl⟩
 obtain ⟨aR,ks⟩:∃ aR,(some ⟨w.heap.size,0,none⟩:Option Addr)=aR:=⟨_,rfl⟩
 rw [ks] at j5 jy ⊢;rw [kF] at jy ⊢;clear kF ks HT
 go_wp2_with fail
 refine (TQ Te (S7 (heap_alloc_new w1 _) rfl) rfl (A7 _) (kn.out.later ((Below.refl _ _).alloc (A7 _) _))).mono ?_;rintro e w2 ⟨aD,nD,cD,rfl,jt,kt⟩;have j1:Ext w1 w2:=Ext.trans ((Below.refl _ _).alloc (A7 _) _) kt;have hnd:=jt.small.2;have hnd0:((nD:Int) == 0)=false:=by rw [beq_eq_false_iff_ne];omega
 have kj:=A6 jt;have kq:=A6 (Ext.trans j6.out j1);have jA:=A6 (j5.out.go j1);have jn:=A6 ((j1.block _ (A9.1 jy.out).1).trans jy.out);clear kt j1 jt j5 jy j6 kn
 go_upto_region 6 with fail
 obtain ⟨w3,jZ⟩:∃ w3,w2.alloc (.cells #[.int .u8 97,.int .i64 0,.int .u8 98,.int .i64 5] 55)=w3:=⟨_,rfl⟩
 rw [jZ];have jE:Hid (Ext w2 w3):=by show Ext _ _;rw [← jZ];exact (Below.refl _ _).alloc (A7 _) _
 have km:Hid (As ED w3 0 (.slice (some ⟨w2.heap.size,0,none⟩) 2 2) IC):=by show As _ _ _ _ _;rw [← jZ];exact G1 Fy (heap_alloc_new _ _) rfl (Nat.zero_le _) rfl (by decide)
 have jq:=A6 (jA.out.go jE.out);have jj:=A6 (kj.out.go jE.out);have jf:=A6 ((jE.out.block _ (A9.1 jn.out).1).trans jn.out);obtain ⟨aL,kr⟩:∃ aL,(some ⟨w2.heap.size,0,none⟩:Option Addr)=aL:=⟨_,rfl⟩
 rw [kr] at km ⊢;clear jZ kr jA kj jn;refine B4 (by kernel_rfl) (Vs [vq (.agg #[.int .i64 1,.int .u8 1,.slice aR 2 2]),vq (.slice aD nD cD),Qb ⟨#[98,97]⟩,FnS G2 1 (DZ ⟨#[98,97]⟩) (H8.map bts) 2,FnS G2 1 (DZ ⟨#[98,97]⟩) (H8.map bts) 2]) (Xs []) (fun fL=>(fun W=>Ext w3 W) ) [0,0,0,7,15] 116 5 (by kernel_rfl) rfl ?hV ?hS ?hop ?hfin ?hlast
 case hV =>
  refine BC (Av (by simp only [Aj,List.not_mem_nil,or_false,forall_eq_or_imp,forall_eq];exact ⟨An _,An _,KN _,LV _ _ _ _ _,LV _ _ _ _ _⟩)) ?_;exact trivial
 case hS =>
  intro fL hf;show (fun W=>Ext w3 W)  _
  first | exact Ext.refl _ | exact Bh _
 case hop =>
  refine ⟨?_,?_,?c2,?c3,?c4,trivial⟩
  all_goals first | rw [if_neg (by decide)] | rw [if_pos (by decide)]
  all_goals try intro ac W fL jd ji kh kc jb jc ja ju
  all_goals try have hS:(fun W=>Ext w3 W)  W:=jb
  all_goals try (
   have jU:=(Below.block hS gs (A9.1 jf.out).1).trans jf.out;obtain ⟨d0,d1,d2⟩:=ER jU;clear jU)
  all_goals try have k6:=gdA ac 1 (.pointer (some ⟨gs,0,none⟩)) (ja 1 (by kernel_rfl))
  all_goals try have k7:=gdA ac 2 (.slice aD nD cD) (ja 2 (by kernel_rfl))
  all_goals try have d30:(Qb ⟨#[98,97]⟩) (ac.tmps.getD 30 undef) W:=jc 2 (by decide)
  all_goals try have d31:(FnS G2 1 (DZ ⟨#[98,97]⟩) (H8.map bts) 2) (ac.tmps.getD 31 undef) W:=jc 3 (by decide)
  all_goals try (have jc:=DN jc;simp [D8,Aq,vq] at jc)
  all_goals try clear ja kh kc ju
  case c2 =>
   have je:(fun W=>Ext w3 W)  W:=jb;refine Ao rfl (.inr ⟨16,#[.string ⟨#[98,97]⟩],W,by (clear jd hS jb je ji;simp [go_sem,Act.eval, *]),?_⟩);refine (KG ⟨#[98,97]⟩ W (by decide)).mono ?_;rintro e w' ⟨hp,hb⟩;obtain ⟨v,rfl,hv⟩:=PJ hp (by decide);exact ⟨_,rfl,⟨hv,hb,Ext.trans jb hb⟩⟩
  case c3 =>
   have je:(fun W=>Ext w3 W)  W:=jb;obtain ⟨at9,ct9,et9,jW⟩:=d30;rw [A8] at et9;refine Ao rfl (.inr ⟨21,#[.agg #[.int .i64 1,.int .u8 1,.slice aR 2 2],.slice aD nD cD,.slice at9 (⟨#[98,97]⟩:ByteArray).size ct9],W,by (clear jd hS jb je ji jW;simp [go_sem,Act.eval, *]),?_⟩);have h9:=PI (jq.out.go hS) (jj.out.go hS) (by decide) jW;rw [Eh] at h9;refine h9.mono ?_;rintro e w' hp;obtain ⟨v,rfl,hv,hb⟩:=Sa hp;exact ⟨_,rfl,⟨hv,hb,Ext.trans jb hb⟩⟩
  case c4 =>
   have je:(fun W=>Ext w3 W)  W:=jb;refine Ao rfl (.inl ⟨_,W,?_,d31,Ext.refl _,je⟩);clear jd hS jb je ji;simp [go_sem,Act.eval, *]
  all_goals (refine Ao rfl (.inl ⟨_,W,?_,rfl,Ext.refl _,jb⟩);clear jd hS jb ji;simp [go_sem,Act.eval, *];done)
 case hlast =>
  intro h;exact absurd rfl h
 case hfin =>
  intro _ ac W jd jO fL hf jb hv ja;have hS:(fun W=>Ext w3 W)  W:=jb;clear jb;obtain ⟨sx,jV,jT⟩:=Aw [28,29,30,31,5] (by kernel_rfl) jd jO ja;have k8:FnS G2 1 (DZ ⟨#[98,97]⟩) (H8.map bts) 2 (ac.tmps.getD 5 undef) W:=hv 4 (by decide);obtain ⟨a5,c5,l5,e5v,kD,kO,k2⟩:=k8;obtain rfl:=kO.eqC GQ VD;have e5:sx 5=.slice a5 1 c5:=(jV 5).trans e5v;have j2:=A6 kD;clear e5v kD kO k2;rw [jT];simp only [List.foldl];simp only [Act.put,List.setIfInBounds_toArray,List.set_cons_succ,List.set_cons_zero];clear jT jV hv ja jd jO hf;have jm:Hid (Ext w3 W):=hS;rw [e5];clear hS;obtain ⟨w4,kS⟩:∃ w4:World,w4=W:=⟨W,rfl⟩
  rw [← kS] at jm j2 ⊢;clear kS;have jr:=A6 (jq.out.go jm.out);have jk:=A6 (jj.out.go jm.out);have jh:=A6 ((Below.block jm.out gs (A9.1 jf.out).1).trans jf.out);have jp:=A6 (km.out.later jm.out (A7 _));have k0:Hid (Ext w w4):=Ext.trans (Ext.trans kq.out jE.out) jm.out;obtain ⟨d0,d1,d2⟩:=ER jh.out;clear jq jj jf jm jE
  go_wp2_with fail
  obtain ⟨w5,j0⟩:∃ w5,w4.alloc (.cells #[.slice aL 2 2,.slice aL 2 2] 53)=w5:=⟨_,rfl⟩
  rw [j0];have jF:Hid (Ext w4 w5):=by show Ext _ _;rw [← j0];exact (Below.refl _ _).alloc (A7 _) _
  have kl:Hid (KL w5 (some ⟨w4.heap.size,0,none⟩) 2 [IC,IC]):=by
   refine (KL.of (PK (Ls:=[⟨aL,2,2⟩,⟨aL,2,2⟩]) (L:=[IC,IC]) (g:=w4.heap.size) (n:=2) (by rw [← j0];exact heap_alloc_new _ _) rfl rfl (by decide) rfl fun k x s h1 h2=>?_) (by decide) Sb Sc).1;have kR:=jp.out.later jF.out (A7 _);rcases k with _ | _ | k
   · cases h1;cases h2;exact kR
   · cases h1;cases h2;exact kR
   · simp at h1
  clear j0 d0 d1 d2;refine (PI (S:=UP) (jr.out.go jF.out) (jk.out.go jF.out) (by decide) kl.out).mono ?_;rintro e w6 hp;obtain ⟨v6,rfl,⟨a6,c6,l6,rfl,kE,kP,k3⟩,ku⟩:=Sa hp;obtain rfl:=kP.eqC GQ VE;have js:Hid (Ext w4 w6):=Ext.trans jF.out ku;have kk:=A6 kE;have jx:=A6 (j2.out.kp (Kc.of js.out (A7 _)));have jB:=A6 (jr.out.go js.out);have jw:=A6 (jk.out.go js.out);have jo:=A6 ((Below.block js.out gs (A9.1 jh.out).1).trans jh.out);have jz:=A6 (jp.out.later js.out (A7 _));have ko:Hid (Ext w w6):=Ext.trans k0.out js.out;clear kE kP k3 ku hp jr jk jh jp jF kl js j2
  go_upto_region 8 with fail
  refine B4 (by kernel_rfl) (Vs [vq (.agg #[.int .i64 1,.int .u8 1,.slice aR 2 2]),vq (.slice aD nD cD),Qb ⟨#[97,97,98]⟩,EnS G2 1 (DZ ⟨#[97,97,98]⟩) (H8.map bts),EnS G2 1 (DZ ⟨#[97,97,98]⟩) (H8.map bts)]) (Xs []) (fun fL=>(fun W=>Ext w6 W) ) [0,0,0,7,15] 116 5 (by kernel_rfl) rfl ?hV ?hS ?hop ?hfin ?hlast
  case hV =>
   refine BC (Av (by simp only [Aj,List.not_mem_nil,or_false,forall_eq_or_imp,forall_eq];exact ⟨An _,An _,KN _,LW _ _ _ _,LW _ _ _ _⟩)) ?_;exact trivial
  case hS =>
   intro fL hf;show (fun W=>Ext w6 W)  _
   first | exact Ext.refl _ | exact Bh _
  case hop =>
   refine ⟨?_,?_,?c2,?c3,?c4,trivial⟩
   all_goals first | rw [if_neg (by decide)] | rw [if_pos (by decide)]
   all_goals try intro ac W fL jd ji kh kc jb jc ja ju
   all_goals try have hS:(fun W=>Ext w6 W)  W:=jb
   all_goals try (
    have jU:=(Below.block hS gs (A9.1 jo.out).1).trans jo.out;obtain ⟨d0,d1,d2⟩:=ER jU;clear jU)
   all_goals try have k6:=gdA ac 1 (.pointer (some ⟨gs,0,none⟩)) (ja 1 (by kernel_rfl))
   all_goals try have k7:=gdA ac 2 (.slice aD nD cD) (ja 2 (by kernel_rfl))
   all_goals try have d40:(Qb ⟨#[97,97,98]⟩) (ac.tmps.getD 40 undef) W:=jc 2 (by decide)
   all_goals try have d41:(EnS G2 1 (DZ ⟨#[97,97,98]⟩) (H8.map bts)) (ac.tmps.getD 41 undef) W:=jc 3 (by decide)
   all_goals try (have jc:=DN jc;simp [D8,Aq,vq] at jc)
   all_goals try clear ja kh kc ju
   case c2 =>
    have je:(fun W=>Ext w6 W)  W:=jb;refine Ao rfl (.inr ⟨16,#[.string ⟨#[97,97,98]⟩],W,by (clear jd hS jb je ji;simp [go_sem,Act.eval, *]),?_⟩);refine (KG ⟨#[97,97,98]⟩ W (by decide)).mono ?_;rintro e w' ⟨hp,hb⟩;obtain ⟨v,rfl,hv⟩:=PJ hp (by decide);exact ⟨_,rfl,⟨hv,hb,Ext.trans jb hb⟩⟩
   case c3 =>
    have je:(fun W=>Ext w6 W)  W:=jb;obtain ⟨at9,ct9,et9,jW⟩:=d40;rw [A8] at et9;refine Ao rfl (.inr ⟨18,#[.agg #[.int .i64 1,.int .u8 1,.slice aR 2 2],.slice aD nD cD,.slice at9 (⟨#[97,97,98]⟩:ByteArray).size ct9],W,by (clear jd hS jb je ji jW;simp [go_sem,Act.eval, *]),?_⟩);have h9:=UN (jB.out.go hS) (jw.out.go hS) (by decide) jW;rw [Eh] at h9;refine h9.mono ?_;rintro e w' hp;obtain ⟨v,rfl,hv,hb⟩:=UO hp;exact ⟨_,rfl,⟨hv,hb,Ext.trans jb hb⟩⟩
   case c4 =>
    have je:(fun W=>Ext w6 W)  W:=jb;refine Ao rfl (.inl ⟨_,W,?_,d41,Ext.refl _,je⟩);clear jd hS jb je ji;simp [go_sem,Act.eval, *]
   all_goals (refine Ao rfl (.inl ⟨_,W,?_,rfl,Ext.refl _,jb⟩);clear jd hS jb ji;simp [go_sem,Act.eval, *];done)
  case hlast =>
   intro h;exact absurd rfl h
  case hfin =>
   intro _ ac W jd jO fL hf jb hv ja;have hS:(fun W=>Ext w6 W)  W:=jb;clear jb;obtain ⟨sx,jV,jT⟩:=Aw [38,39,40,41,7] (by kernel_rfl) jd jO ja;have k9:EnS G2 1 (DZ ⟨#[97,97,98]⟩) (H8.map bts) (ac.tmps.getD 7 undef) W:=hv 4 (by decide);obtain ⟨g7,Ls7,e7v,jP⟩:=k9;have e7:sx 7=.slice (some ⟨g7,0,none⟩) 4 4:=(jV 7).trans e7v;have jl:=A6 jP;clear e7v jP;rw [jT];simp only [List.foldl];simp only [Act.put,List.setIfInBounds_toArray,List.set_cons_succ,List.set_cons_zero];clear jT jV hv ja jd jO hf;have jv:Hid (Ext w6 W):=hS;rw [e7];clear hS;obtain ⟨w7,kT⟩:∃ w7:World,w7=W:=⟨W,rfl⟩
   rw [← kT] at jv jl ⊢;clear kT;have k1:Hid (Ext w w7):=Ext.trans ko.out jv.out;have kY:Hid (∀ W,Ext w7 W→FW W a5 [(0,0)]):=fun W hx=>jx.out.kp (Kc.of (Ext.trans jv.out hx) (A7 _));have kZ:Hid (∀ W,Ext w7 W→FW W a6 [(0,5),(2,0)]):=fun W hx=>kk.out.kp (Kc.of (Ext.trans jv.out hx) (A7 _));have j4:Hid (∀ W,Ext w7 W→As ED W 0 (.slice aL 2 2) IC):=fun W hx=>jz.out.later (Ext.trans jv.out hx) (A7 _);obtain ⟨x0,y0,l0,kx,k4,kK,kG⟩:=jl.out.at (k:=0) (by decide);obtain ⟨x1,y1,l1,ky,kB,kL,kH⟩:=jl.out.at (k:=1) (by decide);obtain ⟨x2,y2,l2,kz,kC,kM,kI⟩:=jl.out.at (k:=2) (by decide);obtain ⟨x3,y3,l3,kA,k5,kN,kJ⟩:=jl.out.at (k:=3) (by decide);obtain rfl:=kK.eqC GQ Us;obtain rfl:=kL.eqC GQ Ut;obtain rfl:=kM.eqC GQ Uu;obtain rfl:=kN.eqC GQ Uv;have jQ:g7<w7.heap.size:=jl.out.own.lt _ rfl;have HC:Hid (∀ W,Ext w7 W→W.cell? ⟨g7,0,none⟩=some (.slice x0 0 y0)∧W.cell? ⟨g7,1,none⟩=some (.slice x1 1 y1)∧W.cell? ⟨g7,2,none⟩=some (.slice x2 1 y2)∧W.cell? ⟨g7,3,none⟩=some (.slice x3 0 y3)):=fun W hx =>
    ⟨(Below.cell hx (p:=⟨g7,0,none⟩) jQ).trans kx,(Below.cell hx (p:=⟨g7,1,none⟩) jQ).trans ky,(Below.cell hx (p:=⟨g7,2,none⟩) jQ).trans kz,(Below.cell hx (p:=⟨g7,3,none⟩) jQ).trans kA⟩
   have kW:Hid (∀ W,Ext w7 W→FW W x1 [(1,0)]):=fun W hx=>kB.kp (Kc.of hx (A7 _));have kX:Hid (∀ W,Ext w7 W→FW W x2 [(2,0)]):=fun W hx=>kC.kp (Kc.of hx (A7 _));have kd:∀ W,(Instr.indexAt 45 (.slice (some ⟨g7,0,none⟩) 4 4) (.int .i64 0)).run Tryz.prog W=.ok (.pointer (some ⟨g7,0,none⟩)) W:=kG;have ke:∀ W,(Instr.indexAt 45 (.slice (some ⟨g7,0,none⟩) 4 4) (.int .i64 1)).run Tryz.prog W=.ok (.pointer (some ⟨g7,1,none⟩)) W:=kH;have kf:∀ W,(Instr.indexAt 45 (.slice (some ⟨g7,0,none⟩) 4 4) (.int .i64 2)).run Tryz.prog W=.ok (.pointer (some ⟨g7,2,none⟩)) W:=kI;have kg:∀ W,(Instr.indexAt 45 (.slice (some ⟨g7,0,none⟩) 4 4) (.int .i64 3)).run Tryz.prog W=.ok (.pointer (some ⟨g7,3,none⟩)) W:=kJ;clear kx ky kz kA k4 kB kC k5 kK kL kM kN kG kH kI kJ jl jB jw jo jz jx kk jv ko kq jQ;obtain ⟨q0,q1,q2,q3⟩:=HC.out w7 (Ext.refl _)
   go_wp2_with fail
   clear q0 q1 q2 q3;refine (ID w7 [(1,0)] [(1,0)] x1 y1 1 (kW.out w7 (Ext.refl _)) rfl _ rfl (by decide) (by decide)).mono ?_;rintro e w8 ⟨rfl,kv⟩;have ka:Hid (Ext w7 w8):=kv;clear kv;obtain ⟨q0,q1,q2,q3⟩:=HC.out w8 ka.out
   go_wp2_with fail
   clear q0 q1 q2 q3;refine (ID w8 [(2,0)] [(2,0)] x2 y2 1 (kX.out w8 ka.out) rfl _ rfl (by decide) (by decide)).mono ?_;rintro e w9 ⟨rfl,kw⟩;have kb:Hid (Ext w7 w9):=Ext.trans ka.out kw;clear kw;obtain ⟨q0,q1,q2,q3⟩:=HC.out w9 kb.out
   go_wp2_with fail
   clear q0 q1 q2 q3 kd ke kf kg;refine (ID w9 [(0,0)] [(0,0)] a5 c5 1 (kY.out w9 kb.out) rfl _ rfl (by decide) (by decide)).mono ?_;rintro e w10 ⟨rfl,jG⟩;have jC:Hid (Ext w7 w10):=Ext.trans kb.out jG;clear jG
   go_wp2_with fail
   refine (ID w10 [(0,5),(2,0)] [(0,5),(2,0)] a6 c6 2 (kZ.out w10 jC.out) rfl _ rfl (by decide) (by decide)).mono ?_;rintro e w11 ⟨rfl,jH⟩;have j7:Hid (Ext w7 w11):=Ext.trans jC.out jH;clear jH
   go_wp2_with fail
   refine (H4 [] none 0 w11 (fun k hk=>absurd hk (Nat.not_lt_zero _)) (by decide)).mono ?_;rw [Uw];rintro e w12 ⟨rfl,jI⟩;have jD:Hid (Ext w7 w12):=Ext.trans j7.out jI;clear jI
   go_wp2_with fail
   refine (MJ w12 w12.heap.size 1 [⟨aL,2,2⟩] [IC] rfl rfl rfl _ rfl (by decide) (Om (j4.out w12 jD.out))).mono ?_;rw [Ux];rintro e w13 ⟨rfl,jJ⟩;have j8:Hid (Ext w7 w13):=Ext.trans jD.out jJ;clear jJ
   go_wp2_with fail
   refine (MJ (w13.alloc (.cells #[] 55)) (w13.heap.size+1) 1 [⟨some ⟨w13.heap.size,0,none⟩,0,0⟩] [[]] (AA ..) rfl rfl _ rfl (by decide) (Om (As.empty ED (heap_alloc_new _ _) (Nat.zero_le _)))).mono ?_;rw [Uy];rintro e w14 ⟨rfl,jK⟩;have j9:Hid (Ext w7 w14):=Ext.trans (Ext.trans j8.out ((Below.refl _ _).alloc (A7 _) _)) jK;clear jK
   go_wp2_with fail
   refine (MJ (w14.alloc (.cells #[.int .u8 98,.int .i64 0,.int .u8 97,.int .i64 0] 55)) (w14.heap.size+1) 1 [⟨some ⟨w14.heap.size,0,none⟩,2,2⟩] [[⟨98,0⟩,⟨97,0⟩]] (AA ..) rfl rfl _ rfl (by decide) (Om (G1 Fy (heap_alloc_new _ _) rfl (Nat.zero_le _) rfl (show (2:Nat)≤1000000 by decide)))).mono ?_;rw [Uz];rintro e w15 ⟨rfl,jL⟩;have Ji:Hid (Ext w7 w15):=Ext.trans (Ext.trans j9.out ((Below.refl _ _).alloc (A7 _) _)) jL;clear jL;obtain ⟨w16,jR,jg,jM⟩:=Qc w15 41 (by decide);have j3:=A6 jg;have Js:Hid (Ext w7 w16):=Ext.trans Ji.out jM;have jS:(Instr.makeSlice 39 (.int .i64 41) (.int .i64 41)).run Tryz.prog w15=.ok (.slice (some ⟨w15.heap.size,0,none⟩) 41 41) w16:=jR;clear jg jM jR
   go_wp2_with fail
   clear jS;have Kq:J2 w16 0 (.slice (some ⟨w15.heap.size,0,none⟩) 41 41) (List.replicate 41 []):=⟨_,j3.out,rfl,fun k x s h1 h2=>by
    have h3:=List.mem_of_getElem? h1;have h4:=List.mem_of_getElem? h2;rw [List.eq_of_mem_replicate h3,List.eq_of_mem_replicate h4];exact As.nil _ _ _⟩
   have hv:=H4 (List.replicate 41 []) (some ⟨w15.heap.size,0,none⟩) 41 w16 Kq.slotS.1 (by rw [List.length_replicate];decide);rw [List.length_replicate,V0] at hv;refine hv.mono ?_;rintro e w17 ⟨rfl,jN⟩;have Jx:Hid (Ext w7 w17):=Ext.trans Js.out jN;clear jN
   go_wp2_with fail
   go_ret;exact ⟨rfl,Ext.trans k1.out Jx.out⟩
open Go.ChangeShapes Go.WideShapes Go.ChangeAt Go.RowKit Fl
structure PL where
 raw:SH
 W:S9
 L:S8
def PL.val (x:PL):Value:=.agg #[.int .u8 x.raw.M,.int .u8 x.raw.A,.slice x.raw.a x.raw.len x.raw.cap,.slice x.W.a x.W.len x.W.cap,.slice x.L.a x.L.len x.L.cap]
structure CaseOk (w:World) (x:PL):Prop where
 raw:SI w x.raw
 W:SB w x.W
 L:Tq w x.L
section
variable {H:Type} {enc:TypeId × Value→H} {w:World} {base:Nat} {spare:Nat→Bool} {held:Bool} {d:DataW H} {p:List MemPlace} {r:Reach} {b0:Nat} {v:Value}
theorem On {fuel:Nat} {cs:List Value} {x:DataW H × List MemPlace} (h:DataW.trod enc Tryz.prog w base spare held fuel 24 cs=some x) (ja:cs.length=3):∃ q:SH,cs=[.int .u8 q.M,.int .u8 q.A,.slice q.a q.len q.cap]∧SI w q:=by
 obtain ⟨y0,y1,y2,n,_,_,h0,h1,h2⟩:=Go.Deep.trod_struct3 Tryz.underlying24 h
 match cs,ja with
 | [c0,c1,c2],_ =>
  obtain ⟨M,e0,_,w0⟩:=DataW.trod_int Tryz.underlying5 h0;obtain ⟨A,e1,_,w1⟩:=DataW.trod_int Tryz.underlying5 h1;obtain ⟨a,len,cap,Q,e2,hQ⟩:=slice_raws h2;have g0:c0=.int .u8 M:=List.head_eq_of_cons_eq e0;have g1:c1=.int .u8 A:=List.head_eq_of_cons_eq e1;have g2:c2=.slice a len cap:=List.head_eq_of_cons_eq e2;subst g0 g1 g2;exact ⟨⟨M,A,a,len,cap,Q⟩,rfl,(bounds_u8 w0).1,(bounds_u8 w0).2,(bounds_u8 w1).1,(bounds_u8 w1).2,hQ⟩
open Go.Deep in
theorem MK {fuel:Nat} {cs:List Value} {x:DataW H × List MemPlace} (h:DataW.trod enc Tryz.prog w base spare held fuel 25 cs=some x):∃ q:S9,cs=[.slice q.a q.len q.cap]∧SB w q:=by
 rcases open_slice1 Tryz.underlying25 (by kernel_rfl) h with ⟨h0,_⟩ | ⟨ad,len,cap,m,n,V,D,Pl,h0,hba,hl,ja,jd,_,jb⟩
 · exact ⟨⟨none,0,0,fun _=>default⟩,h0,fun i hi=>absurd hi (Nat.not_lt_zero i),by show 0≤_;omega⟩
 ·have hlm:len≤m:=by rw [jd];split <;> omega
  have jc:len≤9223372036854775807:=by unfold maxLen at ja;omega
  have key:∀ i,i<len→∃ q:BR,w.cell? (ad.add i)=some (.slice q.a q.n q.c)∧Ce w q.a q.n q.Z∧q.n≤9223372036854775807:=fun i hi=>by
   obtain ⟨h1,h2⟩:=jb i (by omega);obtain ⟨a1,l1,c1,Z,hz,g1,g2⟩:=Go.Proofs.YthjmdgejnakcmaaGreatDoor.slice_bytes h2;have:V i=.slice a1 l1 c1:=List.head_eq_of_cons_eq hz;rw [this] at h1;exact ⟨⟨a1,l1,c1,Z⟩,h1,g1,g2⟩
  obtain ⟨Q,hQ⟩:=choose_lt (α:=BR) key;refine ⟨⟨some ad,len,cap,Q⟩,h0,fun i (hi:i<len)=>?_,jc⟩;obtain ⟨b,o,sp⟩:=ad;have hs:=World.cell?_spot (hQ 0 (by omega)).1;obtain rfl:sp=none:=by simpa [Addr.add] using hs
  have hk:=hQ i hi;have hb:=World.block_lt_of_cell? w _ hk.1;rw [Di] at hb;rw [addr_add] at hk;exact ⟨b,o,rfl,hb,hk⟩
theorem Qd (hv:Value.okWide Tryz.prog w r b0 28 v) (h:DataW.Trod enc Tryz.prog w base spare held 28 v d p):∃ x:PL,v=x.val∧CaseOk w x:=by
 obtain ⟨cs,rfl,jg⟩:∃ cs,v=.agg cs∧cs.size=5:=by
  unfold Value.okWide at hv;rw [Tryz.underlying28] at hv;obtain ⟨cs,h,h2,_⟩:=hv;exact ⟨cs,h,h2.trans (by kernel_rfl)⟩
 obtain ⟨f,hf⟩:=h;obtain ⟨y0,y1,y2,n,_,_,h0,h1,h2⟩:=Go.Deep.trod_struct3 Tryz.underlying28 hf;have jd:∃ c0 c1 c2 c3 c4,cs=#[c0,c1,c2,c3,c4]:=by
  obtain ⟨l⟩:=cs
  match l,jg with
  | [c0,c1,c2,c3,c4],_=>exact ⟨c0,c1,c2,c3,c4,rfl⟩
 obtain ⟨c0,c1,c2,c3,c4,rfl⟩:=jd;have ja:Tryz.prog.cellsOf 24=3:=by kernel_rfl
 have jb:Tryz.prog.cellsOf 25=1:=by kernel_rfl
 have jc:Tryz.prog.cellsOf 26=1:=by kernel_rfl
 rw [ja] at h0;rw [jb] at h1;rw [jc] at h2;obtain ⟨q,e0,hq⟩:=On (cs:=[c0,c1,c2]) h0 rfl;obtain ⟨qW,e1,jf⟩:=MK (cs:=[c3]) h1;obtain ⟨a,len,cap,Z,e2,hZ,je⟩:=Go.Proofs.YthjmdgejnakcmaaGreatDoor.slice_bytes (cs:=[c4]) h2;simp only [List.cons.injEq,and_true] at e0 e1 e2;obtain ⟨rfl,rfl,rfl⟩:=e0;subst e1 e2;exact ⟨⟨q,qW,⟨a,len,cap,Z⟩⟩,rfl,hq,jf,⟨hZ,je⟩⟩
end
open Go.RowKit Fl
theorem letsT {P r:List UInt8}:letsC (CD P) r=if P.take r.length=r then some 0 else none:=by
 induction r generalizing P with
 | nil=>rw [GE];simp
 | cons c r ih =>
  cases P with
  | nil=>rfl
  | cons p P =>
   have e0:letsC (CD (p :: P)) (c :: r)=(match Hm [⟨p,0⟩] c with
    | none=>none
    | some a=>(letsC (CD P) r).map (a+·)):=rfl
   by_cases e:p=c
   ·subst e;have e1:Hm [⟨p,0⟩] p=some 0:=by simp [Hm]
    rw [e0,e1];simp only;rw [ih];by_cases h:P.take r.length=r
    · rw [if_pos h,if_pos (by rw [List.length_cons,List.take_succ_cons,h])];rfl
    ·have ja:¬ List.take (p :: r).length (p :: P)=p :: r:=fun h9=>h (List.cons.inj h9).2;rw [if_neg h,if_neg ja];rfl
   ·have e1:Hm [⟨p,0⟩] c=none:=by simp [Hm,e]
    have ja:¬ List.take (c :: r).length (p :: P)=c :: r:=fun h9=>e (List.cons.inj h9).1;rw [e0,e1,if_neg ja]
theorem Oo (P:List UInt8) (i:Nat):(CD P).drop i=CD (P.drop i):=by unfold CD;rw [List.map_drop]
theorem KO {P r:List UInt8} {i:Nat}:letsC ((CD P).drop i) r=if (P.drop i).take r.length=r then some 0 else none:=by rw [Oo,letsT]
theorem PM {R:List Rl} {L:List Slt} {fol:Nat→List UInt8→Option Nat} {i:Nat} {t:Stt} {c:Nat} (h:Rt R L fol i t c):t.1<8:=by
 cases h with
 | start=>decide
 | step _ _ hf _ _ _=>have:=CY.1 hf;show Int.toNat _<8;omega
section
variable {R:List Rl} {L:List Slt} {fol:Nat→List UInt8→Option Nat} {i N B D n:Nat} {q:List Stt} {M:Nat→Ent} {t:Stt} {ct:Nat}
def G3 (R:List Rl) (L:List Slt) (fol:Nat→List UInt8→Option Nat) (i:Nat) (M:Nat→Ent) (t:Stt):Prop :=
 ∀ c r t' d,r.inp.size=0→look (M i) t=some c→D3 R L fol i t r t' d→∃ c',look (M i) t'=some c'∧c'≤c+d
theorem G3.falls {M':Nat→Ent} (h:G3 R L fol i M t) (hf:JX M M') (he:look (M' i) t=look (M i) t):G3 R L fol i M' t:=fun c r t' d hz hc ja=>by
 rw [he] at hc;obtain ⟨c1,h1,l1⟩:=h c r t' d hz hc ja;obtain ⟨c2,h2,l2⟩:=hf _ _ _ h1;exact ⟨c2,h2,by omega⟩
structure IE (R:List Rl) (L:List Slt) (fol:Nat→List UInt8→Option Nat) (i N B D:Nat) (q:List Stt) (n:Nat) (M:Nat→Ent):Prop where
 inv:Inv R L fol i M
 bnd:Bnd N i B D M
 qs:∀ t∈q,∃ c,look (M i) t=some c
 pend:∀ t c,look (M i) t=some c→G3 R L fol i M t∨t∈q.drop n
structure Ig (R:List Rl) (L:List Slt) (fol:Nat→List UInt8→Option Nat) (i N B D:Nat) (q:List Stt) (n:Nat) (M:Nat→Ent) (t:Stt) (ct k:Nat):Prop where
 inv:Inv R L fol i M
 bnd:Bnd N i B D M
 qs:∀ t∈q,∃ c,look (M i) t=some c
 here:look (M i) t=some ct
 pend:∀ u c,u≠t→look (M i) u=some c→G3 R L fol i M u∨u∈q.drop (n+1)
 did:∀ r∈R.take k,r.inp.size=0→∀ t' d,D3 R L fol i t r t' d→∃ c',look (M i) t'=some c'∧c'≤ct+d
theorem IE.enter (h:IE R L fol i N B D q n M) (hn:n<q.length) (hq:q[n]=t) (hc:look (M i) t=some ct):Ig R L fol i N B D q n M t ct 0 where
 inv:=h.inv
 bnd:=h.bnd
 qs:=h.qs
 here:=hc
 pend u c hu hl:=by
  rcases h.pend u c hl with h1 | h1
  · exact .inl h1
  ·rw [AK hn] at h1;rcases Aj.1 h1 with e | h1
   · exact absurd (e.trans hq) hu
   · exact .inr h1
 did r hr:=by simp at hr
theorem Ig.leave {k:Nat} (h:Ig R L fol i N B D q n M t ct k) (hk:R.length≤k):IE R L fol i N B D q (n+1) M where
 inv:=h.inv
 bnd:=h.bnd
 qs:=h.qs
 pend u c hl:=by
  by_cases hu:u=t
  ·subst hu;refine .inl fun c0 r t' d hz ja jb=>?_;rw [h.here] at ja;cases ja;exact h.did r (by rw [AM hk];exact jb.1) hz t' d jb
  · exact h.pend u c hu hl
theorem IE.start (ja:Inv R L fol i M) (hb:Bnd N i B D M) (hq:∀ t,t∈q↔∃ c,look (M i) t=some c):IE R L fol i N B D q 0 M where
 inv:=ja
 bnd:=hb
 qs t ht:=(hq t).1 ht
 pend t c hc:=.inr (by rw [List.drop_zero];exact (hq t).2 ⟨c,hc⟩)
theorem IE.done (h:IE R L fol i N B D [] n M):∀ t,G3 R L fol i M t:=fun t c r t' d hz hc ja=>by
 rcases h.pend t c hc with h1 | h1
 · exact h1 c r t' d hz hc ja
 · simp at h1
theorem IE.round {todo news:List Stt} (h:IE R L fol i N B D (todo ++ news) todo.length M):IE R L fol i N B D news 0 M where
 inv:=h.inv
 bnd:=h.bnd
 qs t ht:=h.qs t (List.mem_append_right _ ht)
 pend t c hc:=(h.pend t c hc).imp id fun h1=>by rw [List.drop_left] at h1;rw [List.drop_zero];exact h1
theorem ES {k:Nat} {r x:Rl} (hk:R[k]? = some r) (hx:x∈R.take (k+1)):x∈R.take k∨x=r:=by
 rw [List.take_add_one,hk] at hx;rcases Ak.1 hx with h | h
 · exact .inl h
 · exact .inr (by simpa using h)
theorem Ig.skip {k:Nat} {r:Rl} (h:Ig R L fol i N B D q n M t ct k) (hk:R[k]? = some r) (jb:r.inp.size=0→∀ t' d,¬ D3 R L fol i t r t' d):Ig R L fol i N B D q n M t ct (k+1) :=
 ⟨h.inv,h.bnd,h.qs,h.here,h.pend,fun x hx hz t' d ja=>by
  rcases ES hk hx with hx | rfl
  · exact h.did x hx hz t' d ja
  · exact absurd ja (jb hz t' d)⟩
theorem GR {r:Rl} {t' u:Stt} {d e:Nat} (h:D3 R L fol i t r t' d) (h2:D3 R L fol i t r u e):t'=u∧d=e:=by
 obtain ⟨_,_,_,k,n',h4,h5,rfl,rfl⟩:=h;obtain ⟨_,_,_,k2,n2,h6,h7,rfl,rfl⟩:=h2;rw [h4] at h6;rw [h5] at h7;cases h6;cases h7;exact ⟨rfl,rfl⟩
theorem Ig.same {k old d:Nat} {r:Rl} {t':Stt} (h:Ig R L fol i N B D q n M t ct k) (hk:R[k]? = some r) (jc:D3 R L fol i t r t' d) (ho:look (M i) t'=some old) (jb:old≤ct+d):Ig R L fol i N B D q n M t ct (k+1) :=
 ⟨h.inv,h.bnd,h.qs,h.here,h.pend,fun x hx hz u e ja=>by
  rcases ES hk hx with hx | rfl
  · exact h.did x hx hz u e ja
  · obtain ⟨rfl,rfl⟩:=GR jc ja;exact ⟨old,ho,jb⟩⟩
theorem Ig.put {k d:Nat} {r:Rl} {t':Stt} (h:Ig R L fol i N B D q n M t ct k) (hk:R[k]? = some r) (hz:r.inp.size=0) (jh:D3 R L fol i t r t' d) (hN:t'.2<N) (hD:d≤D) (hn:n<q.length) (je:∀ x,look (M i) t'=some x→ct+d<x) :
  Ig R L fol i N B D (q ++ [t']) n (Bt M i t' (ct+d)) t ct (k+1):=by
 have jj:t'≠t:=fun e=>by
  have:=je ct (by rw [e];exact h.here);omega
 have ja:JX M (Bt M i t' (ct+d)):=IL fun x hx=>Nat.le_of_lt (je x hx);have jb:look (Bt M i t' (ct+d) i) t=some ct:=by
  rw [Bf,if_neg (fun e=>jj e.2)];exact h.here
 have jf:=fun j u c (hl:look (Bt M i t' (ct+d) j) u=some c)=>show Rt R L fol j u c by
  rw [Bf] at hl;split at hl
  ·rename_i e;obtain ⟨rfl,rfl⟩:=e;cases hl;have h9:=(h.inv.sound j t ct h.here).go jh;rw [hz] at h9;exact h9
  · exact h.inv.sound j u c hl
 have jd:t'.1<8:=(PM (jf i t' (ct+d) (by rw [Bf,if_pos ⟨rfl,rfl⟩])))
 refine ⟨h.inv.falls ja jf,h.bnd.put h.here hD jd hN je,fun u hu=>?_,jb,fun u c hu hl=>?_,fun x hx jk u e jg=>?_⟩
 ·rcases Ak.1 hu with hu | hu
  ·obtain ⟨c,hc⟩:=h.qs u hu;obtain ⟨c',jc,_⟩:=ja i u c hc;exact ⟨c',jc⟩
  ·rw [AJ.1 hu];exact ⟨ct+d,by rw [Bf,if_pos ⟨rfl,rfl⟩]⟩
 ·rw [Bf] at hl;by_cases hx:t'=u
  ·refine .inr ?_;rw [List.drop_append_of_le_length (by omega)];exact List.mem_append_right _ (AJ.2 hx.symm)
  ·rw [if_neg fun e=>hx e.2] at hl;rcases h.pend u c hu hl with h1 | h1
   ·refine .inl (h1.falls ja ?_);rw [Bf,if_neg fun e=>hx e.2]
   ·refine .inr ?_;rw [List.drop_append_of_le_length (by omega)];exact List.mem_append_left _ h1
 ·rcases ES hk hx with hx | rfl
  ·obtain ⟨c',jc,hle⟩:=h.did x hx jk u e jg;obtain ⟨c2,ji,hle2⟩:=ja _ _ _ jc;exact ⟨c2,ji,by omega⟩
  ·obtain ⟨rfl,rfl⟩:=GR jh jg;exact ⟨ct+d,by rw [Bf,if_pos ⟨rfl,rfl⟩],A7 _⟩
structure H9 (R:List Rl) (L:List Slt) (fol:Nat→List UInt8→Option Nat) (i N B D:Nat) (E:Ent) (M:Nat→Ent) (rest:Ent) (k:Nat) (p:Stt × Nat):Prop where
 inv:Inv R L fol i M
 bnd:Bnd N i B D M
 same:M i=E
 she:∀ t,G3 R L fol i M t
 don:∀ u∈E,u ∉ rest→u≠p→∀ r∈R,r.inp.size≠0→∀ t' d,D3 R L fol i u.1 r t' d→∃ c',look (M (i+r.inp.size)) t'=some c'∧c'≤u.2+d
 did:∀ r∈R.take k,r.inp.size≠0→∀ t' d,D3 R L fol i p.1 r t' d→∃ c',look (M (i+r.inp.size)) t'=some c'∧c'≤p.2+d
structure Kh (R:List Rl) (L:List Slt) (fol:Nat→List UInt8→Option Nat) (i N B D:Nat) (E:Ent) (M:Nat→Ent) (rest:Ent):Prop where
 inv:Inv R L fol i M
 bnd:Bnd N i B D M
 same:M i=E
 she:∀ t,G3 R L fol i M t
 don:∀ u∈E,u ∉ rest→∀ r∈R,r.inp.size≠0→∀ t' d,D3 R L fol i u.1 r t' d→∃ c',look (M (i+r.inp.size)) t'=some c'∧c'≤u.2+d
variable {E rest:Ent} {p:Stt × Nat} {k d:Nat} {r:Rl} {t':Stt}
theorem Kh.start (h1:Inv R L fol i M) (h2:Bnd N i B D M) (h3:∀ t,G3 R L fol i M t):Kh R L fol i N B D (M i) M (M i) :=
 ⟨h1,h2,rfl,h3,fun u hu hn=>absurd hu hn⟩
theorem Kh.enter (h:Kh R L fol i N B D E M rest):H9 R L fol i N B D E M (BU rest p) 0 p :=
 ⟨h.inv,h.bnd,h.same,h.she,fun u hu hn ja=>h.don u hu fun hr=>hn (BW.2 ⟨hr,ja⟩),fun r hr=>by simp at hr⟩
theorem H9.leave (h:H9 R L fol i N B D E M rest k p) (hk:R.length≤k):Kh R L fol i N B D E M rest :=
 ⟨h.inv,h.bnd,h.same,h.she,fun u hu hn r hr hz t' d ja=>by
  by_cases e:u=p
  · subst e;exact h.did r (by rw [AM hk];exact hr) hz t' d ja
  · exact h.don u hu hn e r hr hz t' d ja⟩
theorem H9.skip (h:H9 R L fol i N B D E M rest k p) (hk:R[k]? = some r) (jb:r.inp.size≠0→∀ t' d,¬ D3 R L fol i p.1 r t' d):H9 R L fol i N B D E M rest (k+1) p :=
 ⟨h.inv,h.bnd,h.same,h.she,h.don,fun x hx hz t' d ja=>by
  rcases ES hk hx with hx | rfl
  · exact h.did x hx hz t' d ja
  · exact absurd ja (jb hz t' d)⟩
theorem H9.no (h:H9 R L fol i N B D E M rest k p) (hk:R[k]? = some r) (jc:D3 R L fol i p.1 r t' d) {old:Nat} (ho:look (M (i+r.inp.size)) t'=some old) (jb:old≤p.2+d):H9 R L fol i N B D E M rest (k+1) p :=
 ⟨h.inv,h.bnd,h.same,h.she,h.don,fun x hx hz u e ja=>by
  rcases ES hk hx with hx | rfl
  · exact h.did x hx hz u e ja
  · obtain ⟨rfl,rfl⟩:=GR jc ja;exact ⟨old,ho,jb⟩⟩
theorem H9.put (h:H9 R L fol i N B D E M rest k p) (hp:p∈E) (hk:R[k]? = some r) (hz:r.inp.size≠0) (jg:D3 R L fol i p.1 r t' d) (hN:t'.2<N) (hD:d≤D) (jf:∀ x,look (M (i+r.inp.size)) t'=some x→p.2+d<x) :
  H9 R L fol i N B D E (Bt M (i+r.inp.size) t' (p.2+d)) rest (k+1) p:=by
 have hl:look (M i) p.1=some p.2:=by
  refine Bd (h.bnd.keys i) ?_;rw [h.same];exact hp
 have ja:JX M (Bt M (i+r.inp.size) t' (p.2+d)):=IL fun x hx=>Nat.le_of_lt (jf x hx);have je:=fun j u c (jb:look (Bt M (i+r.inp.size) t' (p.2+d) j) u=some c)=>show Rt R L fol j u c by
  rw [Bf] at jb;split at jb
  ·rename_i e;obtain ⟨rfl,rfl⟩:=e;cases jb;exact (h.inv.sound i _ _ hl).go jg
  · exact h.inv.sound j u c jb
 have jd:t'.1<8:=(PM (je _ t' (p.2+d) (by rw [Bf,if_pos ⟨rfl,rfl⟩])))
 have hi:Bt M (i+r.inp.size) t' (p.2+d) i=M i:=by unfold Bt;rw [if_neg (by omega)]
 refine ⟨h.inv.falls ja je,h.bnd.put hl hD jd hN jf,hi.trans h.same,fun t=>(h.she t).falls ja (by rw [hi]),fun u hu hn jj r2 jk jl t2 d2 jc=>?_,fun x hx jm u e jc=>?_⟩
 ·obtain ⟨c',h1,h2⟩:=h.don u hu hn jj r2 jk jl t2 d2 jc;obtain ⟨c2,h3,h4⟩:=ja _ _ _ h1;exact ⟨c2,h3,by omega⟩
 ·rcases ES hk hx with hx | rfl
  ·obtain ⟨c',jh,hle⟩:=h.did x hx jm u e jc;obtain ⟨c2,ji,hle2⟩:=ja _ _ _ jh;exact ⟨c2,ji,by omega⟩
  ·obtain ⟨rfl,rfl⟩:=GR jg jc;exact ⟨p.2+d,by rw [Bf,if_pos ⟨rfl,rfl⟩],A7 _⟩
theorem Kh.shut (h:Kh R L fol i N B D E M []):∀ t,Shut R L fol i M t:=fun t c r t' d hc ja=>by
 by_cases hz:r.inp.size=0
 · rw [hz];exact h.she t c r t' d hz hc ja
 · exact h.don (t,c) (by rw [← h.same];exact C6 hc) List.not_mem_nil r ja.1 hz t' d ja
theorem LX (h:∀ t,G3 R L fol L.length M t):∀ t,Shut R L fol L.length M t:=fun t c r t' d hc ja=>by
 by_cases hz:r.inp.size=0
 · rw [hz];exact h t c r t' d hz hc ja
 ·obtain ⟨_,_,_,k,n',h4,_⟩:=ja;have:=GF h4;rw [BZ,List.drop_length] at this;exact absurd (Nat.le_zero.1 this) hz
end
def Ki (acc:Int) (n:Nat) (p:Stt × Nat):Prop:=p.1.2=n∧DX acc p.1.1=true
def GY (acc:Int) (n:Nat) (E rest:Ent) (v:Int):Prop :=
 (v = -1∧∀ p∈E,p ∉ rest→¬ Ki acc n p)∨∃ p∈E,p ∉ rest∧Ki acc n p∧v=(p.2:Int)∧∀ u∈E,u ∉ rest→Ki acc n u→p.2≤u.2
theorem GY.start (acc:Int) (n:Nat) (E:Ent):GY acc n E E (-1):=.inl ⟨rfl,fun p hp hn=>absurd hp hn⟩
theorem GY.skip {acc:Int} {n:Nat} {E rest:Ent} {v:Int} {p:Stt × Nat} (h:GY acc n E rest v) (ja:¬ Ki acc n p):GY acc n E (BU rest p) v:=by
 have hk:∀ u,u ∉ BU rest p→Ki acc n u→u ∉ rest:=fun u hu he hr=>hu (BW.2 ⟨hr,fun e=>ja (e ▸ he)⟩);rcases h with ⟨rfl,h⟩ | ⟨u,h1,h2,h3,rfl,h4⟩
 · exact .inl ⟨rfl,fun u hu hn he=>h u hu (hk u hn he) he⟩
 · exact .inr ⟨u,h1,fun e=>h2 (BW.1 e).1,h3,rfl,fun x hx hn he=>h4 x hx (hk x hn he) he⟩
theorem GY.keep {acc:Int} {n:Nat} {E rest:Ent} {v:Int} {p:Stt × Nat} (h:GY acc n E rest v) (h0:¬ v<0) (hle:¬ (p.2:Int)<v):GY acc n E (BU rest p) v:=by
 rcases h with ⟨rfl,h⟩ | ⟨u,h1,h2,h3,rfl,h4⟩
 · exact absurd (by decide) h0
 ·refine .inr ⟨u,h1,fun e=>h2 (BW.1 e).1,h3,rfl,fun x hx hn he=>?_⟩;by_cases e:x=p
  · subst e;omega
  · exact h4 x hx (fun hr=>hn (BW.2 ⟨hr,e⟩)) he
theorem GY.take {acc:Int} {n:Nat} {E rest:Ent} {v:Int} {p:Stt × Nat} (h:GY acc n E rest v) (hp:p∈E) (he:Ki acc n p) (hv:v<0∨(p.2:Int)<v):GY acc n E (BU rest p) (p.2:Int):=by
 refine .inr ⟨p,hp,fun e=>(BW.1 e).2 rfl,he,rfl,fun x hx hn hex=>?_⟩;by_cases e:x=p
 · subst e;exact A7 _
 ·have ja:x ∉ rest:=fun hr=>hn (BW.2 ⟨hr,e⟩);rcases h with ⟨rfl,h⟩ | ⟨u,h1,h2,h3,rfl,h4⟩
  · exact absurd hex (h x hx ja)
  ·have:=h4 x hx ja hex;omega
def UQ (R:List Rl) (acc:Int) (L:List Slt) (X:List UInt8) (v:Int):Prop:=(v = -1∧∀ c,¬ Whole R acc L L.length X c)∨∃ c:Nat,v=(c:Int)∧CT (Whole R acc L L.length X) c
theorem UR {R:List Rl} {acc:Int} {L:List Slt} {X:List UInt8} {M:Nat→Ent} {v:Int} (ja:Inv R L (C1 X) L.length M) (hs:∀ t,Shut R L (C1 X) L.length M t) (hk:Cs (M L.length)) (h:GY acc X.length (M L.length) [] v):UQ R acc L X v:=by
 have hA:∀ c,Whole R acc L L.length X c→∃ u∈M L.length,Ki acc X.length u∧u.2≤c:=fun c ⟨m,h1,h2⟩=>by
  obtain ⟨c',h3,h4⟩:=ja.least hs (rtW.2 h2);exact ⟨((m,X.length),c'),C6 h3,⟨rfl,h1⟩,h4⟩
 have hB:∀ u∈M L.length,Ki acc X.length u→Whole R acc L L.length X u.2:=fun u hu he=>by
  obtain ⟨⟨m,n⟩,c⟩:=u;obtain ⟨h1,h2⟩:=he;simp only at h1 h2;subst h1;exact ⟨m,h2,rtW.1 (ja.sound _ _ _ (Bd hk hu))⟩
 rcases h with ⟨rfl,h⟩ | ⟨u,h1,_,h3,rfl,h4⟩
 ·refine .inl ⟨rfl,fun c hc=>?_⟩;obtain ⟨u,hu,he,_⟩:=hA c hc;exact h u hu List.not_mem_nil he
 ·refine .inr ⟨u.2,rfl,hB u h1 h3,fun c hc=>?_⟩;obtain ⟨x,hx,he,jb⟩:=hA c hc;exact AC (h4 x hx List.not_mem_nil he) jb
open Go.RowKit Go.WideShapes Go.Maps Go.WideMaps Fl
def CB:El Stt:=⟨91,85,EH,fun t=>.string (keyBytes [.int .i64 (t.1:Int),.int .i64 (t.2:Int)]),fun t=>t.1<1000000∧t.2<1000000⟩
theorem Sd:(85:TypeId)<Tryz.prog.types.size:=of_decide_eq_true (by kernel_rfl)
theorem Se:KeyLaw Tryz.prog 85:=deep_law_laid L3 (m:=2) (by omega) Sd (by kernel_rfl) (by rw [Tryz.underlying85])
theorem Bx:CB.Ok where
 keyed:=Keyed.of_law Se
 und:=Tryz.underlying91
 key
   x hx:=by
  have h1:Tryz.prog.keyType 85=true:=by kernel_rfl
  have hc:Tryz.prog.cellsOf 85=2:=by kernel_rfl
  have ja:Tryz.prog.cellsOf 3=1:=by kernel_rfl
  have hf:(EH x).formed Tryz.prog 85=true:=by simp [EH,Value.formed,Tryz.underlying85,hc]
  have w1:(Lit.int .i64 (x.1:Int)).wf=true:=O0 (by have:=hx.1;omega);have w2:(Lit.int .i64 (x.2:Int)).wf=true:=O0 (by have:=hx.2;omega);obtain ⟨n,hn⟩:∃ n,Tryz.prog.types.size+1=n+2:=⟨Tryz.prog.types.size - 1,by
   have:1≤Tryz.prog.types.size:=of_decide_eq_true (by kernel_rfl);omega⟩
  have hl:Tryz.prog.keyLits (Tryz.prog.types.size+1) 85 [.int .i64 (x.1:Int),.int .i64 (x.2:Int)]=some [.int .i64 (x.1:Int),.int .i64 (x.2:Int)]:=by
   rw [hn];simp [Program.keyLits,Tryz.underlying85,Tryz.underlying3,hc,ja,w1,w2]
  show keyOf Tryz.prog 85 (EH x)=_;unfold keyOf;rw [Tryz.underlying85];simp only [h1,hf,Bool.and_self,if_true];have jb:(EH x).cells.toList=[.int .i64 (x.1:Int),.int .i64 (x.2:Int)]:=by simp [EH,Value.cells]
  rw [jb,hl];rfl
 inj x y h:=by
  simp [CB,EH] at h;exact Prod.ext (by omega) (by omega)
theorem MpG.run_len {α:Type} [DecidableEq α] {T:El α} {w:World} {g:Nat} {E:List (α × Nat)} (hT:T.Ok) (h:MpG T w g E) (ty:TypeId):(Builtin.len_ #[T.mt] ty #[.map (some g)]).run Tryz.prog w=.ok (.int .i64 (E.length:Int)) w:=by
 obtain ⟨D,h1,h2⟩:=h;have:=h1.len hT.und ty;rw [h2.size] at this;exact this
def Tn (g:Nat) (w w':World):Prop:=w.grownBy w' (some g)
section
variable {g:Nat} {w w1 w2:World}
theorem Tn.of (h:Ext w w1):Tn g w w1:=⟨Below.os h,Below.tape h,Below.output h,Below.size h,fun k hk _=>Below.block h k hk⟩
theorem Tn.trans (h:Tn g w w1) (h2:Tn g w1 w2):Tn g w w2 :=
 ⟨h2.os.trans h.os,h2.tape.trans h.tape,h2.output.trans h.output,AC h.size h2.size,fun k hk ja=>(h2.block k (AB hk h.size) ja).trans (h.block k hk ja)⟩
theorem Tn.grown {row:Option Nat} (h:Tn g w w1) (hg:w1.grownBy w2 row) (hr:∀ q,row=some q→w.heap.size≤q):Tn g w w2 :=
 ⟨hg.os.trans h.os,hg.tape.trans h.tape,hg.output.trans h.output,AC h.size hg.size,fun k hk ja=>(hg.block k (AB hk h.size) fun e=>by have:=hr k e.symm;omega).trans (h.block k hk ja)⟩
theorem Tn.kc (h:Tn g w w1) {α:Type} [DecidableEq α] {T:El α} {E:List (α × Nat)} (hm:MpG T w g E):Kc w w1:=Kc.map h hm.obj
theorem Tn.below (h:Tn g w w1) {B:Nat} (hB:B≤g) (hw:B≤w.heap.size):Below B w w1 :=
 ⟨h.os,h.tape,h.output,h.size,fun k hk=>h.block k (by omega) fun e=>by injection e with e;omega⟩
theorem Tn.row {β:Type} {T2:Cu β} {C:Nat} {v:Value} {L:List β} (ho:As T2 w C v L) {α:Type} [DecidableEq α] {T:El α} {E:List (α × Nat)} (hm:MpG T w g E) (h:Tn g w w1):As T2 w1 C v L :=
 ho.keep fun q hq=>h.block q (ho.lt q hq) fun e=>hm.not_row ho (by rw [hq,e])
end
section
variable {w:World} {g m n c old:Nat} {E:Ent}
theorem Ih (hM:MpG CB w g E) (ja:CB.ok (m,n)) {w1:World} (hx:Ext w w1) :
  (Instr.lookup 91 (.map (some g)) (.agg #[.int .i64 (m:Int),.int .i64 (n:Int)]) true).run Tryz.prog w1=.ok (.tuple #[.int .i64 (((look E (m,n)).getD 0:Nat):Int),.bool (look E (m,n)).isSome]) w1 :=
 (hM.kept (Below.block hx _ hM.lt)).look_ok Bx (x:=(m,n)) ja
theorem PN (hM:MpG CB w g E) (ja:CB.ok (m,n)) (hl:look E (m,n)=some c) :
  (Instr.lookup 91 (.map (some g)) (.agg #[.int .i64 (m:Int),.int .i64 (n:Int)]) false).run Tryz.prog w=.ok (.int .i64 (c:Int)) w:=by
 have h:=hM.look Bx (x:=(m,n)) ja;rw [hl] at h;exact h
theorem KP (hM:MpG CB w g E) (jb:CB.ok (m,n)) (hE:E.length<1000000) (hc:c≤1152921504606846976) (ja:look E (m,n)=some old) (hle:old≤c) :
  Calls Tryz.prog 75 #[.map (some g),.agg #[.int .i64 (m:Int),.int .i64 (n:Int)],.int .i64 (c:Int)] w fun e w'=>e=.returned (.bool false)∧Ext w w':=by
 have hleI:(old:Int)≤(c:Int):=by omega
 have HM:=A6 hM;have HOK:=A6 jb;have HLK:=A6 ja;have HE:=A6 hE;have jc:Ext w (w.alloc (.cells #[.int .i64 (m:Int),.int .i64 (n:Int)] 85)):=(Below.refl _ _).alloc (A7 _) _;have jd:=A6 jc;have hl:=Ih hM jb jc;rw [ja] at hl;simp only [Option.getD,Option.isSome] at hl;clear hM jb ja hE jc
 go_enter Tryz.func75,Tryz.ntmps75
 go_wp2_with fail
 go_ret;exact ⟨rfl,jd.out⟩
theorem Qe (hM:MpG CB w g E) (jb:CB.ok (m,n)) (hE:E.length<1000000) (hc:c≤1152921504606846976) (ja:look E (m,n)=none) :
  Calls Tryz.prog 75 #[.map (some g),.agg #[.int .i64 (m:Int),.int .i64 (n:Int)],.int .i64 (c:Int)] w fun e w'=>e=.returned (.bool true)∧MpG CB w' g (Cv E (m,n) c)∧Tn g w w':=by
 have HM:=A6 hM;have jj:=A6 jb;have HLK:=A6 ja;have HE:=A6 hE;have jc:Ext w (w.alloc (.cells #[.int .i64 (m:Int),.int .i64 (n:Int)] 85)):=(Below.refl _ _).alloc (A7 _) _;have jd:=A6 jc;have hl:=Ih hM jb jc;rw [ja] at hl;simp only [Option.getD,Option.isSome] at hl;clear hM jb ja hE jc
 go_enter Tryz.func75,Tryz.ntmps75
 have jh:=A6 (HM.out.kept (Below.block jd.out _ HM.out.lt))
 go_wp2_with (at_mapUpdate;refine EG Bx jh.out jj.out hc HE.out rfl _ _ _ rfl rfl rfl rfl ?_;intro w9 jf je;have ji:=A6 jf;have jg:=A6 je;clear jf je)
 go_ret;exact ⟨rfl,ji.out,(Tn.of jd.out).trans jg.out⟩
theorem Qf (hM:MpG CB w g E) (jb:CB.ok (m,n)) (hE:E.length<1000000) (hc:c≤1152921504606846976) (ja:look E (m,n)=some old) (hlt:c<old) :
  Calls Tryz.prog 75 #[.map (some g),.agg #[.int .i64 (m:Int),.int .i64 (n:Int)],.int .i64 (c:Int)] w fun e w'=>e=.returned (.bool true)∧MpG CB w' g (Cv E (m,n) c)∧Tn g w w':=by
 have hleI:¬ (old:Int)≤(c:Int):=by omega
 have HM:=A6 hM;have jj:=A6 jb;have HLK:=A6 ja;have HE:=A6 hE;have jc:Ext w (w.alloc (.cells #[.int .i64 (m:Int),.int .i64 (n:Int)] 85)):=(Below.refl _ _).alloc (A7 _) _;have jd:=A6 jc;have hl:=Ih hM jb jc;rw [ja] at hl;simp only [Option.getD,Option.isSome] at hl;clear hM jb ja hE jc
 go_enter Tryz.func75,Tryz.ntmps75
 have jh:=A6 (HM.out.kept (Below.block jd.out _ HM.out.lt))
 go_wp2_with (at_mapUpdate;refine EG Bx jh.out jj.out hc HE.out rfl _ _ _ rfl rfl rfl rfl ?_;intro w9 jf je;have ji:=A6 jf;have jg:=A6 je;clear jf je)
 go_ret;exact ⟨rfl,ji.out,(Tn.of jd.out).trans jg.out⟩
theorem Ii (hM:MpG CB w g E) (ja:CB.ok (m,n)) (hE:E.length<1000000) (hc:c≤1152921504606846976) (jb:∀ x,look E (m,n)=some x→c<x) :
  Calls Tryz.prog 75 #[.map (some g),.agg #[.int .i64 (m:Int),.int .i64 (n:Int)],.int .i64 (c:Int)] w fun e w'=>e=.returned (.bool true)∧MpG CB w' g (Cv E (m,n) c)∧Tn g w w':=by
 cases e:look E (m,n) with
 | none=>exact Qe hM ja hE hc e
 | some old=>exact Qf hM ja hE hc e (jb old e)
end
theorem KQ (m n:Nat) (w:World):Calls Tryz.prog 41 #[.agg #[.int .i64 (m:Int),.int .i64 (n:Int)]] w fun e w'=>e=.returned (.int .i64 (m:Int))∧Ext w w':=by
 go_enter Tryz.func41,Tryz.ntmps41
 go_wp2_with fail
 go_ret;exact ⟨rfl,(Below.refl _ _).alloc (A7 _) _⟩
theorem PO {o p:ByteArray} {n:Nat} (hn:n≤o.size):Md (o.extract n o.size) p=(C1 (bts o) n (bts p)).isSome:=by
 have e:(o.extract n o.size).data.toList=(bts o).drop n:=by
  unfold bts;simp [ByteArray.data_extract,Array.toList_extract,List.extract];have h2:o.data.size=o.size:=rfl;rw [AM];simp
 rw [Bool.eq_iff_iff,JS,e,List.prefix_iff_eq_take];unfold C1;constructor
 ·intro h;rw [if_pos (by show _=bts p;exact h.symm)];rfl
 ·intro h;split at h
  · rename_i h2;exact h2.symm
  · cases h
theorem ML {X:List UInt8} {n m:Nat} {r:List UInt8} (h:C1 X n r=some m):m=n+r.length:=by
 unfold C1 at h;split at h
 · cases h;rfl
 · cases h
def PQ (o:ByteArray) (n d:Nat) (out:ByteArray) (e:Ending):Prop :=
 e=.returned (.tuple #[.agg #[.int .i64 (d:Int),.int .i64 ((n+out.size:Nat):Int)],.bool (C1 (bts o) n (bts out)).isSome])
def PR (ops:Array Oper):List Nat:=(List.range ops.size).filter fun i=>match ops[i]? with
 | some o=>o.dst.isNone
 | none=>false
theorem US {ops:Array Oper} {l:List (Value→World→Prop)} {ks:List Nat} (hk:PR ops=ks) (h:∀ k∈ks,∀ v w,Vs l k v w→Vs l k undef w):true=true→∀ i o v w,ops[i]? = some o→o.dst=none→Vs l i v w→Vs l i undef w:=fun _ i o v w ho hd hv=>by
 refine h i ?_ v w hv;rw [← hk];unfold PR;rw [Al];refine ⟨Am.2 (A9.1 ho).1,?_⟩;rw [ho];simp [hd]
def J9 (gr:Nat) (wA:World) (d n:Int) (b:Bool) (W:World):Prop:=Below gr wA W∧gr<W.heap.size∧W.heap[gr]? = some (.cells (match b with | false=>#[.int .i64 0,.int .i64 0] | true=>#[.int .i64 d,.int .i64 n]) 85 (0,0))
theorem J9.ext {gr:Nat} {wA:World} {d n:Int}:∀ (b:Bool) (W W':World),J9 gr wA d n b W→Ext W W'→J9 gr wA d n b W':=fun b W W' h hx =>
 ⟨h.1.trans (Below.mono hx (by have:=h.2.1;omega)),AB h.2.1 (Below.size hx),(Below.block hx gr h.2.1).trans h.2.2⟩
theorem step_o (o:ByteArray) (go m n d:Nat) (frm cost:Int) (inp out:ByteArray) (w:World) (jG:w.cell? ⟨go,0,none⟩=some (.string o)) (jQ:go<w.heap.size) (hn:n≤o.size) (ho:o.size≤1000000) (hout:out.size≤1000000) :
  Calls Tryz.prog 42 #[.agg #[.int .i64 (m:Int),.int .i64 (n:Int)],.agg #[.int .i64 frm,.int .i64 (d:Int),.string inp,.string out,.int .i64 cost],.pointer (some ⟨go,0,none⟩)] w fun e w'=>PQ o n d out e∧Ext w w':=by
 have jA:Hid ((n:Int)≤(o.size:Int)):=by show _≤_;omega
 have ji:Hid (IntKind.i64.wrap ((n:Int)+(out.size:Int))=(n:Int)+(out.size:Int)):=IntWalk.i64_in _ (by omega);have jL:Hid ((o.extract n o.size).size≤9223372036854775807):=by show _≤_;rw [ByteArray.size_extract];omega
 have jt:=PO (p:=out) hn;obtain ⟨bf,js⟩:∃ bf,(C1 (bts o) n (bts out)).isSome=bf:=⟨_,rfl⟩
 rw [js] at jt;have jK:=A6 jt;have jJ:=A6 js;clear jt js
 go_enter Tryz.func42,Tryz.ntmps42
 go_upto_region 1 with fail
 obtain ⟨wa,jk⟩:∃ wa,w.alloc (.cells #[.int .i64 (m:Int),.int .i64 (n:Int)] 85)=wa:=⟨_,rfl⟩
 rw [jk];obtain ⟨wb,jl⟩:∃ wb,wa.alloc (.cells #[.int .i64 frm,.int .i64 (d:Int),.string inp,.string out,.int .i64 cost] 64)=wb:=⟨_,rfl⟩
 rw [jl];obtain ⟨wA,jp⟩:∃ wA,wb.alloc (.cells #[.int .i64 0,.int .i64 0] 85)=wA:=⟨_,rfl⟩
 rw [jp];have xa:Ext w wa:=by rw [← jk];exact (Below.refl _ _).alloc (A7 _) _
 have xb:Ext wa wb:=by rw [← jl];exact (Below.refl _ _).alloc (A7 _) _
 have xA:Ext wb wA:=by rw [← jp];exact (Below.refl _ _).alloc (A7 _) _
 have za:wa.heap.size=w.heap.size+1:=by rw [← jk];simp
 have zb:wb.heap.size=w.heap.size+2:=by rw [← jl];simp;omega
 have ba:wa.heap[w.heap.size]? = some (.cells #[.int .i64 (m:Int),.int .i64 (n:Int)] 85 (0,0)):=by rw [← jk];exact heap_alloc_new _ _
 have bb:wb.heap[wa.heap.size]? = some (.cells #[.int .i64 frm,.int .i64 (d:Int),.string inp,.string out,.int .i64 cost] 64 (0,0)):=by rw [← jl];exact heap_alloc_new _ _
 have bA:wA.heap[wb.heap.size]? = some (.cells #[.int .i64 0,.int .i64 0] 85 (0,0)):=by rw [← jp];exact heap_alloc_new _ _
 rw [za] at bb;rw [zb] at bA;have jB:Hid (Ext w wA):=Ext.trans xa (Ext.trans xb xA);have jq:Hid (wA.heap[w.heap.size]? = some (.cells #[.int .i64 (m:Int),.int .i64 (n:Int)] 85 (0,0))):=(Below.block (Ext.trans xb xA) _ (by omega)).trans ba;have jm:Hid (wA.heap[w.heap.size+1]? = some (.cells #[.int .i64 frm,.int .i64 (d:Int),.string inp,.string out,.int .i64 cost] 64 (0,0))):=(Below.block xA _ (by omega)).trans bb;have jr:Hid (J9 (w.heap.size+2) wA (d:Int) ((n:Int)+(out.size:Int)) false wA):=⟨Below.refl _ _,(A9.1 bA).1,bA⟩
 clear jk jl xa xb xA za zb ba bb bA;have jy:Hid (wA.cell? ⟨go,0,none⟩=some (.string o)):=(Below.cell jB.out (p:=⟨go,0,none⟩) jQ).trans jG;obtain ⟨g3,jF⟩:∃ g3,w.heap.size=g3:=⟨_,rfl⟩
 obtain ⟨gr,jw⟩:∃ gr,g3+2=gr:=⟨_,rfl⟩
 obtain ⟨g4,jv⟩:∃ g4,g3+1=g4:=⟨_,rfl⟩
 have jz:Hid (go<gr):=by show _<_;omega
 have je:Hid (g3<gr∧g4<gr):=by constructor <;> omega
 have jM:Hid (w.heap.size≤gr):=by show _≤_;omega
 rw [jF] at jq jm jr ⊢;rw [show g3+1+1=gr from jw,jv];rw [jv] at jm;rw [jw] at jr;clear jp jF jw jv jG;refine Hb (bn:=true) (by kernel_rfl) (Vs [vq (.pointer (some ⟨g4,1,none⟩)),vq (.int .i64 (d:Int)),vq (.pointer (some ⟨g3,1,none⟩)),vq (.int .i64 (n:Int)),vq (.pointer (some ⟨g4,3,none⟩)),vq (.string out),vq (.int .i64 (out.size:Int)),vq (.int .i64 ((n:Int)+(out.size:Int))),vq (.agg #[.int .i64 (d:Int),.int .i64 ((n:Int)+(out.size:Int))]),vq (.string o),vq (.pointer (some ⟨g3,1,none⟩)),vq (.int .i64 (n:Int)),vq (.string (o.extract n o.size)),vq (.pointer (some ⟨g4,3,none⟩)),vq (.string out),vq (.bool bf),fun _ _=>True,vq (.bool bf)]) (Xs [Ext,Ext,Ext,Ext,Ext,Ext,Ext,Ext,Ext,Ext,Ext,Ext,Ext,Ext,Ext,Ext,(fun _ _=>True),Ext]) (fun fL=>(J9 gr wA (d:Int) ((n:Int)+(out.size:Int))) (fL 16)) [0,1,0,4,0,16,48,124,255,0,0,1024,3584,0,8192,32256,511,65024] 23 18 (by kernel_rfl) rfl ?hVn ?hV ?hS ?hop ?hfin ?hlast
 case hVn=>exact US (ks:=[16]) (by kernel_rfl) (by intro k hk;simp at hk;subst hk;intro v w _;trivial)
 case hV =>
  refine BC (Av (by simp only [Aj,List.not_mem_nil,or_false,forall_eq_or_imp,forall_eq];exact ⟨An _,An _,An _,An _,An _,An _,An _,An _,An _,An _,An _,An _,An _,An _,An _,An _,Nk (fun _=>True),An _⟩)) ?_;exact ⟨.inl rfl,.inl rfl,.inl rfl,.inl rfl,.inl rfl,.inl rfl,.inl rfl,.inl rfl,.inl rfl,.inl rfl,.inl rfl,.inl rfl,.inl rfl,.inl rfl,.inl rfl,.inl rfl,.inr (BO ⟨fun _ _=>fun _ _ _ h _=>h,fun _ _=>fun _ _ _ h _=>h,fun _ _=>fun _ _ _ h _=>h,fun _ _=>fun _ _ _ h _=>h,fun _ _=>fun _ _ _ h _=>h,fun _ _=>fun _ _ _ h _=>h,fun _ _=>fun _ _ _ h _=>h,fun _ _=>fun _ _ _ h _=>h,fun _ _=>fun _ _ _ h _=>h,fun _ _=>fun _ _ _ h _=>h,fun _ _=>fun _ _ _ h _=>h,fun _ _=>fun _ _ _ h _=>h,fun _ _=>fun _ _ _ h _=>h,fun _ _=>fun _ _ _ h _=>h,fun _ _=>fun _ _ _ h _=>h,fun _ _=>fun _ _ _ h _=>h,fun h=>absurd rfl h,fun _ _=>fun _ _ _ h _=>h,trivial⟩),.inl rfl,trivial⟩
 case hS =>
  intro fL hf;show (J9 gr wA (d:Int) ((n:Int)+(out.size:Int))) (fL 16) _;rw [hf 16 (by decide)];exact J9.ext _ _ _ jr.out (Bh _)
 case hop =>
  refine ⟨?_,?_,?_,?_,?_,?_,?_,?_,?_,?_,?_,?_,?_,?_,?_,?c15,?c16,?_,trivial⟩
  all_goals first | rw [if_neg (by decide)] | rw [if_pos (by decide)]
  case c16 =>
   intro ac W fL jf jh jo jj jb jd ja jg;have hS:(J9 gr wA (d:Int) ((n:Int)+(out.size:Int))) (fL 16) W:=jb;have jc:fL 16=false:=(by first | exact jh | exact jj 16 (by decide) (by decide));rw [jc] at hS
   have c2:W.cell? ⟨go,0,none⟩=some (.string o):=(Below.cell jb.1 (p:=⟨go,0,none⟩) jz.out).trans jy.out;obtain ⟨a0,a1⟩:=B3 ((jb.1.block g3 je.out.1).trans jq.out);obtain ⟨b0,b1,b2,b3,b4⟩:=B9 ((jb.1.block g4 je.out.2).trans jm.out);have jx:=ji.out;have jS:=jA.out;have jR:=gdA ac 5 (.pointer (some ⟨gr,0,none⟩)) (ja 5 (by kernel_rfl));have jd:=DN jd;simp [D8,Aq,vq] at jd;clear ja jo jj jg;have jn:W.heap[gr]? = some (.cells #[.int .i64 0,.int .i64 0] 85 (0,0)):=hS.2.2;have hfr:∀ i,W.frozen? ⟨gr,i,none⟩=false:=fun i=>by simp [World.frozen?,jn]
   obtain ⟨r0,r1⟩:=B3 jn;have jN:Hid (J9 gr wA (d:Int) ((n:Int)+(out.size:Int)) true ((W.setCell ⟨gr,0,none⟩ (.int .i64 (d:Int))).setCell ⟨gr,1,none⟩ (.int .i64 ((n:Int)+(out.size:Int))))):=⟨(hS.1.setCell (p:=⟨gr,0,none⟩) (A7 _) _).setCell (p:=⟨gr,1,none⟩) (A7 _) _,by have:=hS.2.1;simpa [World.setCell] using this,B7 (B7 jn rfl) rfl⟩
   refine Ao rfl (.inr ⟨rfl,(W.setCell ⟨gr,0,none⟩ (.int .i64 (d:Int))).setCell ⟨gr,1,none⟩ (.int .i64 ((n:Int)+(out.size:Int))),?r1,?r2,?r3,?r4⟩)
   case r2=>trivial
   case r3=>trivial
   case r1=>clear jf hS jb jh jn;simp [go_sem,Act.eval, *]
   case r4 =>
    show J9 gr wA _ _ (upd fL 16 16) _;rw [show upd fL 16 16=true from if_pos rfl];exact jN.out
  all_goals refine Qr _ _ _ _ _ _ _ ?_
  all_goals try intro ac W fL jf jh jo jj jb jd ja jg
  all_goals try have hS:(J9 gr wA (d:Int) ((n:Int)+(out.size:Int))) (fL 16) W:=jb
  all_goals try (have jc:fL 16=true:=jo 16 (by decide);rw [jc] at hS)
  all_goals try (have jc:fL 16=false:=(by first | exact jh | exact jj 16 (by decide) (by decide));rw [jc] at hS)
  all_goals try (
   have c2:W.cell? ⟨go,0,none⟩=some (.string o):=(Below.cell jb.1 (p:=⟨go,0,none⟩) jz.out).trans jy.out;obtain ⟨a0,a1⟩:=B3 ((jb.1.block g3 je.out.1).trans jq.out);obtain ⟨b0,b1,b2,b3,b4⟩:=B9 ((jb.1.block g4 je.out.2).trans jm.out);have jx:=ji.out;have jS:=jA.out)
  all_goals try have hh2:=gdA ac 2 (.pointer (some ⟨go,0,none⟩)) (ja 2 (by kernel_rfl))
  all_goals try have hh3:=gdA ac 3 (.pointer (some ⟨g3,0,none⟩)) (ja 3 (by kernel_rfl))
  all_goals try have hh4:=gdA ac 4 (.pointer (some ⟨g4,0,none⟩)) (ja 4 (by kernel_rfl))
  all_goals try have jR:=gdA ac 5 (.pointer (some ⟨gr,0,none⟩)) (ja 5 (by kernel_rfl))
  all_goals try (have jd:=DN jd;simp [D8,Aq,vq] at jd)
  all_goals try clear ja jo jj jg
  case c15 =>
   have ju:=Es (o.extract n o.size) out W jL.out;rw [jK.out] at ju;refine Ao rfl (.inr ⟨43,#[.string (o.extract n o.size),.string out],W,by (clear jf hS jb jh ju;simp [go_sem,Act.eval, *]),?_⟩);refine ju.mono ?_;rintro e w' ⟨rfl,rfl⟩;exact ⟨_,rfl,⟨rfl,Ext.refl _,jb⟩⟩
  all_goals (refine Ao rfl (.inl ⟨_,W,?_,rfl,Ext.refl _,jb⟩);clear jf hS jb jh;simp [go_sem,Act.eval, *];done)
 case hlast =>
  intro h;exact absurd rfl h
 case hfin =>
  intro _ ac W jf jE fL hf jb hv ja;have hS:(J9 gr wA (d:Int) ((n:Int)+(out.size:Int))) (fL 16) W:=jb;clear jb;rw [hf 16 (by decide)] at hS;obtain ⟨sx,jI,jH⟩:=Aw [7,8,9,10,11,12,13,14,15,16,17,18,19,20,21,22,6] (by kernel_rfl) jf jE ja;have e6:sx 6=.bool bf:=(jI 6).trans (hv 17 (by decide));rw [jH];simp only [List.foldl];rw [e6];clear e6;simp only [Act.put,List.setIfInBounds_toArray,List.set_cons_succ,List.set_cons_zero];clear jH jI hv ja jf jE hf;obtain ⟨jC,jP,jD⟩:=hS;obtain ⟨r0,r1⟩:=B3 jD;have jO:Hid (Ext w W):=Below.trans jB.out (Below.mono jC jM.out);clear jC jP jD
  go_wp2_with fail
  try simp only [Exit.inBlock,Exit.then]
  refine bodyPost_ret (v:=.tuple #[.agg #[.int .i64 (d:Int),.int .i64 ((n:Int)+(out.size:Int))],.bool bf]) ?_ rfl ?_
  ·rw [results_cell_tmp rfl];simp [go_sem, *]
  ·refine ⟨?_,jO.out⟩;unfold PQ;rw [jJ.out];rfl
theorem Sf (A:Int) (m:Nat) (h0:0≤A) (hA:A≤255):(bits .and .u8 (A / 2 ^ m) 1 == 1)=DX A m:=by
 obtain ⟨n,rfl⟩:=Int.eq_ofNat_of_zero_le h0;have hd:((n:Int) / 2 ^ m)=((n / 2 ^ m:Nat):Int):=by simp
 have ja:n / 2 ^ m<256:=Nat.lt_of_le_of_lt (Nat.div_le_self _ _) (by omega);have h1:bits .and .u8 (((n / 2 ^ m:Nat):Int)) ((1:Nat):Int)=((n / 2 ^ m &&& 1:Nat):Int):=u8_and_nat _ _ ja (by omega);unfold DX;rw [hd,show (1:Int)=((1:Nat):Int) from rfl,h1,Nat.and_one_is_mod,Bool.eq_iff_iff];simp only [beq_iff_eq];omega
end Go.Proofs.YthjmdgejnakcmaaGreatDoor
