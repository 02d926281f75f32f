/- Texts that the claims share: Made3, Levels, WalkM, RefF, RefG, RefH. -/
import Derived.Test.YthjmdgejnakcmaaGreatDoorMF4
import Derived.Test.YthjmdgejnakcmaaGreatDoorMF3
set_option maxHeartbeats 6400000
set_option maxRecDepth 100000
set_option linter.unusedVariables false
set_option linter.unusedSimpArgs false
namespace Go.Proofs.YthjmdgejnakcmaaGreatDoor.Fl
open Go.RowKit
structure RR where
 ai:Option Addr
 li:Nat
 ci:Nat
 ao:Option Addr
 lo:Nat
 co:Nat
 f:Int
 d:Int
 c:Int
 ZI:Nat→Int
 ZO:Nat→Int
structure OI (w:World) (q:RR):Prop where
 f0:0≤q.f
 f1:q.f≤255
 d0:0≤q.d
 d1:q.d≤255
 c0:0≤q.c
 c1:q.c≤255
 i:Ce w q.ai q.li q.ZI
 o:Ce w q.ao q.lo q.ZO
def EI (w:World) (a:Option Addr) (len:Nat) (Q:Nat→RR):Prop :=
 len=0∨∃ b o,a=some ⟨b,o,none⟩∧b<w.heap.size∧∀ i,i<len→(w.cell? ⟨b,o+i*5+0,none⟩=some (.slice (Q i).ai (Q i).li (Q i).ci)∧w.cell? ⟨b,o+i*5+1,none⟩=some (.slice (Q i).ao (Q i).lo (Q i).co)∧w.cell? ⟨b,o+i*5+2,none⟩=some (.int .u8 (Q i).f)∧w.cell? ⟨b,o+i*5+3,none⟩=some (.int .u8 (Q i).d)∧w.cell? ⟨b,o+i*5+4,none⟩=some (.int .u8 (Q i).c))∧OI w (Q i)
theorem OI.later {w w1:World} {q:RR} {B:Nat} (h:OI w q) (hb:Below B w w1) (hB:w.heap.size≤B):OI w1 q :=
 ⟨h.f0,h.f1,h.d0,h.d1,h.c0,h.c1,h.i.later hb hB,h.o.later hb hB⟩
theorem EI.later {w w1:World} {a:Option Addr} {len:Nat} {Q:Nat→RR} {B:Nat} (h:EI w a len Q) (hb:Below B w w1) (hB:w.heap.size≤B):EI w1 a len Q:=by
 rcases h with h | ⟨b,o,ha,ja,hr⟩
 · exact .inl h
 ·have hc:∀ k,w1.cell? ⟨b,k,none⟩=w.cell? ⟨b,k,none⟩:=fun k=>hb.cell (p:=⟨b,k,none⟩) (AB ja hB);refine .inr ⟨b,o,ha,AB ja hb.size,fun i hi=>⟨?_,(hr i hi).2.later hb hB⟩⟩;rw [hc,hc,hc,hc,hc];exact (hr i hi).1
theorem EI.at {w:World} {a:Option Addr} {len:Nat} {Q:Nat→RR} (h:EI w a len Q) {k:Nat} (hk:k<len):∃ b o,a=some ⟨b,o,none⟩∧b<w.heap.size∧w.cell? ⟨b,o+k*5,none⟩=some (.slice (Q k).ai (Q k).li (Q k).ci)∧w.cell? ⟨b,o+k*5+1,none⟩=some (.slice (Q k).ao (Q k).lo (Q k).co)∧w.cell? ⟨b,o+k*5+2,none⟩=some (.int .u8 (Q k).f)∧w.cell? ⟨b,o+k*5+3,none⟩=some (.int .u8 (Q k).d)∧w.cell? ⟨b,o+k*5+4,none⟩=some (.int .u8 (Q k).c)∧OI w (Q k):=by
 rcases h with h | ⟨b,o,ha,ja,hr⟩
 · omega
 ·obtain ⟨⟨h0,h1,h2,h3,h4⟩,h5⟩:=hr k hk;exact ⟨b,o,ha,ja,h0,h1,h2,h3,h4,h5⟩
theorem RY (a:Option Addr) (b o len cap k:Nat) (ha:a=some ⟨b,o,none⟩) (hk:k<len) (w:World) :
  (Instr.indexAt 22 (.slice a len cap) (.int .i64 (k:Int))).run Tryz.prog w=.ok (.pointer (some ⟨b,o+k*5,none⟩)) w:=by
 subst ha;have h0:(0:Int)≤(k:Int):=by omega
 have h1:(k:Int)<(len:Int):=by omega
 simp [go_sem,h0,h1]
def RlV (v:Value) (_:World):Prop:=∃ r:Rl,v=.agg #[.int .i64 r.frm,.int .i64 r.dst,.string r.inp,.string r.out,.int .i64 r.cost]
theorem Pt:CQ RlV:=fun _ _ _ h _=>h
def Hu (v0:Value) (v:Value) (W:World):Prop:=∃ r:Rl,IT v0 r v W
theorem KY (v0:Value):CQ (Hu v0):=by
 rintro v w w' ⟨r,h⟩ hx;exact ⟨r,Lt v0 r v w w' h hx⟩
theorem KZ (v0:Value):∀ v w w',Hu v0 v w→World.grownBy w w' v0.ownBlock→Hu v0 v w':=by
 rintro v w w' ⟨r,h⟩ hx;exact ⟨r,Lu v0 r v w w' h hx⟩
def RZ (B:Nat) (R:List Rl) (v:Value) (W:World):Prop:=∃ r:Rl,DA W B v (R ++ [r])
theorem N9 (B:Nat) (R:List Rl):CQ (RZ B R):=by
 rintro v w w' ⟨r,h⟩ hx;exact ⟨r,h.below hx h.lt⟩
structure MX (wl:World) (B0 gt:Nat) (mo ac:Int) (v:Value) (R:List Rl) (wr:World):Prop extends TX0 wl B0 gt mo ac v wr where
 row:FV wr B0 v R
theorem FV.ne_of {wr:World} {gt B:Nat} {v:Value} {T:List Rl} {cs:Array Value} (h:FV wr B v T) (hr:wr.heap[gt]? = some (.cells cs 32 (0,0))):∀ q,v.ownBlock=some q→q≠gt:=by
 rcases h with h | ⟨g,r0,rfl,h1,h2⟩
 · exact h.ne_of hr
 ·intro q hq e;cases hq;subst e;rw [hr] at h2;injection h2 with h2;injection h2 with _ h2 _;exact absurd h2 (by decide)
theorem Pv {w:World} {B:Nat} {a:Option Addr} {R:List Rl} (h:DA w B (.slice a R.length R.length) R) (hl:1≤R.length):∃ g,a=some ⟨g,0,none⟩∧B≤g∧w.heap[g]? = some (.cells (Bb R).toArray 64 (0,0)):=by
 rcases h.2 with ⟨he,h0⟩ | ⟨g,cap',cur,he,p1,p2,p3,p4,p5,p6⟩
 · exfalso;have:R.length=0:=h0;omega
 ·injection he with e1 e2 e3;refine ⟨g,e1,p1,?_⟩;have:cur=(Bb R).toArray:=by
   apply Array.ext';rw [← p6,AM (by rw [Array.length_toList,p5,← e3];exact A7 _)]
  rw [p2,this]
theorem J7 (a:Option Addr) (n cap k:Nat) (hk:k≤cap) (w:World) :
  (Instr.slice 30 (.slice a n cap) none (some (.int .i64 (k:Int))) none).run Tryz.prog w=.ok (.slice a k cap) w:=by
 have h0:(0:Int)≤(k:Int):=by omega
 have h1:(k:Int)≤(cap:Int):=by omega
 cases a with
 | none=>simp [go_sem,Instr.slice,Instr.sliceBounds,Instr.sliceBound,asIntOf,h0,h1];intro h;omega
 | some a=>simp [go_sem,Instr.slice,Instr.sliceBounds,Instr.sliceBound,asIntOf,h0,h1];intro h;omega
def LC (w:World) (e:Ending) (w':World):Prop :=
 ∃ (S:Sch) (b:Option Addr) (c:Nat),e=.returned (.agg #[.int .i64 S.modes,.int .u8 S.acc,.slice b S.rules.length c])∧1≤S.modes∧S.modes≤2∧S.acc=1∧S.rules.length≤9∧BL w' b S.rules∧S.rules.length≤c∧Below w.heap.size w w'
theorem LD {w w':World} {mo:Int} {g:Nat} {b:Option Addr} {c B0:Nat} {R:List Rl} {x y z:Value} (hr:FV w' B0 (.slice b R.length c) R) (hg:g<B0) (ja:w.heap.size≤g) (h1:1≤mo) (h2:mo≤2) (hl:R.length≤9) (hb:Below w.heap.size w w') :
  LC w (.returned (.agg #[.int .i64 mo,.int .u8 1,.slice b R.length c])) (((w'.setCell ⟨g,0,none⟩ x).setCell ⟨g,1,none⟩ y).setCell ⟨g,2,none⟩ z):=by
 have h:=((hr.set (i:=0) (u:=x) hg).set (i:=1) (u:=y) hg).set (i:=2) (u:=z) hg;obtain ⟨a',c',he,jc,jb⟩:=h.rules;injection he with e1 e2 e3;subst e1 e3;exact ⟨⟨mo,1,R⟩,b,c,rfl,h1,h2,rfl,hl,jc,jb,((hb.setCell ja _).setCell ja _).setCell ja _⟩
theorem made2_any (x0 x1:Int) (a:Option Addr) (len cap:Nat) (Q:Nat→RR) (w:World) (jX:0≤x0) (jY:x0≤255) (h10:0≤x1) (h11:x1≤255) (hQ:EI w a len Q) :
  Calls Tryz.prog 27 #[.agg #[.int .u8 x0,.int .u8 x1,.slice a len cap]] w (LC w):=by
 have HQ:=A6 hQ;clear hQ
 go_enter Tryz.func27,Tryz.ntmps27
 go_wp2_with fail
 refine (base_any x0 _ jX jY).mono ?_;rintro e w1 ⟨⟨mo,ac,R0⟩,b,n,rfl,rfl,jp,jt,jZ,jK,jE,jf,hb, -⟩;obtain rfl:ac=1:=jZ;simp only at jp jt jK jE jf ⊢;obtain ⟨g,e1,jC,hg⟩:=Pv jf (by omega);simp only [AA] at jC;subst e1;have jv:Hid (Below (w.heap.size+2) ((w.alloc (.cells #[.int .u8 x0,.int .u8 x1,.slice a len cap] 24)).alloc (.cells #[.int .i64 0,.int .u8 0,.slice none 0 0] 32)) w1):=hb.mono (by simp only [AA];omega);clear hb;obtain ⟨hz,hc,hf⟩:=BE jv.out rfl;simp only [AA] at hz;have jI:g<w1.heap.size:=(A9.1 hg).1
 go_upto_region 2 with fail
 have HG:=A6 hg;clear hg jf
 go_cut [] (fun wx=>∃ wz:World,wz=wx∧∃ (R:List Rl) (b:Option Addr) (n c:Nat),MX ((w.alloc (.cells #[.int .u8 x0,.int .u8 x1,.slice a len cap] 24)).alloc (.cells #[.int .i64 0,.int .u8 0,.slice none 0 0] 32)) (w.heap.size+2) w1.heap.size mo 1 (.slice b n c) R wz∧n=R.length∧R.length≤5)
 case first =>
  rcases (show x1 % 2=0∨x1 % 2=1 by omega) with h2 | h2
  ·go_wp2_with fail
   go_meet
   refine ⟨_,rfl,R0,some ⟨g,0,none⟩,R0.length,R0.length,⟨⟨jv.out.alloc (by omega) _,heap_alloc_new _ _,hz⟩,.inl (N4 ((Below.heap_alloc _ _ _ jI).trans HG.out) jC (by omega))⟩,rfl,jE⟩
  ·have hlI:(1:Int)≤(R0.length:Int):=by omega
   have hlN:(1:Int)<(R0.length:Int):=by omega
   go_wp2_with fail
   go_meet
   obtain ⟨r0,R,rfl⟩:∃ r0 R,R0=r0 :: R:=by
    cases R0 with
    | nil=>simp at jK
    | cons r0 R=>exact ⟨r0,R,rfl⟩
   refine ⟨_,rfl,R,some ⟨g,5,none⟩,R.length,R.length,⟨⟨jv.out.alloc (by omega) _,heap_alloc_new _ _,hz⟩,.inr ⟨g,r0,rfl,jC,(Below.heap_alloc _ _ _ jI).trans HG.out⟩⟩,rfl,by simp at jE;omega⟩
 case rest
      =>
  obtain ⟨wc,rfl,R1,b1,n1,c1,jm,j0,hR1⟩:=hcut;obtain ⟨gt,jJ⟩:∃ gt,gt=w1.heap.size:=⟨_,rfl⟩
  rw [← jJ] at jm ⊢;have hgt2:w.heap.size+2≤gt:=by omega
  have jw:=A6 jm;clear jm hc hf jJ;have jW:Hid (((w.alloc (.cells #[.int .u8 x0,.int .u8 x1,.slice a len cap] 24)).alloc (.cells #[.int .i64 0,.int .u8 0,.slice none 0 0] 32)).heap[w.heap.size+1]? = some (.cells #[.int .i64 0,.int .u8 0,.slice none 0 0] 32 (0,0))):=by
   have:=heap_alloc_new (w.alloc (.cells #[.int .u8 x0,.int .u8 x1,.slice a len cap] 24)) (.cells #[.int .i64 0,.int .u8 0,.slice none 0 0] 32);simp only [AA] at this;exact this
  go_wp2_with fail
  go_loopw [4] (fun i wr=>∃ (j:Nat) (R:List Rl) (b:Option Addr) (n c:Nat),j≤4∧i=.int .i64 j∧n=R.length∧R.length≤5+j∧MX ((w.alloc (.cells #[.int .u8 x0,.int .u8 x1,.slice a len cap] 24)).alloc (.cells #[.int .i64 0,.int .u8 0,.slice none 0 0] 32)) (w.heap.size+2) gt mo 1 (.slice b n c) R wr) (fun i _=>4 - (intOf i).toNat)
  case atStart=>exact ⟨0,R1,b1,n1,c1,by omega,rfl,j0,by omega,jw.out⟩
  case round =>
   obtain ⟨j,R,b,n,c,hj,rfl,rfl,hl,jl⟩:=hrel;have jo:=A6 jl;have hB:Below w.heap.size w wr:=(((Below.refl _ _).alloc (A7 _) _).alloc (by simp) _).trans (jl.bl.mono (by omega));have HB:=A6 hB;obtain ⟨jQ,hc,hf⟩:=BE jl.bl rfl;simp only [AA] at jQ;obtain ⟨d0,d1,d2⟩:=jl.toTX0.cells;have df:=jl.toTX0.free;have jG:=A6 ((jl.bl.block (w.heap.size+1) (by omega)).trans jW.out);clear jl hB;by_cases js:j<len
   ·by_cases hj4:j<4
    ·have hj4I:(j:Int)<4:=by omega
     obtain ⟨bq,oq,jy,hbq,q0,q1,q2,q3,q4,jN⟩:=(HQ.out.later HB.out (A7 _)).at js;have jD:=RY a bq oq len cap j jy js;have jR:=A6 jy;have jU:=A6 jN;clear jy jN
     go_upto_region 6 with fail
     refine Co (by kernel_rfl) (Vs [fun v _=>v=.pointer (some ⟨gt,2,none⟩),fun v _=>v=Value.slice b R.length c,fun v _=>v=.pointer (some ⟨w.heap.size,2,none⟩),fun v _=>v=.slice a len cap,fun v _=>v=.int .i64 (j:Int),fun v _=>v=.pointer (some ⟨bq,oq+j*5,none⟩),fun v _=>v=.agg #[.slice (Q j).ai (Q j).li (Q j).ci,.slice (Q j).ao (Q j).lo (Q j).co,.int .u8 (Q j).f,.int .u8 (Q j).d,.int .u8 (Q j).c],fun v _=>v=.pointer (some ⟨gt,0,none⟩),fun v _=>v=.int .i64 mo,RlV,Hu (Value.slice b R.length c),RZ (w.heap.size+2) R,fun v _=>v=.pointer (some ⟨gt,2,none⟩)]) (fun bo W=>TX0 ((w.alloc (.cells #[.int .u8 x0,.int .u8 x1,.slice a len cap] 24)).alloc (.cells #[.int .i64 0,.int .u8 0,.slice none 0 0] 32)) (w.heap.size+2) gt mo 1 (Value.slice b R.length c) W∧(bo=false→Below wr.heap.size wr W∧FV W (w.heap.size+2) (Value.slice b R.length c) R)∧(w.heap.size+2≤W.heap.size)∧∀ q,(Value.slice b R.length c).ownBlock=some q→q<W.heap.size) (fun W W'=>W.grownBy W' (Value.slice b R.length c).ownBlock) 56 11 13 (by kernel_rfl) rfl (by omega) ?hVx ?hVm ?hSx ?hS ?hop ?hlast
     case hVx=>exact Av (by simp only [Aj,List.not_mem_nil,or_false,forall_eq_or_imp,forall_eq];exact ⟨An _,An _,An _,An _,An _,An _,An _,An _,An _,Pt,KY _,N9 _ _,An _⟩)
     case hVm=>exact Nm ⟨fun _=>fun _ _ _ h _=>h,fun _=>fun _ _ _ h _=>h,fun _=>fun _ _ _ h _=>h,fun _=>fun _ _ _ h _=>h,fun _=>fun _ _ _ h _=>h,fun _=>fun _ _ _ h _=>h,fun _=>fun _ _ _ h _=>h,fun _=>fun _ _ _ h _=>h,fun _=>fun _ _ _ h _=>h,fun _=>fun _ _ _ h _=>h,fun _=>KZ _,fun h=>absurd rfl h,fun _=>fun _ _ _ h _=>h,trivial⟩
     case hSx=>exact fun bo W W' h hx=>⟨h.1.below hx,fun e=>⟨(h.2.1 e).1.trans (Below.mono hx (h.2.1 e).1.size),(h.2.1 e).2.below hx (h.2.1 e).2.lt⟩,AC h.2.2.1 hx.size,fun q hq=>AB (h.2.2.2 q hq) hx.size⟩
     case hS=>exact ⟨jo.out.toTX0,fun _=>⟨Below.refl _ _,jo.out.row⟩,jQ,jo.out.row.lt⟩
     case hop =>
      refine ⟨?_,?_,?_,?_,?_,?_,?_,?_,?_,?_,?_,?_,?_,?_,trivial⟩
      all_goals first | rw [if_neg (by decide),if_neg (by decide)] | rw [if_neg (by decide),if_pos (by decide)] | rw [if_pos (by decide)]
      ·intro A W bo jc hS jb ja;obtain ⟨d0',d1',d2'⟩:=hS.1.cells;obtain ⟨je,ji,jj⟩:=BE hS.1.bl rfl;have h1:A.tmps.getD 1 undef=.pointer (some ⟨w.heap.size,0,none⟩):=ja 1 (by kernel_rfl);have h3:A.tmps.getD 3 undef=.pointer (some ⟨gt,0,none⟩):=ja 3 (by kernel_rfl);have h4:A.tmps.getD 4 undef=.int .i64 (j:Int):=ja 4 (by kernel_rfl);have jd:Below w.heap.size w W:=(((Below.refl _ _).alloc (A7 _) _).alloc (by simp) _).trans (hS.1.bl.mono (by omega));clear ja;simp [Aq,Region.binds,Vs] at jb;refine Ao rfl (.inl ⟨_,W,?_,rfl,Ext.refl _⟩);clear jc hS jd;simp [go_sem,Act.eval, *]
      ·intro A W bo jc hS jb ja;obtain ⟨d0',d1',d2'⟩:=hS.1.cells;obtain ⟨je,ji,jj⟩:=BE hS.1.bl rfl;have h1:A.tmps.getD 1 undef=.pointer (some ⟨w.heap.size,0,none⟩):=ja 1 (by kernel_rfl);have h3:A.tmps.getD 3 undef=.pointer (some ⟨gt,0,none⟩):=ja 3 (by kernel_rfl);have h4:A.tmps.getD 4 undef=.int .i64 (j:Int):=ja 4 (by kernel_rfl);have jd:Below w.heap.size w W:=(((Below.refl _ _).alloc (A7 _) _).alloc (by simp) _).trans (hS.1.bl.mono (by omega));clear ja;simp [Aq,Region.binds,Vs] at jb;refine Ao rfl (.inl ⟨_,W,?_,rfl,Ext.refl _⟩);clear jc hS jd;simp [go_sem,Act.eval, *]
      ·intro A W bo jc hS jb ja;obtain ⟨d0',d1',d2'⟩:=hS.1.cells;obtain ⟨je,ji,jj⟩:=BE hS.1.bl rfl;have h1:A.tmps.getD 1 undef=.pointer (some ⟨w.heap.size,0,none⟩):=ja 1 (by kernel_rfl);have h3:A.tmps.getD 3 undef=.pointer (some ⟨gt,0,none⟩):=ja 3 (by kernel_rfl);have h4:A.tmps.getD 4 undef=.int .i64 (j:Int):=ja 4 (by kernel_rfl);have jd:Below w.heap.size w W:=(((Below.refl _ _).alloc (A7 _) _).alloc (by simp) _).trans (hS.1.bl.mono (by omega));clear ja;simp [Aq,Region.binds,Vs] at jb;refine Ao rfl (.inl ⟨_,W,?_,rfl,Ext.refl _⟩);clear jc hS jd;simp [go_sem,Act.eval, *]
      ·intro A W bo jc hS jb ja;obtain ⟨d0',d1',d2'⟩:=hS.1.cells;obtain ⟨je,ji,jj⟩:=BE hS.1.bl rfl;have h1:A.tmps.getD 1 undef=.pointer (some ⟨w.heap.size,0,none⟩):=ja 1 (by kernel_rfl);have h3:A.tmps.getD 3 undef=.pointer (some ⟨gt,0,none⟩):=ja 3 (by kernel_rfl);have h4:A.tmps.getD 4 undef=.int .i64 (j:Int):=ja 4 (by kernel_rfl);have jd:Below w.heap.size w W:=(((Below.refl _ _).alloc (A7 _) _).alloc (by simp) _).trans (hS.1.bl.mono (by omega));clear ja;simp [Aq,Region.binds,Vs] at jb;refine Ao rfl (.inl ⟨_,W,?_,rfl,Ext.refl _⟩);clear jc hS jd;simp [go_sem,Act.eval, *]
      ·intro A W bo jc hS jb ja;obtain ⟨d0',d1',d2'⟩:=hS.1.cells;obtain ⟨je,ji,jj⟩:=BE hS.1.bl rfl;have h1:A.tmps.getD 1 undef=.pointer (some ⟨w.heap.size,0,none⟩):=ja 1 (by kernel_rfl);have h3:A.tmps.getD 3 undef=.pointer (some ⟨gt,0,none⟩):=ja 3 (by kernel_rfl);have h4:A.tmps.getD 4 undef=.int .i64 (j:Int):=ja 4 (by kernel_rfl);have jd:Below w.heap.size w W:=(((Below.refl _ _).alloc (A7 _) _).alloc (by simp) _).trans (hS.1.bl.mono (by omega));clear ja;simp [Aq,Region.binds,Vs] at jb;refine Ao rfl (.inl ⟨_,W,?_,rfl,Ext.refl _⟩);clear jc hS jd;simp [go_sem,Act.eval, *]
      ·intro A W bo jc hS jb ja;obtain ⟨d0',d1',d2'⟩:=hS.1.cells;obtain ⟨je,ji,jj⟩:=BE hS.1.bl rfl;have h1:A.tmps.getD 1 undef=.pointer (some ⟨w.heap.size,0,none⟩):=ja 1 (by kernel_rfl);have h3:A.tmps.getD 3 undef=.pointer (some ⟨gt,0,none⟩):=ja 3 (by kernel_rfl);have h4:A.tmps.getD 4 undef=.int .i64 (j:Int):=ja 4 (by kernel_rfl);have jd:Below w.heap.size w W:=(((Below.refl _ _).alloc (A7 _) _).alloc (by simp) _).trans (hS.1.bl.mono (by omega));clear ja;simp [Aq,Region.binds,Vs] at jb;refine Ao rfl (.inl ⟨_,W,?_,rfl,Ext.refl _⟩);clear jc hS jd;simp [go_sem,Act.eval, *]
      ·intro A W bo jc hS jb ja;obtain ⟨d0',d1',d2'⟩:=hS.1.cells;obtain ⟨je,ji,jj⟩:=BE hS.1.bl rfl;have h1:A.tmps.getD 1 undef=.pointer (some ⟨w.heap.size,0,none⟩):=ja 1 (by kernel_rfl);have h3:A.tmps.getD 3 undef=.pointer (some ⟨gt,0,none⟩):=ja 3 (by kernel_rfl);have h4:A.tmps.getD 4 undef=.int .i64 (j:Int):=ja 4 (by kernel_rfl);have jd:Below w.heap.size w W:=(((Below.refl _ _).alloc (A7 _) _).alloc (by simp) _).trans (hS.1.bl.mono (by omega));clear ja;simp [Aq,Region.binds,Vs] at jb;obtain ⟨b',o',jx,jA,q0',q1',q2',q3',q4',jq⟩:=(HQ.out.later jd (A7 _)).at js;obtain ⟨rfl,rfl⟩:b'=bq∧o'=oq:=by have:=jR.out.symm.trans jx;simp at this;exact ⟨this.1.symm,this.2.symm⟩
       clear jx;refine Ao rfl (.inl ⟨_,W,?_,rfl,Ext.refl _⟩);clear jc hS jd;simp [go_sem,Act.eval, *]
      ·intro A W bo jc hS jb ja;obtain ⟨d0',d1',d2'⟩:=hS.1.cells;obtain ⟨je,ji,jj⟩:=BE hS.1.bl rfl;have h1:A.tmps.getD 1 undef=.pointer (some ⟨w.heap.size,0,none⟩):=ja 1 (by kernel_rfl);have h3:A.tmps.getD 3 undef=.pointer (some ⟨gt,0,none⟩):=ja 3 (by kernel_rfl);have h4:A.tmps.getD 4 undef=.int .i64 (j:Int):=ja 4 (by kernel_rfl);have jd:Below w.heap.size w W:=(((Below.refl _ _).alloc (A7 _) _).alloc (by simp) _).trans (hS.1.bl.mono (by omega));clear ja;simp [Aq,Region.binds,Vs] at jb;refine Ao rfl (.inl ⟨_,W,?_,rfl,Ext.refl _⟩);clear jc hS jd;simp [go_sem,Act.eval, *]
      ·intro A W bo jc hS jb ja;obtain ⟨d0',d1',d2'⟩:=hS.1.cells;obtain ⟨je,ji,jj⟩:=BE hS.1.bl rfl;have h1:A.tmps.getD 1 undef=.pointer (some ⟨w.heap.size,0,none⟩):=ja 1 (by kernel_rfl);have h3:A.tmps.getD 3 undef=.pointer (some ⟨gt,0,none⟩):=ja 3 (by kernel_rfl);have h4:A.tmps.getD 4 undef=.int .i64 (j:Int):=ja 4 (by kernel_rfl);have jd:Below w.heap.size w W:=(((Below.refl _ _).alloc (A7 _) _).alloc (by simp) _).trans (hS.1.bl.mono (by omega));clear ja;simp [Aq,Region.binds,Vs] at jb;refine Ao rfl (.inl ⟨_,W,?_,rfl,Ext.refl _⟩);clear jc hS jd;simp [go_sem,Act.eval, *]
      ·intro A W bo jc hS jb ja;obtain ⟨d0',d1',d2'⟩:=hS.1.cells;obtain ⟨je,ji,jj⟩:=BE hS.1.bl rfl;have h1:A.tmps.getD 1 undef=.pointer (some ⟨w.heap.size,0,none⟩):=ja 1 (by kernel_rfl);have h3:A.tmps.getD 3 undef=.pointer (some ⟨gt,0,none⟩):=ja 3 (by kernel_rfl);have h4:A.tmps.getD 4 undef=.int .i64 (j:Int):=ja 4 (by kernel_rfl);have jd:Below w.heap.size w W:=(((Below.refl _ _).alloc (A7 _) _).alloc (by simp) _).trans (hS.1.bl.mono (by omega));clear ja;have jq:=jU.out;simp [Aq,Region.binds,Vs] at jb;refine Ao rfl (.inr ⟨52,#[.agg #[.slice (Q j).ai (Q j).li (Q j).ci,.slice (Q j).ao (Q j).lo (Q j).co,.int .u8 (Q j).f,.int .u8 (Q j).d,.int .u8 (Q j).c],.int .i64 mo],W,by (clear jc hS jd jq;simp [go_sem,Act.eval, *]),?_⟩);obtain ⟨b',o',jx,jA,q0',q1',q2',q3',q4',hr⟩:=(HQ.out.later jd (A7 _)).at js;refine (made1_any _ _ _ _ _ _ _ _ _ _ (Q j).ZI (Q j).ZO W hr.f0 hr.f1 hr.d0 hr.d1 hr.c0 hr.c1 jp jt hr.i hr.o).mono ?_;rintro e w' ⟨r,rfl, -, -,hb⟩;exact ⟨_,rfl,⟨r,rfl⟩,hb⟩
      ·intro A W bo jc hS jb ja;obtain ⟨d0',d1',d2'⟩:=hS.1.cells;obtain ⟨je,ji,jj⟩:=BE hS.1.bl rfl;have h1:A.tmps.getD 1 undef=.pointer (some ⟨w.heap.size,0,none⟩):=ja 1 (by kernel_rfl);have h3:A.tmps.getD 3 undef=.pointer (some ⟨gt,0,none⟩):=ja 3 (by kernel_rfl);have h4:A.tmps.getD 4 undef=.int .i64 (j:Int):=ja 4 (by kernel_rfl);have jd:Below w.heap.size w W:=(((Below.refl _ _).alloc (A7 _) _).alloc (by simp) _).trans (hS.1.bl.mono (by omega));clear ja;have jz:RlV (A.tmps.getD 36 undef) W:=jb ⟨9,.data⟩ (by simp) rfl;obtain ⟨r,e36⟩:=jz;have jL:=hS.2.2.2;refine Ao rfl (.inl ⟨.slice (some ⟨W.heap.size,0,none⟩) 1 1,W.alloc (.cells #[.int .i64 r.frm,.int .i64 r.dst,.string r.inp,.string r.out,.int .i64 r.cost] 64),?_,⟨r,W.heap.size,rfl,heap_alloc_new _ _,fun e=>absurd (jL _ e) (Nat.lt_irrefl _)⟩,(Below.refl _ _).alloc (A7 _) _⟩);rw [A8] at e36;clear jc hS jb jL;simp [go_sem,Act.eval, *]
      ·intro A W jc hS jb ja;have j2:A.tmps.getD 28 undef=Value.slice b R.length c:=jb ⟨1,.data⟩ (by simp) rfl;have jF:Hu (Value.slice b R.length c) (A.tmps.getD 37 undef) W:=jb ⟨10,.data⟩ (by simp) rfl;obtain ⟨r,jF⟩:=jF;refine ⟨rfl,(opres_rowp rfl (Ay j2) (hS.2.1 rfl).2 rfl (by rw [Ay rfl];exact jF) (by omega) hS.2.2.1).mono fun v w' h=>⟨⟨r,h.1⟩,h.2,hS.1.grown h.2 (hS.2.1 rfl).2.ge ((hS.2.1 rfl).2.ne_of hS.1.rep),fun e=>absurd e (by decide),AC hS.2.2.1 h.2.size,fun q hq=>AB (hS.2.2.2 q hq) h.2.size⟩⟩
      ·intro A W bo jc hS jb ja;obtain ⟨d0',d1',d2'⟩:=hS.1.cells;obtain ⟨je,ji,jj⟩:=BE hS.1.bl rfl;have h1:A.tmps.getD 1 undef=.pointer (some ⟨w.heap.size,0,none⟩):=ja 1 (by kernel_rfl);have h3:A.tmps.getD 3 undef=.pointer (some ⟨gt,0,none⟩):=ja 3 (by kernel_rfl);have h4:A.tmps.getD 4 undef=.int .i64 (j:Int):=ja 4 (by kernel_rfl);have jd:Below w.heap.size w W:=(((Below.refl _ _).alloc (A7 _) _).alloc (by simp) _).trans (hS.1.bl.mono (by omega));clear ja;simp [Aq,Region.binds,Vs] at jb;refine Ao rfl (.inl ⟨_,W,?_,rfl,Ext.refl _⟩);clear jc hS jd;simp [go_sem,Act.eval, *]
      · trivial
     case hlast =>
      intro A1 W jc jH hS hv ja;have jO:A1.tmps.getD 39 undef=.pointer (some ⟨gt,2,none⟩):=hv 12 (by decide);have jf:RZ (w.heap.size+2) R (A1.tmps.getD 38 undef) W:=hv 11 (by decide);obtain ⟨r,jf⟩:=jf;have jk:(R ++ [r]).length=R.length+1:=by simp
      obtain ⟨b',c',jr,j1,jB⟩:=jf.rules;rw [jk] at jr jB;rw [jr] at jf;obtain ⟨e0,e1,e2⟩:=hS.1.cells;refine C3 rfl rfl rfl rfl (Ay jO) (Ay jr) (hS.1.free 2) e2 (by kernel_rfl) ?_;have jn:=A6 (hS.1.put jf);obtain ⟨x,hx,hA⟩:=Aw [27,28,29,30,31,32,33,34,35,36,37,38,39] (by kernel_rfl) jc jH ja;obtain ⟨wz,jP⟩:∃ wz,wz=W.setCell ⟨gt,2,none⟩ (.slice b' (R.length+1) c'):=⟨_,rfl⟩
      rw [← jP] at jn ⊢;rw [hA];simp only [List.foldl];simp only [Act.put,List.setIfInBounds_toArray,List.set_cons_succ,List.set_cons_zero];clear hA hx hv ja jc jH jP e0 e1 e2 jr jf j1 jO hS d0 d1 d2 df hc hf q0 q1 q2 q3 q4 jD;have jh:=A6 jk;have jS:=A6 jB;clear jk jB;obtain ⟨hzy,hc,hf⟩:=BE jn.out.bl rfl;obtain ⟨d0,d1,d2⟩:=jn.out.toTX0.cells;have df:=jn.out.toTX0.free;have jV:Hid (BL wz b' (R ++ [r])):=(jn.out.own.ruls).1;have ju:=rright_any ⟨mo,1,R ++ [r]⟩ b' c' R.length wz jV.out (by show (R ++ [r]).length≤_;rw [jh.out];omega) (by show R.length<(R ++ [r]).length;rw [jh.out];omega) jp (by show mo≤8;omega);obtain ⟨ok,jM⟩:∃ ok,Cw ⟨mo,1,R ++ [r]⟩ ((R ++ [r])[R.length]'(by rw [jh.out];omega)) ((R ++ [r]).take R.length)=ok:=⟨_,rfl⟩
      simp only [jM] at ju;rw [show (Sch.rules ⟨mo,1,R ++ [r]⟩).length=R.length+1 from jh.out] at ju;have jT:=A6 ju;clear ju jM
      go_wp2_with fail
      refine jT.out.mono ?_;rintro e w3 ⟨rfl,hb⟩;have jg:=A6 (jn.out.below hb);clear hc hf d0 d1 d2 df hb;obtain ⟨hzx,hc,hf⟩:=BE jg.out.bl rfl;obtain ⟨d0,d1,d2⟩:=jg.out.toTX0.cells;have df:=jg.out.toTX0.free;cases ok
      ·have hsl:=J7 b' (R.length+1) c' R.length (by have:=jS.out;omega)
       go_wp2_with fail
       go_roundw
       case rel =>
        have ho:DA w3 (w.heap.size+2) (.slice b' R.length c') R:=jg.out.own.drop;have h:=jg.out.toTX0.put ho;exact ⟨j+1,R,b',R.length,c',by omega,by go_num,rfl,by omega,⟨h.toTX0,.inl h.own⟩⟩
       case measure=>simp [intOf];omega
      ·go_wp2_with fail
       go_roundw
       case rel=>exact ⟨j+1,R ++ [r],b',R.length+1,c',by omega,by go_num,jh.out.symm,by rw [jh.out];omega,⟨jg.out.toTX0,.inl jg.out.own⟩⟩
       case measure=>simp [intOf];omega
    ·obtain rfl:j=4:=by omega
     go_wp2_with fail
     obtain ⟨r0',r1',r2'⟩:=cells3 (Mn (a:=.int .i64 mo) (b:=.int .u8 1) (c:=.slice b R.length c) jG.out);exact bodyPost_ret (v:=.agg #[.int .i64 mo,.int .u8 1,.slice b R.length c]) (by simp [results,Tryz.results27,go_sem,r0',r1',r2']) rfl (LD jo.out.row (by omega) (by omega) jp jt (by omega) HB.out)
   ·have hjI:¬ (j:Int)<(len:Int):=by omega
    go_wp2_with fail
    obtain ⟨r0',r1',r2'⟩:=cells3 (Mn (a:=.int .i64 mo) (b:=.int .u8 1) (c:=.slice b R.length c) jG.out);exact bodyPost_ret (v:=.agg #[.int .i64 mo,.int .u8 1,.slice b R.length c]) (by simp [results,Tryz.results27,go_sem,r0',r1',r2']) rfl (LD jo.out.row (by omega) (by omega) jp jt (by omega) HB.out)
theorem beforeB_lex:∀ {a b:List Nat},a.length=b.length→(BJ (ints a) (ints b)=true↔Dg a b)
 | [],[],_=>by simp [ints,BJ,Dg]
 | [],_ :: _,h=>by simp at h
 | _ :: _,[],h=>by simp at h
 | x
   :: a,y :: b,h=>by
  have ih:=beforeB_lex (a:=a) (b:=b) (by simpa using h);show BJ ((x:Int) :: ints a) ((y:Int) :: ints b)=true↔(x<y∨(x=y∧Dg a b));rw [BJ];by_cases e:x=y
  ·subst e;rw [if_pos rfl,ih];simp
  ·rw [if_neg (by omega),decide_eq_true_iff];constructor
   · intro h;exact .inl (by omega)
   ·rintro (h | h)
    · omega
    · exact absurd h.1 e
theorem EZ {a b:List Nat} (h:a.length=b.length):BJ (ints a) (ints b)=true↔sl a b:=by
 rw [beforeB_lex h];constructor
 · intro h2;exact .inr ⟨h,h2⟩
 ·rintro (h2 | h2)
  · omega
  · exact h2.2
structure EJ (use:Rl→Bool) (R:List Rl) (start n:Nat) (K:Wk):Prop where
 is:∀ t,K.is t=true↔∃ c,c.length=n∧leads use R start c=some t
 ch:∀ t,K.is t=true→(K.ch t).length=n∧leads use R start (K.ch t)=some t
 least:∀ t c,c.length=n→leads use R start c=some t→sle (K.ch t) c
structure OJ (use:Rl→Bool) (R:List Rl) (start n k:Nat) (O:Wk):Prop where
 is:∀ t,O.is t=true↔∃ c i,c.length=n∧i<k∧leads use R start (c ++ [i])=some t
 ch:∀ t,O.is t=true→(O.ch t).length=n+1∧leads use R start (O.ch t)=some t
 least:∀ t c i,c.length=n→i<k→leads use R start (c ++ [i])=some t→sle (O.ch t) (c ++ [i])
theorem part_step {use:Rl→Bool} {R:List Rl} {start n k:Nat} {K O:Wk} (hK:EJ use R start n K) (hO:OJ use R start n k O) (hk:k<R.length):OJ use R start n (k+1) (stepK use K O k R[k]):=by
 unfold stepK;by_cases h1:(K.is R[k].frm.toNat && use R[k])=true
 ·rw [if_pos h1];simp only [Bool.and_eq_true] at h1;obtain ⟨hl,hc⟩:=hK.ch _ h1.1;have je:leads use R start (K.ch R[k].frm.toNat ++ [k])=some R[k].dst.toNat:=CJ.2 ⟨_,hc,hk,rfl,h1.2,rfl⟩;have jd:(K.ch R[k].frm.toNat ++ [k]).length=n+1:=by rw [AF,hl];rfl
  have ja:∀ t c,c.length=n→leads use R start (c ++ [k])=some t→t=R[k].dst.toNat∧sle (K.ch R[k].frm.toNat ++ [k]) (c ++ [k]):=by
   intro t c jb jc;obtain ⟨u,h2,h3,h4,h5,h6⟩:=CJ.1 jc;subst h4;exact ⟨h6.symm,Fj (hK.least _ c jb h2) k⟩
  by_cases h2:(!O.is R[k].dst.toNat || BJ (ints (K.ch R[k].frm.toNat ++ [k])) (ints (O.ch R[k].dst.toNat)))=true
  ·rw [if_pos h2];refine ⟨fun t=>?_,fun t ht=>?_,fun t c i jb hi jc=>?_⟩
   ·show (if t=R[k].dst.toNat then true else O.is t)=true↔_;by_cases e:t=R[k].dst.toNat
    ·subst e;rw [if_pos rfl];exact ⟨fun _=>⟨K.ch R[k].frm.toNat,k,hl,by omega,je⟩,fun _=>rfl⟩
    ·rw [if_neg e,hO.is];constructor
     · rintro ⟨c,i,h3,h4,h5⟩;exact ⟨c,i,h3,by omega,h5⟩
     ·rintro ⟨c,i,h3,h4,h5⟩;by_cases e2:i=k
      · subst e2;exact absurd (ja t c h3 h5).1 e
      · exact ⟨c,i,h3,by omega,h5⟩
   ·show (if t=R[k].dst.toNat then K.ch R[k].frm.toNat ++ [k] else O.ch t).length=n+1∧leads use R start (if t=R[k].dst.toNat then K.ch R[k].frm.toNat ++ [k] else O.ch t)=some t;by_cases e:t=R[k].dst.toNat
    · subst e;rw [if_pos rfl];exact ⟨jd,je⟩
    ·rw [if_neg e];refine hO.ch t ?_;have:(if t=R[k].dst.toNat then true else O.is t)=true:=ht
     rwa [if_neg e] at this
   ·show sle (if t=R[k].dst.toNat then K.ch R[k].frm.toNat ++ [k] else O.ch t) (c ++ [i]);by_cases e2:i=k
    ·subst e2;obtain ⟨h3,h4⟩:=ja t c jb jc;rw [if_pos h3];exact h4
    ·have h5:=hO.least t c i jb (by omega) jc;by_cases e:t=R[k].dst.toNat
     ·rw [if_pos e];subst e;have jg:O.is R[k].dst.toNat=true:=(hO.is _).2 ⟨c,i,jb,by omega,jc⟩;rw [jg] at h2;simp only [Bool.not_true,Bool.false_or] at h2;have h6:=(EZ (jd.trans (hO.ch _ jg).1.symm)).1 h2;exact CZ (.inr h6) h5
     · rw [if_neg e];exact h5
  ·rw [if_neg h2];have jf:O.is R[k].dst.toNat=true∧BJ (ints (K.ch R[k].frm.toNat ++ [k])) (ints (O.ch R[k].dst.toNat))=false:=by
    cases ha:O.is R[k].dst.toNat <;> cases hb:BJ (ints (K.ch R[k].frm.toNat ++ [k])) (ints (O.ch R[k].dst.toNat)) <;> simp [ha,hb] at h2 ⊢
   have ji:sle (O.ch R[k].dst.toNat) (K.ch R[k].frm.toNat ++ [k]):=by
    rcases IM (K.ch R[k].frm.toNat ++ [k]) (O.ch R[k].dst.toNat) with h3 | h3
    · rw [(EZ (jd.trans (hO.ch _ jf.1).1.symm)).2 h3] at jf;cases jf.2
    · exact h3
   refine ⟨fun t=>?_,hO.ch,fun t c i jb hi jc=>?_⟩
   ·rw [hO.is];constructor
    · rintro ⟨c,i,h3,h4,h5⟩;exact ⟨c,i,h3,by omega,h5⟩
    ·rintro ⟨c,i,h3,h4,h5⟩;by_cases e2:i=k
     ·subst e2;obtain ⟨h6,_⟩:=ja t c h3 h5;subst h6;exact (hO.is _).1 jf.1
     · exact ⟨c,i,h3,by omega,h5⟩
   ·by_cases e2:i=k
    ·subst e2;obtain ⟨h6,h7⟩:=ja t c jb jc;subst h6;exact CZ ji h7
    · exact hO.least t c i jb (by omega) jc
 ·rw [if_neg h1];have jh:∀ t c,c.length=n→leads use R start (c ++ [k])=some t→False:=by
   intro t c jb jc;obtain ⟨u,h2,h3,h4,h5,h6⟩:=CJ.1 jc;subst h4;exact h1 (by rw [(hK.is _).2 ⟨c,jb,h2⟩,h5];rfl)
  refine ⟨fun t=>?_,hO.ch,fun t c i jb hi jc=>?_⟩
  ·rw [hO.is];constructor
   · rintro ⟨c,i,h3,h4,h5⟩;exact ⟨c,i,h3,by omega,h5⟩
   ·rintro ⟨c,i,h3,h4,h5⟩;by_cases e2:i=k
    · subst e2;exact (jh t c h3 h5).elim
    · exact ⟨c,i,h3,by omega,h5⟩
  ·by_cases e2:i=k
   · subst e2;exact (jh t c jb jc).elim
   · exact hO.least t c i jb (by omega) jc
theorem NA {use:Rl→Bool} {R:List Rl} {start n:Nat} {K:Wk} (hK:EJ use R start n K):∀ k,k≤R.length→OJ use R start n k (Ca use R K k)
 | 0,_=>⟨fun t=>⟨fun h=>(by cases h),fun ⟨_,_,_,h,_⟩=>absurd h (by omega)⟩,fun t h=>(by cases h),fun _ _ _ _ h _=>absurd h (by omega)⟩
 | k+1,hk=>by
  rw [Ca,dif_pos (show k<R.length by omega)];exact part_step hK (NA hK k (by omega)) (by omega)
theorem OK {use:Rl→Bool} {R:List Rl} {start n:Nat} {K:Wk} (hK:EJ use R start n K):EJ use R start (n+1) (Dw use R K):=by
 have h:=NA hK R.length (A7 _);have split:∀ t c,c.length=n+1→leads use R start c=some t→∃ d i,c=d ++ [i]∧d.length=n∧i<R.length:=by
  intro t c hc hl;rcases FH c with rfl | ⟨d,i,rfl⟩
  · simp at hc
  ·obtain ⟨u,h2,h3,_⟩:=CJ.1 hl;exact ⟨d,i,rfl,by simpa using hc,h3⟩
 refine ⟨fun t=>?_,h.ch,fun t c hc hl=>?_⟩
 ·rw [show (Dw use R K).is t=(Ca use R K R.length).is t from rfl,h.is];constructor
  · rintro ⟨c,i,h1,_,h2⟩;exact ⟨c ++ [i],by simp [h1],h2⟩
  ·rintro ⟨c,h1,h2⟩;obtain ⟨d,i,rfl,h3,h4⟩:=split t c h1 h2;exact ⟨d,i,h3,h4,h2⟩
 ·obtain ⟨d,i,rfl,h3,h4⟩:=split t c hc hl;exact h.least t d i h3 h4 hl
def wk0 (m:Nat) (b:Bool):Wk:=⟨fun t=>if t=m then b else false,fun _=>[]⟩
theorem OL {use:Rl→Bool} {R:List Rl} {start:Nat}:EJ use R start 0 (wk0 start true):=by
 refine ⟨fun t=>?_,fun t ht=>?_,fun t c hc _=>?_⟩
 ·show (if t=start then true else false)=true↔_;constructor
  ·intro h;by_cases e:t=start
   · subst e;exact ⟨[],rfl,rfl⟩
   · rw [if_neg e] at h;cases h
  ·rintro ⟨c,hc,hl⟩;obtain rfl:=List.eq_nil_of_length_eq_zero hc;cases hl;rw [if_pos rfl]
 ·have h:(if t=start then true else false)=true:=ht;by_cases e:t=start
  · subst e;exact ⟨rfl,rfl⟩
  · rw [if_neg e] at h;cases h
 ·obtain rfl:=List.eq_nil_of_length_eq_zero hc;exact EY _
def Cb (use:Rl→Bool) (R:List Rl) (start:Nat) (b:Bool):Nat→Wk
 | 0=>wk0 start b
 | n+1=>Dw use R (Cb use R start b n)
theorem IU {use:Rl→Bool} {R:List Rl} {start:Nat}:∀ n,EJ use R start n (Cb use R start true n)
 | 0=>OL
 | n+1=>OK (IU n)
def sa:Value→Option Addr | .slice a _ _=>a | _=>none
def sn:Value→Nat | .slice _ n _=>n | _=>0
def sc:Value→Nat | .slice _ _ c=>c | _=>0
theorem T3 {w:World} {B:Nat} {v:Value} {xs:List Nat} (h:Ch w B v xs):v=.slice (sa v) (sn v) (sc v):=by
 obtain ⟨a,n,c,rfl⟩:=h.form;rfl
structure WB (B G:Nat) (w1:World) (K:Wk) (p:Nat→Option Addr) (m d:Nat→Nat) (wr:World):Prop where
 row:CF wr G K.is (fun t=>.slice (p t) (m t) (d t))
 ok:∀ t,t<8→Ch wr B (.slice (p t) (m t) (d t)) (K.ch t)
 bl:Below G w1 wr
section
variable {B G:Nat} {w1 wr w2:World} {K O:Wk} {p p':Nat→Option Addr} {m d m' d':Nat→Nat}
theorem WB.below (h:WB B G w1 K p m d wr) (hb:Below wr.heap.size wr w2):WB B G w1 K p m d w2 :=
 ⟨h.row.below hb h.row.lt,fun t ht=>(h.ok t ht).below hb (h.ok t ht).lt,h.bl.trans (hb.mono (by have:=h.row.lt;omega))⟩
theorem WB.sl (h:WB B G w1 K p m d wr) {t:Nat} (ht:t<8):SlS wr (p t) (ints (K.ch t))∧m t=(ints (K.ch t)).length:=⟨(h.ok t ht).sls.1,(h.ok t ht).sls.2.trans (BH _).symm⟩
theorem WB.c0 (h:WB B G w1 K p m d wr):wr.cell? ⟨G,0,none⟩=some (.bool (K.is 0)):=h.row.is (i:=0) (by omega)
theorem WB.c1 (h:WB B G w1 K p m d wr):wr.cell? ⟨G,1,none⟩=some (.bool (K.is 1)):=h.row.is (i:=1) (by omega)
theorem WB.c2 (h:WB B G w1 K p m d wr):wr.cell? ⟨G,2,none⟩=some (.bool (K.is 2)):=h.row.is (i:=2) (by omega)
theorem WB.c3 (h:WB B G w1 K p m d wr):wr.cell? ⟨G,3,none⟩=some (.bool (K.is 3)):=h.row.is (i:=3) (by omega)
theorem WB.c4 (h:WB B G w1 K p m d wr):wr.cell? ⟨G,4,none⟩=some (.bool (K.is 4)):=h.row.is (i:=4) (by omega)
theorem WB.c5 (h:WB B G w1 K p m d wr):wr.cell? ⟨G,5,none⟩=some (.bool (K.is 5)):=h.row.is (i:=5) (by omega)
theorem WB.c6 (h:WB B G w1 K p m d wr):wr.cell? ⟨G,6,none⟩=some (.bool (K.is 6)):=h.row.is (i:=6) (by omega)
theorem WB.c7 (h:WB B G w1 K p m d wr):wr.cell? ⟨G,7,none⟩=some (.bool (K.is 7)):=h.row.is (i:=7) (by omega)
theorem WB.c8 (h:WB B G w1 K p m d wr):wr.cell? ⟨G,8,none⟩=some (.slice (p 0) (m 0) (d 0)):=h.row.vs (i:=0) (by omega)
theorem WB.c9 (h:WB B G w1 K p m d wr):wr.cell? ⟨G,9,none⟩=some (.slice (p 1) (m 1) (d 1)):=h.row.vs (i:=1) (by omega)
theorem WB.c10 (h:WB B G w1 K p m d wr):wr.cell? ⟨G,10,none⟩=some (.slice (p 2) (m 2) (d 2)):=h.row.vs (i:=2) (by omega)
theorem WB.c11 (h:WB B G w1 K p m d wr):wr.cell? ⟨G,11,none⟩=some (.slice (p 3) (m 3) (d 3)):=h.row.vs (i:=3) (by omega)
theorem WB.c12 (h:WB B G w1 K p m d wr):wr.cell? ⟨G,12,none⟩=some (.slice (p 4) (m 4) (d 4)):=h.row.vs (i:=4) (by omega)
theorem WB.c13 (h:WB B G w1 K p m d wr):wr.cell? ⟨G,13,none⟩=some (.slice (p 5) (m 5) (d 5)):=h.row.vs (i:=5) (by omega)
theorem WB.c14 (h:WB B G w1 K p m d wr):wr.cell? ⟨G,14,none⟩=some (.slice (p 6) (m 6) (d 6)):=h.row.vs (i:=6) (by omega)
theorem WB.c15 (h:WB B G w1 K p m d wr):wr.cell? ⟨G,15,none⟩=some (.slice (p 7) (m 7) (d 7)):=h.row.vs (i:=7) (by omega)
theorem WB.free (h:WB B G w1 K p m d wr) (i:Nat):wr.frozen? ⟨G,i,none⟩=false:=h.row.free
theorem WB.arr (h:WB B G w1 K p m d wr):wr.heap[G]? = some (.cells #[.bool (K.is 0),.bool (K.is 1),.bool (K.is 2),.bool (K.is 3),.bool (K.is 4),.bool (K.is 5),.bool (K.is 6),.bool (K.is 7),.slice (p 0) (m 0) (d 0),.slice (p 1) (m 1) (d 1),.slice (p 2) (m 2) (d 2),.slice (p 3) (m 3) (d 3),.slice (p 4) (m 4) (d 4),.slice (p 5) (m 5) (d 5),.slice (p 6) (m 6) (d 6),.slice (p 7) (m 7) (d 7)] 190 (0,0)):=h.row
theorem WB.put (h:WB B G w1 K p m d wr) (ho:∀ t,t<8→Ch wr B (.slice (p' t) (m' t) (d' t)) (O.ch t)):WB B G w1 O p' m' d' ((((((((((((((((wr.setCell ⟨G,0,none⟩ (.bool (O.is 0))).setCell ⟨G,1,none⟩ (.bool (O.is 1))).setCell ⟨G,2,none⟩ (.bool (O.is 2))).setCell ⟨G,3,none⟩ (.bool (O.is 3))).setCell ⟨G,4,none⟩ (.bool (O.is 4))).setCell ⟨G,5,none⟩ (.bool (O.is 5))).setCell ⟨G,6,none⟩ (.bool (O.is 6))).setCell ⟨G,7,none⟩ (.bool (O.is 7))).setCell ⟨G,8,none⟩ (.slice (p' 0) (m' 0) (d' 0))).setCell ⟨G,9,none⟩ (.slice (p' 1) (m' 1) (d' 1))).setCell ⟨G,10,none⟩ (.slice (p' 2) (m' 2) (d' 2))).setCell ⟨G,11,none⟩ (.slice (p' 3) (m' 3) (d' 3))).setCell ⟨G,12,none⟩ (.slice (p' 4) (m' 4) (d' 4))).setCell ⟨G,13,none⟩ (.slice (p' 5) (m' 5) (d' 5))).setCell ⟨G,14,none⟩ (.slice (p' 6) (m' 6) (d' 6))).setCell ⟨G,15,none⟩ (.slice (p' 7) (m' 7) (d' 7))):=by
 refine ⟨Tl h.arr,fun t ht=>?_,((((((((((((((((h.bl.setCell (A7 _) _)).setCell (A7 _) _).setCell (A7 _) _).setCell (A7 _) _).setCell (A7 _) _).setCell (A7 _) _).setCell (A7 _) _).setCell (A7 _) _).setCell (A7 _) _).setCell (A7 _) _).setCell (A7 _) _).setCell (A7 _) _).setCell (A7 _) _).setCell (A7 _) _).setCell (A7 _) _).setCell (A7 _) _⟩;refine (ho t ht).same fun q hq=>Lr fun e=>?_;obtain ⟨cs',h2⟩:=(ho t ht).own hq;rw [e,h.arr] at h2;cases h2
theorem Ra {v:Value} {xs:List Nat} {B':Nat} (h:WB B G w1 K p m d wr) (hv:Ch wr B' v xs):Ch ((((((((((((((((wr.setCell ⟨G,0,none⟩ (.bool (O.is 0))).setCell ⟨G,1,none⟩ (.bool (O.is 1))).setCell ⟨G,2,none⟩ (.bool (O.is 2))).setCell ⟨G,3,none⟩ (.bool (O.is 3))).setCell ⟨G,4,none⟩ (.bool (O.is 4))).setCell ⟨G,5,none⟩ (.bool (O.is 5))).setCell ⟨G,6,none⟩ (.bool (O.is 6))).setCell ⟨G,7,none⟩ (.bool (O.is 7))).setCell ⟨G,8,none⟩ (.slice (p' 0) (m' 0) (d' 0))).setCell ⟨G,9,none⟩ (.slice (p' 1) (m' 1) (d' 1))).setCell ⟨G,10,none⟩ (.slice (p' 2) (m' 2) (d' 2))).setCell ⟨G,11,none⟩ (.slice (p' 3) (m' 3) (d' 3))).setCell ⟨G,12,none⟩ (.slice (p' 4) (m' 4) (d' 4))).setCell ⟨G,13,none⟩ (.slice (p' 5) (m' 5) (d' 5))).setCell ⟨G,14,none⟩ (.slice (p' 6) (m' 6) (d' 6))).setCell ⟨G,15,none⟩ (.slice (p' 7) (m' 7) (d' 7))) B' v xs:=by
 refine hv.same fun q hq=>Lr fun e=>?_;obtain ⟨cs',h2⟩:=hv.own hq;rw [e,h.arr] at h2;cases h2
end
theorem NB (S:Sch) (a:Option Addr) (cap:Nat) (K:Wk) (p:Nat→Option Addr) (m d:Nat→Nat) (silent:Bool) (L:Nat) (w:World) (hR:BL w a S.rules) (hS:Fit S) (hK:∀ t,t<8→Ch w 0 (.slice (p t) (m t) (d t)) (K.ch t)) (hL:∀ t,t<8→(K.ch t).length≤L) (ja:L≤100) :
  Calls Tryz.prog 109 #[.agg #[.int .i64 S.modes,.int .u8 S.acc,.slice a S.rules.length cap],.agg #[.bool (K.is 0),.bool (K.is 1),.bool (K.is 2),.bool (K.is 3),.bool (K.is 4),.bool (K.is 5),.bool (K.is 6),.bool (K.is 7),.slice (p 0) (m 0) (d 0),.slice (p 1) (m 1) (d 1),.slice (p 2) (m 2) (d 2),.slice (p 3) (m 3) (d 3),.slice (p 4) (m 4) (d 4),.slice (p 5) (m 5) (d 5),.slice (p 6) (m 6) (d 6),.slice (p 7) (m 7) (d 7)],.bool silent] w fun e w'=>∃ (p':Nat→Option Addr) (m' d':Nat→Nat),e=.returned (.agg #[.bool ((Dw (CG silent) S.rules K).is 0),.bool ((Dw (CG silent) S.rules K).is 1),.bool ((Dw (CG silent) S.rules K).is 2),.bool ((Dw (CG silent) S.rules K).is 3),.bool ((Dw (CG silent) S.rules K).is 4),.bool ((Dw (CG silent) S.rules K).is 5),.bool ((Dw (CG silent) S.rules K).is 6),.bool ((Dw (CG silent) S.rules K).is 7),.slice (p' 0) (m' 0) (d' 0),.slice (p' 1) (m' 1) (d' 1),.slice (p' 2) (m' 2) (d' 2),.slice (p' 3) (m' 3) (d' 3),.slice (p' 4) (m' 4) (d' 4),.slice (p' 5) (m' 5) (d' 5),.slice (p' 6) (m' 6) (d' 6),.slice (p' 7) (m' 7) (d' 7)])∧(∀ t,t<8→Ch w' w.heap.size (.slice (p' t) (m' t) (d' t)) ((Dw (CG silent) S.rules K).ch t))∧Below w.heap.size w w':=by
 refine (next_any S a cap K (fun t=>.slice (p t) (m t) (d t)) silent L w hR hS hK hL ja).mono ?_;rintro e w' ⟨vO,rfl,hc,hb⟩;have hf:∀ t,t<8→vO t=.slice (sa (vO t)) (sn (vO t)) (sc (vO t)):=fun t ht=>T3 (hc t ht);refine ⟨fun t=>sa (vO t),fun t=>sn (vO t),fun t=>sc (vO t),?_,fun t ht=>by rw [← hf t ht];exact hc t ht,hb⟩;simp only;rw [← hf 0 (by omega),← hf 1 (by omega),← hf 2 (by omega),← hf 3 (by omega),← hf 4 (by omega),← hf 5 (by omega),← hf 6 (by omega),← hf 7 (by omega)];rfl
def Hv (K:Wk) (ok:Nat→Bool) (best:List Nat) (m:Nat):List Nat :=
 if K.is m && (ok m && (best.isEmpty || BJ (ints (K.ch m)) (ints best))) then K.ch m else best
def CM (K:Wk) (ok:Nat→Bool):Nat→List Nat
 | 0=>[]
 | m+1=>Hv K ok (CM K ok m) m
def DJ (S:Sch) (m:Nat):Bool:=!(BX S).testBit m
def rsF (S:Sch):Nat→Nat→List Nat
 | 0,_=>[]
 | f+1,n=>if CM (Cb (CG false) S.rules 0 true (n+1)) (DJ S) S.modes.toNat=[] then rsF S f (n+1) else CM (Cb (CG false) S.rules 0 true (n+1)) (DJ S) S.modes.toNat
def Ci (S:Sch):List Nat:=if (BX S).testBit 0 then rsF S S.modes.toNat 0 else []
theorem EP {use:Rl→Bool} {R:List Rl} {start:Nat} (b:Bool) (hf:∀ r∈R,r.frm.toNat<8):∀ n t,t<8→((Cb use R start b n).ch t).length≤n
 | 0,t,_=>by simp [Cb,wk0]
 | n+1,t,ht=>FL (EP b hf n) hf R.length t ht
theorem Jp {K:Wk} {ok:Nat→Bool} {L:Nat} (hK:∀ t,t<8→(K.ch t).length≤L):∀ m,m≤8→(CM K ok m).length≤L
 | 0,_=>by simp [CM]
 | m+1,h=>by
  rw [CM,Hv];split
  · exact hK m (by omega)
  · exact Jp hK m (by omega)
theorem T5 (w:World) (B b:Nat) (hb:b<8) (x:Bool):WB B w.heap.size w (wk0 b x) (fun _=>none) (fun _=>0) (fun _=>0) (w.alloc (.cells (wkL (wk0 b x).is (fun _=>.slice none 0 0)).toArray 190)) :=
 ⟨heap_alloc_new _ _,fun t ht=>Ch.nil _ _,(Below.refl _ _).alloc (A7 _) _⟩
theorem P8 {w:World} {B:Nat} (h:B≤w.heap.size):Ch (w.alloc (.cells #[] 3)) B (.slice (some ⟨w.heap.size,0,none⟩) 0 0) [] :=
 ⟨rfl,.inr ⟨_,0,#[],rfl,h,heap_alloc_new _ _,A7 _,Nat.zero_le _,rfl,rfl⟩⟩
theorem rstuck_any (
          S:Sch) (a:Option Addr) (cap:Nat) (w:World) (hR:BL w a S.rules) (hS:Fit S) :
  Calls Tryz.prog 85 #[.agg #[.int .i64 S.modes,.int .u8 S.acc,.slice a S.rules.length cap]] w fun e w'=>∃ v,e=.returned v∧Ch w' w.heap.size v (Ci S)∧Below w.heap.size w w':=by
 have HR:=A6 hR;have HS:=A6 hS;clear hR;have m0:=hS.m0;have m1:=hS.m1;have hlen:=hS.len;obtain ⟨mm,jN⟩:=Int.eq_ofNat_of_zero_le (show 0≤S.modes by omega);have HM:Hid (S.modes.toNat=mm):=by show _=_;omega
 have hmm0:0<mm:=by omega
 have hmm8:mm≤8:=by omega
 have jr:=A6 jN;obtain ⟨l0,jz⟩:∃ l0,(BX S).testBit 0=l0:=⟨_,rfl⟩
 have jJ:Hid (Ci S=if l0=true then rsF S mm 0 else []):=by show _=_;rw [Ci,jz,HM.out]
 have jH:=A6 jz;clear jN jz hS;cases l0 with
 | false =>
  have HE:Hid (Ci S=[]):=by rw [jJ.out];rfl
  go_enter Tryz.func85,Tryz.ntmps85
  go_wp2_with (first | (go_at_call 56;refine (rlive_any S a cap _ (HR.out.later (by first | exact hB | go_grown) (A7 _)) HS.out).mono ?_;rintro e w1 ⟨v,rfl,⟨g3,hv,jX,jc⟩,hb⟩;rw [HM.out] at hv jc;subst hv;have ju:=Bg jc (i:=0) (by omega);rw [jH.out] at ju;have hB:=Ap (B:=w.heap.size) (w:=w) (by go_grown) hb (A7 _);clear jc hb) | fail)
  go_ret;exact ⟨.slice none 0 0,rfl,by rw [HE.out];exact Ch.nil _ _,hB⟩
 | true =>
  have HE:Hid (Ci S=rsF S mm 0):=by rw [jJ.out];rfl
  go_enter Tryz.func85,Tryz.ntmps85
  go_wp2_with (first | (go_at_call 56;refine (rlive_any S a cap _ (HR.out.later (by first | exact hB | go_grown) (A7 _)) HS.out).mono ?_;rintro e w1 ⟨v,rfl,⟨g3,hv,jX,jc⟩,hb⟩;rw [HM.out] at hv jc;subst hv;have ju:=Bg jc (i:=0) (by omega);rw [jH.out] at ju;have hB:=Ap (B:=w.heap.size) (w:=w) (by go_grown) hb (A7 _);have HB1:=A6 hB;have jj:=Ap (B:=w.heap.size+1) (w:=w.alloc (.cells #[.int .i64 S.modes,.int .u8 S.acc,.slice a S.rules.length cap] 32)) (by go_grown) hb (by simp);have jn:=A6 jj;have j0:=jj.size;have jo:=A6 jc;have jq:=(A9.1 jc).1;obtain ⟨hz,hc,hf⟩:=BB hb (by first | (simp only [AA];rfl) | rfl);clear jc hb jj) | fail)
  simp only [AA] at j0;have jT:=A6 (T5 w1 w.heap.size 0 (by omega) true);clear hz hc hf ju
  go_loopw [5] (fun i wr=>∃ (k:Nat) (p:Nat→Option Addr) (m d:Nat→Nat),k≤mm∧i=.int .i64 k∧WB w.heap.size w1.heap.size w1 (Cb (CG false) S.rules 0 true k) p m d wr∧rsF S (mm - k) k=rsF S mm 0) (fun i _=>mm - (intOf i).toNat)
  case atStart=>exact ⟨0,_,_,_,by omega,rfl,jT.out,rfl⟩
  case round =>
   obtain ⟨k,p,m,d,hk,rfl,jb,jO⟩:=hrel;have jK:=A6 jb;have jh:=A6 jO;have jl:Below (w.heap.size+1) (w.alloc (.cells #[.int .i64 S.modes,.int .u8 S.acc,.slice a S.rules.length cap] 32)) wr:=jn.out.trans (jb.bl.mono (by omega));have hB:Below w.heap.size w wr:=((Below.refl _ _).alloc (A7 _) _).trans (jl.mono (by omega));obtain ⟨hz,hc,hf⟩:=BE jl rfl;simp only [AA] at hz;have jU:=jb.row.lt;clear jO;by_cases hlt:k<mm
   ·have jC
         :
          (k:Int)<S.modes:=by have:=jr.out;omega
    obtain ⟨O,hO⟩:∃ O,(Cb (CG false) S.rules 0 true (k+1))=O:=⟨_,rfl⟩
    have HO:Hid (Dw (CG false) S.rules (Cb (CG false) S.rules 0 true k)=O):=hO;have jS:=A6 hO;have jI:Hid (rsF S (mm - k) k=if CM O (DJ S) mm=[] then rsF S (mm - (k+1)) (k+1) else CM O (DJ S) mm):=by
     show _=_;rw [show mm - k=(mm - (k+1))+1 by omega,rsF,hO,HM.out]
    have jM:Hid (∀ t,t<8→(O.ch t).length≤k+1):=by
     show ∀ t,t<8→_;rw [← hO];exact EP true (fun r hr=>by have:=HS.out.small r hr;omega) (k+1)
    clear hO;have q0:=jb.c0;have q1:=jb.c1;have q2:=jb.c2;have q3:=jb.c3;have q4:=jb.c4;have q5:=jb.c5;have q6:=jb.c6;have q7:=jb.c7;have q8:=jb.c8;have q9:=jb.c9;have q10:=jb.c10;have q11:=jb.c11;have q12:=jb.c12;have q13:=jb.c13;have q14:=jb.c14;have q15:=jb.c15;clear jb
    go_wp2_with (first | (go_at_call 109;refine (NB S a cap (Cb (CG false) S.rules 0 true k) p m d false k _ (HR.out.later (by first | exact hB | go_grown) (A7 _)) HS.out (fun t ht=>(jK.out.ok t ht).mono (Nat.zero_le _)) (EP true (fun r hr=>by have:=HS.out.small r hr;omega) k) (by omega)).mono ?_;rintro e w2 ⟨p',m',d',rfl,jm,hb⟩;rw [HO.out] at jm ⊢;clear q0 q1 q2 q3 q4 q5 q6 q7 q8 q9 q10 q11 q12 q13 q14 q15;have ja:=jK.out.below hb;have q0:=ja.c0;have q1:=ja.c1;have q2:=ja.c2;have q3:=ja.c3;have q4:=ja.c4;have q5:=ja.c5;have q6:=ja.c6;have q7:=ja.c7;have q8:=ja.c8;have q9:=ja.c9;have q10:=ja.c10;have q11:=ja.c11;have q12:=ja.c12;have q13:=ja.c13;have q14:=ja.c14;have q15:=ja.c15;have qf:=ja.free;have jw:=A6 (ja.put (O:=O) (fun t ht=>(jm t ht).mono hB.size));have j1:=hb.size;have jL:=Ap (B:=w.heap.size) (w:=w) hB hb (A7 _);clear jm ja hb) | fail)
    clear q0 q1 q2 q3 q4 q5 q6 q7 q8 q9 q10 q11 q12 q13 q14 q15 qf hz hc hf jl;have HG3:Hid (g3<w1.heap.size):=jq;have jx:Hid (∀ W,WB w.heap.size w1.heap.size w1 O p' m' d' W→W.heap.size=w2.heap.size→WB w.heap.size w1.heap.size w1 O p' m' d' (W.alloc (.cells #[] 3))∧Ch (W.alloc (.cells #[] 3)) w.heap.size (.slice (some ⟨w2.heap.size,0,none⟩) 0 0) []):=fun W h jQ =>
     ⟨h.below ((Below.refl _ _).alloc (A7 _) _),by have:=P8 (w:=W) (B:=w.heap.size) (by rw [jQ];exact jL.size);rw [jQ] at this;exact this⟩
    go_loopw [6,7] (fun bv i wr=>∃ (j:Nat) (b:Option Addr) (n c:Nat) (xs:List Nat),j≤mm∧i=.int .i64 j∧bv=.slice b n c∧n=xs.length∧xs=CM O (DJ S) j∧Ch wr w.heap.size (.slice b n c) xs∧WB w.heap.size w1.heap.size w1 O p' m' d' wr) (fun _ i _=>mm - (intOf i).toNat)
    case atStart=>exact ⟨0,_,_,_,[],by omega,rfl,rfl,rfl,rfl,(jx.out _ jw.out (by simp)).2,(jx.out _ jw.out (by simp)).1⟩
    case round =>
     clear jw jx jL j1;obtain ⟨j,b,n,c,xs,hj,rfl,rfl,hn,jR,jm,jb⟩:=hrel;have HN:=A6 hn;have jt:=A6 jR;have je:=A6 jm;have ji:=A6 jb;have jl:Below (w.heap.size+1) (w.alloc (.cells #[.int .i64 S.modes,.int .u8 S.acc,.slice a S.rules.length cap] 32)) wr:=jn.out.trans (jb.bl.mono (by omega));have hB:Below w.heap.size w wr:=((Below.refl _ _).alloc (A7 _) _).trans (jl.mono (by omega));obtain ⟨hz,hc,hf⟩:=BE jl rfl;simp only [AA] at hz;have jU:=jb.row.lt;clear hn jR jm;by_cases jY:j<mm
     ·have jB:(j:Int)<S.modes:=by have:=jr.out;omega
      have hj8:(j:Int)<8:=by omega
      have hjm:(j:Int)<(mm:Int):=by omega
      have qi:=jb.row.is (i:=j) (by omega);have qv:=jb.row.vs (i:=j) (by omega);have ql:wr.cell? ⟨g3,j,none⟩=some (.bool ((BX S).testBit j)):=(jb.bl.cell (p:=⟨g3,j,none⟩) jq).trans (Bg jo.out jY);obtain ⟨oi,jE⟩:∃ oi,O.is j=oi:=⟨_,rfl⟩
      obtain ⟨lb,jA⟩:∃ lb,(BX S).testBit j=lb:=⟨_,rfl⟩
      obtain ⟨bb,jy⟩:∃ bb,BJ (ints (O.ch j)) (ints xs)=bb:=⟨_,rfl⟩
      have HB:Hid (CM O (DJ S) (j+1)=if oi && (!lb && (xs.isEmpty || bb)) then O.ch j else xs):=by
       show _=_;rw [CM,← jt.out,Hv,jE,jy,DJ,jA]
      rw [jE] at qi;rw [jA] at ql;have jF:=A6 jy;have hOj:=jM.out j (by omega);have hxl:xs.length≤k+1:=by rw [jt.out];exact Jp jM.out j (by omega)
      have jP:=jb.sl (t:=j) (by omega);have jk:=A6 jP;have js:Hid (SlS wr b (ints xs)∧n=(ints xs).length):=⟨je.out.sls.1,je.out.sls.2.trans (BH _).symm⟩
      clear jE jA jy jP jb;cases oi with
      | false =>
       have jg:Hid (CM O (DJ S) (j+1)=xs):=by rw [HB.out];rfl
       go_wp2
       go_roundw
       case rel=>exact ⟨j+1,b,n,c,xs,by omega,by go_num,rfl,HN.out,jg.out.symm,je.out,ji.out⟩
       case measure=>simp [intOf];omega
      | true =>
       cases lb with
       | true =>
        have jg:Hid (CM O (DJ S) (j+1)=xs):=by rw [HB.out];rfl
        go_wp2
        go_roundw
        case rel=>exact ⟨j+1,b,n,c,xs,by omega,by go_num,rfl,HN.out,jg.out.symm,je.out,ji.out⟩
        case measure=>simp [intOf];omega
       | false =>
        by_cases jd:xs=[]
        ·have jg:Hid (CM O (DJ S) (j+1)=O.ch j):=by show _=_;rw [HB.out,jd];rfl
         have jD:n=0:=by rw [HN.out,jd];rfl
         subst jD;clear jd;go_wp2
         go_roundw
         case rel=>exact ⟨j+1,p' j,m' j,d' j,O.ch j,by omega,by go_num,rfl,jk.out.2.trans (BH _),jg.out.symm,ji.out.ok j (by omega),ji.out⟩
         case measure=>simp [intOf];omega
        ·have jZ:0<n:=by rw [HN.out];rcases xs with _ | ⟨y,ys⟩;exact absurd rfl jd;simp
         have hnz:((n:Int) == 0)=false:=by simp;omega
         have jg:Hid (CM O (DJ S) (j+1)=if bb=true then O.ch j else xs):=by
          show _=_;rw [HB.out];rcases xs with _ | ⟨y,ys⟩;exact absurd rfl jd;rfl
         clear jd;cases bb with
         | true =>
          go_wp2_with (first | (go_at_call 110;refine (before_any (p' j) b (m' j) n (d' j) c (ints (O.ch j)) (ints xs) _ jk.out.2 js.out.2 jk.out.1 js.out.1 (by rw [BH];omega) (by rw [BH];omega)).mono ?_;rintro ee w3 ⟨jp,hb⟩;rw [jF.out] at jp;subst jp;have jf:=A6 (ji.out.below hb);have jG:=A6 (je.out.below hb je.out.lt);obtain ⟨j2,jV,jW⟩:=BB hb rfl;clear hb) | fail)
          go_roundw
          case rel=>exact ⟨j+1,p' j,m' j,d' j,O.ch j,by omega,by go_num,rfl,jk.out.2.trans (BH _),jg.out.symm,jf.out.ok j (by omega),jf.out⟩
          case measure=>simp [intOf];omega
         | false =>
          go_wp2_with (first | (go_at_call 110;refine (before_any (p' j) b (m' j) n (d' j) c (ints (O.ch j)) (ints xs) _ jk.out.2 js.out.2 jk.out.1 js.out.1 (by rw [BH];omega) (by rw [BH];omega)).mono ?_;rintro ee w3 ⟨jp,hb⟩;rw [jF.out] at jp;subst jp;have jf:=A6 (ji.out.below hb);have jG:=A6 (je.out.below hb je.out.lt);obtain ⟨j2,jV,jW⟩:=BB hb rfl;clear hb) | fail)
          go_roundw
          case rel=>exact ⟨j+1,b,n,c,xs,by omega,by go_num,rfl,HN.out,jg.out.symm,jG.out,jf.out⟩
          case measure=>simp [intOf];omega
     ·obtain rfl:j=mm:=by omega
      have jB:¬ (j:Int)<S.modes:=by have:=jr.out;omega
      by_cases jd:xs=[]
      ·have jD:n=0:=by rw [HN.out,jd];rfl
       have jv:Hid (rsF S (j - (k+1)) (k+1)=rsF S j 0):=by
        have h1:=jI.out;have h2:=jh.out;rw [← jt.out,if_pos jd] at h1;exact h1.symm.trans h2
       subst jD;clear jd jb;go_wp2
       go_roundw
       case rel=>exact ⟨k+1,p',m',d',by omega,by go_num,by rw [jS.out];exact ji.out,jv.out⟩
       case measure=>simp [intOf];omega
      ·have jZ:0<n:=by rw [HN.out];rcases xs with _ | ⟨y,ys⟩;exact absurd rfl jd;simp
       have hnI:(0:Int)<(n:Int):=by omega
       have jv:Hid (xs=rsF S j 0):=by
        have h1:=jI.out;have h2:=jh.out;rw [← jt.out,if_neg jd] at h1;exact h1.symm.trans h2
       clear jd jb;go_wp2;go_ret;exact ⟨.slice b n c,rfl,by rw [HE.out,← jv.out];exact je.out,hB⟩
   ·obtain rfl:k=mm:=by omega
    have jC:¬ (k:Int)<S.modes:=by have:=jr.out;omega
    have HF:Hid ([]=rsF S k 0):=by have:=jh.out;rw [Nat.sub_self,rsF] at this;exact this
    go_wp2;go_ret;exact ⟨.slice none 0 0,rfl,by rw [HE.out,← HF.out];exact Ch.nil _ _,hB⟩
def F7 (K:Wk) (best:List Nat) (m:Nat):List Nat :=
 if K.is m && (best.isEmpty || (decide ((K.ch m).length<best.length) || (decide ((K.ch m).length=best.length) && BJ (ints (K.ch m)) (ints best)))) then K.ch m else best
def Dd (S:Sch) (m:Nat) (best0:List Nat):Nat→List Nat
 | 0=>best0
 | n+1=>F7 (Cb (CG true) S.rules m (FU S m) (n+1)) (Dd S m best0 n) m
def Ga (S:Sch):Nat→List Nat
 | 0=>[]
 | m+1=>Dd S m (Ga S m) S.modes.toNat
def FS9 (S:Sch):List Nat:=Ga S S.modes.toNat
theorem IV {S:Sch} (hf:∀ r∈S.rules,r.frm.toNat<8) {m:Nat} (hm:m<8) {b:List Nat} (hb:b.length≤8):∀ n,n≤8→(Dd S m b n).length≤8
 | 0,_=>hb
 | n+1,h=>by
  rw [Dd,F7];split
  · have:=EP (use:=CG true) (start:=m) (FU S m) hf (n+1) m hm;omega
  · exact IV hf hm hb n (by omega)
theorem LE {S:Sch} (hS:Fit S) (hf:∀ r∈S.rules,r.frm.toNat<8):∀ m,m≤8→(Ga S m).length≤8
 | 0,_=>by simp [Ga]
 | m+1,h=>by
  rw [Ga];exact IV hf (by omega) (LE hS hf m (by omega)) _ (by have:=hS.m1;omega)
theorem row_zero (w:World):CF (w.alloc (.cells #[.bool false,.bool false,.bool false,.bool false,.bool false,.bool false,.bool false,.bool false,.slice none 0 0,.slice none 0 0,.slice none 0 0,.slice none 0 0,.slice none 0 0,.slice none 0 0,.slice none 0 0,.slice none 0 0] 190)) w.heap.size (fun _=>false) (fun _=>.slice none 0 0):=heap_alloc_new w (.cells #[.bool false,.bool false,.bool false,.bool false,.bool false,.bool false,.bool false,.bool false,.slice none 0 0,.slice none 0 0,.slice none 0 0,.slice none 0 0,.slice none 0 0,.slice none 0 0,.slice none 0 0,.slice none 0 0] 190)
theorem Pw (w:World) {m:Nat} (hm:m<8) (v:Bool):CF (w.alloc (.cells ([.bool false,.bool false,.bool false,.bool false,.bool false,.bool false,.bool false,.bool false,.slice none 0 0,.slice none 0 0,.slice none 0 0,.slice none 0 0,.slice none 0 0,.slice none 0 0,.slice none 0 0,.slice none 0 0].set m (.bool v)).toArray 190)) w.heap.size (wk0 m v).is (fun _=>.slice none 0 0):=by
 have h:=heap_alloc_new w (.cells ([.bool false,.bool false,.bool false,.bool false,.bool false,.bool false,.bool false,.bool false,.slice none 0 0,.slice none 0 0,.slice none 0 0,.slice none 0 0,.slice none 0 0,.slice none 0 0,.slice none 0 0,.slice none 0 0].set m (.bool v)).toArray 190);unfold CF;have e:([Value.bool false,.bool false,.bool false,.bool false,.bool false,.bool false,.bool false,.bool false,.slice none 0 0,.slice none 0 0,.slice none 0 0,.slice none 0 0,.slice none 0 0,.slice none 0 0,.slice none 0 0,.slice none 0 0].set m (.bool v))=wkL (wk0 m v).is (fun _=>.slice none 0 0):=by
  rcases (show m=0∨m=1∨m=2∨m=3∨m=4∨m=5∨m=6∨m=7 by omega) with rfl | rfl | rfl | rfl | rfl | rfl | rfl | rfl <;> rfl
 rw [e] at h ⊢;exact h
theorem rendless_any (S:Sch) (a:Option Addr) (cap:Nat) (w:World) (hR:BL w a S.rules) (hS:Fit S) :
  Calls Tryz.prog 86 #[.agg #[.int .i64 S.modes,.int .u8 S.acc,.slice a S.rules.length cap]] w fun e w'=>∃ v,e=.returned v∧Ch w' w.heap.size v (FS9 S)∧Below w.heap.size w w':=by
 have HR:=A6 hR;have HS:=A6 hS;clear hR;have m0:=hS.m0;have m1:=hS.m1;have hlen:=hS.len;obtain ⟨mm,jZ⟩:=Int.eq_ofNat_of_zero_le (show 0≤S.modes by omega);have HM:Hid (S.modes.toNat=mm):=by show _=_;omega
 have hmm0:0<mm:=by omega
 have hmm8:mm≤8:=by omega
 have jD:=A6 jZ;have jB:Hid (∀ r∈S.rules,r.frm.toNat<8):=fun r hr=>by have:=hS.small r hr;omega
 clear jZ hS
 go_enter Tryz.func86,Tryz.ntmps86
 go_wp2_with (first
  | (go_at_call 87;refine (KX S a cap _ (HR.out.later (by first | exact hB | go_grown) (A7 _)) HS.out (by rw [HM.out];omega)).mono ?_;rintro e w1 ⟨v,rfl,⟨g3,hv,hg3,jb⟩,hb⟩;rw [HM.out] at hv jb;subst hv;have hB:=Ap (B:=w.heap.size) (w:=w) (by go_grown) hb (A7 _);have ji:=Ap (B:=w.heap.size+1) (w:=w.alloc (.cells #[.int .i64 S.modes,.int .u8 S.acc,.slice a S.rules.length cap] 32)) (by go_grown) hb (by simp);have j3:=ji.size;have jn:=A6 jb;have jM:=(A9.1 jb).1;obtain ⟨hz,hc,hf⟩:=BB hb (by first | (simp only [AA];rfl) | rfl);clear jb hb)
  | (go_at_call 56;refine (rlive_any S a cap _ (HR.out.later (by first | exact hB | go_grown) (A7 _)) HS.out).mono ?_;rintro e w2 ⟨v,rfl,⟨g4,hv,hg4,jb⟩,hb⟩;rw [HM.out] at hv jb;subst hv;have jj:=A6 ((hb.block g3 jM).trans jn.out);have kb:=hb.size;have jz:=ji.trans (hb.mono (by simp only [AA] at j3;omega));have jm:=A6 jz;have jo:=A6 jb;have jO:=(A9.1 jb).1;clear jb hb jz ji hB)
  | fail)
 simp only [AA] at j3;clear hz hc hf;have j4:w.heap.size+1≤w2.heap.size:=by omega
 have jN:g3<w2.heap.size:=by omega
 have j9:Hid (Below w.heap.size w w2):=((Below.refl _ _).alloc (A7 _) _).trans (jm.out.mono (by omega))
 go_loopw [5,6] (fun bv i wr=>∃ (m:Nat) (b:Option Addr) (n c:Nat) (xs:List Nat),m≤mm∧i=.int .i64 m∧bv=.slice b n c∧n=xs.length∧xs=Ga S m∧Ch wr w.heap.size (.slice b n c) xs∧Below w2.heap.size w2 wr) (fun _ i _=>mm - (intOf i).toNat)
 case atStart=>exact ⟨0,_,_,_,[],by omega,rfl,rfl,rfl,rfl,P8 j9.out.size,(Below.refl _ _).alloc (A7 _) _⟩
 case round =>
  obtain ⟨m,b,n,c,xs,hm,rfl,rfl,hn,j1,jk,ju⟩:=hrel;have HN:=A6 hn;have jH:=A6 j1;have jF:=A6 jk;have j5:=A6 ju;have ji:Below (w.heap.size+1) (w.alloc (.cells #[.int .i64 S.modes,.int .u8 S.acc,.slice a S.rules.length cap] 32)) wr:=jm.out.trans (ju.mono j4);have hB:Below w.heap.size w wr:=((Below.refl _ _).alloc (A7 _) _).trans (ji.mono (by omega));obtain ⟨hz,hc,hf⟩:=BE ji rfl;simp only [AA] at hz;have kd:=ju.size;clear hn j1 jk;by_cases jY:m<mm
  ·have jS
        :
         (m:Int)<S.modes:=by have:=jD.out;omega
   have hm8:(m:Int)<8:=by omega
   have hmI:(m:Int)<(mm:Int):=by omega
   have q3:wr.cell? ⟨g3,m,none⟩=some (.bool ((Cr S).testBit m)):=(ju.cell (p:=⟨g3,m,none⟩) jN).trans (Bg jj.out jY);have q4:wr.cell? ⟨g4,m,none⟩=some (.bool ((BX S).testBit m)):=(ju.cell (p:=⟨g4,m,none⟩) jO).trans (Bg jo.out jY);obtain ⟨rb,jT⟩:∃ rb,(Cr S).testBit m=rb:=⟨_,rfl⟩
   obtain ⟨lb,jP⟩:∃ lb,(BX S).testBit m=lb:=⟨_,rfl⟩
   obtain ⟨cb,jK⟩:∃ cb,FU S m=cb:=⟨_,rfl⟩
   have jw:Hid (cb=(rb && lb)):=by show _=_;rw [← jK,FU,jT,jP]
   have j7:=A6 jK;rw [jT] at q3;rw [jP] at q4;clear jT jP jK ju;have qz:=(row_zero wr).is (i:=m) (by omega);have qf:=(row_zero wr).free (i:=m);have j8:Hid (∀ v:Bool,WB w.heap.size wr.heap.size wr (wk0 m v) (fun _=>none) (fun _=>0) (fun _=>0) (wr.alloc (.cells ([.bool false,.bool false,.bool false,.bool false,.bool false,.bool false,.bool false,.bool false,.slice none 0 0,.slice none 0 0,.slice none 0 0,.slice none 0 0,.slice none 0 0,.slice none 0 0,.slice none 0 0,.slice none 0 0].set m (.bool v)).toArray 190))):=fun v =>
    ⟨Pw wr (by omega) v,fun t ht=>Ch.nil _ _,(Below.refl _ _).alloc (A7 _) _⟩
   have j6:Hid (∀ W,Below wr.heap.size wr W→Ch W w.heap.size (.slice b n c) xs):=fun W h=>jF.out.below h jF.out.lt
   go_upto_region 8 with fail
   go_cut [] (fun wx=>wx=(wr.alloc (.cells ([.bool false,.bool false,.bool false,.bool false,.bool false,.bool false,.bool false,.bool false,.slice none 0 0,.slice none 0 0,.slice none 0 0,.slice none 0 0,.slice none 0 0,.slice none 0 0,.slice none 0 0,.slice none 0 0].set m (.bool cb)).toArray 190)))
   case first =>
    cases rb with
    | false =>
     obtain rfl:cb=false:=jw.out;clear jw
     go_wp2_with fail
     go_meet
     rfl
    | true =>
     obtain rfl:cb=lb:=jw.out;clear jw
     go_wp2_with fail
     go_meet
     rfl
   case rest
        =>
    obtain rfl:=hcut;clear jw;obtain ⟨wo,rfl⟩:∃ wo:World,wo=wr:=⟨_,rfl⟩
    clear qz qf q3 q4 hc hf hB ji;go_wp2
    go_loopw [5,8] (fun bv i wr=>∃ (k:Nat) (b:Option Addr) (n c:Nat) (ys:List Nat) (p:Nat→Option Addr) (m' d:Nat→Nat),k≤mm∧i=.int .i64 k∧bv=.slice b n c∧n=ys.length∧ys=Dd S m xs k∧Ch wr w.heap.size (.slice b n c) ys∧WB w.heap.size wo.heap.size wo (Cb (CG true) S.rules m (FU S m) k) p m' d wr) (fun _ i _=>mm - (intOf i).toNat)
    case atStart=>exact ⟨0,b,n,c,xs,_,_,_,by omega,rfl,rfl,HN.out,rfl,j6.out _ ((Below.refl _ _).alloc (A7 _) _),by have:=j8.out;rw [j7.out];exact this _⟩
    case round =>
     obtain ⟨k,b,n,c,ys,p,m',d,hk,rfl,rfl,hn,j2,jk,jc⟩:=hrel;have jf:=A6 hn;have jq:=A6 j2;have jI:=A6 jk;have jV:=A6 jc;have jW:Below w2.heap.size w2 wr:=j5.out.trans (jc.bl.mono kd);have ji:Below (w.heap.size+1) (w.alloc (.cells #[.int .i64 S.modes,.int .u8 S.acc,.slice a S.rules.length cap] 32)) wr:=jm.out.trans (jW.mono j4);have hB:Below w.heap.size w wr:=((Below.refl _ _).alloc (A7 _) _).trans (ji.mono (by omega));obtain ⟨hz,hc,hf⟩:=BE ji rfl;simp only [AA] at hz;have hGl:=jc.row.lt;have hyl:ys.length≤8:=by rw [jq.out];exact IV jB.out (by omega) (by rw [jH.out];exact LE HS.out jB.out m (by omega)) k (by omega)
     clear hn j2 jk;by_cases hlk:k<mm
     ·have jQ:(k:Int)<S.modes:=by have:=jD.out;omega
      obtain ⟨O,hO⟩:∃ O,(Cb (CG true) S.rules m (FU S m) (k+1))=O:=⟨_,rfl⟩
      have HO:Hid (Dw (CG true) S.rules (Cb (CG true) S.rules m (FU S m) k)=O):=hO;have jt:=A6 hO;obtain ⟨oi,j0⟩:∃ oi,O.is m=oi:=⟨_,rfl⟩
      obtain ⟨bb,jJ⟩:∃ bb,BJ (ints (O.ch m)) (ints ys)=bb:=⟨_,rfl⟩
      have hOl:(O.ch m).length≤k+1:=by rw [← hO];exact EP _ jB.out (k+1) m (by omega)
      have jG:Hid (Dd S m xs (k+1)=if oi && (ys.isEmpty || (decide ((O.ch m).length<ys.length) || (decide ((O.ch m).length=ys.length) && bb))) then O.ch m else ys):=by
       show _=_;rw [Dd,← jq.out,F7,hO,j0,jJ]
      have jU:=A6 jJ;have ka:∀ (m'':Nat→Nat) (W:World) (p':Nat→Option Addr) (d':Nat→Nat),True:=fun _ _ _ _=>trivial;clear hO jJ ka;have q0:=jc.c0;have q1:=jc.c1;have q2:=jc.c2;have q3:=jc.c3;have q4:=jc.c4;have q5:=jc.c5;have q6:=jc.c6;have q7:=jc.c7;have q8:=jc.c8;have q9:=jc.c9;have q10:=jc.c10;have q11:=jc.c11;have q12:=jc.c12;have q13:=jc.c13;have q14:=jc.c14;have q15:=jc.c15;clear jc
      go_upto_region 13 with (first | (go_at_call 109;refine (NB S a cap (Cb (CG true) S.rules m (FU S m) k) p m' d true k _ (HR.out.later (by first | exact hB | go_grown) (A7 _)) HS.out (fun t ht=>(jV.out.ok t ht).mono (Nat.zero_le _)) (EP _ jB.out k) (by omega)).mono ?_;rintro e w3 ⟨p',m'',d',rfl,jk,hb⟩;rw [HO.out] at jk ⊢;clear q0 q1 q2 q3 q4 q5 q6 q7 q8 q9 q10 q11 q12 q13 q14 q15;have ja:=jV.out.below hb;have q0:=ja.c0;have q1:=ja.c1;have q2:=ja.c2;have q3:=ja.c3;have q4:=ja.c4;have q5:=ja.c5;have q6:=ja.c6;have q7:=ja.c7;have q8:=ja.c8;have q9:=ja.c9;have q10:=ja.c10;have q11:=ja.c11;have q12:=ja.c12;have q13:=ja.c13;have q14:=ja.c14;have q15:=ja.c15;have qf:=ja.free;have jE:=ja.put (O:=O) (fun t ht=>(jk t ht).mono hB.size);have qis:=jE.row.is (i:=m) (by omega);have qvs:=jE.row.vs (i:=m) (by omega);rw [j0] at qis;have jd:=A6 jE;have jl:=A6 (Ra ja (p':=p') (m':=m'') (d':=d') (O:=O) (jI.out.below hb jI.out.lt));have kb:=hb.size;have hB2:=Ap (B:=w.heap.size) (w:=w) hB hb (A7 _);clear jk ja hb jE;have jC:Hid (m'' m=(O.ch m).length):=(jd.out.sl (t:=m) (by omega)).2.trans (BH _)) | fail)
      cases oi with
      | false =>
       have je:Hid (Dd S m xs (k+1)=ys):=by rw [jG.out];rfl
       go_wp2
       go_roundw
       case rel=>exact ⟨k+1,b,n,c,ys,p',m'',d',by omega,by go_num,rfl,jf.out,je.out.symm,jl.out,by rw [jt.out];exact jd.out⟩
       case measure=>simp [intOf];omega
      | true =>
       by_cases jv:ys=[]
       ·have je:Hid (Dd S m xs (k+1)=O.ch m):=by show _=_;rw [jG.out,jv];rfl
        have Jx:n=0:=by rw [jf.out,jv];rfl
        subst Jx;clear jv;go_wp2
        go_roundw
        case rel=>exact ⟨k+1,p' m,m'' m,d' m,O.ch m,p',m'',d',by omega,by go_num,rfl,(jd.out.sl (t:=m) (by omega)).2.trans (BH _),je.out.symm,jd.out.ok m (by omega),by rw [jt.out];exact jd.out⟩
        case measure=>simp [intOf];omega
       ·have hnp:0<n:=by rw [jf.out];rcases ys with _ | ⟨y,ys⟩;exact absurd rfl jv;simp
        have hnz:((n:Int) == 0)=false:=by simp;omega
        have jp:Hid (Dd S m xs (k+1)=if (decide ((O.ch m).length<ys.length) || (decide ((O.ch m).length=ys.length) && bb)) then O.ch m else ys):=by
         show _=_;rw [jG.out];rcases ys with _ | ⟨y,ys⟩;exact absurd rfl jv;rfl
        clear jv;rcases Nat.lt_trichotomy (O.ch m).length ys.length with jh | jh | jh
        ·have je:Hid (Dd S m xs (k+1)=O.ch m):=by show _=_;rw [jp.out,decide_eq_true jh];rfl
         have jr:=jC.out;have js:=jf.out;have jR:m'' m<n:=(by omega);have jL:decide (m'' m<n)=true:=(by simp;omega);clear jr js
         go_wp2
         go_roundw
         case rel=>exact ⟨k+1,p' m,m'' m,d' m,O.ch m,p',m'',d',by omega,by go_num,rfl,(jd.out.sl (t:=m) (by omega)).2.trans (BH _),je.out.symm,jd.out.ok m (by omega),by rw [jt.out];exact jd.out⟩
         case measure=>simp [intOf];omega
        ·have jx:Hid (Dd S m xs (k+1)=if bb=true then O.ch m else ys):=by show _=_;rw [jp.out,decide_eq_false (by omega),decide_eq_true jh];simp
         have hcmp2:(O.ch m).length≤ys.length∧ys.length≤(O.ch m).length:=by omega
         clear jh;cases bb with
         | true =>
          have je:Hid (Dd S m xs (k+1)=O.ch m):=jx.out;have jr:=jC.out;have js:=jf.out;have jR:¬ m'' m<n:=(by omega);have jL:decide (m'' m<n)=false:=(by simp;omega);have jX:((m'' m:Int) == (n:Int))=true:=(by simp;omega);clear jr js
          go_wp2_with (first | (go_at_call 110;refine (before_any (p' m) b (m'' m) n (d' m) c (ints (O.ch m)) (ints ys) _ (jd.out.sl (t:=m) (by omega)).2 (jf.out.trans (BH _).symm) (jd.out.sl (t:=m) (by omega)).1 jl.out.sls.1 (by rw [BH];omega) (by rw [BH];omega)).mono ?_;rintro ee w4 ⟨jA,hb⟩;rw [jU.out] at jA;subst jA;have jg:=A6 (jd.out.below hb);have jy:=A6 (jl.out.below hb jl.out.lt);obtain ⟨kc,Ji,Js⟩:=BB hb (by first | (simp only [World.size_setCell];rfl) | rfl);clear hb) | fail)
          go_roundw
          case rel=>exact ⟨k+1,p' m,m'' m,d' m,O.ch m,p',m'',d',by omega,by go_num,rfl,(jg.out.sl (t:=m) (by omega)).2.trans (BH _),je.out.symm,jg.out.ok m (by omega),by rw [jt.out];exact jg.out⟩
          case measure=>simp [intOf];omega
         | false =>
          have je:Hid (Dd S m xs (k+1)=ys):=jx.out;have jr:=jC.out;have js:=jf.out;have jR:¬ m'' m<n:=(by omega);have jL:decide (m'' m<n)=false:=(by simp;omega);have jX:((m'' m:Int) == (n:Int))=true:=(by simp;omega);clear jr js
          go_wp2_with (first | (go_at_call 110;refine (before_any (p' m) b (m'' m) n (d' m) c (ints (O.ch m)) (ints ys) _ (jd.out.sl (t:=m) (by omega)).2 (jf.out.trans (BH _).symm) (jd.out.sl (t:=m) (by omega)).1 jl.out.sls.1 (by rw [BH];omega) (by rw [BH];omega)).mono ?_;rintro ee w4 ⟨jA,hb⟩;rw [jU.out] at jA;subst jA;have jg:=A6 (jd.out.below hb);have jy:=A6 (jl.out.below hb jl.out.lt);obtain ⟨kc,Ji,Js⟩:=BB hb (by first | (simp only [World.size_setCell];rfl) | rfl);clear hb) | fail)
          go_roundw
          case rel=>exact ⟨k+1,b,n,c,ys,p',m'',d',by omega,by go_num,rfl,jf.out,je.out.symm,jy.out,by rw [jt.out];exact jg.out⟩
          case measure=>simp [intOf];omega
        ·have je:Hid (Dd S m xs (k+1)=ys):=by show _=_;rw [jp.out,decide_eq_false (by omega),decide_eq_false (by omega)];rfl
         have jr:=jC.out;have js:=jf.out;have jR:¬ m'' m<n:=(by omega);have jL:decide (m'' m<n)=false:=(by simp;omega);have jX:((m'' m:Int) == (n:Int))=false:=(by simp;omega);clear jr js
         go_wp2
         go_roundw
         case rel=>exact ⟨k+1,b,n,c,ys,p',m'',d',by omega,by go_num,rfl,jf.out,je.out.symm,jl.out,by rw [jt.out];exact jd.out⟩
         case measure=>simp [intOf];omega
     ·obtain rfl:k=mm:=by omega
      have jQ:¬ (k:Int)<S.modes:=by have:=jD.out;omega
      have je:Hid (ys=Ga S (m+1)):=by show _=_;rw [Ga,← jH.out,HM.out];exact jq.out
      clear jc;go_wp2
      go_roundw
      case rel=>exact ⟨m+1,b,n,c,ys,by omega,by go_num,rfl,jf.out,je.out,jI.out,jW⟩
      case measure=>simp [intOf];omega
  ·obtain rfl:m=mm:=by omega
   have jS:¬ (m:Int)<S.modes:=by have:=jD.out;omega
   go_wp2;go_ret;exact ⟨.slice b n c,rfl,by rw [FS9,HM.out,← jH.out];exact jF.out,hB⟩
open Classical in
noncomputable def FM (S:Sch):Rp:=if validB S=true then ⟨EA S S.rules.length,Ci S,FS9 S⟩ else ⟨[],[],[]⟩
structure LT (w M:World) (g:Nat) (v1 v2 v3:Value) (x1 x2 x3:List Nat) (wr:World):Prop where
 rep:wr.heap[g]? = some (.cells #[v1,v2,v3] 108 (0,0))
 d1:Ch wr w.heap.size v1 x1
 d2:Ch wr w.heap.size v2 x2
 d3:Ch wr w.heap.size v3 x3
 gm:w.heap.size+2≤g
 bl:Below (w.heap.size+2) M wr
section
variable {w M:World} {g B1:Nat} {v1 v2 v3 v:Value} {x1 x2 x3 x:List Nat} {wr w1:World}
theorem LS.lt (h:LS w M g B1 v1 v2 v3 x1 x2 x3 wr):LT w M g v1 v2 v3 x1 x2 x3 wr :=
 ⟨h.rep,h.d1.mono (by have:=h.gB;have:=h.gm;omega),h.d2,h.d3,h.gm,h.bl⟩
theorem LT.below (h:LT w M g v1 v2 v3 x1 x2 x3 wr) (hb:Below wr.heap.size wr w1):LT w M g v1 v2 v3 x1 x2 x3 w1:=by
 have hg:g<wr.heap.size:=(A9.1 h.rep).1;exact ⟨(hb.block g hg).trans h.rep,h.d1.below hb h.d1.lt,h.d2.below hb h.d2.lt,h.d3.below hb h.d3.lt,h.gm,h.bl.trans (hb.mono (by have:=h.gm;omega))⟩
theorem LT.set1 (h:LT w M g v1 v2 v3 x1 x2 x3 wr) (hv:Ch wr w.heap.size v x):LT w M g v1 v v3 x1 x x3 (wr.setCell ⟨g,1,none⟩ v) :=
 ⟨B7 h.rep rfl,E7 h.d1 h.rep,E7 hv h.rep,E7 h.d3 h.rep,h.gm,h.bl.setCell h.gm _⟩
theorem LT.set2 (h:LT w M g v1 v2 v3 x1 x2 x3 wr) (hv:Ch wr w.heap.size v x):LT w M g v1 v2 v x1 x2 x (wr.setCell ⟨g,2,none⟩ v) :=
 ⟨B7 h.rep rfl,E7 h.d1 h.rep,E7 h.d2 h.rep,E7 hv h.rep,h.gm,h.bl.setCell h.gm _⟩
theorem LT.cells (h:LT w M g v1 v2 v3 x1 x2 x3 wr):wr.cell? ⟨g,0,none⟩=some v1∧wr.cell? ⟨g,1,none⟩=some v2∧wr.cell? ⟨g,2,none⟩=some v3:=cells3 h.rep
theorem LT.gf (h:LT w M g v1 v2 v3 x1 x2 x3 wr) (i:Nat):wr.frozen? ⟨g,i,none⟩=false:=by simp [World.frozen?,h.rep]
end
theorem rfind_any (S:Sch) (a:Option Addr) (cap:Nat) (w:World) (hR:BL w a S.rules) (h0:0≤S.acc) (h1:S.acc≤255) (hl:S.rules.length≤9223372036854775807) (hS:validB S=true→Fit S) :
  Calls Tryz.prog 55 #[.agg #[.int .i64 S.modes,.int .u8 S.acc,.slice a S.rules.length cap]] w fun e w'=>∃ v1 v2 v3,e=.returned (.agg #[v1,v2,v3])∧Ch w' w.heap.size v1 (FM S).dead∧Ch w' w.heap.size v2 (FM S).stuck∧Ch w' w.heap.size v3 (FM S).endl∧Below w.heap.size w w':=by
 have HR:=A6 hR;have HS:=A6 hS;clear hR hS;by_cases hv:validB S=true
 ·have jd:=HS.out hv;have HV:=A6 hv;have HF:Hid (FM S=⟨EA S S.rules.length,Ci S,FS9 S⟩):=by show _=_;rw [FM,if_pos hv]
  clear hv
  go_enter Tryz.func55,Tryz.ntmps55
  have jm:Hid (LS w ((w.alloc (.cells #[.int .i64 S.modes,.int .u8 S.acc,.slice a S.rules.length cap] 32)).alloc (.cells #[.slice none 0 0,.slice none 0 0,.slice none 0 0] 108)) (w.heap.size+1+1) (w.heap.size+3) (.slice none 0 0) (.slice none 0 0) (.slice none 0 0) [] [] [] (((w.alloc (.cells #[.int .i64 S.modes,.int .u8 S.acc,.slice a S.rules.length cap] 32)).alloc (.cells #[.slice none 0 0,.slice none 0 0,.slice none 0 0] 108)).alloc (.cells #[.slice none 0 0,.slice none 0 0,.slice none 0 0] 108))) :=
   ⟨(by have:=heap_alloc_new ((w.alloc (.cells #[.int .i64 S.modes,.int .u8 S.acc,.slice a S.rules.length cap] 32)).alloc (.cells #[.slice none 0 0,.slice none 0 0,.slice none 0 0] 108)) (.cells #[.slice none 0 0,.slice none 0 0,.slice none 0 0] 108);simpa using this),Ch.nil _ _,Ch.nil _ _,Ch.nil _ _,(fun b hb=>(by cases hb)),(fun b hb=>(by cases hb)),(by omega),(by omega),(by simp only [AA];omega),(by go_grown)⟩
  go_wp2_with (first
   | (go_at_call 54;refine (Cg S a cap _ (HR.out.later (by first | exact hB | go_grown) (A7 _)) h0 h1 hl).mono ?_;rintro e w1 ⟨he,hb⟩;rw [HV.out] at he;subst he;have jn:=A6 (jm.out.below hb);obtain ⟨hz,hc,hf⟩:=BB hb (by first | (simp only [AA,World.size_setCell,World.size_drew];rfl) | rfl);have hB:=Ap (B:=w.heap.size) (w:=w) (by first | exact hB | go_grown) hb (A7 _);clear hb)
   | fail)
  clear hz hc hf;obtain ⟨i0,hi,jC,jD,jE⟩:=info_parts Fd;have hlen:=jd.len
  go_loopw [5] (fun i wr=>∃ (k:Nat) (a1:Option Addr) (n1 c1:Nat),k≤S.rules.length∧i=.int .i64 k∧LS w ((w.alloc (.cells #[.int .i64 S.modes,.int .u8 S.acc,.slice a S.rules.length cap] 32)).alloc (.cells #[.slice none 0 0,.slice none 0 0,.slice none 0 0] 108)) (w.heap.size+1+1) (w.heap.size+3) (.slice a1 n1 c1) (.slice none 0 0) (.slice none 0 0) (EA S k) [] [] wr) (fun i _=>S.rules.length - (intOf i).toNat)
  case atStart=>exact ⟨0,none,0,0,by omega,rfl,jn.out⟩
  case round =>
   clear hB;obtain ⟨k,a1,n1,c1,hk,rfl,jq⟩:=hrel;have jj:=jq.bl;have hB:Below w.heap.size w wr:=(((Below.refl _ _).alloc (A7 _) _).alloc (by simp) _).trans (jj.mono (by omega));obtain ⟨hz,hc,hf⟩:=BE jj rfl;simp only [AA] at hz;have jl:=A6 jq;clear jq;by_cases jr:k<S.rules.length
   ·obtain ⟨dd,jv⟩:∃ dd,Ja (Cr S) (BX S) S.rules[k]=dd:=⟨_,rfl⟩
    have jk:=A6 jv;have jt:Hid (EA S (k+1)=if dd then EA S k ++ [k] else EA S k):=by show _=_;rw [O5 S k jr,jk.out]
    clear jv;by_cases hd:dd=true
    ·subst hd;have ju:Hid ((EA S k).length+1≤100):=by have:=Pm S k;show _≤_;omega
     go_wp2_with (first
      | (go_at_call 84;refine (rdead_any S a cap k _ (HR.out.later (by first | exact hB | go_grown) (A7 _)) jd jr).mono ?_;rintro e w3 ⟨he,hb⟩;rw [jk.out] at he;subst he;have jb:=A6 (jl.out.below hb);have hg0:=jb.out.g0;have jc:=A6 (jb.out.below ((Below.refl _ _).alloc (A7 _) (.cells #[.int .i64 (k:Int)] 3)));obtain ⟨hz,hc,hf⟩:=BB hb (by first | (simp only [AA,World.size_setCell,World.size_drew];rfl) | rfl);have hB:=Ap (B:=w.heap.size) (w:=w) (by first | exact hB | go_grown) hb (A7 _);clear hb)
      | (at_builtin;refine wpList_append_own _ rfl _ _ 79 rfl (w.heap.size+3) 3 i0 (.int .i64 0) 1 8 Tryz.underlying79 hi jC jD jE rfl (by decide) (.slice a1 n1 c1) (EA S k).length (F3 (EA S k)) rfl jc.out.d1 ⟨w3.heap.size,0,none⟩ 1 1 [.int .i64 (k:Int)] rfl rfl (cell_one_new _ _ _) (by simp [Value.oneCell']) (by have:=ju.out;unfold maxLen;omega) (by have:=ju.out;omega) (by exact jc.out.bB) ?_;intro v5 w5 je ja _;have js:=A6 (Lf je);obtain ⟨a5,n5,c5,jB⟩:=js.out.form;subst jB;have jy:=jc.out.cells ja (fun b hb=>jc.out.d1.ge b hb);obtain ⟨hcl0,hclf⟩:=jy;have jh:=A6 (jc.out.grown ja (fun b hb=>jc.out.d1.ge b hb) js.out);clear je ja)
      | fail)
     go_roundw
     case rel=>exact ⟨k+1,a5,n5,c5,by omega,by go_num,by rw [jt.out];first | exact jh.out | (simp only [if_true];exact jh.out)⟩
     case measure=>simp [intOf];omega
    ·obtain rfl:dd=false:=by simpa using hd
     clear hd
     go_wp2_with (first
      | (go_at_call 84;refine (rdead_any S a cap k _ (HR.out.later (by first | exact hB | go_grown) (A7 _)) jd jr).mono ?_;rintro e w3 ⟨he,hb⟩;rw [jk.out] at he;subst he;have jb:=A6 (jl.out.below hb);obtain ⟨hz,hc,hf⟩:=BB hb (by first | (simp only [AA,World.size_setCell,World.size_drew];rfl) | rfl);have hB:=Ap (B:=w.heap.size) (w:=w) (by first | exact hB | go_grown) hb (A7 _);clear hb)
      | fail)
     go_roundw
     case rel=>exact ⟨k+1,a1,n1,c1,by omega,by go_num,by rw [jt.out];first | exact jb.out | (simp only [if_false];exact jb.out) | (simp;exact jb.out)⟩
     case measure=>simp [intOf];omega
   ·obtain rfl:k=S.rules.length:=by omega
    have HT:=A6 jl.out.lt
    go_wp2_with (first
     | (go_at_call 85;refine (rstuck_any S a cap _ (HR.out.later (by first | exact hB | go_grown) (A7 _)) jd).mono ?_;rintro e w3 ⟨v,rfl,jf,hb⟩;obtain ⟨a2,n2,c2,jz⟩:=jf.form;subst jz;have jo:=A6 (HT.out.below hb);obtain ⟨y0,y1,y2⟩:=jo.out.cells;have yf:=jo.out.gf;have jx:=A6 (jo.out.set1 (jf.mono hB.size));clear jf;obtain ⟨hz,hc,hf⟩:=BB hb (by first | (simp only [AA,World.size_setCell,World.size_drew];rfl) | rfl);have hB:=Ap (B:=w.heap.size) (w:=w) (by first | exact hB | go_grown) hb (A7 _);clear hb)
     | (go_at_call 86;refine (rendless_any S a cap _ (HR.out.later (by first | exact hB | go_grown) (A7 _)) jd).mono ?_;rintro e w4 ⟨v,rfl,jf,hb⟩;obtain ⟨a3,n3,c3,jA⟩:=jf.form;subst jA;have jp:=A6 (jx.out.below hb);clear y0 y1 y2 yf;obtain ⟨y0,y1,y2⟩:=jp.out.cells;have yf:=jp.out.gf;have ji:=A6 (jp.out.set2 (jf.mono (by have:=hB.size;simp only [World.size_setCell];omega)));obtain ⟨u0,u1,u2⟩:=ji.out.cells;clear jf;obtain ⟨hz,hc,hf⟩:=BB hb (by first | (simp only [AA,World.size_setCell,World.size_drew];rfl) | rfl);have hB:=Ap (B:=w.heap.size) (w:=w) (by first | exact hB | go_grown) hb (A7 _);clear hb)
     | fail)
    have jg:(w4.setCell ⟨w.heap.size+1+1,2,none⟩ (.slice a3 n3 c3)).heap[w.heap.size+1]? = some (.cells #[.slice none 0 0,.slice none 0 0,.slice none 0 0] 108 (0,0)):=by
     refine (ji.out.bl.block (w.heap.size+1) (by omega)).trans ?_;have:=heap_alloc_new (w.alloc (.cells #[.int .i64 S.modes,.int .u8 S.acc,.slice a S.rules.length cap] 32)) (.cells #[.slice none 0 0,.slice none 0 0,.slice none 0 0] 108);simpa using this
    obtain ⟨r0,r1,r2⟩:=cells3 (Mn (a:=.slice a1 n1 c1) (b:=.slice a2 n2 c2) (c:=.slice a3 n3 c3) jg);refine bodyPost_ret (v:=.agg #[.slice a1 n1 c1,.slice a2 n2 c2,.slice a3 n3 c3]) (by simp [results,Tryz.results55,go_sem,r0,r1,r2]) rfl ⟨_,_,_,rfl,?_,?_,?_,?_⟩
    · rw [HF.out];exact Lo ji.out.d1 jg
    · rw [HF.out];exact Lo ji.out.d2 jg
    · rw [HF.out];exact Lo ji.out.d3 jg
    · exact (((hB.setCell (by simp;omega) _).setCell (by simp) _).setCell (by simp) _).setCell (by simp) _
 ·have jw:validB S=false:=by simpa using hv
  have HV:=A6 jw;have HF:Hid (FM S=⟨[],[],[]⟩):=by show _=_;rw [FM,if_neg hv]
  clear hv jw
  go_enter Tryz.func55,Tryz.ntmps55
  go_wp2_with (first
   | (go_at_call 54;refine (Cg S a cap _ (HR.out.later (by first | exact hB | go_grown) (A7 _)) h0 h1 hl).mono ?_;rintro e w1 ⟨he,hb⟩;rw [HV.out] at he;subst he;have jj:=hb.mono (show w.heap.size+2≤_ by simp only [AA];omega);obtain ⟨hz,hc,hf⟩:=BB hb (by first | (simp only [AA,World.size_setCell,World.size_drew];rfl) | rfl);have hB:=Ap (B:=w.heap.size) (w:=w) (by first | exact hB | go_grown) hb (A7 _);clear hb)
   | fail)
  have jg:w1.heap[w.heap.size+1]? = some (.cells #[.slice none 0 0,.slice none 0 0,.slice none 0 0] 108 (0,0)):=by
   refine (jj.block (w.heap.size+1) (by omega)).trans ?_;have:=heap_alloc_new (w.alloc (.cells #[.int .i64 S.modes,.int .u8 S.acc,.slice a S.rules.length cap] 32)) (.cells #[.slice none 0 0,.slice none 0 0,.slice none 0 0] 108);rw [Below.heap_alloc _ _ _ (by simp)];simpa using this
  obtain ⟨r0,r1,r2⟩:=cells3 (Mn (a:=.slice none 0 0) (b:=.slice none 0 0) (c:=.slice none 0 0) jg);refine bodyPost_ret (v:=.agg #[.slice none 0 0,.slice none 0 0,.slice none 0 0]) (by simp [results,Tryz.results55,go_sem,r0,r1,r2]) rfl ⟨_,_,_,rfl,?_,?_,?_,?_⟩
  · rw [HF.out];exact Ch.nil _ _
  · rw [HF.out];exact Ch.nil _ _
  · rw [HF.out];exact Ch.nil _ _
  · exact ((hB.setCell (by simp) _).setCell (by simp) _).setCell (by simp) _
end Go.Proofs.YthjmdgejnakcmaaGreatDoor.Fl
