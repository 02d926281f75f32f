/- Texts that the claims share: Made3, Levels, WalkM, RefF, RefG, RefH, RefI, Same, Sane, Safe, Views2. -/
import Derived.Test.YtpljngaejaehcaaGreatDoorMF3
import Derived.Test.YtpljngaejaehcaaGreatDoorMF2
import Derived.Test.YtpljngaejaehcaaGreatDoorMD4
set_option maxHeartbeats 6400000
set_option maxRecDepth 100000
set_option linter.unusedVariables false
set_option linter.unusedSimpArgs false
namespace Go.Proofs.YtpljngaejaehcaaGreatDoor.Fl
open Go.RowKit
structure RR where
 ai:Option Addr
 li:Nat
 ci:Nat
 ao:Option Addr
 lo:Nat
 co:Nat
 f:Int
 d:Int
 c:Int
 ZI:Nat→Int
 ZO:Nat→Int
structure MQ (w:World) (q:RR):Prop where
 f0:0≤q.f
 f1:q.f≤255
 d0:0≤q.d
 d1:q.d≤255
 c0:0≤q.c
 c1:q.c≤255
 i:BX w q.ai q.li q.ZI
 o:BX w q.ao q.lo q.ZO
def Ds (w:World) (a:Option Addr) (len:Nat) (Q:Nat→RR):Prop :=
 len=0∨∃ b o,a=some ⟨b,o,none⟩∧b<w.heap.size∧∀ i,i<len→(w.cell? ⟨b,o+i*5+0,none⟩=some (.slice (Q i).ai (Q i).li (Q i).ci)∧w.cell? ⟨b,o+i*5+1,none⟩=some (.slice (Q i).ao (Q i).lo (Q i).co)∧w.cell? ⟨b,o+i*5+2,none⟩=some (.int .u8 (Q i).f)∧w.cell? ⟨b,o+i*5+3,none⟩=some (.int .u8 (Q i).d)∧w.cell? ⟨b,o+i*5+4,none⟩=some (.int .u8 (Q i).c))∧MQ w (Q i)
theorem MQ.later {w w1:World} {q:RR} {B:Nat} (h:MQ w q) (hb:Below B w w1) (hB:w.heap.size≤B):MQ w1 q :=
 ⟨h.f0,h.f1,h.d0,h.d1,h.c0,h.c1,h.i.later hb hB,h.o.later hb hB⟩
theorem Ds.later {w w1:World} {a:Option Addr} {len:Nat} {Q:Nat→RR} {B:Nat} (h:Ds w a len Q) (hb:Below B w w1) (hB:w.heap.size≤B):Ds w1 a len Q:=by
 rcases h with h | ⟨b,o,ha,ja,hr⟩
 · exact .inl h
 ·have hc:∀ k,w1.cell? ⟨b,k,none⟩=w.cell? ⟨b,k,none⟩:=fun k=>hb.cell (p:=⟨b,k,none⟩) (A7 ja hB);refine .inr ⟨b,o,ha,A7 ja hb.size,fun i hi=>⟨?_,(hr i hi).2.later hb hB⟩⟩;rw [hc,hc,hc,hc,hc];exact (hr i hi).1
theorem Ds.at {w:World} {a:Option Addr} {len:Nat} {Q:Nat→RR} (h:Ds w a len Q) {k:Nat} (hk:k<len):∃ b o,a=some ⟨b,o,none⟩∧b<w.heap.size∧w.cell? ⟨b,o+k*5,none⟩=some (.slice (Q k).ai (Q k).li (Q k).ci)∧w.cell? ⟨b,o+k*5+1,none⟩=some (.slice (Q k).ao (Q k).lo (Q k).co)∧w.cell? ⟨b,o+k*5+2,none⟩=some (.int .u8 (Q k).f)∧w.cell? ⟨b,o+k*5+3,none⟩=some (.int .u8 (Q k).d)∧w.cell? ⟨b,o+k*5+4,none⟩=some (.int .u8 (Q k).c)∧MQ w (Q k):=by
 rcases h with h | ⟨b,o,ha,ja,hr⟩
 · omega
 ·obtain ⟨⟨h0,h1,h2,h3,h4⟩,h5⟩:=hr k hk;exact ⟨b,o,ha,ja,h0,h1,h2,h3,h4,h5⟩
theorem Pp (a:Option Addr) (b o len cap k:Nat) (ha:a=some ⟨b,o,none⟩) (hk:k<len) (w:World) :
  (Instr.indexAt 22 (.slice a len cap) (.int .i64 (k:Int))).run Tryz.prog w=.ok (.pointer (some ⟨b,o+k*5,none⟩)) w:=by
 subst ha;have h0:(0:Int)≤(k:Int):=by omega
 have h1:(k:Int)<(len:Int):=by omega
 simp [go_sem,h0,h1]
def RlV (v:Value) (_:World):Prop:=∃ r:Rl,v=.agg #[.int .i64 r.frm,.int .i64 r.dst,.string r.inp,.string r.out,.int .i64 r.cost]
theorem OP:Bb RlV:=fun _ _ _ h _=>h
def GU (v0:Value) (v:Value) (W:World):Prop:=∃ r:Rl,Gp v0 r v W
theorem J5 (v0:Value):Bb (GU v0):=by
 rintro v w w' ⟨r,h⟩ hx;exact ⟨r,KI v0 r v w w' h hx⟩
theorem J6 (v0:Value):∀ v w w',GU v0 v w→World.grownBy w w' v0.ownBlock→GU v0 v w':=by
 rintro v w w' ⟨r,h⟩ hx;exact ⟨r,KJ v0 r v w w' h hx⟩
def Pq (B:Nat) (R:List Rl) (v:Value) (W:World):Prop:=∃ r:Rl,C6 W B v (R ++ [r])
theorem LZ (B:Nat) (R:List Rl):Bb (Pq B R):=by
 rintro v w w' ⟨r,h⟩ hx;exact ⟨r,h.below hx h.lt⟩
structure MX (wl:World) (B0 gt:Nat) (mo ac:Int) (v:Value) (R:List Rl) (wr:World):Prop extends TX0 wl B0 gt mo ac v wr where
 row:Ei wr B0 v R
theorem Ei.ne_of {wr:World} {gt B:Nat} {v:Value} {T:List Rl} {cs:Array Value} (h:Ei wr B v T) (hr:wr.heap[gt]? = some (.cells cs 33 (0,0))):∀ q,v.ownBlock=some q→q≠gt:=by
 rcases h with h | ⟨g,r0,rfl,h1,h2⟩
 · exact h.ne_of hr
 ·intro q hq e;cases hq;subst e;rw [hr] at h2;injection h2 with h2;injection h2 with _ h2 _;exact absurd h2 (by decide)
theorem OQ {w:World} {B:Nat} {a:Option Addr} {R:List Rl} (h:C6 w B (.slice a R.length R.length) R) (hl:1≤R.length):∃ g,a=some ⟨g,0,none⟩∧B≤g∧w.heap[g]? = some (.cells (B3 R).toArray 88 (0,0)):=by
 rcases h.2 with ⟨he,h0⟩ | ⟨g,cap',cur,he,p1,p2,p3,p4,p5,p6⟩
 · exfalso;have:R.length=0:=h0;omega
 ·injection he with e1 e2 e3;refine ⟨g,e1,p1,?_⟩;have:cur=(B3 R).toArray:=by
   apply Array.ext';rw [← p6,AF (by rw [Array.length_toList,p5,← e3];exact A3 _)]
  rw [p2,this]
theorem Hg (a:Option Addr) (n cap k:Nat) (hk:k≤cap) (w:World) :
  (Instr.slice 31 (.slice a n cap) none (some (.int .i64 (k:Int))) none).run Tryz.prog w=.ok (.slice a k cap) w:=by
 have h0:(0:Int)≤(k:Int):=by omega
 have h1:(k:Int)≤(cap:Int):=by omega
 cases a with
 | none=>simp [go_sem,Instr.slice,Instr.sliceBounds,Instr.sliceBound,asIntOf,h0,h1];intro h;omega
 | some a=>simp [go_sem,Instr.slice,Instr.sliceBounds,Instr.sliceBound,asIntOf,h0,h1];intro h;omega
def Jd (w:World) (e:Ending) (w':World):Prop :=
 ∃ (S:Sch) (b:Option Addr) (c:Nat),e=.returned (.agg #[.int .i64 S.modes,.int .u8 S.acc,.slice b S.rules.length c])∧1≤S.modes∧S.modes≤2∧S.acc=1∧S.rules.length≤9∧BG w' b S.rules∧S.rules.length≤c∧Below w.heap.size w w'
theorem Je {w w':World} {mo:Int} {g:Nat} {b:Option Addr} {c B0:Nat} {R:List Rl} {x y z:Value} (hr:Ei w' B0 (.slice b R.length c) R) (hg:g<B0) (ja:w.heap.size≤g) (h1:1≤mo) (h2:mo≤2) (hl:R.length≤9) (hb:Below w.heap.size w w') :
  Jd w (.returned (.agg #[.int .i64 mo,.int .u8 1,.slice b R.length c])) (((w'.setCell ⟨g,0,none⟩ x).setCell ⟨g,1,none⟩ y).setCell ⟨g,2,none⟩ z):=by
 have h:=((hr.set (i:=0) (u:=x) hg).set (i:=1) (u:=y) hg).set (i:=2) (u:=z) hg;obtain ⟨a',c',he,jc,jb⟩:=h.rules;injection he with e1 e2 e3;subst e1 e3;exact ⟨⟨mo,1,R⟩,b,c,rfl,h1,h2,rfl,hl,jc,jb,((hb.setCell ja _).setCell ja _).setCell ja _⟩
theorem made2_any (x0 x1:Int) (a:Option Addr) (len cap:Nat) (Q:Nat→RR) (w:World) (jX:0≤x0) (jY:x0≤255) (h10:0≤x1) (h11:x1≤255) (hQ:Ds w a len Q) :
  Calls Tryz.prog 11 #[.agg #[.int .u8 x0,.int .u8 x1,.slice a len cap]] w (Jd w):=by
 have HQ:=A0 hQ;clear hQ
 go_enter Tryz.func11,Tryz.ntmps11
 go_wp2_with fail
 refine (base_any x0 _ jX jY).mono ?_;rintro e w1 ⟨⟨mo,ac,R0⟩,b,n,rfl,rfl,jp,jt,jZ,jK,jE,jf,hb, -⟩;obtain rfl:ac=1:=jZ;simp only at jp jt jK jE jf ⊢;obtain ⟨g,e1,jC,hg⟩:=OQ jf (by omega);simp only [A6] at jC;subst e1;have jv:Hid (Below (w.heap.size+2) ((w.alloc (.cells #[.int .u8 x0,.int .u8 x1,.slice a len cap] 24)).alloc (.cells #[.int .i64 0,.int .u8 0,.slice none 0 0] 33)) w1):=hb.mono (by simp only [A6];omega);clear hb;obtain ⟨hz,hc,hf⟩:=BD jv.out rfl;simp only [A6] at hz;have jI:g<w1.heap.size:=(A5.1 hg).1
 go_upto_region 2 with fail
 have HG:=A0 hg;clear hg jf
 go_cut [] (fun wx=>∃ wz:World,wz=wx∧∃ (R:List Rl) (b:Option Addr) (n c:Nat),MX ((w.alloc (.cells #[.int .u8 x0,.int .u8 x1,.slice a len cap] 24)).alloc (.cells #[.int .i64 0,.int .u8 0,.slice none 0 0] 33)) (w.heap.size+2) w1.heap.size mo 1 (.slice b n c) R wz∧n=R.length∧R.length≤5)
 case first =>
  rcases (show x1 % 2=0∨x1 % 2=1 by omega) with h2 | h2
  ·go_wp2_with fail
   go_meet
   refine ⟨_,rfl,R0,some ⟨g,0,none⟩,R0.length,R0.length,⟨⟨jv.out.alloc (by omega) _,heap_alloc_new _ _,hz⟩,.inl (LX ((Below.heap_alloc _ _ _ jI).trans HG.out) jC (by omega))⟩,rfl,jE⟩
  ·have hlI:(1:Int)≤(R0.length:Int):=by omega
   have hlN:(1:Int)<(R0.length:Int):=by omega
   go_wp2_with fail
   go_meet
   obtain ⟨r0,R,rfl⟩:∃ r0 R,R0=r0 :: R:=by
    cases R0 with
    | nil=>simp at jK
    | cons r0 R=>exact ⟨r0,R,rfl⟩
   refine ⟨_,rfl,R,some ⟨g,5,none⟩,R.length,R.length,⟨⟨jv.out.alloc (by omega) _,heap_alloc_new _ _,hz⟩,.inr ⟨g,r0,rfl,jC,(Below.heap_alloc _ _ _ jI).trans HG.out⟩⟩,rfl,by simp at jE;omega⟩
 case rest
      =>
  obtain ⟨wc,rfl,R1,b1,n1,c1,jm,j0,hR1⟩:=hcut;obtain ⟨gt,jJ⟩:∃ gt,gt=w1.heap.size:=⟨_,rfl⟩
  rw [← jJ] at jm ⊢;have hgt2:w.heap.size+2≤gt:=by omega
  have jw:=A0 jm;clear jm hc hf jJ;have jW:Hid (((w.alloc (.cells #[.int .u8 x0,.int .u8 x1,.slice a len cap] 24)).alloc (.cells #[.int .i64 0,.int .u8 0,.slice none 0 0] 33)).heap[w.heap.size+1]? = some (.cells #[.int .i64 0,.int .u8 0,.slice none 0 0] 33 (0,0))):=by
   have:=heap_alloc_new (w.alloc (.cells #[.int .u8 x0,.int .u8 x1,.slice a len cap] 24)) (.cells #[.int .i64 0,.int .u8 0,.slice none 0 0] 33);simp only [A6] at this;exact this
  go_wp2_with fail
  go_loopw [4] (fun i wr=>∃ (j:Nat) (R:List Rl) (b:Option Addr) (n c:Nat),j≤4∧i=.int .i64 j∧n=R.length∧R.length≤5+j∧MX ((w.alloc (.cells #[.int .u8 x0,.int .u8 x1,.slice a len cap] 24)).alloc (.cells #[.int .i64 0,.int .u8 0,.slice none 0 0] 33)) (w.heap.size+2) gt mo 1 (.slice b n c) R wr) (fun i _=>4 - (intOf i).toNat)
  case atStart=>exact ⟨0,R1,b1,n1,c1,by omega,rfl,j0,by omega,jw.out⟩
  case round =>
   obtain ⟨j,R,b,n,c,hj,rfl,rfl,hl,jl⟩:=hrel;have jo:=A0 jl;have hB:Below w.heap.size w wr:=(((Below.refl _ _).alloc (A3 _) _).alloc (by simp) _).trans (jl.bl.mono (by omega));have HB:=A0 hB;obtain ⟨jQ,hc,hf⟩:=BD jl.bl rfl;simp only [A6] at jQ;obtain ⟨d0,d1,d2⟩:=jl.toTX0.cells;have df:=jl.toTX0.free;have jG:=A0 ((jl.bl.block (w.heap.size+1) (by omega)).trans jW.out);clear jl hB;by_cases js:j<len
   ·by_cases hj4:j<4
    ·have hj4I:(j:Int)<4:=by omega
     obtain ⟨bq,oq,jy,hbq,q0,q1,q2,q3,q4,jN⟩:=(HQ.out.later HB.out (A3 _)).at js;have jD:=Pp a bq oq len cap j jy js;have jR:=A0 jy;have jU:=A0 jN;clear jy jN
     go_upto_region 6 with fail
     refine Bw (by kernel_rfl) (Vs [fun v _=>v=.pointer (some ⟨gt,2,none⟩),fun v _=>v=Value.slice b R.length c,fun v _=>v=.pointer (some ⟨w.heap.size,2,none⟩),fun v _=>v=.slice a len cap,fun v _=>v=.int .i64 (j:Int),fun v _=>v=.pointer (some ⟨bq,oq+j*5,none⟩),fun v _=>v=.agg #[.slice (Q j).ai (Q j).li (Q j).ci,.slice (Q j).ao (Q j).lo (Q j).co,.int .u8 (Q j).f,.int .u8 (Q j).d,.int .u8 (Q j).c],fun v _=>v=.pointer (some ⟨gt,0,none⟩),fun v _=>v=.int .i64 mo,RlV,GU (Value.slice b R.length c),Pq (w.heap.size+2) R,fun v _=>v=.pointer (some ⟨gt,2,none⟩)]) (fun bo W=>TX0 ((w.alloc (.cells #[.int .u8 x0,.int .u8 x1,.slice a len cap] 24)).alloc (.cells #[.int .i64 0,.int .u8 0,.slice none 0 0] 33)) (w.heap.size+2) gt mo 1 (Value.slice b R.length c) W∧(bo=false→Below wr.heap.size wr W∧Ei W (w.heap.size+2) (Value.slice b R.length c) R)∧(w.heap.size+2≤W.heap.size)∧∀ q,(Value.slice b R.length c).ownBlock=some q→q<W.heap.size) (fun W W'=>W.grownBy W' (Value.slice b R.length c).ownBlock) 56 11 13 (by kernel_rfl) rfl (by omega) ?hVx ?hVm ?hSx ?hS ?hop ?hlast
     case hVx=>exact Af (by simp only [AS,List.not_mem_nil,or_false,forall_eq_or_imp,forall_eq];exact ⟨AW _,AW _,AW _,AW _,AW _,AW _,AW _,AW _,AW _,OP,J5 _,LZ _ _,AW _⟩)
     case hVm=>exact Lt ⟨fun _=>fun _ _ _ h _=>h,fun _=>fun _ _ _ h _=>h,fun _=>fun _ _ _ h _=>h,fun _=>fun _ _ _ h _=>h,fun _=>fun _ _ _ h _=>h,fun _=>fun _ _ _ h _=>h,fun _=>fun _ _ _ h _=>h,fun _=>fun _ _ _ h _=>h,fun _=>fun _ _ _ h _=>h,fun _=>fun _ _ _ h _=>h,fun _=>J6 _,fun h=>absurd rfl h,fun _=>fun _ _ _ h _=>h,trivial⟩
     case hSx=>exact fun bo W W' h hx=>⟨h.1.below hx,fun e=>⟨(h.2.1 e).1.trans (Below.mono hx (h.2.1 e).1.size),(h.2.1 e).2.below hx (h.2.1 e).2.lt⟩,A8 h.2.2.1 hx.size,fun q hq=>A7 (h.2.2.2 q hq) hx.size⟩
     case hS=>exact ⟨jo.out.toTX0,fun _=>⟨Below.refl _ _,jo.out.row⟩,jQ,jo.out.row.lt⟩
     case hop =>
      refine ⟨?_,?_,?_,?_,?_,?_,?_,?_,?_,?_,?_,?_,?_,?_,trivial⟩
      all_goals first | rw [if_neg (by decide),if_neg (by decide)] | rw [if_neg (by decide),if_pos (by decide)] | rw [if_pos (by decide)]
      ·intro A W bo jc hS jb ja;obtain ⟨d0',d1',d2'⟩:=hS.1.cells;obtain ⟨je,ji,jj⟩:=BD hS.1.bl rfl;have h1:A.tmps.getD 1 undef=.pointer (some ⟨w.heap.size,0,none⟩):=ja 1 (by kernel_rfl);have h3:A.tmps.getD 3 undef=.pointer (some ⟨gt,0,none⟩):=ja 3 (by kernel_rfl);have h4:A.tmps.getD 4 undef=.int .i64 (j:Int):=ja 4 (by kernel_rfl);have jd:Below w.heap.size w W:=(((Below.refl _ _).alloc (A3 _) _).alloc (by simp) _).trans (hS.1.bl.mono (by omega));clear ja;simp [AY,Region.binds,Vs] at jb;refine AX rfl (.inl ⟨_,W,?_,rfl,Ext.refl _⟩);clear jc hS jd;simp [go_sem,Act.eval, *]
      ·intro A W bo jc hS jb ja;obtain ⟨d0',d1',d2'⟩:=hS.1.cells;obtain ⟨je,ji,jj⟩:=BD hS.1.bl rfl;have h1:A.tmps.getD 1 undef=.pointer (some ⟨w.heap.size,0,none⟩):=ja 1 (by kernel_rfl);have h3:A.tmps.getD 3 undef=.pointer (some ⟨gt,0,none⟩):=ja 3 (by kernel_rfl);have h4:A.tmps.getD 4 undef=.int .i64 (j:Int):=ja 4 (by kernel_rfl);have jd:Below w.heap.size w W:=(((Below.refl _ _).alloc (A3 _) _).alloc (by simp) _).trans (hS.1.bl.mono (by omega));clear ja;simp [AY,Region.binds,Vs] at jb;refine AX rfl (.inl ⟨_,W,?_,rfl,Ext.refl _⟩);clear jc hS jd;simp [go_sem,Act.eval, *]
      ·intro A W bo jc hS jb ja;obtain ⟨d0',d1',d2'⟩:=hS.1.cells;obtain ⟨je,ji,jj⟩:=BD hS.1.bl rfl;have h1:A.tmps.getD 1 undef=.pointer (some ⟨w.heap.size,0,none⟩):=ja 1 (by kernel_rfl);have h3:A.tmps.getD 3 undef=.pointer (some ⟨gt,0,none⟩):=ja 3 (by kernel_rfl);have h4:A.tmps.getD 4 undef=.int .i64 (j:Int):=ja 4 (by kernel_rfl);have jd:Below w.heap.size w W:=(((Below.refl _ _).alloc (A3 _) _).alloc (by simp) _).trans (hS.1.bl.mono (by omega));clear ja;simp [AY,Region.binds,Vs] at jb;refine AX rfl (.inl ⟨_,W,?_,rfl,Ext.refl _⟩);clear jc hS jd;simp [go_sem,Act.eval, *]
      ·intro A W bo jc hS jb ja;obtain ⟨d0',d1',d2'⟩:=hS.1.cells;obtain ⟨je,ji,jj⟩:=BD hS.1.bl rfl;have h1:A.tmps.getD 1 undef=.pointer (some ⟨w.heap.size,0,none⟩):=ja 1 (by kernel_rfl);have h3:A.tmps.getD 3 undef=.pointer (some ⟨gt,0,none⟩):=ja 3 (by kernel_rfl);have h4:A.tmps.getD 4 undef=.int .i64 (j:Int):=ja 4 (by kernel_rfl);have jd:Below w.heap.size w W:=(((Below.refl _ _).alloc (A3 _) _).alloc (by simp) _).trans (hS.1.bl.mono (by omega));clear ja;simp [AY,Region.binds,Vs] at jb;refine AX rfl (.inl ⟨_,W,?_,rfl,Ext.refl _⟩);clear jc hS jd;simp [go_sem,Act.eval, *]
      ·intro A W bo jc hS jb ja;obtain ⟨d0',d1',d2'⟩:=hS.1.cells;obtain ⟨je,ji,jj⟩:=BD hS.1.bl rfl;have h1:A.tmps.getD 1 undef=.pointer (some ⟨w.heap.size,0,none⟩):=ja 1 (by kernel_rfl);have h3:A.tmps.getD 3 undef=.pointer (some ⟨gt,0,none⟩):=ja 3 (by kernel_rfl);have h4:A.tmps.getD 4 undef=.int .i64 (j:Int):=ja 4 (by kernel_rfl);have jd:Below w.heap.size w W:=(((Below.refl _ _).alloc (A3 _) _).alloc (by simp) _).trans (hS.1.bl.mono (by omega));clear ja;simp [AY,Region.binds,Vs] at jb;refine AX rfl (.inl ⟨_,W,?_,rfl,Ext.refl _⟩);clear jc hS jd;simp [go_sem,Act.eval, *]
      ·intro A W bo jc hS jb ja;obtain ⟨d0',d1',d2'⟩:=hS.1.cells;obtain ⟨je,ji,jj⟩:=BD hS.1.bl rfl;have h1:A.tmps.getD 1 undef=.pointer (some ⟨w.heap.size,0,none⟩):=ja 1 (by kernel_rfl);have h3:A.tmps.getD 3 undef=.pointer (some ⟨gt,0,none⟩):=ja 3 (by kernel_rfl);have h4:A.tmps.getD 4 undef=.int .i64 (j:Int):=ja 4 (by kernel_rfl);have jd:Below w.heap.size w W:=(((Below.refl _ _).alloc (A3 _) _).alloc (by simp) _).trans (hS.1.bl.mono (by omega));clear ja;simp [AY,Region.binds,Vs] at jb;refine AX rfl (.inl ⟨_,W,?_,rfl,Ext.refl _⟩);clear jc hS jd;simp [go_sem,Act.eval, *]
      ·intro A W bo jc hS jb ja;obtain ⟨d0',d1',d2'⟩:=hS.1.cells;obtain ⟨je,ji,jj⟩:=BD hS.1.bl rfl;have h1:A.tmps.getD 1 undef=.pointer (some ⟨w.heap.size,0,none⟩):=ja 1 (by kernel_rfl);have h3:A.tmps.getD 3 undef=.pointer (some ⟨gt,0,none⟩):=ja 3 (by kernel_rfl);have h4:A.tmps.getD 4 undef=.int .i64 (j:Int):=ja 4 (by kernel_rfl);have jd:Below w.heap.size w W:=(((Below.refl _ _).alloc (A3 _) _).alloc (by simp) _).trans (hS.1.bl.mono (by omega));clear ja;simp [AY,Region.binds,Vs] at jb;obtain ⟨b',o',jx,jA,q0',q1',q2',q3',q4',jq⟩:=(HQ.out.later jd (A3 _)).at js;obtain ⟨rfl,rfl⟩:b'=bq∧o'=oq:=by have:=jR.out.symm.trans jx;simp at this;exact ⟨this.1.symm,this.2.symm⟩
       clear jx;refine AX rfl (.inl ⟨_,W,?_,rfl,Ext.refl _⟩);clear jc hS jd;simp [go_sem,Act.eval, *]
      ·intro A W bo jc hS jb ja;obtain ⟨d0',d1',d2'⟩:=hS.1.cells;obtain ⟨je,ji,jj⟩:=BD hS.1.bl rfl;have h1:A.tmps.getD 1 undef=.pointer (some ⟨w.heap.size,0,none⟩):=ja 1 (by kernel_rfl);have h3:A.tmps.getD 3 undef=.pointer (some ⟨gt,0,none⟩):=ja 3 (by kernel_rfl);have h4:A.tmps.getD 4 undef=.int .i64 (j:Int):=ja 4 (by kernel_rfl);have jd:Below w.heap.size w W:=(((Below.refl _ _).alloc (A3 _) _).alloc (by simp) _).trans (hS.1.bl.mono (by omega));clear ja;simp [AY,Region.binds,Vs] at jb;refine AX rfl (.inl ⟨_,W,?_,rfl,Ext.refl _⟩);clear jc hS jd;simp [go_sem,Act.eval, *]
      ·intro A W bo jc hS jb ja;obtain ⟨d0',d1',d2'⟩:=hS.1.cells;obtain ⟨je,ji,jj⟩:=BD hS.1.bl rfl;have h1:A.tmps.getD 1 undef=.pointer (some ⟨w.heap.size,0,none⟩):=ja 1 (by kernel_rfl);have h3:A.tmps.getD 3 undef=.pointer (some ⟨gt,0,none⟩):=ja 3 (by kernel_rfl);have h4:A.tmps.getD 4 undef=.int .i64 (j:Int):=ja 4 (by kernel_rfl);have jd:Below w.heap.size w W:=(((Below.refl _ _).alloc (A3 _) _).alloc (by simp) _).trans (hS.1.bl.mono (by omega));clear ja;simp [AY,Region.binds,Vs] at jb;refine AX rfl (.inl ⟨_,W,?_,rfl,Ext.refl _⟩);clear jc hS jd;simp [go_sem,Act.eval, *]
      ·intro A W bo jc hS jb ja;obtain ⟨d0',d1',d2'⟩:=hS.1.cells;obtain ⟨je,ji,jj⟩:=BD hS.1.bl rfl;have h1:A.tmps.getD 1 undef=.pointer (some ⟨w.heap.size,0,none⟩):=ja 1 (by kernel_rfl);have h3:A.tmps.getD 3 undef=.pointer (some ⟨gt,0,none⟩):=ja 3 (by kernel_rfl);have h4:A.tmps.getD 4 undef=.int .i64 (j:Int):=ja 4 (by kernel_rfl);have jd:Below w.heap.size w W:=(((Below.refl _ _).alloc (A3 _) _).alloc (by simp) _).trans (hS.1.bl.mono (by omega));clear ja;have jq:=jU.out;simp [AY,Region.binds,Vs] at jb;refine AX rfl (.inr ⟨33,#[.agg #[.slice (Q j).ai (Q j).li (Q j).ci,.slice (Q j).ao (Q j).lo (Q j).co,.int .u8 (Q j).f,.int .u8 (Q j).d,.int .u8 (Q j).c],.int .i64 mo],W,by (clear jc hS jd jq;simp [go_sem,Act.eval, *]),?_⟩);obtain ⟨b',o',jx,jA,q0',q1',q2',q3',q4',hr⟩:=(HQ.out.later jd (A3 _)).at js;refine (made1_any _ _ _ _ _ _ _ _ _ _ (Q j).ZI (Q j).ZO W hr.f0 hr.f1 hr.d0 hr.d1 hr.c0 hr.c1 jp jt hr.i hr.o).mono ?_;rintro e w' ⟨r,rfl, -, -,hb⟩;exact ⟨_,rfl,⟨r,rfl⟩,hb⟩
      ·intro A W bo jc hS jb ja;obtain ⟨d0',d1',d2'⟩:=hS.1.cells;obtain ⟨je,ji,jj⟩:=BD hS.1.bl rfl;have h1:A.tmps.getD 1 undef=.pointer (some ⟨w.heap.size,0,none⟩):=ja 1 (by kernel_rfl);have h3:A.tmps.getD 3 undef=.pointer (some ⟨gt,0,none⟩):=ja 3 (by kernel_rfl);have h4:A.tmps.getD 4 undef=.int .i64 (j:Int):=ja 4 (by kernel_rfl);have jd:Below w.heap.size w W:=(((Below.refl _ _).alloc (A3 _) _).alloc (by simp) _).trans (hS.1.bl.mono (by omega));clear ja;have jz:RlV (A.tmps.getD 36 undef) W:=jb ⟨9,.data⟩ (by simp) rfl;obtain ⟨r,e36⟩:=jz;have jL:=hS.2.2.2;refine AX rfl (.inl ⟨.slice (some ⟨W.heap.size,0,none⟩) 1 1,W.alloc (.cells #[.int .i64 r.frm,.int .i64 r.dst,.string r.inp,.string r.out,.int .i64 r.cost] 88),?_,⟨r,W.heap.size,rfl,heap_alloc_new _ _,fun e=>absurd (jL _ e) (Nat.lt_irrefl _)⟩,(Below.refl _ _).alloc (A3 _) _⟩);rw [A4] at e36;clear jc hS jb jL;simp [go_sem,Act.eval, *]
      ·intro A W jc hS jb ja;have j2:A.tmps.getD 28 undef=Value.slice b R.length c:=jb ⟨1,.data⟩ (by simp) rfl;have jF:GU (Value.slice b R.length c) (A.tmps.getD 37 undef) W:=jb ⟨10,.data⟩ (by simp) rfl;obtain ⟨r,jF⟩:=jF;refine ⟨rfl,(opres_rowp rfl (Ad j2) (hS.2.1 rfl).2 rfl (by rw [Ad rfl];exact jF) (by omega) hS.2.2.1).mono fun v w' h=>⟨⟨r,h.1⟩,h.2,hS.1.grown h.2 (hS.2.1 rfl).2.ge ((hS.2.1 rfl).2.ne_of hS.1.rep),fun e=>absurd e (by decide),A8 hS.2.2.1 h.2.size,fun q hq=>A7 (hS.2.2.2 q hq) h.2.size⟩⟩
      ·intro A W bo jc hS jb ja;obtain ⟨d0',d1',d2'⟩:=hS.1.cells;obtain ⟨je,ji,jj⟩:=BD hS.1.bl rfl;have h1:A.tmps.getD 1 undef=.pointer (some ⟨w.heap.size,0,none⟩):=ja 1 (by kernel_rfl);have h3:A.tmps.getD 3 undef=.pointer (some ⟨gt,0,none⟩):=ja 3 (by kernel_rfl);have h4:A.tmps.getD 4 undef=.int .i64 (j:Int):=ja 4 (by kernel_rfl);have jd:Below w.heap.size w W:=(((Below.refl _ _).alloc (A3 _) _).alloc (by simp) _).trans (hS.1.bl.mono (by omega));clear ja;simp [AY,Region.binds,Vs] at jb;refine AX rfl (.inl ⟨_,W,?_,rfl,Ext.refl _⟩);clear jc hS jd;simp [go_sem,Act.eval, *]
      · trivial
     case hlast =>
      intro A1 W jc jH hS hv ja;have jO:A1.tmps.getD 39 undef=.pointer (some ⟨gt,2,none⟩):=hv 12 (by decide);have jf:Pq (w.heap.size+2) R (A1.tmps.getD 38 undef) W:=hv 11 (by decide);obtain ⟨r,jf⟩:=jf;have jk:(R ++ [r]).length=R.length+1:=by simp
      obtain ⟨b',c',jr,j1,jB⟩:=jf.rules;rw [jk] at jr jB;rw [jr] at jf;obtain ⟨e0,e1,e2⟩:=hS.1.cells;refine BK rfl rfl rfl rfl (Ad jO) (Ad jr) (hS.1.free 2) e2 (by kernel_rfl) ?_;have jn:=A0 (hS.1.put jf);obtain ⟨x,hx,hA⟩:=Ag [27,28,29,30,31,32,33,34,35,36,37,38,39] (by kernel_rfl) jc jH ja;obtain ⟨wz,jP⟩:∃ wz,wz=W.setCell ⟨gt,2,none⟩ (.slice b' (R.length+1) c'):=⟨_,rfl⟩
      rw [← jP] at jn ⊢;rw [hA];simp only [List.foldl];simp only [Act.put,List.setIfInBounds_toArray,List.set_cons_succ,List.set_cons_zero];clear hA hx hv ja jc jH jP e0 e1 e2 jr jf j1 jO hS d0 d1 d2 df hc hf q0 q1 q2 q3 q4 jD;have jh:=A0 jk;have jS:=A0 jB;clear jk jB;obtain ⟨hzy,hc,hf⟩:=BD jn.out.bl rfl;obtain ⟨d0,d1,d2⟩:=jn.out.toTX0.cells;have df:=jn.out.toTX0.free;have jV:Hid (BG wz b' (R ++ [r])):=(jn.out.own.ruls).1;have ju:=rright_any ⟨mo,1,R ++ [r]⟩ b' c' R.length wz jV.out (by show (R ++ [r]).length≤_;rw [jh.out];omega) (by show R.length<(R ++ [r]).length;rw [jh.out];omega) jp (by show mo≤8;omega);obtain ⟨ok,jM⟩:∃ ok,CI ⟨mo,1,R ++ [r]⟩ ((R ++ [r])[R.length]'(by rw [jh.out];omega)) ((R ++ [r]).take R.length)=ok:=⟨_,rfl⟩
      simp only [jM] at ju;rw [show (Sch.rules ⟨mo,1,R ++ [r]⟩).length=R.length+1 from jh.out] at ju;have jT:=A0 ju;clear ju jM
      go_wp2_with fail
      refine jT.out.mono ?_;rintro e w3 ⟨rfl,hb⟩;have jg:=A0 (jn.out.below hb);clear hc hf d0 d1 d2 df hb;obtain ⟨hzx,hc,hf⟩:=BD jg.out.bl rfl;obtain ⟨d0,d1,d2⟩:=jg.out.toTX0.cells;have df:=jg.out.toTX0.free;cases ok
      ·have hsl:=Hg b' (R.length+1) c' R.length (by have:=jS.out;omega)
       go_wp2_with fail
       go_roundw
       case rel =>
        have ho:C6 w3 (w.heap.size+2) (.slice b' R.length c') R:=jg.out.own.drop;have h:=jg.out.toTX0.put ho;exact ⟨j+1,R,b',R.length,c',by omega,by go_num,rfl,by omega,⟨h.toTX0,.inl h.own⟩⟩
       case measure=>simp [intOf];omega
      ·go_wp2_with fail
       go_roundw
       case rel=>exact ⟨j+1,R ++ [r],b',R.length+1,c',by omega,by go_num,jh.out.symm,by rw [jh.out];omega,⟨jg.out.toTX0,.inl jg.out.own⟩⟩
       case measure=>simp [intOf];omega
    ·obtain rfl:j=4:=by omega
     go_wp2_with fail
     obtain ⟨r0',r1',r2'⟩:=cells3 (RB (a:=.int .i64 mo) (b:=.int .u8 1) (c:=.slice b R.length c) jG.out);exact bodyPost_ret (v:=.agg #[.int .i64 mo,.int .u8 1,.slice b R.length c]) (by simp [results,Tryz.results11,go_sem,r0',r1',r2']) rfl (Je jo.out.row (by omega) (by omega) jp jt (by omega) HB.out)
   ·have hjI:¬ (j:Int)<(len:Int):=by omega
    go_wp2_with fail
    obtain ⟨r0',r1',r2'⟩:=cells3 (RB (a:=.int .i64 mo) (b:=.int .u8 1) (c:=.slice b R.length c) jG.out);exact bodyPost_ret (v:=.agg #[.int .i64 mo,.int .u8 1,.slice b R.length c]) (by simp [results,Tryz.results11,go_sem,r0',r1',r2']) rfl (Je jo.out.row (by omega) (by omega) jp jt (by omega) HB.out)
def sn:Value→Nat | .slice _ n _=>n | _=>0
def rl (f t:Int) (i:List UInt8):Rl:=⟨f,t,⟨i.toArray⟩,⟨#[]⟩,0⟩
def SA:Sch:=⟨2,1,[rl 0 0 [97],rl 0 1 [98]]⟩
def SE:Sch:=⟨0,0,[]⟩
def NH (r q:Rl):Bool:=decide (r.frm=q.frm) && (decide (r.dst=q.dst) && (decide (r.inp.data.toList=q.inp.data.toList) && (decide (r.out.data.toList=q.out.data.toList) && decide (r.cost=q.cost))))
theorem RE (r q:Rl):Di r q=NH r q:=by
 unfold Di NH;simp only [ByteArray.toList_eq]
def Pr (S:Sch):Bool:=Ej S && (List.range S.rules.length).all fun i=>match S.rules[i]? with | some r=>CW S.modes r && !(S.rules.take i).any (NH r) | none=>true
theorem EZ (S:Sch):validB S=true↔Hq S:=by simp [validB]
theorem valid_of {S:Sch} (h:Pr S=true):validB S=true:=by
 unfold Pr at h;rw [Bool.and_eq_true,List.all_eq_true] at h;rw [EZ];refine ⟨h.1,fun i hi _=>?_⟩;have:=h.2 i (by simpa using hi);rw [AA hi] at this;unfold CI;have e:(S.rules.take i).any (Di S.rules[i])=(S.rules.take i).any (NH S.rules[i]):=by congr 1;funext q;exact RE _ _
 rw [e];exact this
theorem IZ {S:Sch} (h:validB S=true) (ha:0≤S.acc) (hb:S.acc≤255):Fit S:=by
 have hv:Hq S:=(EZ S).1 h;have h1:=hv.1;unfold Ej at h1;simp only [Bool.and_eq_true,decide_eq_true_eq] at h1;refine ⟨h1.1,h1.2.1,ha,hb,h1.2.2.1,fun i hi=>?_⟩;have h2:=hv.2 i hi hi;unfold CI CW at h2;simp only [Bool.and_eq_true,decide_eq_true_eq] at h2;exact ⟨h2.1.1,h2.1.2.1,h2.1.2.2.1,h2.1.2.2.2.1⟩
theorem vA:validB SA=true:=valid_of (by decide +kernel)
theorem vE:validB SE=false:=by
 cases hb:validB SE with
 | false=>rfl
 | true=>exact absurd ((EZ SE).1 hb).1 (by decide +kernel)
open Go.ChangeShapes Go.WideShapes Go.ChangeAt Go.RowKit
structure Jf where
 M:Int
 A:Int
 a:Option Addr
 len:Nat
 cap:Nat
 Q:Nat→RR
def Jf.val (x:Jf):Value:=.agg #[.int .u8 x.M,.int .u8 x.A,.slice x.a x.len x.cap]
structure Ps (w:World) (x:Jf):Prop where
 m0:0≤x.M
 m1:x.M≤255
 a0:0≤x.A
 a1:x.A≤255
 rows:Ds w x.a x.len x.Q
instance:Inhabited RR:=⟨⟨none,0,0,none,0,0,0,0,0,fun _=>0,fun _=>0⟩⟩
section
variable {H:Type} {enc:TypeId × Value→H} {w:World} {base:Nat} {spare:Nat→Bool} {held:Bool} {d:DataW H} {p:List MemPlace} {r:Reach} {b0:Nat} {v:Value}
theorem KK {P:Program} {t:TypeId} {f0 f1 f2 f3 f4:Field} {fuel:Nat} {cs:List Value} {x:DataW H × List MemPlace} (ht:P.underlying t=some (.struct #[f0,f1,f2,f3,f4])) (h:DataW.trod enc P w base spare held fuel t cs=some x) :
  ∃
   y0 y1 y2 y3 y4 n,cs.length=P.cellsOf t∧DataW.trod enc P w base spare held n f0.type ((cs.drop f0.offset).take (P.cellsOf f0.type))=some y0 ∧
   DataW.trod enc P w base spare held n f1.type ((cs.drop f1.offset).take (P.cellsOf f1.type))=some y1∧DataW.trod enc P w base spare held n f2.type ((cs.drop f2.offset).take (P.cellsOf f2.type))=some y2 ∧
   DataW.trod enc P w base spare held n f3.type ((cs.drop f3.offset).take (P.cellsOf f3.type))=some y3∧DataW.trod enc P w base spare held n f4.type ((cs.drop f4.offset).take (P.cellsOf f4.type))=some y4:=by
 obtain ⟨xs,n,_,rfl,hl,ja,hf⟩:=DataW.trod_struct ht h
 match xs,ja with
 | [y0,y1,y2,y3,y4],_=>exact ⟨y0,y1,y2,y3,y4,n,hl,by simpa using hf 0 f0 rfl,by simpa using hf 1 f1 rfl,by simpa using hf 2 f2 rfl,by simpa using hf 3 f3 rfl,by simpa using hf 4 f4 rfl⟩
open Go.Deep in
theorem slice_bytes {fuel:Nat} {cs:List Value} {x:DataW H × List MemPlace} (h:DataW.trod enc Tryz.prog w base spare held fuel 26 cs=some x):∃ a len cap Z,cs=[.slice a len cap]∧BX w a len Z:=by
 rcases open_slice1 Tryz.underlying26 (by kernel_rfl) h with ⟨h0,_⟩ | ⟨ad,l,c,m,n,V,D,Pl,h0,hba,hl,ja,jd,_,jb⟩
 · exact ⟨none,0,0,fun _=>0,h0,.inl rfl⟩
 ·have hlm:l≤m:=by rw [jd];split <;> omega
  have jc:l≤9223372036854775807:=by unfold maxLen at ja;omega
  have key:∀ i,i<l→∃ z,w.cell? (ad.add i)=some (.int .u8 z)∧0≤z∧z≤255:=fun i hi=>by
   obtain ⟨h1,h2⟩:=jb i (by omega);obtain ⟨z,hz,_,hw⟩:=DataW.trod_int Tryz.underlying5 h2;have:V i=.int .u8 z:=List.head_eq_of_cons_eq hz;rw [this] at h1;exact ⟨z,h1,bounds_u8 hw⟩
  by_cases h9:l=0
  · exact ⟨some ad,l,c,fun _=>0,h0,.inl h9⟩
  ·obtain ⟨Z,hZ⟩:=choose_lt (α:=Int) key;obtain ⟨b,o,sp⟩:=ad;have hs:=World.cell?_spot (hZ 0 (by omega)).1;obtain rfl:sp=none:=by simpa [Addr.add] using hs
   refine ⟨some ⟨b,o,none⟩,l,c,Z,h0,.inr ⟨b,o,rfl,jc,?_,fun i hi=>?_⟩⟩
   ·have:=World.block_lt_of_cell? w _ (hZ 0 (by omega)).1
    rwa [C3] at this
   ·have hk:=hZ i hi;rw [addr_add] at hk;exact hk
theorem KL {fuel:Nat} {cs:List Value} {x:DataW H × List MemPlace} (h:DataW.trod enc Tryz.prog w base spare held fuel 91 cs=some x) :
  ∃ q:RR,cs=[.slice q.ai q.li q.ci,.slice q.ao q.lo q.co,.int .u8 q.f,.int .u8 q.d,.int .u8 q.c]∧MQ w q:=by
 obtain ⟨y0,y1,y2,y3,y4,n,hl,h0,h1,h2,h3,h4⟩:=KK Tryz.underlying91 h;have ja:cs.length=5:=hl.trans (by kernel_rfl)
 match cs,ja with
 | [c0,c1,c2,c3,c4],_ =>
  obtain ⟨ai,li,ci,ZI,e0,g0⟩:=slice_bytes h0;obtain ⟨ao,lo,co,ZO,e1,g1⟩:=slice_bytes h1;obtain ⟨f,e2,_,w2⟩:=DataW.trod_int Tryz.underlying5 h2;obtain ⟨dd,e3,_,w3⟩:=DataW.trod_int Tryz.underlying5 h3;obtain ⟨c,e4,_,w4⟩:=DataW.trod_int Tryz.underlying5 h4;obtain rfl:c0=.slice ai li ci:=List.head_eq_of_cons_eq e0;obtain rfl:c1=.slice ao lo co:=List.head_eq_of_cons_eq e1;obtain rfl:c2=.int .u8 f:=List.head_eq_of_cons_eq e2;obtain rfl:c3=.int .u8 dd:=List.head_eq_of_cons_eq e3;obtain rfl:c4=.int .u8 c:=List.head_eq_of_cons_eq e4;exact ⟨⟨ai,li,ci,ao,lo,co,f,dd,c,ZI,ZO⟩,rfl,(bounds_u8 w2).1,(bounds_u8 w2).2,(bounds_u8 w3).1,(bounds_u8 w3).2,(bounds_u8 w4).1,(bounds_u8 w4).2,g0,g1⟩
open Go.Deep in
theorem slice_raws {fuel:Nat} {cs:List Value} {x:DataW H × List MemPlace} (h:DataW.trod enc Tryz.prog w base spare held fuel 22 cs=some x):∃ a len cap Q,cs=[.slice a len cap]∧Ds w a len Q:=by
 rcases open_slice Tryz.underlying22 h with ⟨h0,_⟩ | ⟨ad,l,c,m,n,D,Pl,h0,hba,hl,hcm,jg,_,je⟩
 · exact ⟨none,0,0,fun _=>⟨none,0,0,none,0,0,0,0,0,fun _=>0,fun _=>0⟩,h0,.inl rfl⟩
 ·have hlm:l≤m:=by rw [jg];split <;> omega
  have hC:Tryz.prog.cellsOf 91=5:=by kernel_rfl
  have key:∀ i,i<l→∃ q:RR,((w.cell? ⟨ad.block,ad.off+i*5+0,none⟩=some (.slice q.ai q.li q.ci)∧w.cell? ⟨ad.block,ad.off+i*5+1,none⟩=some (.slice q.ao q.lo q.co)∧w.cell? ⟨ad.block,ad.off+i*5+2,none⟩=some (.int .u8 q.f)∧w.cell? ⟨ad.block,ad.off+i*5+3,none⟩=some (.int .u8 q.d)∧w.cell? ⟨ad.block,ad.off+i*5+4,none⟩=some (.int .u8 q.c))∧MQ w q)∧(i=0→ad.spot=none)∧ad.block<w.heap.size:=by
   intro i hi;obtain ⟨cs',jc,jh⟩:=je i (by omega);rw [hC] at jc;obtain ⟨q,rfl,hq⟩:=KL jh;obtain ⟨_,hl',hg⟩:=World.cells?_some jc;have jb:∀ j,j<5→∀ u,[Value.slice q.ai q.li q.ci,.slice q.ao q.lo q.co,.int .u8 q.f,.int .u8 q.d,.int .u8 q.c][j]? = some u→w.cell? ⟨ad.block,ad.off+i*5+j,none⟩=some u:=by
    intro j hj u hu;have h1:=hg j hj;rw [hu] at h1;have ja:=World.cell?_spot h1;have e:(ad.add (i*5)).add j=⟨ad.block,ad.off+i*5+j,none⟩:=by
     rw [JZ _ _ ja,C3,IL]
    rwa [e] at h1
   refine ⟨q,⟨⟨jb 0 (by omega) _ rfl,jb 1 (by omega) _ rfl,jb 2 (by omega) _ rfl,jb 3 (by omega) _ rfl,jb 4 (by omega) _ rfl⟩,hq⟩,fun jf=>?_,?_⟩
   ·subst jf;have h1:=hg 0 (by omega);have ja:=World.cell?_spot (v:=.slice q.ai q.li q.ci) h1;simpa [Addr.add] using ja
   ·have:=World.cells?_block jc (by omega)
    rwa [C3] at this
  by_cases h9:l=0
  · exact ⟨some ad,l,c,fun _=>⟨none,0,0,none,0,0,0,0,0,fun _=>0,fun _=>0⟩,h0,.inl h9⟩
  ·obtain ⟨Q,hQ⟩:=choose_lt (α:=RR) (n:=l) (fun i hi=>key i hi);have jd:=(hQ 0 (by omega)).2.1 rfl;obtain ⟨b,o,sp⟩:=ad;simp only at jd;subst jd;exact ⟨some ⟨b,o,none⟩,l,c,Q,h0,.inr ⟨b,o,rfl,(hQ 0 (by omega)).2.2,fun i hi=>(hQ i hi).1⟩⟩
theorem open_raw02 (hv:Value.okWide Tryz.prog w r b0 24 v) (h:DataW.Trod enc Tryz.prog w base spare held 24 v d p):∃ x:Jf,v=x.val∧Ps w x:=by
 obtain ⟨cs,rfl,jb⟩:∃ cs,v=.agg cs∧cs.size=3:=by
  unfold Value.okWide at hv;rw [Tryz.underlying24] at hv;obtain ⟨cs,h,h2,_⟩:=hv;exact ⟨cs,h,h2.trans (by kernel_rfl)⟩
 obtain ⟨f,hf⟩:=h;obtain ⟨y0,y1,y2,n,_,_,h0,h1,h2⟩:=Go.Deep.trod_struct3 Tryz.underlying24 hf;have ja:∃ c0 c1 c2,cs=#[c0,c1,c2]:=by
  obtain ⟨l⟩:=cs
  match l,jb with
  | [c0,c1,c2],_=>exact ⟨c0,c1,c2,rfl⟩
 obtain ⟨c0,c1,c2,rfl⟩:=ja;obtain ⟨M,e0,_,w0⟩:=DataW.trod_int Tryz.underlying5 h0;obtain ⟨A,e1,_,w1⟩:=DataW.trod_int Tryz.underlying5 h1;obtain ⟨a,len,cap,Q,e2,hQ⟩:=slice_raws h2;have g0:c0=.int .u8 M:=List.head_eq_of_cons_eq e0;have g1:c1=.int .u8 A:=List.head_eq_of_cons_eq e1;have g2:c2=.slice a len cap:=List.head_eq_of_cons_eq e2;subst g0 g1 g2;exact ⟨⟨M,A,a,len,cap,Q⟩,rfl,(bounds_u8 w0).1,(bounds_u8 w0).2,(bounds_u8 w1).1,(bounds_u8 w1).2,hQ⟩
end
end Go.Proofs.YtpljngaejaehcaaGreatDoor.Fl
