/- Texts that the claims share: Made3, Levels, WalkM, RefF, RefG, RefH. -/
import Derived.Test.YthjmdgejnakcmaaGreatDoorMF3
import Derived.Test.YthjmdgejnakcmaaGreatDoorMF2
set_option linter.unusedVariables false
set_option linter.unusedSimpArgs false
namespace Go.Proofs.YthjmdgejnakcmaaGreatDoor.Fl
open Go.RowKit
structure RR where
 ai:Option Addr
 li:Nat
 ci:Nat
 ao:Option Addr
 lo:Nat
 co:Nat
 f:Int
 d:Int
 c:Int
 ZI:Nat→Int
 ZO:Nat→Int
structure Mm (w:World) (q:RR):Prop where
 f0:0≤q.f
 f1:q.f≤255
 d0:0≤q.d
 d1:q.d≤255
 c0:0≤q.c
 c1:q.c≤255
 i:Bt w q.ai q.li q.ZI
 o:Bt w q.ao q.lo q.ZO
def Dk (w:World) (a:Option Addr) (len:Nat) (Q:Nat→RR):Prop :=
 len=0∨∃ b o,a=some ⟨b,o,none⟩∧b<w.heap.size∧∀ i,i<len→(w.cell? ⟨b,o+i*5+0,none⟩=some (.slice (Q i).ai (Q i).li (Q i).ci)∧w.cell? ⟨b,o+i*5+1,none⟩=some (.slice (Q i).ao (Q i).lo (Q i).co)∧w.cell? ⟨b,o+i*5+2,none⟩=some (.int .u8 (Q i).f)∧w.cell? ⟨b,o+i*5+3,none⟩=some (.int .u8 (Q i).d)∧w.cell? ⟨b,o+i*5+4,none⟩=some (.int .u8 (Q i).c))∧Mm w (Q i)
theorem Mm.later {w w1:World} {q:RR} {B:Nat} (h:Mm w q) (hb:Below B w w1) (hB:w.heap.size≤B):Mm w1 q :=
 ⟨h.f0,h.f1,h.d0,h.d1,h.c0,h.c1,h.i.later hb hB,h.o.later hb hB⟩
theorem Dk.later {w w1:World} {a:Option Addr} {len:Nat} {Q:Nat→RR} {B:Nat} (h:Dk w a len Q) (hb:Below B w w1) (hB:w.heap.size≤B):Dk w1 a len Q:=by
 rcases h with h | ⟨b,o,ha,hlt,hr⟩
 · exact .inl h
 ·
  have hc:∀ k,w1.cell? ⟨b,k,none⟩=w.cell? ⟨b,k,none⟩:=fun k=>hb.cell (p:=⟨b,k,none⟩) (A7 hlt hB)
  refine .inr ⟨b,o,ha,A7 hlt hb.size,fun i hi=>⟨?_,(hr i hi).2.later hb hB⟩⟩
  rw [hc,hc,hc,hc,hc]
  exact (hr i hi).1
theorem Dk.at {w:World} {a:Option Addr} {len:Nat} {Q:Nat→RR} (h:Dk w a len Q) {k:Nat} (hk:k<len):∃ b o,a=some ⟨b,o,none⟩∧b<w.heap.size∧w.cell? ⟨b,o+k*5,none⟩=some (.slice (Q k).ai (Q k).li (Q k).ci)∧w.cell? ⟨b,o+k*5+1,none⟩=some (.slice (Q k).ao (Q k).lo (Q k).co)∧w.cell? ⟨b,o+k*5+2,none⟩=some (.int .u8 (Q k).f)∧w.cell? ⟨b,o+k*5+3,none⟩=some (.int .u8 (Q k).d)∧w.cell? ⟨b,o+k*5+4,none⟩=some (.int .u8 (Q k).c)∧Mm w (Q k):=by
 rcases h with h | ⟨b,o,ha,hlt,hr⟩
 · omega
 ·
  obtain ⟨⟨h0,h1,h2,h3,h4⟩,h5⟩:=hr k hk
  exact ⟨b,o,ha,hlt,h0,h1,h2,h3,h4,h5⟩
theorem Q2 (a:Option Addr) (b o len cap k:Nat) (ha:a=some ⟨b,o,none⟩) (hk:k<len) (w:World) :
  (Instr.indexAt 22 (.slice a len cap) (.int .i64 (k:Int))).run Tryz.prog w=.ok (.pointer (some ⟨b,o+k*5,none⟩)) w:=by
 subst ha
 have h0:(0:Int)≤(k:Int):=by omega
 have h1:(k:Int)<(len:Int):=by omega
 simp [go_sem,h0,h1]
def RlV (v:Value) (_:World):Prop:=∃ r:Rl,v=.agg #[.int .i64 r.frm,.int .i64 r.dst,.string r.inp,.string r.out,.int .i64 r.cost]
theorem ON:Bp RlV:=fun _ _ _ h _=>h
def Gi (v0:Value) (v:Value) (W:World):Prop:=∃ r:Rl,Hm v0 r v W
theorem Jc (v0:Value):Bp (Gi v0):=by
 rintro v w w' ⟨r,h⟩ hx
 exact ⟨r,Kg v0 r v w w' h hx⟩
theorem Jd (v0:Value):∀ v w w',Gi v0 v w→World.grownBy w w' v0.ownBlock→Gi v0 v w':=by
 rintro v w w' ⟨r,h⟩ hx
 exact ⟨r,Kh v0 r v w w' h hx⟩
def Q3 (B:Nat) (R:List Rl) (v:Value) (W:World):Prop:=∃ r:Rl,CX W B v (R ++ [r])
theorem Lh (B:Nat) (R:List Rl):Bp (Q3 B R):=by
 rintro v w w' ⟨r,h⟩ hx
 exact ⟨r,h.below hx h.lt⟩
structure MX (wl:World) (B0 gt:Nat) (mo ac:Int) (v:Value) (R:List Rl) (wr:World):Prop extends TX0 wl B0 gt mo ac v wr where
 row:Ew wr B0 v R
theorem Ew.ne_of {wr:World} {gt B:Nat} {v:Value} {T:List Rl} {cs:Array Value} (h:Ew wr B v T) (hr:wr.heap[gt]? = some (.cells cs 32 (0,0))):∀ q,v.ownBlock=some q→q≠gt:=by
 rcases h with h | ⟨g,r0,rfl,h1,h2⟩
 · exact h.ne_of hr
 ·
  intro q hq e
  cases hq
  subst e
  rw [hr] at h2
  injection h2 with h2
  injection h2 with _ h2 _
  exact absurd h2 (by decide)
theorem OO {w:World} {B:Nat} {a:Option Addr} {R:List Rl} (h:CX w B (.slice a R.length R.length) R) (hl:1≤R.length):∃ g,a=some ⟨g,0,none⟩∧B≤g∧w.heap[g]? = some (.cells (B9 R).toArray 64 (0,0)):=by
 rcases h.2 with ⟨he,h0⟩ | ⟨g,cap',cur,he,p1,p2,p3,p4,p5,p6⟩
 · exfalso;have:R.length=0:=h0;omega
 ·
  injection he with e1 e2 e3
  refine ⟨g,e1,p1,?_⟩
  have:cur=(B9 R).toArray:=by
   apply Array.ext'
   rw [← p6,AF (by rw [Array.length_toList,p5,← e3];exact A3 _)]
  rw [p2,this]
theorem IK (a:Option Addr) (n cap k:Nat) (hk:k≤cap) (w:World) :
  (Instr.slice 30 (.slice a n cap) none (some (.int .i64 (k:Int))) none).run Tryz.prog w=.ok (.slice a k cap) w:=by
 have h0:(0:Int)≤(k:Int):=by omega
 have h1:(k:Int)≤(cap:Int):=by omega
 cases a with
 | none=>simp [go_sem,Instr.slice,Instr.sliceBounds,Instr.sliceBound,asIntOf,h0,h1];intro h;omega
 | some a=>simp [go_sem,Instr.slice,Instr.sliceBounds,Instr.sliceBound,asIntOf,h0,h1];intro h;omega
def K2 (w:World) (e:Ending) (w':World):Prop :=
 ∃ (S:Sch) (b:Option Addr) (c:Nat),e=.returned (.agg #[.int .i64 S.modes,.int .u8 S.acc,.slice b S.rules.length c])∧1≤S.modes∧S.modes≤2∧S.acc=1∧S.rules.length≤9∧BJ w' b S.rules∧S.rules.length≤c∧Below w.heap.size w w'
theorem K3 {w w':World} {mo:Int} {g:Nat} {b:Option Addr} {c B0:Nat} {R:List Rl} {x y z:Value} (hr:Ew w' B0 (.slice b R.length c) R) (hg:g<B0) (hgw:w.heap.size≤g) (h1:1≤mo) (h2:mo≤2) (hl:R.length≤9) (hb:Below w.heap.size w w') :
  K2 w (.returned (.agg #[.int .i64 mo,.int .u8 1,.slice b R.length c])) (((w'.setCell ⟨g,0,none⟩ x).setCell ⟨g,1,none⟩ y).setCell ⟨g,2,none⟩ z):=by
 have h:=((hr.set (i:=0) (u:=x) hg).set (i:=1) (u:=y) hg).set (i:=2) (u:=z) hg
 obtain ⟨a',c',he,hrs,hcp⟩:=h.rules
 injection he with e1 e2 e3
 subst e1 e3
 exact ⟨⟨mo,1,R⟩,b,c,rfl,h1,h2,rfl,hl,hrs,hcp,((hb.setCell hgw _).setCell hgw _).setCell hgw _⟩
set_option maxHeartbeats 6400000 in
set_option maxRecDepth 100000 in
theorem
    made2_any (x0 x1:Int) (a:Option Addr) (len cap:Nat) (Q:Nat→RR) (w:World) (h00:0≤x0) (h01:x0≤255) (h10:0≤x1) (h11:x1≤255) (hQ:Dk w a len Q) :
  Calls Tryz.prog 27 #[.agg #[.int .u8 x0,.int .u8 x1,.slice a len cap]] w (K2 w):=by
 have HQ:=A0 hQ;clear hQ
 go_enter Tryz.func27,Tryz.ntmps27
 go_wp2_with fail
 refine (base_any x0 _ h00 h01).mono ?_
 rintro e w1 ⟨⟨mo,ac,R0⟩,b,n,rfl,rfl,hm1,hm2,hac,hl1,hl5,hown,hb, -⟩
 obtain rfl:ac=1:=hac
 simp only at hm1 hm2 hl1 hl5 hown ⊢
 obtain ⟨g,e1,hgB,hg⟩:=OO hown (by omega)
 simp only [A6] at hgB
 subst e1
 have HB0:Hid (Below (w.heap.size+2) ((w.alloc (.cells #[.int .u8 x0,.int .u8 x1,.slice a len cap] 24)).alloc (.cells #[.int .i64 0,.int .u8 0,.slice none 0 0] 32)) w1):=hb.mono (by simp only [A6];omega)
 clear hb
 obtain ⟨hz,hc,hf⟩:=B7 HB0.out rfl
 simp only [A6] at hz
 have hgl:g<w1.heap.size:=(A5.1 hg).1
 go_upto_region 2 with fail
 have HG:=A0 hg
 clear hg hown
 go_cut [] (fun wx=>∃ wz:World,wz=wx∧∃ (R:List Rl) (b:Option Addr) (n c:Nat),MX ((w.alloc (.cells #[.int .u8 x0,.int .u8 x1,.slice a len cap] 24)).alloc (.cells #[.int .i64 0,.int .u8 0,.slice none 0 0] 32)) (w.heap.size+2) w1.heap.size mo 1 (.slice b n c) R wz∧n=R.length∧R.length≤5)
 case first =>
  rcases (show x1 % 2=0∨x1 % 2=1 by omega) with h2 | h2
  ·
   go_wp2_with fail
   go_meet
   refine ⟨_,rfl,R0,some ⟨g,0,none⟩,R0.length,R0.length,⟨⟨HB0.out.alloc (by omega) _,heap_alloc_new _ _,hz⟩,.inl (Le ((Below.heap_alloc _ _ _ hgl).trans HG.out) hgB (by omega))⟩,rfl,hl5⟩
  ·
   have hlI:(1:Int)≤(R0.length:Int):=by omega
   have hlN:(1:Int)<(R0.length:Int):=by omega
   go_wp2_with fail
   go_meet
   obtain ⟨r0,R,rfl⟩:∃ r0 R,R0=r0 :: R:=by
    cases R0 with
    | nil=>simp at hl1
    | cons r0 R=>exact ⟨r0,R,rfl⟩
   refine ⟨_,rfl,R,some ⟨g,5,none⟩,R.length,R.length,⟨⟨HB0.out.alloc (by omega) _,heap_alloc_new _ _,hz⟩,.inr ⟨g,r0,rfl,hgB,(Below.heap_alloc _ _ _ hgl).trans HG.out⟩⟩,rfl,by simp at hl5;omega⟩
 case rest
      =>
  obtain ⟨wc,rfl,R1,b1,n1,c1,hmx1,hn1,hR1⟩:=hcut
  obtain ⟨gt,hgt⟩:∃ gt,gt=w1.heap.size:=⟨_,rfl⟩
  rw [← hgt] at hmx1 ⊢
  have hgt2:w.heap.size+2≤gt:=by omega
  have HMX1:=A0 hmx1
  clear hmx1 hc hf hgt
  have HZR:Hid (((w.alloc (.cells #[.int .u8 x0,.int .u8 x1,.slice a len cap] 24)).alloc (.cells #[.int .i64 0,.int .u8 0,.slice none 0 0] 32)).heap[w.heap.size+1]? = some (.cells #[.int .i64 0,.int .u8 0,.slice none 0 0] 32 (0,0))):=by
   have:=heap_alloc_new (w.alloc (.cells #[.int .u8 x0,.int .u8 x1,.slice a len cap] 24)) (.cells #[.int .i64 0,.int .u8 0,.slice none 0 0] 32)
   simp only [A6] at this
   exact this
  go_wp2_with fail
  go_loopw [4] (fun i wr=>∃ (j:Nat) (R:List Rl) (b:Option Addr) (n c:Nat),j≤4∧i=.int .i64 j∧n=R.length∧R.length≤5+j∧MX ((w.alloc (.cells #[.int .u8 x0,.int .u8 x1,.slice a len cap] 24)).alloc (.cells #[.int .i64 0,.int .u8 0,.slice none 0 0] 32)) (w.heap.size+2) gt mo 1 (.slice b n c) R wr) (fun i _=>4 - (intOf i).toNat)
  case atStart=>exact ⟨0,R1,b1,n1,c1,by omega,rfl,hn1,by omega,HMX1.out⟩
  case round =>
   obtain ⟨j,R,b,n,c,hj,rfl,rfl,hl,hmx⟩:=hrel
   have HMX:=A0 hmx
   have hB:Below w.heap.size w wr:=(((Below.refl _ _).alloc (A3 _) _).alloc (by simp) _).trans (hmx.bl.mono (by omega))
   have HB:=A0 hB
   obtain ⟨hzz,hc,hf⟩:=B7 hmx.bl rfl
   simp only [A6] at hzz
   obtain ⟨d0,d1,d2⟩:=hmx.toTX0.cells
   have df:=hmx.toTX0.free
   have HZ1:=A0 ((hmx.bl.block (w.heap.size+1) (by omega)).trans HZR.out)
   clear hmx hB
   by_cases hjl:j<len
   ·
    by_cases hj4:j<4
    ·
     have hj4I:(j:Int)<4:=by omega
     obtain ⟨bq,oq,haq,hbq,q0,q1,q2,q3,q4,hrr⟩:=(HQ.out.later HB.out (A3 _)).at hjl
     have hidq:=Q2 a bq oq len cap j haq hjl
     have HAQ:=A0 haq;have HRR:=A0 hrr;clear haq hrr
     go_upto_region 6 with fail
     refine CK (by kernel_rfl) (Vs [fun v _=>v=.pointer (some ⟨gt,2,none⟩),fun v _=>v=Value.slice b R.length c,fun v _=>v=.pointer (some ⟨w.heap.size,2,none⟩),fun v _=>v=.slice a len cap,fun v _=>v=.int .i64 (j:Int),fun v _=>v=.pointer (some ⟨bq,oq+j*5,none⟩),fun v _=>v=.agg #[.slice (Q j).ai (Q j).li (Q j).ci,.slice (Q j).ao (Q j).lo (Q j).co,.int .u8 (Q j).f,.int .u8 (Q j).d,.int .u8 (Q j).c],fun v _=>v=.pointer (some ⟨gt,0,none⟩),fun v _=>v=.int .i64 mo,RlV,Gi (Value.slice b R.length c),Q3 (w.heap.size+2) R,fun v _=>v=.pointer (some ⟨gt,2,none⟩)]) (fun bo W=>TX0 ((w.alloc (.cells #[.int .u8 x0,.int .u8 x1,.slice a len cap] 24)).alloc (.cells #[.int .i64 0,.int .u8 0,.slice none 0 0] 32)) (w.heap.size+2) gt mo 1 (Value.slice b R.length c) W∧(bo=false→Below wr.heap.size wr W∧Ew W (w.heap.size+2) (Value.slice b R.length c) R)∧(w.heap.size+2≤W.heap.size)∧∀ q,(Value.slice b R.length c).ownBlock=some q→q<W.heap.size) (fun W W'=>W.grownBy W' (Value.slice b R.length c).ownBlock) 56 11 13 (by kernel_rfl) rfl (by omega) ?hVx ?hVm ?hSx ?hS ?hop ?hlast
     case hVx=>exact Ac (by simp only [AU,List.not_mem_nil,or_false,forall_eq_or_imp,forall_eq];exact ⟨AY _,AY _,AY _,AY _,AY _,AY _,AY _,AY _,AY _,ON,Jc _,Lh _ _,AY _⟩)
     case hVm=>exact MU ⟨fun _=>fun _ _ _ h _=>h,fun _=>fun _ _ _ h _=>h,fun _=>fun _ _ _ h _=>h,fun _=>fun _ _ _ h _=>h,fun _=>fun _ _ _ h _=>h,fun _=>fun _ _ _ h _=>h,fun _=>fun _ _ _ h _=>h,fun _=>fun _ _ _ h _=>h,fun _=>fun _ _ _ h _=>h,fun _=>fun _ _ _ h _=>h,fun _=>Jd _,fun h=>absurd rfl h,fun _=>fun _ _ _ h _=>h,trivial⟩
     case hSx=>exact fun bo W W' h hx=>⟨h.1.below hx,fun e=>⟨(h.2.1 e).1.trans (Below.mono hx (h.2.1 e).1.size),(h.2.1 e).2.below hx (h.2.1 e).2.lt⟩,A8 h.2.2.1 hx.size,fun q hq=>A7 (h.2.2.2 q hq) hx.size⟩
     case hS=>exact ⟨HMX.out.toTX0,fun _=>⟨Below.refl _ _,HMX.out.row⟩,hzz,HMX.out.row.lt⟩
     case hop =>
      refine ⟨?_,?_,?_,?_,?_,?_,?_,?_,?_,?_,?_,?_,?_,?_,trivial⟩
      all_goals first | rw [if_neg (by decide),if_neg (by decide)] | rw [if_neg (by decide),if_pos (by decide)] | rw [if_pos (by decide)]
      ·
       intro A W bo hsz hS hdep hbase
       obtain ⟨d0',d1',d2'⟩:=hS.1.cells
       obtain ⟨hzz',hc',hf'⟩:=B7 hS.1.bl rfl
       have h1:A.tmps.getD 1 undef=.pointer (some ⟨w.heap.size,0,none⟩):=hbase 1 (by kernel_rfl)
       have h3:A.tmps.getD 3 undef=.pointer (some ⟨gt,0,none⟩):=hbase 3 (by kernel_rfl)
       have h4:A.tmps.getD 4 undef=.int .i64 (j:Int):=hbase 4 (by kernel_rfl)
       have hbw:Below w.heap.size w W:=(((Below.refl _ _).alloc (A3 _) _).alloc (by simp) _).trans (hS.1.bl.mono (by omega))
       clear hbase
       simp [Aa,Region.binds,Vs] at hdep
       refine AZ rfl (.inl ⟨_,W,?_,rfl,Ext.refl _⟩);clear hsz hS hbw;simp [go_sem,Act.eval, *]
      ·
       intro A W bo hsz hS hdep hbase
       obtain ⟨d0',d1',d2'⟩:=hS.1.cells
       obtain ⟨hzz',hc',hf'⟩:=B7 hS.1.bl rfl
       have h1:A.tmps.getD 1 undef=.pointer (some ⟨w.heap.size,0,none⟩):=hbase 1 (by kernel_rfl)
       have h3:A.tmps.getD 3 undef=.pointer (some ⟨gt,0,none⟩):=hbase 3 (by kernel_rfl)
       have h4:A.tmps.getD 4 undef=.int .i64 (j:Int):=hbase 4 (by kernel_rfl)
       have hbw:Below w.heap.size w W:=(((Below.refl _ _).alloc (A3 _) _).alloc (by simp) _).trans (hS.1.bl.mono (by omega))
       clear hbase
       simp [Aa,Region.binds,Vs] at hdep
       refine AZ rfl (.inl ⟨_,W,?_,rfl,Ext.refl _⟩);clear hsz hS hbw;simp [go_sem,Act.eval, *]
      ·
       intro A W bo hsz hS hdep hbase
       obtain ⟨d0',d1',d2'⟩:=hS.1.cells
       obtain ⟨hzz',hc',hf'⟩:=B7 hS.1.bl rfl
       have h1:A.tmps.getD 1 undef=.pointer (some ⟨w.heap.size,0,none⟩):=hbase 1 (by kernel_rfl)
       have h3:A.tmps.getD 3 undef=.pointer (some ⟨gt,0,none⟩):=hbase 3 (by kernel_rfl)
       have h4:A.tmps.getD 4 undef=.int .i64 (j:Int):=hbase 4 (by kernel_rfl)
       have hbw:Below w.heap.size w W:=(((Below.refl _ _).alloc (A3 _) _).alloc (by simp) _).trans (hS.1.bl.mono (by omega))
       clear hbase
       simp [Aa,Region.binds,Vs] at hdep
       refine AZ rfl (.inl ⟨_,W,?_,rfl,Ext.refl _⟩);clear hsz hS hbw;simp [go_sem,Act.eval, *]
      ·
       intro A W bo hsz hS hdep hbase
       obtain ⟨d0',d1',d2'⟩:=hS.1.cells
       obtain ⟨hzz',hc',hf'⟩:=B7 hS.1.bl rfl
       have h1:A.tmps.getD 1 undef=.pointer (some ⟨w.heap.size,0,none⟩):=hbase 1 (by kernel_rfl)
       have h3:A.tmps.getD 3 undef=.pointer (some ⟨gt,0,none⟩):=hbase 3 (by kernel_rfl)
       have h4:A.tmps.getD 4 undef=.int .i64 (j:Int):=hbase 4 (by kernel_rfl)
       have hbw:Below w.heap.size w W:=(((Below.refl _ _).alloc (A3 _) _).alloc (by simp) _).trans (hS.1.bl.mono (by omega))
       clear hbase
       simp [Aa,Region.binds,Vs] at hdep
       refine AZ rfl (.inl ⟨_,W,?_,rfl,Ext.refl _⟩);clear hsz hS hbw;simp [go_sem,Act.eval, *]
      ·
       intro A W bo hsz hS hdep hbase
       obtain ⟨d0',d1',d2'⟩:=hS.1.cells
       obtain ⟨hzz',hc',hf'⟩:=B7 hS.1.bl rfl
       have h1:A.tmps.getD 1 undef=.pointer (some ⟨w.heap.size,0,none⟩):=hbase 1 (by kernel_rfl)
       have h3:A.tmps.getD 3 undef=.pointer (some ⟨gt,0,none⟩):=hbase 3 (by kernel_rfl)
       have h4:A.tmps.getD 4 undef=.int .i64 (j:Int):=hbase 4 (by kernel_rfl)
       have hbw:Below w.heap.size w W:=(((Below.refl _ _).alloc (A3 _) _).alloc (by simp) _).trans (hS.1.bl.mono (by omega))
       clear hbase
       simp [Aa,Region.binds,Vs] at hdep
       refine AZ rfl (.inl ⟨_,W,?_,rfl,Ext.refl _⟩);clear hsz hS hbw;simp [go_sem,Act.eval, *]
      ·
       intro A W bo hsz hS hdep hbase
       obtain ⟨d0',d1',d2'⟩:=hS.1.cells
       obtain ⟨hzz',hc',hf'⟩:=B7 hS.1.bl rfl
       have h1:A.tmps.getD 1 undef=.pointer (some ⟨w.heap.size,0,none⟩):=hbase 1 (by kernel_rfl)
       have h3:A.tmps.getD 3 undef=.pointer (some ⟨gt,0,none⟩):=hbase 3 (by kernel_rfl)
       have h4:A.tmps.getD 4 undef=.int .i64 (j:Int):=hbase 4 (by kernel_rfl)
       have hbw:Below w.heap.size w W:=(((Below.refl _ _).alloc (A3 _) _).alloc (by simp) _).trans (hS.1.bl.mono (by omega))
       clear hbase
       simp [Aa,Region.binds,Vs] at hdep
       refine AZ rfl (.inl ⟨_,W,?_,rfl,Ext.refl _⟩);clear hsz hS hbw;simp [go_sem,Act.eval, *]
      ·
       intro A W bo hsz hS hdep hbase
       obtain ⟨d0',d1',d2'⟩:=hS.1.cells
       obtain ⟨hzz',hc',hf'⟩:=B7 hS.1.bl rfl
       have h1:A.tmps.getD 1 undef=.pointer (some ⟨w.heap.size,0,none⟩):=hbase 1 (by kernel_rfl)
       have h3:A.tmps.getD 3 undef=.pointer (some ⟨gt,0,none⟩):=hbase 3 (by kernel_rfl)
       have h4:A.tmps.getD 4 undef=.int .i64 (j:Int):=hbase 4 (by kernel_rfl)
       have hbw:Below w.heap.size w W:=(((Below.refl _ _).alloc (A3 _) _).alloc (by simp) _).trans (hS.1.bl.mono (by omega))
       clear hbase
       simp [Aa,Region.binds,Vs] at hdep
       obtain ⟨b',o',ha',hbq',q0',q1',q2',q3',q4',hrr'⟩:=(HQ.out.later hbw (A3 _)).at hjl
       obtain ⟨rfl,rfl⟩:b'=bq∧o'=oq:=by have:=HAQ.out.symm.trans ha';simp at this;exact ⟨this.1.symm,this.2.symm⟩
       clear ha'
       refine AZ rfl (.inl ⟨_,W,?_,rfl,Ext.refl _⟩);clear hsz hS hbw;simp [go_sem,Act.eval, *]
      ·
       intro A W bo hsz hS hdep hbase
       obtain ⟨d0',d1',d2'⟩:=hS.1.cells
       obtain ⟨hzz',hc',hf'⟩:=B7 hS.1.bl rfl
       have h1:A.tmps.getD 1 undef=.pointer (some ⟨w.heap.size,0,none⟩):=hbase 1 (by kernel_rfl)
       have h3:A.tmps.getD 3 undef=.pointer (some ⟨gt,0,none⟩):=hbase 3 (by kernel_rfl)
       have h4:A.tmps.getD 4 undef=.int .i64 (j:Int):=hbase 4 (by kernel_rfl)
       have hbw:Below w.heap.size w W:=(((Below.refl _ _).alloc (A3 _) _).alloc (by simp) _).trans (hS.1.bl.mono (by omega))
       clear hbase
       simp [Aa,Region.binds,Vs] at hdep
       refine AZ rfl (.inl ⟨_,W,?_,rfl,Ext.refl _⟩);clear hsz hS hbw;simp [go_sem,Act.eval, *]
      ·
       intro A W bo hsz hS hdep hbase
       obtain ⟨d0',d1',d2'⟩:=hS.1.cells
       obtain ⟨hzz',hc',hf'⟩:=B7 hS.1.bl rfl
       have h1:A.tmps.getD 1 undef=.pointer (some ⟨w.heap.size,0,none⟩):=hbase 1 (by kernel_rfl)
       have h3:A.tmps.getD 3 undef=.pointer (some ⟨gt,0,none⟩):=hbase 3 (by kernel_rfl)
       have h4:A.tmps.getD 4 undef=.int .i64 (j:Int):=hbase 4 (by kernel_rfl)
       have hbw:Below w.heap.size w W:=(((Below.refl _ _).alloc (A3 _) _).alloc (by simp) _).trans (hS.1.bl.mono (by omega))
       clear hbase
       simp [Aa,Region.binds,Vs] at hdep
       refine AZ rfl (.inl ⟨_,W,?_,rfl,Ext.refl _⟩);clear hsz hS hbw;simp [go_sem,Act.eval, *]
      ·
       intro A W bo hsz hS hdep hbase
       obtain ⟨d0',d1',d2'⟩:=hS.1.cells
       obtain ⟨hzz',hc',hf'⟩:=B7 hS.1.bl rfl
       have h1:A.tmps.getD 1 undef=.pointer (some ⟨w.heap.size,0,none⟩):=hbase 1 (by kernel_rfl)
       have h3:A.tmps.getD 3 undef=.pointer (some ⟨gt,0,none⟩):=hbase 3 (by kernel_rfl)
       have h4:A.tmps.getD 4 undef=.int .i64 (j:Int):=hbase 4 (by kernel_rfl)
       have hbw:Below w.heap.size w W:=(((Below.refl _ _).alloc (A3 _) _).alloc (by simp) _).trans (hS.1.bl.mono (by omega))
       clear hbase
       have hrr':=HRR.out
       simp [Aa,Region.binds,Vs] at hdep
       refine AZ rfl (.inr ⟨52,#[.agg #[.slice (Q j).ai (Q j).li (Q j).ci,.slice (Q j).ao (Q j).lo (Q j).co,.int .u8 (Q j).f,.int .u8 (Q j).d,.int .u8 (Q j).c],.int .i64 mo],W,by (clear hsz hS hbw hrr';simp [go_sem,Act.eval, *]),?_⟩)
       obtain ⟨b',o',ha',hbq',q0',q1',q2',q3',q4',hr⟩:=(HQ.out.later hbw (A3 _)).at hjl
       refine (made1_any _ _ _ _ _ _ _ _ _ _ (Q j).ZI (Q j).ZO W hr.f0 hr.f1 hr.d0 hr.d1 hr.c0 hr.c1 hm1 hm2 hr.i hr.o).mono ?_
       rintro e w' ⟨r,rfl, -, -,hb⟩
       exact ⟨_,rfl,⟨r,rfl⟩,hb⟩
      ·
       intro A W bo hsz hS hdep hbase
       obtain ⟨d0',d1',d2'⟩:=hS.1.cells
       obtain ⟨hzz',hc',hf'⟩:=B7 hS.1.bl rfl
       have h1:A.tmps.getD 1 undef=.pointer (some ⟨w.heap.size,0,none⟩):=hbase 1 (by kernel_rfl)
       have h3:A.tmps.getD 3 undef=.pointer (some ⟨gt,0,none⟩):=hbase 3 (by kernel_rfl)
       have h4:A.tmps.getD 4 undef=.int .i64 (j:Int):=hbase 4 (by kernel_rfl)
       have hbw:Below w.heap.size w W:=(((Below.refl _ _).alloc (A3 _) _).alloc (by simp) _).trans (hS.1.bl.mono (by omega))
       clear hbase
       have hb36:RlV (A.tmps.getD 36 undef) W:=hdep ⟨9,.data⟩ (by simp) rfl
       obtain ⟨r,e36⟩:=hb36
       have hne:=hS.2.2.2
       refine AZ rfl (.inl ⟨.slice (some ⟨W.heap.size,0,none⟩) 1 1,W.alloc (.cells #[.int .i64 r.frm,.int .i64 r.dst,.string r.inp,.string r.out,.int .i64 r.cost] 64),?_,⟨r,W.heap.size,rfl,heap_alloc_new _ _,fun e=>absurd (hne _ e) (Nat.lt_irrefl _)⟩,(Below.refl _ _).alloc (A3 _) _⟩)
       rw [A4] at e36
       clear hsz hS hdep hne;simp [go_sem,Act.eval, *]
      ·
       intro A W hsz hS hdep hbase
       have hs1:A.tmps.getD 28 undef=Value.slice b R.length c:=hdep ⟨1,.data⟩ (by simp) rfl
       have hs2:Gi (Value.slice b R.length c) (A.tmps.getD 37 undef) W:=hdep ⟨10,.data⟩ (by simp) rfl
       obtain ⟨r,hs2⟩:=hs2
       refine ⟨rfl,(opres_rowp rfl (Ai hs1) (hS.2.1 rfl).2 rfl (by rw [Ai rfl];exact hs2) (by omega) hS.2.2.1).mono fun v w' h=>⟨⟨r,h.1⟩,h.2,hS.1.grown h.2 (hS.2.1 rfl).2.ge ((hS.2.1 rfl).2.ne_of hS.1.rep),fun e=>absurd e (by decide),A8 hS.2.2.1 h.2.size,fun q hq=>A7 (hS.2.2.2 q hq) h.2.size⟩⟩
      ·
       intro A W bo hsz hS hdep hbase
       obtain ⟨d0',d1',d2'⟩:=hS.1.cells
       obtain ⟨hzz',hc',hf'⟩:=B7 hS.1.bl rfl
       have h1:A.tmps.getD 1 undef=.pointer (some ⟨w.heap.size,0,none⟩):=hbase 1 (by kernel_rfl)
       have h3:A.tmps.getD 3 undef=.pointer (some ⟨gt,0,none⟩):=hbase 3 (by kernel_rfl)
       have h4:A.tmps.getD 4 undef=.int .i64 (j:Int):=hbase 4 (by kernel_rfl)
       have hbw:Below w.heap.size w W:=(((Below.refl _ _).alloc (A3 _) _).alloc (by simp) _).trans (hS.1.bl.mono (by omega))
       clear hbase
       simp [Aa,Region.binds,Vs] at hdep
       refine AZ rfl (.inl ⟨_,W,?_,rfl,Ext.refl _⟩);clear hsz hS hbw;simp [go_sem,Act.eval, *]
      · trivial
     case hlast =>
      intro A1 W hsz hdf hS hv hbase
      have hst:A1.tmps.getD 39 undef=.pointer (some ⟨gt,2,none⟩):=hv 12 (by decide)
      have hown:Q3 (w.heap.size+2) R (A1.tmps.getD 38 undef) W:=hv 11 (by decide)
      obtain ⟨r,hown⟩:=hown
      have hlen:(R ++ [r]).length=R.length+1:=by simp
      obtain ⟨b',c',hap,hrs,hcp⟩:=hown.rules
      rw [hlen] at hap hcp
      rw [hap] at hown
      obtain ⟨e0,e1,e2⟩:=hS.1.cells
      refine BW rfl rfl rfl rfl (Ai hst) (Ai hap) (hS.1.free 2) e2 (by kernel_rfl) ?_
      have HTX:=A0 (hS.1.put hown)
      obtain ⟨x,hx,hA⟩:=Af [27,28,29,30,31,32,33,34,35,36,37,38,39] (by kernel_rfl) hsz hdf hbase
      obtain ⟨wz,hwz⟩:∃ wz,wz=W.setCell ⟨gt,2,none⟩ (.slice b' (R.length+1) c'):=⟨_,rfl⟩
      rw [← hwz] at HTX ⊢
      rw [hA]
      simp only [List.foldl]
      simp only [Act.put,List.setIfInBounds_toArray,List.set_cons_succ,List.set_cons_zero]
      clear hA hx hv hbase hsz hdf hwz e0 e1 e2 hap hown hrs hst hS d0 d1 d2 df hc hf q0 q1 q2 q3 q4 hidq
      have HLEN:=A0 hlen
      have HCP:=A0 hcp
      clear hlen hcp
      obtain ⟨hzy,hc,hf⟩:=B7 HTX.out.bl rfl
      obtain ⟨d0,d1,d2⟩:=HTX.out.toTX0.cells
      have df:=HTX.out.toTX0.free
      have HRS:Hid (BJ wz b' (R ++ [r])):=(HTX.out.own.ruls).1
      have hri:=rright_any ⟨mo,1,R ++ [r]⟩ b' c' R.length wz HRS.out (by show (R ++ [r]).length≤_;rw [HLEN.out];omega) (by show R.length<(R ++ [r]).length;rw [HLEN.out];omega) hm1 (by show mo≤8;omega)
      obtain ⟨ok,hok⟩:∃ ok,D3 ⟨mo,1,R ++ [r]⟩ ((R ++ [r])[R.length]'(by rw [HLEN.out];omega)) ((R ++ [r]).take R.length)=ok:=⟨_,rfl⟩
      simp only [hok] at hri
      rw [show (Sch.rules ⟨mo,1,R ++ [r]⟩).length=R.length+1 from HLEN.out] at hri
      have HRI:=A0 hri
      clear hri hok
      go_wp2_with fail
      refine HRI.out.mono ?_
      rintro e w3 ⟨rfl,hb⟩
      have HTX2:=A0 (HTX.out.below hb)
      clear hc hf d0 d1 d2 df hb
      obtain ⟨hzx,hc,hf⟩:=B7 HTX2.out.bl rfl
      obtain ⟨d0,d1,d2⟩:=HTX2.out.toTX0.cells
      have df:=HTX2.out.toTX0.free
      cases ok
      ·
       have hsl:=IK b' (R.length+1) c' R.length (by have:=HCP.out;omega)
       go_wp2_with fail
       go_roundw
       case rel =>
        have ho:CX w3 (w.heap.size+2) (.slice b' R.length c') R:=HTX2.out.own.drop
        have h:=HTX2.out.toTX0.put ho
        exact ⟨j+1,R,b',R.length,c',by omega,by go_num,rfl,by omega,⟨h.toTX0,.inl h.own⟩⟩
       case measure=>simp [intOf];omega
      ·
       go_wp2_with fail
       go_roundw
       case rel=>exact ⟨j+1,R ++ [r],b',R.length+1,c',by omega,by go_num,HLEN.out.symm,by rw [HLEN.out];omega,⟨HTX2.out.toTX0,.inl HTX2.out.own⟩⟩
       case measure=>simp [intOf];omega
    ·
     obtain rfl:j=4:=by omega
     go_wp2_with fail
     obtain ⟨r0',r1',r2'⟩:=cells3 (LO (a:=.int .i64 mo) (b:=.int .u8 1) (c:=.slice b R.length c) HZ1.out)
     exact bodyPost_ret (v:=.agg #[.int .i64 mo,.int .u8 1,.slice b R.length c]) (by simp [results,Tryz.results27,go_sem,r0',r1',r2']) rfl (K3 HMX.out.row (by omega) (by omega) hm1 hm2 (by omega) HB.out)
   ·
    have hjI:¬ (j:Int)<(len:Int):=by omega
    go_wp2_with fail
    obtain ⟨r0',r1',r2'⟩:=cells3 (LO (a:=.int .i64 mo) (b:=.int .u8 1) (c:=.slice b R.length c) HZ1.out)
    exact bodyPost_ret (v:=.agg #[.int .i64 mo,.int .u8 1,.slice b R.length c]) (by simp [results,Tryz.results27,go_sem,r0',r1',r2']) rfl (K3 HMX.out.row (by omega) (by omega) hm1 hm2 (by omega) HB.out)
theorem
    beforeB_lex:∀ {a b:List Nat},a.length=b.length→(Ax (ints a) (ints b)=true↔DC a b)
 | [],[],_=>by simp [ints,Ax,DC]
 | [],_ :: _,h=>by simp at h
 | _ :: _,[],h=>by simp at h
 | x
   :: a,y :: b,h=>by
  have ih:=beforeB_lex (a:=a) (b:=b) (by simpa using h)
  show Ax ((x:Int) :: ints a) ((y:Int) :: ints b)=true↔(x<y∨(x=y∧DC a b))
  rw [Ax]
  by_cases e:x=y
  ·
   subst e
   rw [if_pos rfl,ih]
   simp
  ·
   rw [if_neg (by omega),decide_eq_true_iff]
   constructor
   · intro h;exact .inl (by omega)
   ·
    rintro (h | h)
    · omega
    · exact absurd h.1 e
theorem Dy {a b:List Nat} (h:a.length=b.length):Ax (ints a) (ints b)=true↔sl a b:=by
 rw [beforeB_lex h]
 constructor
 · intro h2;exact .inr ⟨h,h2⟩
 ·
  rintro (h2 | h2)
  · omega
  · exact h2.2
structure Dl (use:Rl→Bool) (R:List Rl) (start n:Nat) (K:Wk):Prop where
 is:∀ t,K.is t=true↔∃ c,c.length=n∧leads use R start c=some t
 ch:∀ t,K.is t=true→(K.ch t).length=n∧leads use R start (K.ch t)=some t
 least:∀ t c,c.length=n→leads use R start c=some t→sle (K.ch t) c
structure Mn (use:Rl→Bool) (R:List Rl) (start n k:Nat) (O:Wk):Prop where
 is:∀ t,O.is t=true↔∃ c i,c.length=n∧i<k∧leads use R start (c ++ [i])=some t
 ch:∀ t,O.is t=true→(O.ch t).length=n+1∧leads use R start (O.ch t)=some t
 least:∀ t c i,c.length=n→i<k→leads use R start (c ++ [i])=some t→sle (O.ch t) (c ++ [i])
theorem
    part_step {use:Rl→Bool} {R:List Rl} {start n k:Nat} {K O:Wk} (hK:Dl use R start n K) (hO:Mn use R start n k O) (hk:k<R.length):Mn use R start n (k+1) (stepK use K O k R[k]):=by
 unfold stepK
 by_cases h1:(K.is R[k].frm.toNat && use R[k])=true
 ·
  rw [if_pos h1]
  simp only [Bool.and_eq_true] at h1
  obtain ⟨hl,hc⟩:=hK.ch _ h1.1
  have hnew:leads use R start (K.ch R[k].frm.toNat ++ [k])=some R[k].dst.toNat:=By.2 ⟨_,hc,hk,rfl,h1.2,rfl⟩
  have hlen:(K.ch R[k].frm.toNat ++ [k]).length=n+1:=by rw [AB,hl];rfl
  have hlast:∀ t c,c.length=n→leads use R start (c ++ [k])=some t→t=R[k].dst.toNat∧sle (K.ch R[k].frm.toNat ++ [k]) (c ++ [k]):=by
   intro t c hcl hct
   obtain ⟨u,h2,h3,h4,h5,h6⟩:=By.1 hct
   subst h4
   exact ⟨h6.symm,F3 (hK.least _ c hcl h2) k⟩
  by_cases h2:(!O.is R[k].dst.toNat || Ax (ints (K.ch R[k].frm.toNat ++ [k])) (ints (O.ch R[k].dst.toNat)))=true
  ·
   rw [if_pos h2]
   refine ⟨fun t=>?_,fun t ht=>?_,fun t c i hcl hi hct=>?_⟩
   ·
    show (if t=R[k].dst.toNat then true else O.is t)=true↔_
    by_cases e:t=R[k].dst.toNat
    ·
     subst e
     rw [if_pos rfl]
     exact ⟨fun _=>⟨K.ch R[k].frm.toNat,k,hl,by omega,hnew⟩,fun _=>rfl⟩
    ·
     rw [if_neg e,hO.is]
     constructor
     · rintro ⟨c,i,h3,h4,h5⟩;exact ⟨c,i,h3,by omega,h5⟩
     ·
      rintro ⟨c,i,h3,h4,h5⟩
      by_cases e2:i=k
      · subst e2;exact absurd (hlast t c h3 h5).1 e
      · exact ⟨c,i,h3,by omega,h5⟩
   ·
    show (if t=R[k].dst.toNat then K.ch R[k].frm.toNat ++ [k] else O.ch t).length=n+1∧leads use R start (if t=R[k].dst.toNat then K.ch R[k].frm.toNat ++ [k] else O.ch t)=some t
    by_cases e:t=R[k].dst.toNat
    · subst e;rw [if_pos rfl];exact ⟨hlen,hnew⟩
    ·
     rw [if_neg e]
     refine hO.ch t ?_
     have:(if t=R[k].dst.toNat then true else O.is t)=true:=ht
     rwa [if_neg e] at this
   ·
    show sle (if t=R[k].dst.toNat then K.ch R[k].frm.toNat ++ [k] else O.ch t) (c ++ [i])
    by_cases e2:i=k
    ·
     subst e2
     obtain ⟨h3,h4⟩:=hlast t c hcl hct
     rw [if_pos h3];exact h4
    ·
     have h5:=hO.least t c i hcl (by omega) hct
     by_cases e:t=R[k].dst.toNat
     ·
      rw [if_pos e]
      subst e
      have his:O.is R[k].dst.toNat=true:=(hO.is _).2 ⟨c,i,hcl,by omega,hct⟩
      rw [his] at h2
      simp only [Bool.not_true,Bool.false_or] at h2
      have h6:=(Dy (hlen.trans (hO.ch _ his).1.symm)).1 h2
      exact C7 (.inr h6) h5
     · rw [if_neg e];exact h5
  ·
   rw [if_neg h2]
   have h2':O.is R[k].dst.toNat=true∧Ax (ints (K.ch R[k].frm.toNat ++ [k])) (ints (O.ch R[k].dst.toNat))=false:=by
    cases ha:O.is R[k].dst.toNat <;> cases hb:Ax (ints (K.ch R[k].frm.toNat ++ [k])) (ints (O.ch R[k].dst.toNat)) <;> simp [ha,hb] at h2 ⊢
   have hle:sle (O.ch R[k].dst.toNat) (K.ch R[k].frm.toNat ++ [k]):=by
    rcases Hd (K.ch R[k].frm.toNat ++ [k]) (O.ch R[k].dst.toNat) with h3 | h3
    · rw [(Dy (hlen.trans (hO.ch _ h2'.1).1.symm)).2 h3] at h2';cases h2'.2
    · exact h3
   refine ⟨fun t=>?_,hO.ch,fun t c i hcl hi hct=>?_⟩
   ·
    rw [hO.is]
    constructor
    · rintro ⟨c,i,h3,h4,h5⟩;exact ⟨c,i,h3,by omega,h5⟩
    ·
     rintro ⟨c,i,h3,h4,h5⟩
     by_cases e2:i=k
     ·
      subst e2
      obtain ⟨h6,_⟩:=hlast t c h3 h5
      subst h6
      exact (hO.is _).1 h2'.1
     · exact ⟨c,i,h3,by omega,h5⟩
   ·
    by_cases e2:i=k
    ·
     subst e2
     obtain ⟨h6,h7⟩:=hlast t c hcl hct
     subst h6
     exact C7 hle h7
    · exact hO.least t c i hcl (by omega) hct
 ·
  rw [if_neg h1]
  have hno:∀ t c,c.length=n→leads use R start (c ++ [k])=some t→False:=by
   intro t c hcl hct
   obtain ⟨u,h2,h3,h4,h5,h6⟩:=By.1 hct
   subst h4
   exact h1 (by rw [(hK.is _).2 ⟨c,hcl,h2⟩,h5];rfl)
  refine ⟨fun t=>?_,hO.ch,fun t c i hcl hi hct=>?_⟩
  ·
   rw [hO.is]
   constructor
   · rintro ⟨c,i,h3,h4,h5⟩;exact ⟨c,i,h3,by omega,h5⟩
   ·
    rintro ⟨c,i,h3,h4,h5⟩
    by_cases e2:i=k
    · subst e2;exact (hno t c h3 h5).elim
    · exact ⟨c,i,h3,by omega,h5⟩
  ·
   by_cases e2:i=k
   · subst e2;exact (hno t c hcl hct).elim
   · exact hO.least t c i hcl (by omega) hct
theorem Lj {use:Rl→Bool} {R:List Rl} {start n:Nat} {K:Wk} (hK:Dl use R start n K):∀ k,k≤R.length→Mn use R start n k (C9 use R K k)
 | 0,_=>⟨fun t=>⟨fun h=>(by cases h),fun ⟨_,_,_,h,_⟩=>absurd h (by omega)⟩,fun t h=>(by cases h),fun _ _ _ _ h _=>absurd h (by omega)⟩
 | k+1,hk=>by
  rw [C9,dif_pos (show k<R.length by omega)]
  exact part_step hK (Lj hK k (by omega)) (by omega)
theorem Mp {use:Rl→Bool} {R:List Rl} {start n:Nat} {K:Wk} (hK:Dl use R start n K):Dl use R start (n+1) (DW use R K):=by
 have h:=Lj hK R.length (A3 _)
 have split:∀ t c,c.length=n+1→leads use R start c=some t→∃ d i,c=d ++ [i]∧d.length=n∧i<R.length:=by
  intro t c hc hl
  rcases EZ c with rfl | ⟨d,i,rfl⟩
  · simp at hc
  ·
   obtain ⟨u,h2,h3,_⟩:=By.1 hl
   exact ⟨d,i,rfl,by simpa using hc,h3⟩
 refine ⟨fun t=>?_,h.ch,fun t c hc hl=>?_⟩
 ·
  rw [show (DW use R K).is t=(C9 use R K R.length).is t from rfl,h.is]
  constructor
  · rintro ⟨c,i,h1,_,h2⟩;exact ⟨c ++ [i],by simp [h1],h2⟩
  ·
   rintro ⟨c,h1,h2⟩
   obtain ⟨d,i,rfl,h3,h4⟩:=split t c h1 h2
   exact ⟨d,i,h3,h4,h2⟩
 ·
  obtain ⟨d,i,rfl,h3,h4⟩:=split t c hc hl
  exact h.least t d i h3 h4 hl
def wk0 (m:Nat) (b:Bool):Wk:=⟨fun t=>if t=m then b else false,fun _=>[]⟩
theorem Mq {use:Rl→Bool} {R:List Rl} {start:Nat}:Dl use R start 0 (wk0 start true):=by
 refine ⟨fun t=>?_,fun t ht=>?_,fun t c hc _=>?_⟩
 ·
  show (if t=start then true else false)=true↔_
  constructor
  ·
   intro h
   by_cases e:t=start
   · subst e;exact ⟨[],rfl,rfl⟩
   · rw [if_neg e] at h;cases h
  ·
   rintro ⟨c,hc,hl⟩
   obtain rfl:=List.eq_nil_of_length_eq_zero hc
   cases hl
   rw [if_pos rfl]
 ·
  have h:(if t=start then true else false)=true:=ht
  by_cases e:t=start
  · subst e;exact ⟨rfl,rfl⟩
  · rw [if_neg e] at h;cases h
 ·
  obtain rfl:=List.eq_nil_of_length_eq_zero hc
  exact Dv _
def CA (use:Rl→Bool) (R:List Rl) (start:Nat) (b:Bool):Nat→Wk
 | 0=>wk0 start b
 | n+1=>DW use R (CA use R start b n)
theorem Hn {use:Rl→Bool} {R:List Rl} {start:Nat}:∀ n,Dl use R start n (CA use R start true n)
 | 0=>Mq
 | n+1=>Mp (Hn n)
def sa:Value→Option Addr | .slice a _ _=>a | _=>none
def sn:Value→Nat | .slice _ n _=>n | _=>0
def sc:Value→Nat | .slice _ _ c=>c | _=>0
theorem RO {w:World} {B:Nat} {v:Value} {xs:List Nat} (h:Ch w B v xs):v=.slice (sa v) (sn v) (sc v):=by
 obtain ⟨a,n,c,rfl⟩:=h.form;rfl
structure WB (B G:Nat) (w1:World) (K:Wk) (p:Nat→Option Addr) (m d:Nat→Nat) (wr:World):Prop where
 row:Bv wr G K.is (fun t=>.slice (p t) (m t) (d t))
 ok:∀ t,t<8→Ch wr B (.slice (p t) (m t) (d t)) (K.ch t)
 bl:Below G w1 wr
section
variable {B G:Nat} {w1 wr w2:World} {K O:Wk} {p p':Nat→Option Addr} {m d m' d':Nat→Nat}
theorem WB.below (h:WB B G w1 K p m d wr) (hb:Below wr.heap.size wr w2):WB B G w1 K p m d w2 :=
 ⟨h.row.below hb h.row.lt,fun t ht=>(h.ok t ht).below hb (h.ok t ht).lt,h.bl.trans (hb.mono (by have:=h.row.lt;omega))⟩
theorem WB.sl (h:WB B G w1 K p m d wr) {t:Nat} (ht:t<8):SlS wr (p t) (ints (K.ch t))∧m t=(ints (K.ch t)).length:=⟨(h.ok t ht).sls.1,(h.ok t ht).sls.2.trans (B6 _).symm⟩
theorem WB.c0 (h:WB B G w1 K p m d wr):wr.cell? ⟨G,0,none⟩=some (.bool (K.is 0)):=h.row.is (i:=0) (by omega)
theorem WB.c1 (h:WB B G w1 K p m d wr):wr.cell? ⟨G,1,none⟩=some (.bool (K.is 1)):=h.row.is (i:=1) (by omega)
theorem WB.c2 (h:WB B G w1 K p m d wr):wr.cell? ⟨G,2,none⟩=some (.bool (K.is 2)):=h.row.is (i:=2) (by omega)
theorem WB.c3 (h:WB B G w1 K p m d wr):wr.cell? ⟨G,3,none⟩=some (.bool (K.is 3)):=h.row.is (i:=3) (by omega)
theorem WB.c4 (h:WB B G w1 K p m d wr):wr.cell? ⟨G,4,none⟩=some (.bool (K.is 4)):=h.row.is (i:=4) (by omega)
theorem WB.c5 (h:WB B G w1 K p m d wr):wr.cell? ⟨G,5,none⟩=some (.bool (K.is 5)):=h.row.is (i:=5) (by omega)
theorem WB.c6 (h:WB B G w1 K p m d wr):wr.cell? ⟨G,6,none⟩=some (.bool (K.is 6)):=h.row.is (i:=6) (by omega)
theorem WB.c7 (h:WB B G w1 K p m d wr):wr.cell? ⟨G,7,none⟩=some (.bool (K.is 7)):=h.row.is (i:=7) (by omega)
theorem WB.c8 (h:WB B G w1 K p m d wr):wr.cell? ⟨G,8,none⟩=some (.slice (p 0) (m 0) (d 0)):=h.row.vs (i:=0) (by omega)
theorem WB.c9 (h:WB B G w1 K p m d wr):wr.cell? ⟨G,9,none⟩=some (.slice (p 1) (m 1) (d 1)):=h.row.vs (i:=1) (by omega)
theorem WB.c10 (h:WB B G w1 K p m d wr):wr.cell? ⟨G,10,none⟩=some (.slice (p 2) (m 2) (d 2)):=h.row.vs (i:=2) (by omega)
theorem WB.c11 (h:WB B G w1 K p m d wr):wr.cell? ⟨G,11,none⟩=some (.slice (p 3) (m 3) (d 3)):=h.row.vs (i:=3) (by omega)
theorem WB.c12 (h:WB B G w1 K p m d wr):wr.cell? ⟨G,12,none⟩=some (.slice (p 4) (m 4) (d 4)):=h.row.vs (i:=4) (by omega)
theorem WB.c13 (h:WB B G w1 K p m d wr):wr.cell? ⟨G,13,none⟩=some (.slice (p 5) (m 5) (d 5)):=h.row.vs (i:=5) (by omega)
theorem WB.c14 (h:WB B G w1 K p m d wr):wr.cell? ⟨G,14,none⟩=some (.slice (p 6) (m 6) (d 6)):=h.row.vs (i:=6) (by omega)
theorem WB.c15 (h:WB B G w1 K p m d wr):wr.cell? ⟨G,15,none⟩=some (.slice (p 7) (m 7) (d 7)):=h.row.vs (i:=7) (by omega)
theorem WB.free (h:WB B G w1 K p m d wr) (i:Nat):wr.frozen? ⟨G,i,none⟩=false:=h.row.free
theorem WB.arr (h:WB B G w1 K p m d wr):wr.heap[G]? = some (.cells #[.bool (K.is 0),.bool (K.is 1),.bool (K.is 2),.bool (K.is 3),.bool (K.is 4),.bool (K.is 5),.bool (K.is 6),.bool (K.is 7),.slice (p 0) (m 0) (d 0),.slice (p 1) (m 1) (d 1),.slice (p 2) (m 2) (d 2),.slice (p 3) (m 3) (d 3),.slice (p 4) (m 4) (d 4),.slice (p 5) (m 5) (d 5),.slice (p 6) (m 6) (d 6),.slice (p 7) (m 7) (d 7)] 190 (0,0)):=h.row
theorem WB.put (h:WB B G w1 K p m d wr) (ho:∀ t,t<8→Ch wr B (.slice (p' t) (m' t) (d' t)) (O.ch t)):WB B G w1 O p' m' d' ((((((((((((((((wr.setCell ⟨G,0,none⟩ (.bool (O.is 0))).setCell ⟨G,1,none⟩ (.bool (O.is 1))).setCell ⟨G,2,none⟩ (.bool (O.is 2))).setCell ⟨G,3,none⟩ (.bool (O.is 3))).setCell ⟨G,4,none⟩ (.bool (O.is 4))).setCell ⟨G,5,none⟩ (.bool (O.is 5))).setCell ⟨G,6,none⟩ (.bool (O.is 6))).setCell ⟨G,7,none⟩ (.bool (O.is 7))).setCell ⟨G,8,none⟩ (.slice (p' 0) (m' 0) (d' 0))).setCell ⟨G,9,none⟩ (.slice (p' 1) (m' 1) (d' 1))).setCell ⟨G,10,none⟩ (.slice (p' 2) (m' 2) (d' 2))).setCell ⟨G,11,none⟩ (.slice (p' 3) (m' 3) (d' 3))).setCell ⟨G,12,none⟩ (.slice (p' 4) (m' 4) (d' 4))).setCell ⟨G,13,none⟩ (.slice (p' 5) (m' 5) (d' 5))).setCell ⟨G,14,none⟩ (.slice (p' 6) (m' 6) (d' 6))).setCell ⟨G,15,none⟩ (.slice (p' 7) (m' 7) (d' 7))):=by
 refine ⟨SN h.arr,fun t ht=>?_,((((((((((((((((h.bl.setCell (A3 _) _)).setCell (A3 _) _).setCell (A3 _) _).setCell (A3 _) _).setCell (A3 _) _).setCell (A3 _) _).setCell (A3 _) _).setCell (A3 _) _).setCell (A3 _) _).setCell (A3 _) _).setCell (A3 _) _).setCell (A3 _) _).setCell (A3 _) _).setCell (A3 _) _).setCell (A3 _) _).setCell (A3 _) _⟩
 refine (ho t ht).same fun q hq=>Kf fun e=>?_
 obtain ⟨cs',h2⟩:=(ho t ht).own hq
 rw [e,h.arr] at h2;cases h2
theorem Q4 {v:Value} {xs:List Nat} {B':Nat} (h:WB B G w1 K p m d wr) (hv:Ch wr B' v xs):Ch ((((((((((((((((wr.setCell ⟨G,0,none⟩ (.bool (O.is 0))).setCell ⟨G,1,none⟩ (.bool (O.is 1))).setCell ⟨G,2,none⟩ (.bool (O.is 2))).setCell ⟨G,3,none⟩ (.bool (O.is 3))).setCell ⟨G,4,none⟩ (.bool (O.is 4))).setCell ⟨G,5,none⟩ (.bool (O.is 5))).setCell ⟨G,6,none⟩ (.bool (O.is 6))).setCell ⟨G,7,none⟩ (.bool (O.is 7))).setCell ⟨G,8,none⟩ (.slice (p' 0) (m' 0) (d' 0))).setCell ⟨G,9,none⟩ (.slice (p' 1) (m' 1) (d' 1))).setCell ⟨G,10,none⟩ (.slice (p' 2) (m' 2) (d' 2))).setCell ⟨G,11,none⟩ (.slice (p' 3) (m' 3) (d' 3))).setCell ⟨G,12,none⟩ (.slice (p' 4) (m' 4) (d' 4))).setCell ⟨G,13,none⟩ (.slice (p' 5) (m' 5) (d' 5))).setCell ⟨G,14,none⟩ (.slice (p' 6) (m' 6) (d' 6))).setCell ⟨G,15,none⟩ (.slice (p' 7) (m' 7) (d' 7))) B' v xs:=by
 refine hv.same fun q hq=>Kf fun e=>?_
 obtain ⟨cs',h2⟩:=hv.own hq
 rw [e,h.arr] at h2;cases h2
end
theorem Ll (S:Sch) (a:Option Addr) (cap:Nat) (K:Wk) (p:Nat→Option Addr) (m d:Nat→Nat) (silent:Bool) (L:Nat) (w:World) (hR:BJ w a S.rules) (hS:Fit S) (hK:∀ t,t<8→Ch w 0 (.slice (p t) (m t) (d t)) (K.ch t)) (hL:∀ t,t<8→(K.ch t).length≤L) (hL2:L≤100) :
  Calls Tryz.prog 109 #[.agg #[.int .i64 S.modes,.int .u8 S.acc,.slice a S.rules.length cap],.agg #[.bool (K.is 0),.bool (K.is 1),.bool (K.is 2),.bool (K.is 3),.bool (K.is 4),.bool (K.is 5),.bool (K.is 6),.bool (K.is 7),.slice (p 0) (m 0) (d 0),.slice (p 1) (m 1) (d 1),.slice (p 2) (m 2) (d 2),.slice (p 3) (m 3) (d 3),.slice (p 4) (m 4) (d 4),.slice (p 5) (m 5) (d 5),.slice (p 6) (m 6) (d 6),.slice (p 7) (m 7) (d 7)],.bool silent] w fun e w'=>∃ (p':Nat→Option Addr) (m' d':Nat→Nat),e=.returned (.agg #[.bool ((DW (Bw silent) S.rules K).is 0),.bool ((DW (Bw silent) S.rules K).is 1),.bool ((DW (Bw silent) S.rules K).is 2),.bool ((DW (Bw silent) S.rules K).is 3),.bool ((DW (Bw silent) S.rules K).is 4),.bool ((DW (Bw silent) S.rules K).is 5),.bool ((DW (Bw silent) S.rules K).is 6),.bool ((DW (Bw silent) S.rules K).is 7),.slice (p' 0) (m' 0) (d' 0),.slice (p' 1) (m' 1) (d' 1),.slice (p' 2) (m' 2) (d' 2),.slice (p' 3) (m' 3) (d' 3),.slice (p' 4) (m' 4) (d' 4),.slice (p' 5) (m' 5) (d' 5),.slice (p' 6) (m' 6) (d' 6),.slice (p' 7) (m' 7) (d' 7)])∧(∀ t,t<8→Ch w' w.heap.size (.slice (p' t) (m' t) (d' t)) ((DW (Bw silent) S.rules K).ch t))∧Below w.heap.size w w':=by
 refine (next_any S a cap K (fun t=>.slice (p t) (m t) (d t)) silent L w hR hS hK hL hL2).mono ?_
 rintro e w' ⟨vO,rfl,hc,hb⟩
 have hf:∀ t,t<8→vO t=.slice (sa (vO t)) (sn (vO t)) (sc (vO t)):=fun t ht=>RO (hc t ht)
 refine ⟨fun t=>sa (vO t),fun t=>sn (vO t),fun t=>sc (vO t),?_,fun t ht=>by rw [← hf t ht];exact hc t ht,hb⟩
 simp only
 rw [← hf 0 (by omega),← hf 1 (by omega),← hf 2 (by omega),← hf 3 (by omega),← hf 4 (by omega),← hf 5 (by omega),← hf 6 (by omega),← hf 7 (by omega)]
 rfl
def Gj (K:Wk) (ok:Nat→Bool) (best:List Nat) (m:Nat):List Nat :=
 if K.is m && (ok m && (best.isEmpty || Ax (ints (K.ch m)) (ints best))) then K.ch m else best
def C2 (K:Wk) (ok:Nat→Bool):Nat→List Nat
 | 0=>[]
 | m+1=>Gj K ok (C2 K ok m) m
def Ci (S:Sch) (m:Nat):Bool:=!(BA S).testBit m
def rsF (S:Sch):Nat→Nat→List Nat
 | 0,_=>[]
 | f+1,n=>if C2 (CA (Bw false) S.rules 0 true (n+1)) (Ci S) S.modes.toNat=[] then rsF S f (n+1) else C2 (CA (Bw false) S.rules 0 true (n+1)) (Ci S) S.modes.toNat
def CD (S:Sch):List Nat:=if (BA S).testBit 0 then rsF S S.modes.toNat 0 else []
theorem Dr {use:Rl→Bool} {R:List Rl} {start:Nat} (b:Bool) (hf:∀ r∈R,r.frm.toNat<8):∀ n t,t<8→((CA use R start b n).ch t).length≤n
 | 0,t,_=>by simp [CA,wk0]
 | n+1,t,ht=>Ei (Dr b hf n) hf R.length t ht
theorem Iw {K:Wk} {ok:Nat→Bool} {L:Nat} (hK:∀ t,t<8→(K.ch t).length≤L):∀ m,m≤8→(C2 K ok m).length≤L
 | 0,_=>by simp [C2]
 | m+1,h=>by
  rw [C2,Gj]
  split
  · exact hK m (by omega)
  · exact Iw hK m (by omega)
theorem RP (w:World) (B b:Nat) (hb:b<8) (x:Bool):WB B w.heap.size w (wk0 b x) (fun _=>none) (fun _=>0) (fun _=>0) (w.alloc (.cells (wkL (wk0 b x).is (fun _=>.slice none 0 0)).toArray 190)) :=
 ⟨heap_alloc_new _ _,fun t ht=>Ch.nil _ _,(Below.refl _ _).alloc (A3 _) _⟩
theorem Np {w:World} {B:Nat} (h:B≤w.heap.size):Ch (w.alloc (.cells #[] 3)) B (.slice (some ⟨w.heap.size,0,none⟩) 0 0) [] :=
 ⟨rfl,.inr ⟨_,0,#[],rfl,h,heap_alloc_new _ _,A3 _,Nat.zero_le _,rfl,rfl⟩⟩
set_option maxHeartbeats 6400000 in
set_option maxRecDepth 100000 in
theorem
    rstuck_any (
          S:Sch) (a:Option Addr) (cap:Nat) (w:World) (hR:BJ w a S.rules) (hS:Fit S) :
  Calls Tryz.prog 85 #[.agg #[.int .i64 S.modes,.int .u8 S.acc,.slice a S.rules.length cap]] w fun e w'=>∃ v,e=.returned v∧Ch w' w.heap.size v (CD S)∧Below w.heap.size w w':=by
 have HR:=A0 hR;have HS:=A0 hS;clear hR
 have m0:=hS.m0;have m1:=hS.m1;have hlen:=hS.len
 obtain ⟨mm,hmm⟩:=Int.eq_ofNat_of_zero_le (show 0≤S.modes by omega)
 have HM:Hid (S.modes.toNat=mm):=by show _=_;omega
 have hmm0:0<mm:=by omega
 have hmm8:mm≤8:=by omega
 have HMM:=A0 hmm
 obtain ⟨l0,hl0⟩:∃ l0,(BA S).testBit 0=l0:=⟨_,rfl⟩
 have HRS:Hid (CD S=if l0=true then rsF S mm 0 else []):=by show _=_;rw [CD,hl0,HM.out]
 have HL0:=A0 hl0
 clear hmm hl0 hS
 cases l0 with
 | false =>
  have HE:Hid (CD S=[]):=by rw [HRS.out];rfl
  go_enter Tryz.func85,Tryz.ntmps85
  go_wp2_with (first | (go_at_call 56;refine (rlive_any S a cap _ (HR.out.later (by first | exact hB | go_grown) (A3 _)) HS.out).mono ?_;rintro e w1 ⟨v,rfl,⟨g3,hv,hg3,hmask⟩,hb⟩;rw [HM.out] at hv hmask;subst hv;have hq3:=BE hmask (i:=0) (by omega);rw [HL0.out] at hq3;have hB:=Al (B:=w.heap.size) (w:=w) (by go_grown) hb (A3 _);clear hmask hb) | fail)
  go_ret
  exact ⟨.slice none 0 0,rfl,by rw [HE.out];exact Ch.nil _ _,hB⟩
 | true =>
  have HE:Hid (CD S=rsF S mm 0):=by rw [HRS.out];rfl
  go_enter Tryz.func85,Tryz.ntmps85
  go_wp2_with (first | (go_at_call 56;refine (rlive_any S a cap _ (HR.out.later (by first | exact hB | go_grown) (A3 _)) HS.out).mono ?_;rintro e w1 ⟨v,rfl,⟨g3,hv,hg3,hmask⟩,hb⟩;rw [HM.out] at hv hmask;subst hv;have hq3:=BE hmask (i:=0) (by omega);rw [HL0.out] at hq3;have hB:=Al (B:=w.heap.size) (w:=w) (by go_grown) hb (A3 _);have HB1:=A0 hB;have hal1:=Al (B:=w.heap.size+1) (w:=w.alloc (.cells #[.int .i64 S.modes,.int .u8 S.acc,.slice a S.rules.length cap] 32)) (by go_grown) hb (by simp);have HAL1:=A0 hal1;have hz1:=hal1.size;have HMask:=A0 hmask;have hg3l:=(A5.1 hmask).1;obtain ⟨hz,hc,hf⟩:=BL hb (by first | (simp only [A6];rfl) | rfl);clear hmask hb hal1) | fail)
  simp only [A6] at hz1
  have HW0:=A0 (RP w1 w.heap.size 0 (by omega) true)
  clear hz hc hf hq3
  go_loopw [5] (fun i wr=>∃ (k:Nat) (p:Nat→Option Addr) (m d:Nat→Nat),k≤mm∧i=.int .i64 k∧WB w.heap.size w1.heap.size w1 (CA (Bw false) S.rules 0 true k) p m d wr∧rsF S (mm - k) k=rsF S mm 0) (fun i _=>mm - (intOf i).toNat)
  case atStart=>exact ⟨0,_,_,_,by omega,rfl,HW0.out,rfl⟩
  case round =>
   obtain ⟨k,p,m,d,hk,rfl,hwb,hrs⟩:=hrel
   have HWB:=A0 hwb;have HRSk:=A0 hrs
   have hal:Below (w.heap.size+1) (w.alloc (.cells #[.int .i64 S.modes,.int .u8 S.acc,.slice a S.rules.length cap] 32)) wr:=HAL1.out.trans (hwb.bl.mono (by omega))
   have hB:Below w.heap.size w wr:=((Below.refl _ _).alloc (A3 _) _).trans (hal.mono (by omega))
   obtain ⟨hz,hc,hf⟩:=B7 hal rfl
   simp only [A6] at hz
   have hGl:=hwb.row.lt
   clear hrs
   by_cases hlt:k<mm
   ·
    have hlt2
         :
          (k:Int)<S.modes:=by have:=HMM.out;omega
    obtain ⟨O,hO⟩:∃ O,(CA (Bw false) S.rules 0 true (k+1))=O:=⟨_,rfl⟩
    have HO:Hid (DW (Bw false) S.rules (CA (Bw false) S.rules 0 true k)=O):=hO
    have HO1:=A0 hO
    have HRN:Hid (rsF S (mm - k) k=if C2 O (Ci S) mm=[] then rsF S (mm - (k+1)) (k+1) else C2 O (Ci S) mm):=by
     show _=_
     rw [show mm - k=(mm - (k+1))+1 by omega,rsF,hO,HM.out]
    have hOl:Hid (∀ t,t<8→(O.ch t).length≤k+1):=by
     show ∀ t,t<8→_
     rw [← hO];exact Dr true (fun r hr=>by have:=HS.out.small r hr;omega) (k+1)
    clear hO
    have q0:=hwb.c0;have q1:=hwb.c1;have q2:=hwb.c2;have q3:=hwb.c3;have q4:=hwb.c4;have q5:=hwb.c5;have q6:=hwb.c6;have q7:=hwb.c7;have q8:=hwb.c8;have q9:=hwb.c9;have q10:=hwb.c10;have q11:=hwb.c11;have q12:=hwb.c12;have q13:=hwb.c13;have q14:=hwb.c14;have q15:=hwb.c15
    clear hwb
    go_wp2_with (first | (go_at_call 109;refine (Ll S a cap (CA (Bw false) S.rules 0 true k) p m d false k _ (HR.out.later (by first | exact hB | go_grown) (A3 _)) HS.out (fun t ht=>(HWB.out.ok t ht).mono (Nat.zero_le _)) (Dr true (fun r hr=>by have:=HS.out.small r hr;omega) k) (by omega)).mono ?_;rintro e w2 ⟨p',m',d',rfl,hch,hb⟩;rw [HO.out] at hch ⊢;clear q0 q1 q2 q3 q4 q5 q6 q7 q8 q9 q10 q11 q12 q13 q14 q15;have hwb2:=HWB.out.below hb;have q0:=hwb2.c0;have q1:=hwb2.c1;have q2:=hwb2.c2;have q3:=hwb2.c3;have q4:=hwb2.c4;have q5:=hwb2.c5;have q6:=hwb2.c6;have q7:=hwb2.c7;have q8:=hwb2.c8;have q9:=hwb2.c9;have q10:=hwb2.c10;have q11:=hwb2.c11;have q12:=hwb2.c12;have q13:=hwb2.c13;have q14:=hwb2.c14;have q15:=hwb2.c15;have qf:=hwb2.free;have HWP:=A0 (hwb2.put (O:=O) (fun t ht=>(hch t ht).mono hB.size));have hz2:=hb.size;have hB2:=Al (B:=w.heap.size) (w:=w) hB hb (A3 _);clear hch hwb2 hb) | fail)
    clear q0 q1 q2 q3 q4 q5 q6 q7 q8 q9 q10 q11 q12 q13 q14 q15 qf hz hc hf hal
    have HG3:Hid (g3<w1.heap.size):=hg3l
    have HX0:Hid (∀ W,WB w.heap.size w1.heap.size w1 O p' m' d' W→W.heap.size=w2.heap.size→WB w.heap.size w1.heap.size w1 O p' m' d' (W.alloc (.cells #[] 3))∧Ch (W.alloc (.cells #[] 3)) w.heap.size (.slice (some ⟨w2.heap.size,0,none⟩) 0 0) []):=fun W h hsz =>
     ⟨h.below ((Below.refl _ _).alloc (A3 _) _),by have:=Np (w:=W) (B:=w.heap.size) (by rw [hsz];exact hB2.size);rw [hsz] at this;exact this⟩
    go_loopw [6,7] (fun bv i wr=>∃ (j:Nat) (b:Option Addr) (n c:Nat) (xs:List Nat),j≤mm∧i=.int .i64 j∧bv=.slice b n c∧n=xs.length∧xs=C2 O (Ci S) j∧Ch wr w.heap.size (.slice b n c) xs∧WB w.heap.size w1.heap.size w1 O p' m' d' wr) (fun _ i _=>mm - (intOf i).toNat)
    case atStart=>exact ⟨0,_,_,_,[],by omega,rfl,rfl,rfl,rfl,(HX0.out _ HWP.out (by simp)).2,(HX0.out _ HWP.out (by simp)).1⟩
    case round =>
     clear HWP HX0 hB2 hz2
     obtain ⟨j,b,n,c,xs,hj,rfl,rfl,hn,hxs,hch,hwb⟩:=hrel
     have HN:=A0 hn;have HXS:=A0 hxs;have HCH:=A0 hch;have HWJ:=A0 hwb
     have hal:Below (w.heap.size+1) (w.alloc (.cells #[.int .i64 S.modes,.int .u8 S.acc,.slice a S.rules.length cap] 32)) wr:=HAL1.out.trans (hwb.bl.mono (by omega))
     have hB:Below w.heap.size w wr:=((Below.refl _ _).alloc (A3 _) _).trans (hal.mono (by omega))
     obtain ⟨hz,hc,hf⟩:=B7 hal rfl
     simp only [A6] at hz
     have hGl:=hwb.row.lt
     clear hn hxs hch
     by_cases hlj:j<mm
     ·
      have hlj2:(j:Int)<S.modes:=by have:=HMM.out;omega
      have hj8:(j:Int)<8:=by omega
      have hjm:(j:Int)<(mm:Int):=by omega
      have qi:=hwb.row.is (i:=j) (by omega)
      have qv:=hwb.row.vs (i:=j) (by omega)
      have ql:wr.cell? ⟨g3,j,none⟩=some (.bool ((BA S).testBit j)):=(hwb.bl.cell (p:=⟨g3,j,none⟩) hg3l).trans (BE HMask.out hlj)
      obtain ⟨oi,hoi⟩:∃ oi,O.is j=oi:=⟨_,rfl⟩
      obtain ⟨lb,hlb⟩:∃ lb,(BA S).testBit j=lb:=⟨_,rfl⟩
      obtain ⟨bb,hbb⟩:∃ bb,Ax (ints (O.ch j)) (ints xs)=bb:=⟨_,rfl⟩
      have HB:Hid (C2 O (Ci S) (j+1)=if oi && (!lb && (xs.isEmpty || bb)) then O.ch j else xs):=by
       show _=_
       rw [C2,← HXS.out,Gj,hoi,hbb,Ci,hlb]
      rw [hoi] at qi
      rw [hlb] at ql
      have HBB:=A0 hbb
      have hOj:=hOl.out j (by omega)
      have hxl:xs.length≤k+1:=by rw [HXS.out];exact Iw hOl.out j (by omega)
      have hsl:=hwb.sl (t:=j) (by omega)
      have HSL:=A0 hsl
      have HSX:Hid (SlS wr b (ints xs)∧n=(ints xs).length):=⟨HCH.out.sls.1,HCH.out.sls.2.trans (B6 _).symm⟩
      clear hoi hlb hbb hsl hwb
      cases oi with
      | false =>
       have HB2:Hid (C2 O (Ci S) (j+1)=xs):=by rw [HB.out];rfl
       go_wp2
       go_roundw
       case rel=>exact ⟨j+1,b,n,c,xs,by omega,by go_num,rfl,HN.out,HB2.out.symm,HCH.out,HWJ.out⟩
       case measure=>simp [intOf];omega
      | true =>
       cases lb with
       | true =>
        have HB2:Hid (C2 O (Ci S) (j+1)=xs):=by rw [HB.out];rfl
        go_wp2
        go_roundw
        case rel=>exact ⟨j+1,b,n,c,xs,by omega,by go_num,rfl,HN.out,HB2.out.symm,HCH.out,HWJ.out⟩
        case measure=>simp [intOf];omega
       | false =>
        by_cases hx0:xs=[]
        ·
         have HB2:Hid (C2 O (Ci S) (j+1)=O.ch j):=by show _=_;rw [HB.out,hx0];rfl
         have hn0:n=0:=by rw [HN.out,hx0];rfl
         subst hn0
         clear hx0
         go_wp2
         go_roundw
         case rel=>exact ⟨j+1,p' j,m' j,d' j,O.ch j,by omega,by go_num,rfl,HSL.out.2.trans (B6 _),HB2.out.symm,HWJ.out.ok j (by omega),HWJ.out⟩
         case measure=>simp [intOf];omega
        ·
         have hnp:0<n:=by rw [HN.out];rcases xs with _ | ⟨y,ys⟩;exact absurd rfl hx0;simp
         have hnz:((n:Int) == 0)=false:=by simp;omega
         have HB2:Hid (C2 O (Ci S) (j+1)=if bb=true then O.ch j else xs):=by
          show _=_;rw [HB.out];rcases xs with _ | ⟨y,ys⟩;exact absurd rfl hx0;rfl
         clear hx0
         cases bb with
         | true =>
          go_wp2_with (first | (go_at_call 110;refine (before_any (p' j) b (m' j) n (d' j) c (ints (O.ch j)) (ints xs) _ HSL.out.2 HSX.out.2 HSL.out.1 HSX.out.1 (by rw [B6];omega) (by rw [B6];omega)).mono ?_;rintro ee w3 ⟨he3,hb⟩;rw [HBB.out] at he3;subst he3;have HWJ3:=A0 (HWJ.out.below hb);have HC3:=A0 (HCH.out.below hb HCH.out.lt);obtain ⟨hzB,hcB,hfB⟩:=BL hb rfl;clear hb) | fail)
          go_roundw
          case rel=>exact ⟨j+1,p' j,m' j,d' j,O.ch j,by omega,by go_num,rfl,HSL.out.2.trans (B6 _),HB2.out.symm,HWJ3.out.ok j (by omega),HWJ3.out⟩
          case measure=>simp [intOf];omega
         | false =>
          go_wp2_with (first | (go_at_call 110;refine (before_any (p' j) b (m' j) n (d' j) c (ints (O.ch j)) (ints xs) _ HSL.out.2 HSX.out.2 HSL.out.1 HSX.out.1 (by rw [B6];omega) (by rw [B6];omega)).mono ?_;rintro ee w3 ⟨he3,hb⟩;rw [HBB.out] at he3;subst he3;have HWJ3:=A0 (HWJ.out.below hb);have HC3:=A0 (HCH.out.below hb HCH.out.lt);obtain ⟨hzB,hcB,hfB⟩:=BL hb rfl;clear hb) | fail)
          go_roundw
          case rel=>exact ⟨j+1,b,n,c,xs,by omega,by go_num,rfl,HN.out,HB2.out.symm,HC3.out,HWJ3.out⟩
          case measure=>simp [intOf];omega
     ·
      obtain rfl:j=mm:=by omega
      have hlj2:¬ (j:Int)<S.modes:=by have:=HMM.out;omega
      by_cases hx0:xs=[]
      ·
       have hn0:n=0:=by rw [HN.out,hx0];rfl
       have HRk:Hid (rsF S (j - (k+1)) (k+1)=rsF S j 0):=by
        have h1:=HRN.out;have h2:=HRSk.out
        rw [← HXS.out,if_pos hx0] at h1
        exact h1.symm.trans h2
       subst hn0
       clear hx0 hwb
       go_wp2
       go_roundw
       case rel=>exact ⟨k+1,p',m',d',by omega,by go_num,by rw [HO1.out];exact HWJ.out,HRk.out⟩
       case measure=>simp [intOf];omega
      ·
       have hnp:0<n:=by rw [HN.out];rcases xs with _ | ⟨y,ys⟩;exact absurd rfl hx0;simp
       have hnI:(0:Int)<(n:Int):=by omega
       have HRk:Hid (xs=rsF S j 0):=by
        have h1:=HRN.out;have h2:=HRSk.out
        rw [← HXS.out,if_neg hx0] at h1
        exact h1.symm.trans h2
       clear hx0 hwb
       go_wp2
       go_ret
       exact ⟨.slice b n c,rfl,by rw [HE.out,← HRk.out];exact HCH.out,hB⟩
   ·
    obtain rfl:k=mm:=by omega
    have hlt2:¬ (k:Int)<S.modes:=by have:=HMM.out;omega
    have HF:Hid ([]=rsF S k 0):=by have:=HRSk.out;rw [Nat.sub_self,rsF] at this;exact this
    go_wp2
    go_ret
    exact ⟨.slice none 0 0,rfl,by rw [HE.out,← HF.out];exact Ch.nil _ _,hB⟩
def EP (K:Wk) (best:List Nat) (m:Nat):List Nat :=
 if K.is m && (best.isEmpty || (decide ((K.ch m).length<best.length) || (decide ((K.ch m).length=best.length) && Ax (ints (K.ch m)) (ints best)))) then K.ch m else best
def D7 (S:Sch) (m:Nat) (best0:List Nat):Nat→List Nat
 | 0=>best0
 | n+1=>EP (CA (Bw true) S.rules m (Ga S m) (n+1)) (D7 S m best0 n) m
def G2 (S:Sch):Nat→List Nat
 | 0=>[]
 | m+1=>D7 S m (G2 S m) S.modes.toNat
def Et (S:Sch):List Nat:=G2 S S.modes.toNat
theorem Ho {S:Sch} (hf:∀ r∈S.rules,r.frm.toNat<8) {m:Nat} (hm:m<8) {b:List Nat} (hb:b.length≤8):∀ n,n≤8→(D7 S m b n).length≤8
 | 0,_=>hb
 | n+1,h=>by
  rw [D7,EP]
  split
  · have:=Dr (use:=Bw true) (start:=m) (Ga S m) hf (n+1) m hm;omega
  · exact Ho hf hm hb n (by omega)
theorem K4 {S:Sch} (hS:Fit S) (hf:∀ r∈S.rules,r.frm.toNat<8):∀ m,m≤8→(G2 S m).length≤8
 | 0,_=>by simp [G2]
 | m+1,h=>by
  rw [G2]
  exact Ho hf (by omega) (K4 hS hf m (by omega)) _ (by have:=hS.m1;omega)
theorem row_zero (w:World):Bv (w.alloc (.cells #[.bool false,.bool false,.bool false,.bool false,.bool false,.bool false,.bool false,.bool false,.slice none 0 0,.slice none 0 0,.slice none 0 0,.slice none 0 0,.slice none 0 0,.slice none 0 0,.slice none 0 0,.slice none 0 0] 190)) w.heap.size (fun _=>false) (fun _=>.slice none 0 0):=heap_alloc_new w (.cells #[.bool false,.bool false,.bool false,.bool false,.bool false,.bool false,.bool false,.bool false,.slice none 0 0,.slice none 0 0,.slice none 0 0,.slice none 0 0,.slice none 0 0,.slice none 0 0,.slice none 0 0,.slice none 0 0] 190)
theorem OP (w:World) {m:Nat} (hm:m<8) (v:Bool):Bv (w.alloc (.cells ([.bool false,.bool false,.bool false,.bool false,.bool false,.bool false,.bool false,.bool false,.slice none 0 0,.slice none 0 0,.slice none 0 0,.slice none 0 0,.slice none 0 0,.slice none 0 0,.slice none 0 0,.slice none 0 0].set m (.bool v)).toArray 190)) w.heap.size (wk0 m v).is (fun _=>.slice none 0 0):=by
 have h:=heap_alloc_new w (.cells ([.bool false,.bool false,.bool false,.bool false,.bool false,.bool false,.bool false,.bool false,.slice none 0 0,.slice none 0 0,.slice none 0 0,.slice none 0 0,.slice none 0 0,.slice none 0 0,.slice none 0 0,.slice none 0 0].set m (.bool v)).toArray 190)
 unfold Bv
 have e:([Value.bool false,.bool false,.bool false,.bool false,.bool false,.bool false,.bool false,.bool false,.slice none 0 0,.slice none 0 0,.slice none 0 0,.slice none 0 0,.slice none 0 0,.slice none 0 0,.slice none 0 0,.slice none 0 0].set m (.bool v))=wkL (wk0 m v).is (fun _=>.slice none 0 0):=by
  rcases (show m=0∨m=1∨m=2∨m=3∨m=4∨m=5∨m=6∨m=7 by omega) with rfl | rfl | rfl | rfl | rfl | rfl | rfl | rfl <;> rfl
 rw [e] at h ⊢
 exact h
set_option maxHeartbeats 6400000 in
set_option maxRecDepth 100000 in
theorem
    rendless_any (S:Sch) (a:Option Addr) (cap:Nat) (w:World) (hR:BJ w a S.rules) (hS:Fit S) :
  Calls Tryz.prog 86 #[.agg #[.int .i64 S.modes,.int .u8 S.acc,.slice a S.rules.length cap]] w fun e w'=>∃ v,e=.returned v∧Ch w' w.heap.size v (Et S)∧Below w.heap.size w w':=by
 have HR:=A0 hR;have HS:=A0 hS;clear hR
 have m0:=hS.m0;have m1:=hS.m1;have hlen:=hS.len
 obtain ⟨mm,hmm⟩:=Int.eq_ofNat_of_zero_le (show 0≤S.modes by omega)
 have HM:Hid (S.modes.toNat=mm):=by show _=_;omega
 have hmm0:0<mm:=by omega
 have hmm8:mm≤8:=by omega
 have HMM:=A0 hmm
 have HF8:Hid (∀ r∈S.rules,r.frm.toNat<8):=fun r hr=>by have:=hS.small r hr;omega
 clear hmm hS
 go_enter Tryz.func86,Tryz.ntmps86
 go_wp2_with (first
  | (go_at_call 87;refine (JY S a cap _ (HR.out.later (by first | exact hB | go_grown) (A3 _)) HS.out (by rw [HM.out];omega)).mono ?_;rintro e w1 ⟨v,rfl,⟨g3,hv,hg3,hmask⟩,hb⟩;rw [HM.out] at hv hmask;subst hv;have hB:=Al (B:=w.heap.size) (w:=w) (by go_grown) hb (A3 _);have hal:=Al (B:=w.heap.size+1) (w:=w.alloc (.cells #[.int .i64 S.modes,.int .u8 S.acc,.slice a S.rules.length cap] 32)) (by go_grown) hb (by simp);have hz1:=hal.size;have HMask3:=A0 hmask;have hg3l:=(A5.1 hmask).1;obtain ⟨hz,hc,hf⟩:=BL hb (by first | (simp only [A6];rfl) | rfl);clear hmask hb)
  | (go_at_call 56;refine (rlive_any S a cap _ (HR.out.later (by first | exact hB | go_grown) (A3 _)) HS.out).mono ?_;rintro e w2 ⟨v,rfl,⟨g4,hv,hg4,hmask⟩,hb⟩;rw [HM.out] at hv hmask;subst hv;have HMask3b:=A0 ((hb.block g3 hg3l).trans HMask3.out);have hz2:=hb.size;have hal2:=hal.trans (hb.mono (by simp only [A6] at hz1;omega));have HAL2:=A0 hal2;have HMask4:=A0 hmask;have hg4l:=(A5.1 hmask).1;clear hmask hb hal2 hal hB)
  | fail)
 simp only [A6] at hz1
 clear hz hc hf
 have hzz:w.heap.size+1≤w2.heap.size:=by omega
 have hg3z:g3<w2.heap.size:=by omega
 have HX0:Hid (Below w.heap.size w w2):=((Below.refl _ _).alloc (A3 _) _).trans (HAL2.out.mono (by omega))
 go_loopw [5,6] (fun bv i wr=>∃ (m:Nat) (b:Option Addr) (n c:Nat) (xs:List Nat),m≤mm∧i=.int .i64 m∧bv=.slice b n c∧n=xs.length∧xs=G2 S m∧Ch wr w.heap.size (.slice b n c) xs∧Below w2.heap.size w2 wr) (fun _ i _=>mm - (intOf i).toNat)
 case atStart=>exact ⟨0,_,_,_,[],by omega,rfl,rfl,rfl,rfl,Np HX0.out.size,(Below.refl _ _).alloc (A3 _) _⟩
 case round =>
  obtain ⟨m,b,n,c,xs,hm,rfl,rfl,hn,hxs,hch,hb2⟩:=hrel
  have HN:=A0 hn;have HXS:=A0 hxs;have HCH:=A0 hch;have HB2:=A0 hb2
  have hal:Below (w.heap.size+1) (w.alloc (.cells #[.int .i64 S.modes,.int .u8 S.acc,.slice a S.rules.length cap] 32)) wr:=HAL2.out.trans (hb2.mono hzz)
  have hB:Below w.heap.size w wr:=((Below.refl _ _).alloc (A3 _) _).trans (hal.mono (by omega))
  obtain ⟨hz,hc,hf⟩:=B7 hal rfl
  simp only [A6] at hz
  have hzw:=hb2.size
  clear hn hxs hch
  by_cases hlt:m<mm
  ·
   have hlt2
        :
         (m:Int)<S.modes:=by have:=HMM.out;omega
   have hm8:(m:Int)<8:=by omega
   have hmI:(m:Int)<(mm:Int):=by omega
   have q3:wr.cell? ⟨g3,m,none⟩=some (.bool ((Cb S).testBit m)):=(hb2.cell (p:=⟨g3,m,none⟩) hg3z).trans (BE HMask3b.out hlt)
   have q4:wr.cell? ⟨g4,m,none⟩=some (.bool ((BA S).testBit m)):=(hb2.cell (p:=⟨g4,m,none⟩) hg4l).trans (BE HMask4.out hlt)
   obtain ⟨rb,hrb⟩:∃ rb,(Cb S).testBit m=rb:=⟨_,rfl⟩
   obtain ⟨lb,hlb⟩:∃ lb,(BA S).testBit m=lb:=⟨_,rfl⟩
   obtain ⟨cb,hcb⟩:∃ cb,Ga S m=cb:=⟨_,rfl⟩
   have HCB:Hid (cb=(rb && lb)):=by show _=_;rw [← hcb,Ga,hrb,hlb]
   have HCM:=A0 hcb
   rw [hrb] at q3;rw [hlb] at q4
   clear hrb hlb hcb hb2
   have qz:=(row_zero wr).is (i:=m) (by omega)
   have qf:=(row_zero wr).free (i:=m)
   have HW0:Hid (∀ v:Bool,WB w.heap.size wr.heap.size wr (wk0 m v) (fun _=>none) (fun _=>0) (fun _=>0) (wr.alloc (.cells ([.bool false,.bool false,.bool false,.bool false,.bool false,.bool false,.bool false,.bool false,.slice none 0 0,.slice none 0 0,.slice none 0 0,.slice none 0 0,.slice none 0 0,.slice none 0 0,.slice none 0 0,.slice none 0 0].set m (.bool v)).toArray 190))):=fun v =>
    ⟨OP wr (by omega) v,fun t ht=>Ch.nil _ _,(Below.refl _ _).alloc (A3 _) _⟩
   have HC0:Hid (∀ W,Below wr.heap.size wr W→Ch W w.heap.size (.slice b n c) xs):=fun W h=>HCH.out.below h HCH.out.lt
   go_upto_region 8 with fail
   go_cut [] (fun wx=>wx=(wr.alloc (.cells ([.bool false,.bool false,.bool false,.bool false,.bool false,.bool false,.bool false,.bool false,.slice none 0 0,.slice none 0 0,.slice none 0 0,.slice none 0 0,.slice none 0 0,.slice none 0 0,.slice none 0 0,.slice none 0 0].set m (.bool cb)).toArray 190)))
   case first =>
    cases rb with
    | false =>
     obtain rfl:cb=false:=HCB.out
     clear HCB
     go_wp2_with fail
     go_meet
     rfl
    | true =>
     obtain rfl:cb=lb:=HCB.out
     clear HCB
     go_wp2_with fail
     go_meet
     rfl
   case rest
        =>
    obtain rfl:=hcut
    clear HCB
    obtain ⟨wo,rfl⟩:∃ wo:World,wo=wr:=⟨_,rfl⟩
    clear qz qf q3 q4 hc hf hB hal
    go_wp2
    go_loopw [5,8] (fun bv i wr=>∃ (k:Nat) (b:Option Addr) (n c:Nat) (ys:List Nat) (p:Nat→Option Addr) (m' d:Nat→Nat),k≤mm∧i=.int .i64 k∧bv=.slice b n c∧n=ys.length∧ys=D7 S m xs k∧Ch wr w.heap.size (.slice b n c) ys∧WB w.heap.size wo.heap.size wo (CA (Bw true) S.rules m (Ga S m) k) p m' d wr) (fun _ i _=>mm - (intOf i).toNat)
    case atStart=>exact ⟨0,b,n,c,xs,_,_,_,by omega,rfl,rfl,HN.out,rfl,HC0.out _ ((Below.refl _ _).alloc (A3 _) _),by have:=HW0.out;rw [HCM.out];exact this _⟩
    case round =>
     obtain ⟨k,b,n,c,ys,p,m',d,hk,rfl,rfl,hn,hys,hch,hwb⟩:=hrel
     have HYN:=A0 hn;have HYS0:=A0 hys;have HYS:=A0 hch;have HWB:=A0 hwb
     have hbw:Below w2.heap.size w2 wr:=HB2.out.trans (hwb.bl.mono hzw)
     have hal:Below (w.heap.size+1) (w.alloc (.cells #[.int .i64 S.modes,.int .u8 S.acc,.slice a S.rules.length cap] 32)) wr:=HAL2.out.trans (hbw.mono hzz)
     have hB:Below w.heap.size w wr:=((Below.refl _ _).alloc (A3 _) _).trans (hal.mono (by omega))
     obtain ⟨hz,hc,hf⟩:=B7 hal rfl
     simp only [A6] at hz
     have hGl:=hwb.row.lt
     have hyl:ys.length≤8:=by rw [HYS0.out];exact Ho HF8.out (by omega) (by rw [HXS.out];exact K4 HS.out HF8.out m (by omega)) k (by omega)
     clear hn hys hch
     by_cases hlk:k<mm
     ·
      have hlk2:(k:Int)<S.modes:=by have:=HMM.out;omega
      obtain ⟨O,hO⟩:∃ O,(CA (Bw true) S.rules m (Ga S m) (k+1))=O:=⟨_,rfl⟩
      have HO:Hid (DW (Bw true) S.rules (CA (Bw true) S.rules m (Ga S m) k)=O):=hO
      have HO1:=A0 hO
      obtain ⟨oi,hoi⟩:∃ oi,O.is m=oi:=⟨_,rfl⟩
      obtain ⟨bb,hbb⟩:∃ bb,Ax (ints (O.ch m)) (ints ys)=bb:=⟨_,rfl⟩
      have hOl:(O.ch m).length≤k+1:=by rw [← hO];exact Dr _ HF8.out (k+1) m (by omega)
      have HST:Hid (D7 S m xs (k+1)=if oi && (ys.isEmpty || (decide ((O.ch m).length<ys.length) || (decide ((O.ch m).length=ys.length) && bb))) then O.ch m else ys):=by
       show _=_
       rw [D7,← HYS0.out,EP,hO,hoi,hbb]
      have HBB:=A0 hbb
      have hw3:∀ (m'':Nat→Nat) (W:World) (p':Nat→Option Addr) (d':Nat→Nat),True:=fun _ _ _ _=>trivial
      clear hO hbb hw3
      have q0:=hwb.c0;have q1:=hwb.c1;have q2:=hwb.c2;have q3:=hwb.c3;have q4:=hwb.c4;have q5:=hwb.c5;have q6:=hwb.c6;have q7:=hwb.c7;have q8:=hwb.c8;have q9:=hwb.c9;have q10:=hwb.c10;have q11:=hwb.c11;have q12:=hwb.c12;have q13:=hwb.c13;have q14:=hwb.c14;have q15:=hwb.c15
      clear hwb
      go_upto_region 13 with (first | (go_at_call 109;refine (Ll S a cap (CA (Bw true) S.rules m (Ga S m) k) p m' d true k _ (HR.out.later (by first | exact hB | go_grown) (A3 _)) HS.out (fun t ht=>(HWB.out.ok t ht).mono (Nat.zero_le _)) (Dr _ HF8.out k) (by omega)).mono ?_;rintro e w3 ⟨p',m'',d',rfl,hch,hb⟩;rw [HO.out] at hch ⊢;clear q0 q1 q2 q3 q4 q5 q6 q7 q8 q9 q10 q11 q12 q13 q14 q15;have hwb2:=HWB.out.below hb;have q0:=hwb2.c0;have q1:=hwb2.c1;have q2:=hwb2.c2;have q3:=hwb2.c3;have q4:=hwb2.c4;have q5:=hwb2.c5;have q6:=hwb2.c6;have q7:=hwb2.c7;have q8:=hwb2.c8;have q9:=hwb2.c9;have q10:=hwb2.c10;have q11:=hwb2.c11;have q12:=hwb2.c12;have q13:=hwb2.c13;have q14:=hwb2.c14;have q15:=hwb2.c15;have qf:=hwb2.free;have hwp:=hwb2.put (O:=O) (fun t ht=>(hch t ht).mono hB.size);have qis:=hwp.row.is (i:=m) (by omega);have qvs:=hwp.row.vs (i:=m) (by omega);rw [hoi] at qis;have HWP:=A0 hwp;have HYP:=A0 (Q4 hwb2 (p':=p') (m':=m'') (d':=d') (O:=O) (HYS.out.below hb HYS.out.lt));have hz2:=hb.size;have hB2:=Al (B:=w.heap.size) (w:=w) hB hb (A3 _);clear hch hwb2 hb hwp;have HLM:Hid (m'' m=(O.ch m).length):=(HWP.out.sl (t:=m) (by omega)).2.trans (B6 _)) | fail)
      cases oi with
      | false =>
       have HN2:Hid (D7 S m xs (k+1)=ys):=by rw [HST.out];rfl
       go_wp2
       go_roundw
       case rel=>exact ⟨k+1,b,n,c,ys,p',m'',d',by omega,by go_num,rfl,HYN.out,HN2.out.symm,HYP.out,by rw [HO1.out];exact HWP.out⟩
       case measure=>simp [intOf];omega
      | true =>
       by_cases hy0:ys=[]
       ·
        have HN2:Hid (D7 S m xs (k+1)=O.ch m):=by show _=_;rw [HST.out,hy0];rfl
        have hn0:n=0:=by rw [HYN.out,hy0];rfl
        subst hn0
        clear hy0
        go_wp2
        go_roundw
        case rel=>exact ⟨k+1,p' m,m'' m,d' m,O.ch m,p',m'',d',by omega,by go_num,rfl,(HWP.out.sl (t:=m) (by omega)).2.trans (B6 _),HN2.out.symm,HWP.out.ok m (by omega),by rw [HO1.out];exact HWP.out⟩
        case measure=>simp [intOf];omega
       ·
        have hnp:0<n:=by rw [HYN.out];rcases ys with _ | ⟨y,ys⟩;exact absurd rfl hy0;simp
        have hnz:((n:Int) == 0)=false:=by simp;omega
        have HST2:Hid (D7 S m xs (k+1)=if (decide ((O.ch m).length<ys.length) || (decide ((O.ch m).length=ys.length) && bb)) then O.ch m else ys):=by
         show _=_;rw [HST.out];rcases ys with _ | ⟨y,ys⟩;exact absurd rfl hy0;rfl
        clear hy0
        rcases Nat.lt_trichotomy (O.ch m).length ys.length with hcmp | hcmp | hcmp
        ·
         have HN2:Hid (D7 S m xs (k+1)=O.ch m):=by show _=_;rw [HST2.out,decide_eq_true hcmp];rfl
         have hL1:=HLM.out;have hL2:=HYN.out;have hlm:m'' m<n:=(by omega);have hdd:decide (m'' m<n)=true:=(by simp;omega);clear hL1 hL2
         go_wp2
         go_roundw
         case rel=>exact ⟨k+1,p' m,m'' m,d' m,O.ch m,p',m'',d',by omega,by go_num,rfl,(HWP.out.sl (t:=m) (by omega)).2.trans (B6 _),HN2.out.symm,HWP.out.ok m (by omega),by rw [HO1.out];exact HWP.out⟩
         case measure=>simp [intOf];omega
        ·
         have HST3:Hid (D7 S m xs (k+1)=if bb=true then O.ch m else ys):=by show _=_;rw [HST2.out,decide_eq_false (by omega),decide_eq_true hcmp];simp
         have hcmp2:(O.ch m).length≤ys.length∧ys.length≤(O.ch m).length:=by omega
         clear hcmp
         cases bb with
         | true =>
          have HN2:Hid (D7 S m xs (k+1)=O.ch m):=HST3.out
          have hL1:=HLM.out;have hL2:=HYN.out;have hlm:¬ m'' m<n:=(by omega);have hdd:decide (m'' m<n)=false:=(by simp;omega);have hde:((m'' m:Int) == (n:Int))=true:=(by simp;omega);clear hL1 hL2
          go_wp2_with (first | (go_at_call 110;refine (before_any (p' m) b (m'' m) n (d' m) c (ints (O.ch m)) (ints ys) _ (HWP.out.sl (t:=m) (by omega)).2 (HYN.out.trans (B6 _).symm) (HWP.out.sl (t:=m) (by omega)).1 HYP.out.sls.1 (by rw [B6];omega) (by rw [B6];omega)).mono ?_;rintro ee w4 ⟨he3,hb⟩;rw [HBB.out] at he3;subst he3;have HWP4:=A0 (HWP.out.below hb);have HYP4:=A0 (HYP.out.below hb HYP.out.lt);obtain ⟨hzB,hcB,hfB⟩:=BL hb (by first | (simp only [World.size_setCell];rfl) | rfl);clear hb) | fail)
          go_roundw
          case rel=>exact ⟨k+1,p' m,m'' m,d' m,O.ch m,p',m'',d',by omega,by go_num,rfl,(HWP4.out.sl (t:=m) (by omega)).2.trans (B6 _),HN2.out.symm,HWP4.out.ok m (by omega),by rw [HO1.out];exact HWP4.out⟩
          case measure=>simp [intOf];omega
         | false =>
          have HN2:Hid (D7 S m xs (k+1)=ys):=HST3.out
          have hL1:=HLM.out;have hL2:=HYN.out;have hlm:¬ m'' m<n:=(by omega);have hdd:decide (m'' m<n)=false:=(by simp;omega);have hde:((m'' m:Int) == (n:Int))=true:=(by simp;omega);clear hL1 hL2
          go_wp2_with (first | (go_at_call 110;refine (before_any (p' m) b (m'' m) n (d' m) c (ints (O.ch m)) (ints ys) _ (HWP.out.sl (t:=m) (by omega)).2 (HYN.out.trans (B6 _).symm) (HWP.out.sl (t:=m) (by omega)).1 HYP.out.sls.1 (by rw [B6];omega) (by rw [B6];omega)).mono ?_;rintro ee w4 ⟨he3,hb⟩;rw [HBB.out] at he3;subst he3;have HWP4:=A0 (HWP.out.below hb);have HYP4:=A0 (HYP.out.below hb HYP.out.lt);obtain ⟨hzB,hcB,hfB⟩:=BL hb (by first | (simp only [World.size_setCell];rfl) | rfl);clear hb) | fail)
          go_roundw
          case rel=>exact ⟨k+1,b,n,c,ys,p',m'',d',by omega,by go_num,rfl,HYN.out,HN2.out.symm,HYP4.out,by rw [HO1.out];exact HWP4.out⟩
          case measure=>simp [intOf];omega
        ·
         have HN2:Hid (D7 S m xs (k+1)=ys):=by show _=_;rw [HST2.out,decide_eq_false (by omega),decide_eq_false (by omega)];rfl
         have hL1:=HLM.out;have hL2:=HYN.out;have hlm:¬ m'' m<n:=(by omega);have hdd:decide (m'' m<n)=false:=(by simp;omega);have hde:((m'' m:Int) == (n:Int))=false:=(by simp;omega);clear hL1 hL2
         go_wp2
         go_roundw
         case rel=>exact ⟨k+1,b,n,c,ys,p',m'',d',by omega,by go_num,rfl,HYN.out,HN2.out.symm,HYP.out,by rw [HO1.out];exact HWP.out⟩
         case measure=>simp [intOf];omega
     ·
      obtain rfl:k=mm:=by omega
      have hlk2:¬ (k:Int)<S.modes:=by have:=HMM.out;omega
      have HN2:Hid (ys=G2 S (m+1)):=by show _=_;rw [G2,← HXS.out,HM.out];exact HYS0.out
      clear hwb
      go_wp2
      go_roundw
      case rel=>exact ⟨m+1,b,n,c,ys,by omega,by go_num,rfl,HYN.out,HN2.out,HYS.out,hbw⟩
      case measure=>simp [intOf];omega
  ·
   obtain rfl:m=mm:=by omega
   have hlt2:¬ (m:Int)<S.modes:=by have:=HMM.out;omega
   go_wp2
   go_ret
   exact ⟨.slice b n c,rfl,by rw [Et,HM.out,← HXS.out];exact HCH.out,hB⟩
open Classical in
noncomputable def Ej (S:Sch):Rp:=if validB S=true then ⟨Dg S S.rules.length,CD S,Et S⟩ else ⟨[],[],[]⟩
structure LT (w M:World) (g:Nat) (v1 v2 v3:Value) (x1 x2 x3:List Nat) (wr:World):Prop where
 rep:wr.heap[g]? = some (.cells #[v1,v2,v3] 108 (0,0))
 d1:Ch wr w.heap.size v1 x1
 d2:Ch wr w.heap.size v2 x2
 d3:Ch wr w.heap.size v3 x3
 gm:w.heap.size+2≤g
 bl:Below (w.heap.size+2) M wr
section
variable {w M:World} {g B1:Nat} {v1 v2 v3 v:Value} {x1 x2 x3 x:List Nat} {wr w1:World}
theorem LS.lt (h:LS w M g B1 v1 v2 v3 x1 x2 x3 wr):LT w M g v1 v2 v3 x1 x2 x3 wr :=
 ⟨h.rep,h.d1.mono (by have:=h.gB;have:=h.gm;omega),h.d2,h.d3,h.gm,h.bl⟩
theorem LT.below (h:LT w M g v1 v2 v3 x1 x2 x3 wr) (hb:Below wr.heap.size wr w1):LT w M g v1 v2 v3 x1 x2 x3 w1:=by
 have hg:g<wr.heap.size:=(A5.1 h.rep).1
 exact ⟨(hb.block g hg).trans h.rep,h.d1.below hb h.d1.lt,h.d2.below hb h.d2.lt,h.d3.below hb h.d3.lt,h.gm,h.bl.trans (hb.mono (by have:=h.gm;omega))⟩
theorem LT.set1 (h:LT w M g v1 v2 v3 x1 x2 x3 wr) (hv:Ch wr w.heap.size v x):LT w M g v1 v v3 x1 x x3 (wr.setCell ⟨g,1,none⟩ v) :=
 ⟨Aq h.rep rfl,Dc h.d1 h.rep,Dc hv h.rep,Dc h.d3 h.rep,h.gm,h.bl.setCell h.gm _⟩
theorem LT.set2 (h:LT w M g v1 v2 v3 x1 x2 x3 wr) (hv:Ch wr w.heap.size v x):LT w M g v1 v2 v x1 x2 x (wr.setCell ⟨g,2,none⟩ v) :=
 ⟨Aq h.rep rfl,Dc h.d1 h.rep,Dc h.d2 h.rep,Dc hv h.rep,h.gm,h.bl.setCell h.gm _⟩
theorem LT.cells (h:LT w M g v1 v2 v3 x1 x2 x3 wr):wr.cell? ⟨g,0,none⟩=some v1∧wr.cell? ⟨g,1,none⟩=some v2∧wr.cell? ⟨g,2,none⟩=some v3:=cells3 h.rep
theorem LT.gf (h:LT w M g v1 v2 v3 x1 x2 x3 wr) (i:Nat):wr.frozen? ⟨g,i,none⟩=false:=by simp [World.frozen?,h.rep]
end
set_option maxHeartbeats 3200000 in
theorem
    rfind_any (S:Sch) (a:Option Addr) (cap:Nat) (w:World) (hR:BJ w a S.rules) (h0:0≤S.acc) (h1:S.acc≤255) (hl:S.rules.length≤9223372036854775807) (hS:validB S=true→Fit S) :
  Calls Tryz.prog 55 #[.agg #[.int .i64 S.modes,.int .u8 S.acc,.slice a S.rules.length cap]] w fun e w'=>∃ v1 v2 v3,e=.returned (.agg #[v1,v2,v3])∧Ch w' w.heap.size v1 (Ej S).dead∧Ch w' w.heap.size v2 (Ej S).stuck∧Ch w' w.heap.size v3 (Ej S).endl∧Below w.heap.size w w':=by
 have HR:=A0 hR;have HS:=A0 hS;clear hR hS
 by_cases hv:validB S=true
 ·
  have hFit:=HS.out hv
  have HV:=A0 hv
  have HF:Hid (Ej S=⟨Dg S S.rules.length,CD S,Et S⟩):=by show _=_;rw [Ej,if_pos hv]
  clear hv
  go_enter Tryz.func55,Tryz.ntmps55
  have HLS0:Hid (LS w ((w.alloc (.cells #[.int .i64 S.modes,.int .u8 S.acc,.slice a S.rules.length cap] 32)).alloc (.cells #[.slice none 0 0,.slice none 0 0,.slice none 0 0] 108)) (w.heap.size+1+1) (w.heap.size+3) (.slice none 0 0) (.slice none 0 0) (.slice none 0 0) [] [] [] (((w.alloc (.cells #[.int .i64 S.modes,.int .u8 S.acc,.slice a S.rules.length cap] 32)).alloc (.cells #[.slice none 0 0,.slice none 0 0,.slice none 0 0] 108)).alloc (.cells #[.slice none 0 0,.slice none 0 0,.slice none 0 0] 108))) :=
   ⟨(by have:=heap_alloc_new ((w.alloc (.cells #[.int .i64 S.modes,.int .u8 S.acc,.slice a S.rules.length cap] 32)).alloc (.cells #[.slice none 0 0,.slice none 0 0,.slice none 0 0] 108)) (.cells #[.slice none 0 0,.slice none 0 0,.slice none 0 0] 108);simpa using this),Ch.nil _ _,Ch.nil _ _,Ch.nil _ _,(fun b hb=>(by cases hb)),(fun b hb=>(by cases hb)),(by omega),(by omega),(by simp only [A6];omega),(by go_grown)⟩
  go_wp2_with (first
   | (go_at_call 54;refine (Bj S a cap _ (HR.out.later (by first | exact hB | go_grown) (A3 _)) h0 h1 hl).mono ?_;rintro e w1 ⟨he,hb⟩;rw [HV.out] at he;subst he;have HLS1:=A0 (HLS0.out.below hb);obtain ⟨hz,hc,hf⟩:=BL hb (by first | (simp only [A6,World.size_setCell,World.size_drew];rfl) | rfl);have hB:=Al (B:=w.heap.size) (w:=w) (by first | exact hB | go_grown) hb (A3 _);clear hb)
   | fail)
  clear hz hc hf
  obtain ⟨i0,hi,hz0,hz1,hz2⟩:=info_parts Id
  have hlen:=hFit.len
  go_loopw [5] (fun i wr=>∃ (k:Nat) (a1:Option Addr) (n1 c1:Nat),k≤S.rules.length∧i=.int .i64 k∧LS w ((w.alloc (.cells #[.int .i64 S.modes,.int .u8 S.acc,.slice a S.rules.length cap] 32)).alloc (.cells #[.slice none 0 0,.slice none 0 0,.slice none 0 0] 108)) (w.heap.size+1+1) (w.heap.size+3) (.slice a1 n1 c1) (.slice none 0 0) (.slice none 0 0) (Dg S k) [] [] wr) (fun i _=>S.rules.length - (intOf i).toNat)
  case atStart=>exact ⟨0,none,0,0,by omega,rfl,HLS1.out⟩
  case round =>
   clear hB
   obtain ⟨k,a1,n1,c1,hk,rfl,hls⟩:=hrel
   have hal:=hls.bl
   have hB:Below w.heap.size w wr:=(((Below.refl _ _).alloc (A3 _) _).alloc (by simp) _).trans (hal.mono (by omega))
   obtain ⟨hz,hc,hf⟩:=B7 hal rfl
   simp only [A6] at hz
   have HLS:=A0 hls;clear hls
   by_cases hlt:k<S.rules.length
   ·
    obtain ⟨dd,hdd⟩:∃ dd,Ie (Cb S) (BA S) S.rules[k]=dd:=⟨_,rfl⟩
    have HDD:=A0 hdd
    have HDS:Hid (Dg S (k+1)=if dd then Dg S k ++ [k] else Dg S k):=by show _=_;rw [MY S k hlt,HDD.out]
    clear hdd
    by_cases hd:dd=true
    ·
     subst hd
     have HL1:Hid ((Dg S k).length+1≤100):=by have:=OD S k;show _≤_;omega
     go_wp2_with (first
      | (go_at_call 84;refine (rdead_any S a cap k _ (HR.out.later (by first | exact hB | go_grown) (A3 _)) hFit hlt).mono ?_;rintro e w3 ⟨he,hb⟩;rw [HDD.out] at he;subst he;have HLS3:=A0 (HLS.out.below hb);have hg0:=HLS3.out.g0;have HLS4:=A0 (HLS3.out.below ((Below.refl _ _).alloc (A3 _) (.cells #[.int .i64 (k:Int)] 3)));obtain ⟨hz,hc,hf⟩:=BL hb (by first | (simp only [A6,World.size_setCell,World.size_drew];rfl) | rfl);have hB:=Al (B:=w.heap.size) (w:=w) (by first | exact hB | go_grown) hb (A3 _);clear hb)
      | (at_builtin;refine wpList_append_own _ rfl _ _ 79 rfl (w.heap.size+3) 3 i0 (.int .i64 0) 1 8 Tryz.underlying79 hi hz0 hz1 hz2 rfl (by decide) (.slice a1 n1 c1) (Dg S k).length (G9 (Dg S k)) rfl HLS4.out.d1 ⟨w3.heap.size,0,none⟩ 1 1 [.int .i64 (k:Int)] rfl rfl (cell_one_new _ _ _) (by simp [Value.oneCell']) (by have:=HL1.out;unfold maxLen;omega) (by have:=HL1.out;omega) (by exact HLS4.out.bB) ?_;intro v5 w5 hown5 hgrow5 _;have HC5:=A0 (Nc hown5);obtain ⟨a5,n5,c5,hv5⟩:=HC5.out.form;subst hv5;have hcl:=HLS4.out.cells hgrow5 (fun b hb=>HLS4.out.d1.ge b hb);obtain ⟨hcl0,hclf⟩:=hcl;have HLS6:=A0 (HLS4.out.grown hgrow5 (fun b hb=>HLS4.out.d1.ge b hb) HC5.out);clear hown5 hgrow5)
      | fail)
     go_roundw
     case rel=>exact ⟨k+1,a5,n5,c5,by omega,by go_num,by rw [HDS.out];first | exact HLS6.out | (simp only [if_true];exact HLS6.out)⟩
     case measure=>simp [intOf];omega
    ·
     obtain rfl:dd=false:=by simpa using hd
     clear hd
     go_wp2_with (first
      | (go_at_call 84;refine (rdead_any S a cap k _ (HR.out.later (by first | exact hB | go_grown) (A3 _)) hFit hlt).mono ?_;rintro e w3 ⟨he,hb⟩;rw [HDD.out] at he;subst he;have HLS3:=A0 (HLS.out.below hb);obtain ⟨hz,hc,hf⟩:=BL hb (by first | (simp only [A6,World.size_setCell,World.size_drew];rfl) | rfl);have hB:=Al (B:=w.heap.size) (w:=w) (by first | exact hB | go_grown) hb (A3 _);clear hb)
      | fail)
     go_roundw
     case rel=>exact ⟨k+1,a1,n1,c1,by omega,by go_num,by rw [HDS.out];first | exact HLS3.out | (simp only [if_false];exact HLS3.out) | (simp;exact HLS3.out)⟩
     case measure=>simp [intOf];omega
   ·
    obtain rfl:k=S.rules.length:=by omega
    have HT:=A0 HLS.out.lt
    go_wp2_with (first
     | (go_at_call 85;refine (rstuck_any S a cap _ (HR.out.later (by first | exact hB | go_grown) (A3 _)) hFit).mono ?_;rintro e w3 ⟨v,rfl,hch,hb⟩;obtain ⟨a2,n2,c2,hv2⟩:=hch.form;subst hv2;have HT3:=A0 (HT.out.below hb);obtain ⟨y0,y1,y2⟩:=HT3.out.cells;have yf:=HT3.out.gf;have HT4:=A0 (HT3.out.set1 (hch.mono hB.size));clear hch;obtain ⟨hz,hc,hf⟩:=BL hb (by first | (simp only [A6,World.size_setCell,World.size_drew];rfl) | rfl);have hB:=Al (B:=w.heap.size) (w:=w) (by first | exact hB | go_grown) hb (A3 _);clear hb)
     | (go_at_call 86;refine (rendless_any S a cap _ (HR.out.later (by first | exact hB | go_grown) (A3 _)) hFit).mono ?_;rintro e w4 ⟨v,rfl,hch,hb⟩;obtain ⟨a3,n3,c3,hv3⟩:=hch.form;subst hv3;have HT5:=A0 (HT4.out.below hb);clear y0 y1 y2 yf;obtain ⟨y0,y1,y2⟩:=HT5.out.cells;have yf:=HT5.out.gf;have HT6:=A0 (HT5.out.set2 (hch.mono (by have:=hB.size;simp only [World.size_setCell];omega)));obtain ⟨u0,u1,u2⟩:=HT6.out.cells;clear hch;obtain ⟨hz,hc,hf⟩:=BL hb (by first | (simp only [A6,World.size_setCell,World.size_drew];rfl) | rfl);have hB:=Al (B:=w.heap.size) (w:=w) (by first | exact hB | go_grown) hb (A3 _);clear hb)
     | fail)
    have hrb:(w4.setCell ⟨w.heap.size+1+1,2,none⟩ (.slice a3 n3 c3)).heap[w.heap.size+1]? = some (.cells #[.slice none 0 0,.slice none 0 0,.slice none 0 0] 108 (0,0)):=by
     refine (HT6.out.bl.block (w.heap.size+1) (by omega)).trans ?_
     have:=heap_alloc_new (w.alloc (.cells #[.int .i64 S.modes,.int .u8 S.acc,.slice a S.rules.length cap] 32)) (.cells #[.slice none 0 0,.slice none 0 0,.slice none 0 0] 108)
     simpa using this
    obtain ⟨r0,r1,r2⟩:=cells3 (LO (a:=.slice a1 n1 c1) (b:=.slice a2 n2 c2) (c:=.slice a3 n3 c3) hrb)
    refine bodyPost_ret (v:=.agg #[.slice a1 n1 c1,.slice a2 n2 c2,.slice a3 n3 c3]) (by simp [results,Tryz.results55,go_sem,r0,r1,r2]) rfl ⟨_,_,_,rfl,?_,?_,?_,?_⟩
    · rw [HF.out];exact KY HT6.out.d1 hrb
    · rw [HF.out];exact KY HT6.out.d2 hrb
    · rw [HF.out];exact KY HT6.out.d3 hrb
    · exact (((hB.setCell (by simp;omega) _).setCell (by simp) _).setCell (by simp) _).setCell (by simp) _
 ·
  have hv':validB S=false:=by simpa using hv
  have HV:=A0 hv'
  have HF:Hid (Ej S=⟨[],[],[]⟩):=by show _=_;rw [Ej,if_neg hv]
  clear hv hv'
  go_enter Tryz.func55,Tryz.ntmps55
  go_wp2_with (first
   | (go_at_call 54;refine (Bj S a cap _ (HR.out.later (by first | exact hB | go_grown) (A3 _)) h0 h1 hl).mono ?_;rintro e w1 ⟨he,hb⟩;rw [HV.out] at he;subst he;have hal:=hb.mono (show w.heap.size+2≤_ by simp only [A6];omega);obtain ⟨hz,hc,hf⟩:=BL hb (by first | (simp only [A6,World.size_setCell,World.size_drew];rfl) | rfl);have hB:=Al (B:=w.heap.size) (w:=w) (by first | exact hB | go_grown) hb (A3 _);clear hb)
   | fail)
  have hrb:w1.heap[w.heap.size+1]? = some (.cells #[.slice none 0 0,.slice none 0 0,.slice none 0 0] 108 (0,0)):=by
   refine (hal.block (w.heap.size+1) (by omega)).trans ?_
   have:=heap_alloc_new (w.alloc (.cells #[.int .i64 S.modes,.int .u8 S.acc,.slice a S.rules.length cap] 32)) (.cells #[.slice none 0 0,.slice none 0 0,.slice none 0 0] 108)
   rw [Below.heap_alloc _ _ _ (by simp)]
   simpa using this
  obtain ⟨r0,r1,r2⟩:=cells3 (LO (a:=.slice none 0 0) (b:=.slice none 0 0) (c:=.slice none 0 0) hrb)
  refine bodyPost_ret (v:=.agg #[.slice none 0 0,.slice none 0 0,.slice none 0 0]) (by simp [results,Tryz.results55,go_sem,r0,r1,r2]) rfl ⟨_,_,_,rfl,?_,?_,?_,?_⟩
  · rw [HF.out];exact Ch.nil _ _
  · rw [HF.out];exact Ch.nil _ _
  · rw [HF.out];exact Ch.nil _ _
  · exact ((hB.setCell (by simp) _).setCell (by simp) _).setCell (by simp) _
end Go.Proofs.YthjmdgejnakcmaaGreatDoor.Fl
