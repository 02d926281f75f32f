/- Texts that the claims share: DAll, DColl, DEq, DWords, DRefQ. -/
import Derived.RangeFuncNested
import Derived.RangeFuncBound
import Derived.RangeFuncCalls
import Derived.RangeFuncLeaves
import Derived.Shelf.Abstract
import Derived.OwnWalkIn
import Derived.TacticsInMore
import Derived.LoopNIn
import Derived.LoopIn
import Derived.RangeFuncBox
import Derived.Maps.AppendAt
import Derived.Test.YthjmdgejnakcmaaGreatDoorMD4
import Derived.Test.YthjmdgejnakcmaaGreatDoorMD1
set_option maxHeartbeats 2000000
set_option maxRecDepth 100000
set_option linter.unusedVariables false
set_option linter.unusedSimpArgs false
namespace Go.Proofs.YthjmdgejnakcmaaGreatDoor
open Go.RowKit Go.WideShapes
def Ix (D:List Nd) (i:Int) (ws:List UInt8):Bool :=
 decide (i<0) || decide ((D.length:Int)≤i) || decide (20<ws.length) || (!(D.getD i.toNat default).fin && decide ((D.getD i.toNat default).arcs=[]))
def EB (rec:Int→List UInt8→List (ByteArray × Bool) × Bool) (ws:List UInt8):List Ar→List (ByteArray × Bool) × Bool
 | []=>([],true)
 | x :: r=>if (rec x.t (ws ++ [UInt8.ofNat x.c.toNat])).2=true then ((rec x.t (ws ++ [UInt8.ofNat x.c.toNat])).1 ++ (EB rec ws r).1,(EB rec ws r).2) else ((rec x.t (ws ++ [UInt8.ofNat x.c.toNat])).1,false)
def
  visitL (D:List Nd):Nat→Int→List UInt8→List (ByteArray × Bool) × Bool
 | 0,_,_=>([],true)
 | m+1,i,ws=>if Ix D i ws=true then ([(⟨#[]⟩,false)],false)
  else ((if (D.getD i.toNat default).fin=true then [(⟨ws.toArray⟩,true)] else []) ++ (EB (visitL D m) ws (D.getD i.toNat default).arcs).1,(EB (visitL D m) ws (D.getD i.toNat default).arcs).2)
def Dh (W:World) (a:Option Addr) (l:List UInt8):Prop:=(a=none∧l=[])∨∃ b cs,a=some ⟨b,0,none⟩∧W.heap[b]? = some (.cells cs 5 (0,0))∧cs.toList.take l.length=l.map fun c=>Value.int .u8 (c.toNat:Int)
theorem Dh.nil (W:World):Dh W none []:=.inl ⟨rfl,rfl⟩
theorem Dh.keep {W W':World} {a:Option Addr} {l:List UInt8} (h:Dh W a l) (hk:∀ (b:Nat) (cs:Array Value),W.heap[b]? = some (.cells cs 5 (0,0))→W'.heap[b]? = W.heap[b]?):Dh W' a l:=by
 rcases h with h | ⟨b,cs,h1,h2,h3⟩
 · exact .inl h
 · exact .inr ⟨b,cs,h1,(hk b cs h2).trans h2,h3⟩
theorem Dh.cells {W:World} {b:Nat} {l:List UInt8} (h:Dh W (some ⟨b,0,none⟩) l):∀ j v,(l.map fun c=>Value.int .u8 (c.toNat:Int))[j]? = some v→W.cell? ((⟨b,0,none⟩:Addr).add j)=some v:=by
 rcases h with ⟨h,_⟩ | ⟨b',cs,h1,h2,h3⟩
 · cases h
 ·injection h1 with h1;injection h1 with h1;subst h1;intro j v hj;rw [← h3] at hj;have hlt:=(List.getElem?_eq_some_iff.1 hj).1;rw [List.getElem?_take] at hj;split at hj
  ·rw [GD,Nat.zero_add,cell_of_row _ _ _ _ _ _ h2];simpa using hj
  · cases hj
theorem conv_bytes {W:World} {a:Option Addr} {l:List UInt8} (h:Dh W a l) (c:Nat):(convert 26 9 (.slice a l.length c)).run Tryz.prog W=.ok (.string ⟨l.toArray⟩) W:=by
 rcases id h with ⟨rfl,rfl⟩ | ⟨b,cs,rfl,h2,h3⟩
 · exact run_convert_bytes_nil W 26 5 Tryz.underlying26 Tryz.underlying5 0 c 9 Tryz.underlying9
 ·have:=run_convert_bytes_arg W 26 5 Tryz.underlying26 Tryz.underlying5 b 0 l.length c (l.map fun c=>(c.toNat:Int)) (by simp) (fun i hi=>by
   have hc:=h.cells i (.int .u8 (l[i].toNat:Int)) (by simp [hi]);rw [GD] at hc;rw [hc];simp [Ab,hi]) 9 Tryz.underlying9
  refine this.trans ?_;have e0:((l.map fun c=>(c.toNat:Int)).map fun n=>UInt8.ofNat n.toNat)=l:=by
   rw [List.map_map];have h1:((fun n:Int=>UInt8.ofNat n.toNat) ∘ fun c:UInt8=>(c.toNat:Int))=id:=by
    funext c;show UInt8.ofNat ((c.toNat:Int).toNat)=c;rw [Int.toNat_natCast,UInt8.ofNat_toNat]
   rw [h1,List.map_id]
  have e:strOfNums (l.map fun c=>(c.toNat:Int))=⟨l.toArray⟩:=by
   unfold strOfNums;rw [e0]
  rw [e]
theorem OR (a:Option Addr) (n c:Nat) (hn:n≤c) (ha:a=none→n=0) (w:World) :
  (Instr.slice 26 (.slice a n c) none (some (.int .i64 (n:Int))) (some (.int .i64 (n:Int)))).run Tryz.prog w=.ok (.slice a n n) w:=by
 have h0:(0:Int)≤(n:Int):=by omega
 have h1:(n:Int)≤(c:Int):=by omega
 cases a with
 | none =>
  obtain rfl:=ha rfl;simp [go_sem,Instr.slice,Instr.sliceBounds,Instr.sliceBound,asIntOf]
 | some p=>simp [go_sem,Instr.slice,Instr.sliceBounds,Instr.sliceBound,asIntOf,h0,h1];intro h;omega
theorem TI:(Tryz.prog.info? 5).map (fun i=>(i.zero,i.size,i.bytes))=some (some (.int .u8 0),1,1):=by kernel_rfl
theorem V6 {W:World}:Ext W W.drew:=(Below.refl _ W).drew
theorem Rx {W:World} {a:Option Addr} {l:List UInt8} (h:Dh W a l) (hl:l.length≤1000) (x:UInt8) (g:Nat) (hg:W.heap[g]? = some (.cells #[.int .u8 (x.toNat:Int)] 5 (0,0))) (ty:TypeId) :
  ∃ c W',(Builtin.append_ #[26,26] ty #[.slice a l.length l.length,.slice (some ⟨g,0,none⟩) 1 1]).run Tryz.prog W=.ok (.slice (some ⟨W.heap.size,0,none⟩) (l ++ [x]).length c) W'∧Dh W' (some ⟨W.heap.size,0,none⟩) (l ++ [x])∧(l ++ [x]).length≤c∧Ext W W':=by
 obtain ⟨i0,hi,jc,jb,jd⟩:=info_parts TI;have hn:∀ j v,([Value.int .u8 (x.toNat:Int)]:List Value)[j]? = some v→W.cell? ((⟨g,0,none⟩:Addr).add j)=some v:=fun j v hj=>by
  rw [GD,Nat.zero_add,cell_of_row _ _ _ _ _ _ hg];simpa using hj
 have hx:∀ o,Ext W (W.drew.alloc o):=fun o=>V6.alloc (by exact A7 _) _;rcases id h with ⟨rfl,rfl⟩ | ⟨b,cs,rfl,h2,h3⟩
 ·have hr:=run_append_nil (P:=Tryz.prog) (w:=W) 26 ty 5 i0 (.int .u8 0) Tryz.underlying26 hi jc ⟨g,0,none⟩ 1 1 [.int .u8 (x.toNat:Int)] (by rw [jb];rfl) hn (by omega) (by omega) (by rw [jd];omega);have ja:=grownCap_ge W 1 0 5;refine ⟨_,_,hr,.inr ⟨_,_,rfl,heap_alloc_new W.drew _,?_⟩,ja,hx _⟩;simp
 ·have hr:=run_append_grow (P:=Tryz.prog) (w:=W) 26 ty 5 i0 (.int .u8 0) Tryz.underlying26 hi jc ⟨b,0,none⟩ l.length l.length (l.map fun c=>Value.int .u8 (c.toNat:Int)) (by rw [jb];simp) h.cells ⟨g,0,none⟩ 1 1 [.int .u8 (x.toNat:Int)] (by rw [jb];rfl) hn (by omega) (by omega) (growslice_fits (by omega) (by rw [jd];omega));have ja:=grownCap_ge W (l.length+1) l.length 5;rw [show (l ++ [x]).length=l.length+1 by simp];refine ⟨grownCap W (l.length+1) l.length 5,_,hr,.inr ⟨_,_,rfl,heap_alloc_new W.drew _,?_⟩,ja,hx _⟩;simp only [Builtin.zeroCells,List.append_toArray,Array.toList_append,AF,List.map_append];simp [List.take_append,AM]
def Kp (n₀:Nat) (W W':World):Prop:=Below n₀ W W'∧∀ (q:Nat) (cs:Array Value) (t:TypeId) (fz:Nat × Nat),W.heap[q]? = some (.cells cs t fz)→t≠9→t≠37→t≠4→W'.heap[q]? = W.heap[q]?
theorem Kp.trans {n₀:Nat} {A B C:World} (h:Kp n₀ A B) (h2:Kp n₀ B C):Kp n₀ A C :=
 ⟨h.1.trans h2.1,fun q cs t fz hq h3 h4 h5=>by
  have e:=h.2 q cs t fz hq h3 h4 h5;exact (h2.2 q cs t fz (e.trans hq) h3 h4 h5).trans e⟩
theorem Kp.of_ext {n₀:Nat} {A B:World} (h:Ext A B) (hn:n₀≤A.heap.size):Kp n₀ A B:=⟨Below.mono h hn,fun q cs t fz hq _ _ _=>Below.block h q (A9.1 hq).1⟩
theorem Kp.refl (n₀:Nat) (A:World):Kp n₀ A A:=⟨Below.refl _ _,fun _ _ _ _ _ _ _ _=>rfl⟩
theorem Kp.obj {n₀:Nat} {W:World} (hn:n₀≤W.heap.size) (X:World) (l:Nat) (o o':Obj) (hl:W.heap.size≤l) (h:X.heap[l]? = some o) (ho:o.isCells=false) (hw:o.isWalk=false):Kp n₀ X (X.putObj l o') :=
 ⟨belowK_b hn X l o o' hl h ho hw,fun q cs t fz hq _ _ _=>by
  have ja:q≠l:=fun e=>by subst e;rw [hq] at h;injection h with h;subst h;cases ho
  exact World.putObj_heap_other ja⟩
theorem Dh.kp {n₀:Nat} {W W':World} {a:Option Addr} {l:List UInt8} (h:Dh W a l) (hk:Kp n₀ W W'):Dh W' a l:=h.keep fun b cs hb=>hk.2 b cs _ _ hb (by decide) (by decide) (by decide)
structure VBy (l gD gY gV:Nat) (aD:Option Addr) (nD cD:Nat) (W:World):Prop where
 dd:W.heap[gD]? = some (.cells #[.slice aD nD cD] 35 (0,0))
 yy:W.heap[gY]? = some (.cells #[.func (.yield l) #[] #[]] 208 (0,0))
 vv:W.heap[gV]? = some (.cells #[.func (.func 128) #[] #[.pointer (some ⟨gD,0,none⟩),.pointer (some ⟨gY,0,none⟩),.pointer (some ⟨gV,0,none⟩)]] 209 (0,0))
theorem VBy.kp {n₀ l gD gY gV:Nat} {aD:Option Addr} {nD cD:Nat} {W W':World} (h:VBy l gD gY gV aD nD cD W) (hk:Kp n₀ W W'):VBy l gD gY gV aD nD cD W' :=
 ⟨(hk.2 _ _ _ _ h.dd (by decide) (by decide) (by decide)).trans h.dd,(hk.2 _ _ _ _ h.yy (by decide) (by decide) (by decide)).trans h.yy,(hk.2 _ _ _ _ h.vv (by decide) (by decide) (by decide)).trans h.vv⟩
theorem VBy.cells {l gD gY gV:Nat} {aD:Option Addr} {nD cD:Nat} {W:World} (h:VBy l gD gY gV aD nD cD W):W.cell? ⟨gD,0,none⟩=some (.slice aD nD cD)∧W.cell? ⟨gY,0,none⟩=some (.func (.yield l) #[] #[])∧W.cell? ⟨gV,0,none⟩=some (.func (.func 128) #[] #[.pointer (some ⟨gD,0,none⟩),.pointer (some ⟨gY,0,none⟩),.pointer (some ⟨gV,0,none⟩)]) :=
 ⟨Dp h.dd,Dp h.yy,Dp h.vv⟩
theorem YieldAt.anyD {m:Nat} (m':Nat) {P:Program} {l:Nat} {args:Array Value} {W:World} {R:Ending→World→Prop} (h:YieldAt Fence.wide m P l args W R):YieldAt Fence.wide m' P l args W R:=by
 obtain ⟨fn,tmps,assign,body,hy,hR⟩:=h;exact ⟨fn,tmps,assign,body,hy,hR.1,fun c cs _=>hR.2 c cs (room_wide _)⟩
def Ke (J:List (ByteArray × Bool)→World→Prop):Prop:=∀ s W W',J s W→Ext W W'→J s W'
theorem Ke.of {B:Nat} {J:List (ByteArray × Bool)→World→Prop} (h:AbidesFrom B J):Ke J:=fun s W W' hs hx =>
 h s W W' none hs ⟨hx.os,hx.tape,hx.output,hx.size,fun k hk _=>hx.block k hk⟩ (fun r e=>by cases e)
attribute [local go_sem] Oper.semAt_some
def Kf (D:List Nd):Prop:=∀ i (h:i<D.length),∀ x∈D[i].arcs,0≤x.c∧x.c≤255∧-9223372036854775808≤x.t∧x.t≤9223372036854775807
def V7 (n₀:Nat) (J Jx:List (ByteArray × Bool)→World→Prop) (q:List (ByteArray × Bool) × Bool) (pre:List (ByteArray × Bool)) (W:World) (e:Ending) (W':World):Prop :=
 (e=.returned (.bool true)∧q.2=true∧J (pre ++ q.1) W'∧Kp n₀ W W')∨(e=.returned (.bool false)∧q.2=false∧J (pre ++ q.1) W')∨(e=.returned (.bool false)∧∃ p,p <+: q.1∧Jx (pre ++ p) W')
def PV (b:Bool) (n₀:Nat) (J Jx:List (ByteArray × Bool)→World→Prop) (wz:World) (pre S:List (ByteArray × Bool)) (q:List (ByteArray × Bool) × Bool) (v:Value) (W:World):Prop :=
 (v=.bool b∧q.2=true∧J (pre ++ (S ++ q.1)) W∧Kp n₀ wz W)∨(v=.bool (!b)∧((q.2=false∧J (pre ++ (S ++ q.1)) W)∨∃ p,p <+: q.1∧Jx (pre ++ (S ++ p)) W))
theorem NP {b:Bool} {n₀:Nat} {J Jx:List (ByteArray × Bool)→World→Prop} (hJ:Ke J) (ja:Ke Jx) {wz:World} (hn:n₀≤wz.heap.size) {pre S:List (ByteArray × Bool)} {q:List (ByteArray × Bool) × Bool}:CQ (PV b n₀ J Jx wz pre S q):=by
 rintro v w w' (⟨h1,h2,h3,h4⟩ | ⟨h1,⟨h2,h3⟩ | ⟨p,h2,h3⟩⟩) hx
 · exact .inl ⟨h1,h2,hJ _ _ _ h3 hx,h4.trans (Kp.of_ext hx (AC hn h4.1.size))⟩
 · exact .inr ⟨h1,.inl ⟨h2,hJ _ _ _ h3 hx⟩⟩
 · exact .inr ⟨h1,.inr ⟨p,h2,ja _ _ _ h3 hx⟩⟩
def TJ (g n:Nat) (v:Value) (_:World):Prop:=∃ c,v=.slice (some ⟨g,0,none⟩) n c∧n≤c
theorem OS (g n:Nat):CQ (TJ g n):=fun _ _ _ h _=>h
theorem K3 {W:World} {A:Act} {o:Oper} {s y:Operand} {a:Option Addr} {l:List UInt8} {x:UInt8} {g:Nat} (h:Dh W a l) (hl:l.length≤1000) (hg:W.heap[g]? = some (.cells #[.int .u8 (x.toNat:Int)] 5 (0,0)))
  (ho:o.op=.call { callee:=.builtin .append,args:=#[s,y],argTypes:=#[26,26] }) (hs:A.eval s=.slice a l.length l.length) (hy:A.eval y=.slice (some ⟨g,0,none⟩) 1 1) :
  FP Tryz.prog A o W (fun v w'=>TJ W.heap.size (l ++ [x]).length v w'∧Dh w' (some ⟨W.heap.size,0,none⟩) (l ++ [x])∧Ext W w'):=by
 obtain ⟨c,W',hr,h1,h2,h3⟩:=Rx h hl x g hg o.type;refine .inl ⟨_,W',?_,⟨c,rfl,h2⟩,h1,h3⟩;unfold execOp;simp only [ho,resolve,invoke,builtin,Sem.run_bind,Sem.run_pure,Result.andThen_ok,List.map_toArray,List.map_cons,List.map_nil,hs,hy,hr]
def TV (n₀:Nat) (J:List (ByteArray × Bool)→World→Prop) (wz:World) (g s0:Nat) (cs:Array Value) (y:UInt8) (l:List UInt8) (pre:List (ByteArray × Bool)) (b1 b2 b3:Bool) (W:World):Prop :=
 match b3 with
 | false=>J pre W∧Kp n₀ wz W∧W.heap[g]? = some (.cells cs 155 (0,0))∧(b2=false→W.heap.size=s0+b1.toNat)∧(b1=true→W.heap[s0]? = some (.cells #[.int .u8 (y.toNat:Int)] 5 (0,0)))∧(b2=true→Dh W (some ⟨s0+1,0,none⟩) l)
 | true=>True
theorem TV.keep {n₀:Nat} {J:List (ByteArray × Bool)→World→Prop} (hJ:Ke J) {wz:World} (hn:n₀≤wz.heap.size) {g s0:Nat} {cs:Array Value} {y:UInt8} {l:List UInt8} {pre:List (ByteArray × Bool)} {w w':World} {b1 b2:Bool} (h:TV n₀ J wz g s0 cs y l pre b1 b2 false w) (hx:Ext w w') :
  J pre w'∧Kp n₀ wz w'∧w'.heap[g]? = some (.cells cs 155 (0,0)) :=
 ⟨hJ _ _ _ h.1 hx,h.2.1.trans (Kp.of_ext hx (AC hn h.2.1.1.size)),(Below.block hx g (A9.1 h.2.2.1).1).trans h.2.2.1⟩
theorem Q8 {i:Int} (h:¬ i<0):∃ k:Nat,i=(k:Int):=⟨i.toNat,by omega⟩
theorem vis_any
        (l gD gY gV n₀ N:Nat) (aD:Option Addr) (cD:Nat) (D:List Nd) (wW:World) (hWB:wW.heap.size≤n₀) (hD:Cc wW aD D) (hDl:D.length≤9223372036854775807) (hC:Kf D)
  (J Jx:List (ByteArray × Bool)→World→Prop) (hJ:Ke J) (kd:Ke Jx)
  (hY:∀ pre (x:ByteArray × Bool) W,J pre W→pre.length<N→YieldAt Fence.wide 8 Tryz.prog l #[.string x.1,.bool x.2] W fun e W' =>
   (e=.returned (.bool true)∧J (pre ++ [x]) W'∧Kp n₀ W W')∨(e=.returned (.bool false)∧Jx (pre ++ [x]) W')) :
  ∀
   (m:Nat) (i:Int) (ws:List UInt8) (aw:Option Addr) (cw:Nat) (pre:List (ByteArray × Bool)) (W:World),m+ws.length=22→1≤m→Dh W aw ws→ws.length≤cw→VBy l gD gY gV aD D.length cD W→n₀≤W.heap.size→Below n₀ wW W→J pre W →
   pre.length+(visitL D m i ws).1.length≤N→Calls Tryz.prog 128 #[.int .i64 i,.slice aw ws.length cw,.pointer (some ⟨gD,0,none⟩),.pointer (some ⟨gY,0,none⟩),.pointer (some ⟨gV,0,none⟩)] W (V7 n₀ J Jx (visitL D m i ws) pre W):=by
 intro m
 induction m with
 | zero=>intro i ws aw cw pre W _ h;omega
 | succ m ih
       =>
  intro i ws aw cw pre W hm _ hB kO hV hn hW kc hN;obtain ⟨q,hq⟩:∃ q,visitL D (m+1) i ws=q:=⟨_,rfl⟩
  rw [hq] at hN ⊢;have jz:=A6 hY;have HJ:=A6 hJ;have kb:=A6 kd;have HD:=A6 hD;have HC:=A6 hC;have IH:=A6 ih;have HB:=A6 hB;have HV:=A6 hV;have HW:=A6 hW;have jw:=A6 kc;have HN:=A6 hN;have HQ:=A6 hq;clear hY hJ kd hD hC ih hB hV hW kc hN hq;obtain ⟨kM,kP,kN⟩:=HV.out.cells;by_cases j6:i<0
  ·have kA:=A6 j6;have je:q=([(⟨#[]⟩,false)],false):=by rw [← HQ.out,visitL,if_pos (by simp [Ix,kA.out])]
   obtain ⟨fn,tmps,assign,body,hy,hR⟩:=YieldAt.anyD 8 (jz.out pre (⟨#[]⟩,false) W jw.out (by have:=HN.out;rw [je] at this;simp at this;omega));dsimp only at hy;have jj:=A6 je;have HR:=A6 hR;clear je hR
   go_enter Tryz.func128,Tryz.ntmps128
   go_upto_region 2 with fail
   refine (wpIn_wide (n:=9)).1 ?_
   gi_wp2
   refine HR.out.mono ?_;rintro e W2 (⟨rfl,ja,jp⟩ | ⟨rfl,ja⟩)
   ·dsimp only
    apply_assumption -exfalso
    gi_wp2
    try apply_assumption -exfalso
    go_wp2_with fail
    go_ret;rw [jj.out];exact .inr (.inl ⟨rfl,rfl,ja⟩)
   ·dsimp only
    apply_assumption -exfalso
    gi_wp2
    try apply_assumption -exfalso
    go_wp2_with fail
    go_ret;rw [jj.out];exact .inr (.inr ⟨rfl,_,List.prefix_refl _,ja⟩)
  by_cases j4:(D.length:Int)≤i
  ·have kz:=A6 j4;have je:q=([(⟨#[]⟩,false)],false):=by rw [← HQ.out,visitL,if_pos (by simp [Ix,kz.out])]
   obtain ⟨fn,tmps,assign,body,hy,hR⟩:=YieldAt.anyD 8 (jz.out pre (⟨#[]⟩,false) W jw.out (by have:=HN.out;rw [je] at this;simp at this;omega));dsimp only at hy;have jj:=A6 je;have HR:=A6 hR;clear je hR
   go_enter Tryz.func128,Tryz.ntmps128
   go_upto_region 2 with fail
   refine (wpIn_wide (n:=9)).1 ?_
   gi_wp2
   refine HR.out.mono ?_;rintro e W2 (⟨rfl,ja,jp⟩ | ⟨rfl,ja⟩)
   ·dsimp only
    apply_assumption -exfalso
    gi_wp2
    try apply_assumption -exfalso
    go_wp2_with fail
    go_ret;rw [jj.out];exact .inr (.inl ⟨rfl,rfl,ja⟩)
   ·dsimp only
    apply_assumption -exfalso
    gi_wp2
    try apply_assumption -exfalso
    go_wp2_with fail
    go_ret;rw [jj.out];exact .inr (.inr ⟨rfl,_,List.prefix_refl _,ja⟩)
  obtain ⟨k,rfl⟩:=Q8 j6;have jQ:k<D.length:=by omega
  have hkI:¬ (D.length:Int)≤(k:Int):=j4;by_cases jX:20<ws.length
  ·have jY:(20:Int)<(ws.length:Int):=by omega
   have kt:=A6 jX;clear jX;have je:q=([(⟨#[]⟩,false)],false):=by rw [← HQ.out,visitL,if_pos (by simp [Ix,kt.out])]
   obtain ⟨fn,tmps,assign,body,hy,hR⟩:=YieldAt.anyD 8 (jz.out pre (⟨#[]⟩,false) W jw.out (by have:=HN.out;rw [je] at this;simp at this;omega));dsimp only at hy;have jj:=A6 je;have HR:=A6 hR;clear je hR
   go_enter Tryz.func128,Tryz.ntmps128
   go_upto_region 2 with fail
   refine (wpIn_wide (n:=9)).1 ?_
   gi_wp2
   refine HR.out.mono ?_;rintro e W2 (⟨rfl,ja,jp⟩ | ⟨rfl,ja⟩)
   ·dsimp only
    apply_assumption -exfalso
    gi_wp2
    try apply_assumption -exfalso
    go_wp2_with fail
    go_ret;rw [jj.out];exact .inr (.inl ⟨rfl,rfl,ja⟩)
   ·dsimp only
    apply_assumption -exfalso
    gi_wp2
    try apply_assumption -exfalso
    go_wp2_with fail
    go_ret;rw [jj.out];exact .inr (.inr ⟨rfl,_,List.prefix_refl _,ja⟩)
  have jY:¬ (20:Int)<(ws.length:Int):=by omega
  obtain ⟨bN,oN,kh,hbN,f0,aa,cc,f1,kf,jM⟩:=HD.out.at jQ;have hidxN:=GB aD bN oN D.length cD k kh jQ;have j5:D.getD k default=D[k]:=by rw [Ab,AE jQ];rfl
  have jL:=HC.out k jQ;obtain ⟨nd0,jE⟩:∃ nd0,D[k]=nd0:=⟨_,rfl⟩
  rw [jE] at f0 f1 kf jM j5 jL;obtain ⟨f,X⟩:=nd0;simp only at f0 f1 kf jM jL;have c0:=(HW.out.cell (p:=⟨bN,oN+k*2,none⟩) (by show bN<n₀;omega)).trans f0;have c1:=(HW.out.cell (p:=⟨bN,oN+k*2+1,none⟩) (by show bN<n₀;omega)).trans f1;have HF0:=A6 f0;have ky:=A6 f1;have kK:=A6 jM;have jU:=A6 j5;have kx:=A6 jL;clear f0 f1 jM j5 jL jE kh;by_cases jf:f=false∧X=[]
  ·obtain ⟨rfl,rfl⟩:=jf;have je:q=([(⟨#[]⟩,false)],false):=by rw [← HQ.out,visitL,if_pos (by unfold Ix;rw [Int.toNat_natCast,jU.out];simp)]
   obtain ⟨fn,tmps,assign,body,hy,hR⟩:=YieldAt.anyD 8 (jz.out pre (⟨#[]⟩,false) W jw.out (by have:=HN.out;rw [je] at this;simp at this;omega));dsimp only at hy;have jj:=A6 je;have HR:=A6 hR;clear je hR;simp only [List.length_nil] at c1
   go_enter Tryz.func128,Tryz.ntmps128
   go_upto_region 2 with fail
   refine (wpIn_wide (n:=9)).1 ?_
   gi_wp2
   refine HR.out.mono ?_;rintro e W2 (⟨rfl,ja,jp⟩ | ⟨rfl,ja⟩)
   ·dsimp only
    apply_assumption -exfalso
    gi_wp2
    try apply_assumption -exfalso
    go_wp2_with fail
    go_ret;rw [jj.out];exact .inr (.inl ⟨rfl,rfl,ja⟩)
   ·dsimp only
    apply_assumption -exfalso
    gi_wp2
    try apply_assumption -exfalso
    go_wp2_with fail
    go_ret;rw [jj.out];exact .inr (.inr ⟨rfl,_,List.prefix_refl _,ja⟩)
  have jy:=A6 jf;obtain ⟨L1,j0⟩:∃ L1:List (ByteArray × Bool),(if f=true then [(⟨ws.toArray⟩,true)] else [])=L1:=⟨_,rfl⟩
  obtain ⟨FA,jZ⟩:∃ FA,EB (visitL D m) ws X=FA:=⟨_,rfl⟩
  have kl:q=(L1 ++ FA.1,FA.2):=by
   rw [← HQ.out,visitL,if_neg (by unfold Ix;rw [Int.toNat_natCast,jU.out];simp;simp at jf;exact ⟨⟨by omega,by omega⟩,jf⟩),Int.toNat_natCast,jU.out,← j0,← jZ]
  have jq:=A6 kl;have jJ:=A6 j0;have Js:=A6 jZ;have hws:ws.length≤20:=by omega
  have kw:Hid (aw=none→ws.length=0):=fun e=>by
   rcases HB.out with ⟨_,h⟩ | ⟨b,cs,h,_⟩
   · rw [h];rfl
   · rw [e] at h;cases h
  clear kl j0 jZ jf jX j4 j6
  go_enter Tryz.func128,Tryz.ntmps128
  go_upto_region 1 with fail
  go_cut [39] (fun s39 wx=>∃ wz,wz=wx∧wz=W∧s39=.bool false)
  case first =>
   cases f with
   | true =>
    go_wp2
    go_meet
    exact ⟨_,rfl,rfl,rfl⟩
   | false =>
    have hx0:((X.length:Int) == 0)=false:=by
     have:=jy.out;cases X with
     | nil=>simp at this
     | cons=>simp;omega
    go_wp2
    go_meet
    exact ⟨_,rfl,rfl,rfl⟩
  case rest
       =>
   obtain ⟨wz,rfl,rfl,rfl⟩:=hcut
   apply_assumption -exfalso
   go_upto_region 4 with fail
   go_cut [53] (fun s53 wx=>∃ wz2,wz2=wx∧((s53=.bool false∧J (pre ++ L1) wz2∧Kp n₀ wz wz2)∨(s53=.bool true∧Jx (pre ++ L1) wz2)))
   case first =>
    cases f with
    | true =>
     obtain ⟨fn,tmps,assign,body,hy,hR⟩:=YieldAt.anyD 8 (jz.out pre (⟨ws.toArray⟩,true) wz jw.out (by have:=HN.out;rw [jq.out,← jJ.out] at this;simp at this;omega));dsimp only at hy;have HR:=A6 hR;clear hR;have hconv:=conv_bytes HB.out cw;refine (wpIn_wide (n:=9)).1 ?_
     gi_wp2
     refine HR.out.mono ?_;rintro e W2 (⟨rfl,ja,jp⟩ | ⟨rfl,ja⟩)
     ·dsimp only
      apply_assumption -exfalso
      gi_wp2
      go_meet
      exact ⟨_,rfl,.inl ⟨rfl,by rw [← jJ.out];exact ja,jp⟩⟩
     ·dsimp only
      apply_assumption -exfalso
      gi_wp2
      go_meet
      exact ⟨_,rfl,.inr ⟨rfl,by rw [← jJ.out];exact ja⟩⟩
    | false =>
     go_wp2
     go_meet
     exact ⟨_,rfl,.inl ⟨rfl,by rw [← jJ.out];simpa using jw.out,Kp.refl _ _⟩⟩
   case rest
        =>
    obtain ⟨wz2,rfl,kS⟩:=hcut
    apply_assumption -exfalso
    rcases kS with ⟨rfl,ja,jp⟩ | ⟨rfl,ja⟩
    ·have kI:=A6 (HV.out.kp jp);have kJ:=A6 (HW.out.trans jp.1);have kB:=A6 ja;have kD:=A6 jp;obtain ⟨hcd2, -, -⟩:=kI.out.cells;have c1b:=(kJ.out.cell (p:=⟨bN,oN+k*2+1,none⟩) (by show bN<n₀;omega)).trans ky.out;clear kM kP kN c0 c1 ja jp
     go_wp2_with fail
     go_loopw [60] (fun s60 wr=>∃ (j:Nat) (S:List (ByteArray × Bool)),j≤X.length∧s60=.int .i64 (j:Int)∧J (pre ++ S) wr∧Kp n₀ wz wr∧S ++ (EB (visitL D m) ws (X.drop j)).1=L1 ++ FA.1∧(EB (visitL D m) ws (X.drop j)).2=FA.2) (fun s60 _=>X.length - (intOf s60).toNat)
     case atStart=>exact ⟨0,L1,Nat.zero_le _,rfl,kB.out,kD.out,by rw [List.drop_zero,Js.out],by rw [List.drop_zero,Js.out]⟩
     case round =>
      obtain ⟨j,S,hj,rfl,kj,j7,jd,ke⟩:=hrel;have ka:=A6 kj;have jI:=A6 j7;have jK:=A6 jd;have jV:=A6 ke;have kR:n₀≤wr.heap.size:=AC hn j7.1.size;clear kj j7 jd ke;by_cases jP:j<X.length
      ·obtain ⟨b3,o3,kg,hb3,q0,q1⟩:=kK.out.at jP;have hidx3:=F5 aa b3 o3 X.length cc j kg jP;have j2:=kx.out X[j] (AO jP);have j3:=AK jP;obtain ⟨x,hx⟩:∃ x,X[j]=x:=⟨_,rfl⟩
       rw [hx] at q0 q1 j2 j3;obtain ⟨xc,xt⟩:=x;simp only at q0 q1 j2;obtain ⟨y,hy,ks⟩:∃ y:UInt8,xc=(y.toNat:Int)∧UInt8.ofNat xc.toNat=y:=⟨UInt8.ofNat xc.toNat,by rw [UInt8.toNat_ofNat'];omega,rfl⟩
       obtain ⟨q2,je⟩:∃ q2,visitL D m xt (ws ++ [y])=q2:=⟨_,rfl⟩
       have js:EB (visitL D m) ws (X.drop j)=if q2.2=true then (q2.1 ++ (EB (visitL D m) ws (X.drop (j+1))).1,(EB (visitL D m) ws (X.drop (j+1))).2) else (q2.1,false):=by
        rw [j3,EB];simp only [ks,je]
       subst hy;have jr:=A6 js;have jj:=A6 je;have c3:=((HW.out.trans jI.out.1).cell (p:=⟨b3,o3+j*2,none⟩) (by show b3<n₀;omega)).trans q0;have c4:=((HW.out.trans jI.out.1).cell (p:=⟨b3,o3+j*2+1,none⟩) (by show b3<n₀;omega)).trans q1;have j8:(S ++ q2.1) <+: (L1 ++ FA.1):=by
        rw [← jK.out,js];split
        · exact List.prefix_append_right_inj _ |>.2 (List.prefix_append _ _)
        · exact List.prefix_refl _
       have kF:=A6 j8;have kL:(pre ++ S).length+q2.1.length≤N:=by
        have h1:=HN.out;have h2:=j8.length_le;rw [jq.out] at h1;simp only [AF] at h1 h2 ⊢;omega
       clear kg hx j3 q0 q1 j2 js je ks j8
       go_upto_region 9 with fail
       obtain ⟨wy,jS⟩:∃ wy,wy=wr.alloc (.cells #[.int .u8 (y.toNat:Int),.int .i64 xt] 155):=⟨_,rfl⟩
       have kH:Hid (TV n₀ J wz wr.heap.size wy.heap.size #[.int .u8 (y.toNat:Int),.int .i64 xt] y (ws ++ [y]) (pre ++ S) false false false wy):=by
        have jx:Ext wr wy:=by rw [jS];exact (Below.refl _ _).alloc (A7 _) _
        exact ⟨HJ.out _ _ _ ka.out jx,jI.out.trans (Kp.of_ext jx kR),by rw [jS];exact heap_alloc_new _ _,fun _=>rfl,fun h=>(by cases h),fun h=>(by cases h)⟩
       rw [← jS];clear jS;refine B4 (by kernel_rfl) (Vs [vq (.func (.func 128) #[] #[.pointer (some ⟨gD,0,none⟩),.pointer (some ⟨gY,0,none⟩),.pointer (some ⟨gV,0,none⟩)]),vq (.pointer (some ⟨wr.heap.size,1,none⟩)),vq (.int .i64 xt),vq (.slice aw ws.length cw),vq (.slice aw ws.length cw),vq (.int .i64 (ws.length:Int)),vq (.slice aw ws.length cw),vq (.int .i64 (ws.length:Int)),vq (.slice aw ws.length ws.length),vq (.pointer (some ⟨wr.heap.size,0,none⟩)),vq (.int .u8 (y.toNat:Int)),vq (.slice (some ⟨wy.heap.size,0,none⟩) 1 1),TJ (wy.heap.size+1) (ws ++ [y]).length,PV true n₀ J Jx wz pre S q2,PV false n₀ J Jx wz pre S q2]) (Xs [Ext,Ext,Ext,Ext,Ext,Ext,Ext,Ext,Ext,Ext,Ext,(Ext),(Ext),(fun _ _=>True),Ext]) (fun fL=>(fun b1 b2 b3 W=>TV n₀ J wz wr.heap.size wy.heap.size #[.int .u8 (y.toNat:Int),.int .i64 xt] y (ws ++ [y]) (pre ++ S) b1 b2 b3 W) (fL 11) (fL 12) (fL 13)) [0,0,2,0,0,16,0,64,248,0,512,1536,4088,8191,16383] 80 15 (by kernel_rfl) rfl ?hV ?hS ?hop ?hfin ?hlast
       case hV =>
        refine BC (Av (by simp only [Aj,List.not_mem_nil,or_false,forall_eq_or_imp,forall_eq];exact ⟨An _,An _,An _,An _,An _,An _,An _,An _,An _,An _,An _,An _,OS _ _,NP HJ.out kb.out hn,NP HJ.out kb.out hn⟩)) ?_;exact ⟨.inl rfl,.inl rfl,.inl rfl,.inl rfl,.inl rfl,.inl rfl,.inl rfl,.inl rfl,.inl rfl,.inl rfl,.inl rfl,.inr (BO ⟨fun _ _=>fun _ _ _ h _=>h,fun _ _=>fun _ _ _ h _=>h,fun _ _=>fun _ _ _ h _=>h,fun _ _=>fun _ _ _ h _=>h,fun _ _=>fun _ _ _ h _=>h,fun _ _=>fun _ _ _ h _=>h,fun _ _=>fun _ _ _ h _=>h,fun _ _=>fun _ _ _ h _=>h,fun _ _=>fun _ _ _ h _=>h,fun _ _=>fun _ _ _ h _=>h,fun _ _=>fun _ _ _ h _=>h,fun h=>absurd rfl h,fun _ h=>absurd h (by decide),fun _ h=>absurd h (by decide),fun _ h=>absurd h (by decide),trivial⟩),.inr (BO ⟨fun _ _=>fun _ _ _ h _=>h,fun _ _=>fun _ _ _ h _=>h,fun _ _=>fun _ _ _ h _=>h,fun _ _=>fun _ _ _ h _=>h,fun _ _=>fun _ _ _ h _=>h,fun _ _=>fun _ _ _ h _=>h,fun _ _=>fun _ _ _ h _=>h,fun _ _=>fun _ _ _ h _=>h,fun _ _=>fun _ _ _ h _=>h,fun _ _=>fun _ _ _ h _=>h,fun _ _=>fun _ _ _ h _=>h,fun _ _=>fun _ _ _ h _=>h,fun h=>absurd rfl h,fun _ h=>absurd h (by decide),fun _ h=>absurd h (by decide),trivial⟩),.inr (BO ⟨fun _ _=>fun _ _ _ h _=>h,fun _ _=>fun _ _ _ h _=>h,fun _ _=>fun _ _ _ h _=>h,fun _ _=>fun _ _ _ h _=>h,fun _ _=>fun _ _ _ h _=>h,fun _ _=>fun _ _ _ h _=>h,fun _ _=>fun _ _ _ h _=>h,fun _ _=>fun _ _ _ h _=>h,fun _ _=>fun _ _ _ h _=>h,fun _ _=>fun _ _ _ h _=>h,fun _ _=>fun _ _ _ h _=>h,fun _ _=>fun _ _ _ h _=>h,fun _ _=>fun _ _ _ h _=>h,fun h=>absurd rfl h,fun _ h=>absurd h (by decide),trivial⟩),.inl rfl,trivial⟩
       case hS =>
        intro fL hf;show (fun b1 b2 b3 W=>TV n₀ J wz wr.heap.size wy.heap.size #[.int .u8 (y.toNat:Int),.int .i64 xt] y (ws ++ [y]) (pre ++ S) b1 b2 b3 W) (fL 11) (fL 12) (fL 13) _;rw [hf 11 (by decide),hf 12 (by decide),hf 13 (by decide)];have kT:Ext wy { heap:=wy.heap,tape:=wy.tape,drawn:=wy.drawn+1,os:=wy.os,output:=wy.output }:=⟨rfl,rfl,rfl,A7 _,fun _ _=>rfl⟩
        obtain ⟨k1,k2,k3⟩:=TV.keep HJ.out hn kH.out kT;exact ⟨k1,k2,k3,fun _=>rfl,fun h=>(by cases h),fun h=>(by cases h)⟩
       case hop =>
        refine ⟨?c0,?_,?c2,?_,?_,?_,?_,?_,?c8,?_,?c10,?c11,?c12,?c13,?c14,trivial⟩
        all_goals first | rw [if_neg (by decide)] | rw [if_pos (by decide)]
        all_goals try intro ac W fL jo jn jR jO jc jh jb Ji
        all_goals try have hS:(fun b1 b2 b3 W=>TV n₀ J wz wr.heap.size wy.heap.size #[.int .u8 (y.toNat:Int),.int .i64 xt] y (ws ++ [y]) (pre ++ S) b1 b2 b3 W) (fL 11) (fL 12) (fL 13) W:=jc
        all_goals try (have jl:fL 11=true:=jR 11 (by decide);rw [jl] at hS)
        all_goals try (have jl:fL 11=false:=(by first | exact jn | exact jO 11 (by decide) (by decide));rw [jl] at hS)
        all_goals try (have jm:fL 12=true:=jR 12 (by decide);rw [jm] at hS)
        all_goals try (have jm:fL 12=false:=(by first | exact jn | exact jO 12 (by decide) (by decide));rw [jm] at hS)
        all_goals try (have jg:fL 13=true:=jR 13 (by decide);rw [jg] at hS)
        all_goals try (have jg:fL 13=false:=(by first | exact jn | exact jO 13 (by decide) (by decide));rw [jg] at hS)
        all_goals try have hh4:=gdA ac 4 (.pointer (some ⟨gV,0,none⟩)) (jb 4 (by kernel_rfl))
        all_goals try have hh9:=gdA ac 9 (.pointer (some ⟨wr.heap.size,0,none⟩)) (jb 9 (by kernel_rfl))
        all_goals try (have h1:ac.tmps.getD 1 undef=.slice aw ws.length cw:=jb 1 (by kernel_rfl);have kQ:=h1;rw [A8] at kQ)
        all_goals try (have d72:ac.tmps.getD 72 undef=.slice aw ws.length ws.length:=jh 8 (by decide);have dd72:=d72;rw [A8] at dd72)
        all_goals try (have d75:ac.tmps.getD 75 undef=.slice (some ⟨wy.heap.size,0,none⟩) 1 1:=jh 11 (by decide);have dd75:=d75;rw [A8] at dd75)
        all_goals try have d76:(TJ (wy.heap.size+1) (ws ++ [y]).length) (ac.tmps.getD 76 undef) W:=jh 12 (by decide)
        all_goals try have d77:(PV true n₀ J Jx wz pre S q2) (ac.tmps.getD 77 undef) W:=jh 13 (by decide)
        all_goals try (have jh:=DN jh;simp [D8,Aq,vq] at jh)
        all_goals try clear jb jR jO Ji
        case c0 =>
         have jd:(fun b1 b2 b3 W=>TV n₀ J wz wr.heap.size wy.heap.size #[.int .u8 (y.toNat:Int),.int .i64 xt] y (ws ++ [y]) (pre ++ S) b1 b2 b3 W) ((upd fL 0) 11) ((upd fL 0) 12) ((upd fL 0) 13) W:=jc;have hvv:=(HV.out.kp hS.2.1).cells.2.2;refine Ao rfl (.inl ⟨_,W,?_,rfl,Ext.refl _,jd⟩);clear jo hS jc jd jn;simp [go_sem,Act.eval, *]
        case c2 =>
         have jd:(fun b1 b2 b3 W=>TV n₀ J wz wr.heap.size wy.heap.size #[.int .u8 (y.toNat:Int),.int .i64 xt] y (ws ++ [y]) (pre ++ S) b1 b2 b3 W) ((upd fL 2) 11) ((upd fL 2) 12) ((upd fL 2) 13) W:=jc;obtain ⟨v0,v1⟩:=Az hS.2.2.1;refine Ao rfl (.inl ⟨_,W,?_,rfl,Ext.refl _,jd⟩);clear jo hS jc jd jn;simp [go_sem,Act.eval, *]
        case c8 =>
         have jd:(fun b1 b2 b3 W=>TV n₀ J wz wr.heap.size wy.heap.size #[.int .u8 (y.toNat:Int),.int .i64 xt] y (ws ++ [y]) (pre ++ S) b1 b2 b3 W) ((upd fL 8) 11) ((upd fL 8) 12) ((upd fL 8) 13) W:=jc;have hsl:=OR aw ws.length cw kO kw.out;refine Ao rfl (.inl ⟨_,W,?_,rfl,Ext.refl _,jd⟩);clear jo hS jc jd jn;simp [go_sem,Act.eval, *]
        case c10 =>
         have jd:(fun b1 b2 b3 W=>TV n₀ J wz wr.heap.size wy.heap.size #[.int .u8 (y.toNat:Int),.int .i64 xt] y (ws ++ [y]) (pre ++ S) b1 b2 b3 W) ((upd fL 10) 11) ((upd fL 10) 12) ((upd fL 10) 13) W:=jc;obtain ⟨v0,v1⟩:=Az hS.2.2.1;refine Ao rfl (.inl ⟨_,W,?_,rfl,Ext.refl _,jd⟩);clear jo hS jc jd jn;simp [go_sem,Act.eval, *]
        case c11 =>
         have ju:W.heap.size=wy.heap.size:=hS.2.2.2.1 rfl;have jv:Ext W (W.alloc (.cells #[.int .u8 (y.toNat:Int)] 5)):=(Below.refl _ _).alloc (A7 _) _;obtain ⟨k1,k2,k3⟩:=TV.keep HJ.out hn hS jv;refine Ao rfl (.inl ⟨.slice (some ⟨W.heap.size,0,none⟩) 1 1,W.alloc (.cells #[.int .u8 (y.toNat:Int)] 5),?_,(by show _=_;rw [ju]),jv,?_⟩)
         · clear jo hS jc jn k1 k2 k3 jv;simp [go_sem,Act.eval, *]
         ·show TV n₀ J wz wr.heap.size wy.heap.size #[.int .u8 (y.toNat:Int),.int .i64 xt] y (ws ++ [y]) (pre ++ S) (upd fL 11 11) (upd fL 11 12) (upd fL 11 13) _;rw [show upd fL 11 11=true from if_pos rfl,show upd fL 11 12=fL 12 from if_neg (by decide),show upd fL 11 13=fL 13 from if_neg (by decide),jm,jg];exact ⟨k1,k2,k3,fun _=>(by rw [AA,ju];rfl),fun _=>(by rw [← ju];exact heap_alloc_new _ _),fun h=>(by cases h)⟩
        case c12 =>
         have j9:W.heap.size=wy.heap.size+1:=hS.2.2.2.1 rfl;have jt:=hS.2.2.2.2.1 rfl;have jD:=(A9.1 jt).1;refine Ao rfl ((K3 (HB.out.kp hS.2.1) (by omega) jt rfl (Ay d72) (Ay d75)).mono ?_);rintro v w' ⟨kn,km,jx⟩;rw [j9] at kn km;obtain ⟨k1,k2,k3⟩:=TV.keep HJ.out hn hS jx;refine ⟨kn,jx,?_⟩;show TV n₀ J wz wr.heap.size wy.heap.size #[.int .u8 (y.toNat:Int),.int .i64 xt] y (ws ++ [y]) (pre ++ S) (upd fL 12 11) (upd fL 12 12) (upd fL 12 13) _;rw [show upd fL 12 12=true from if_pos rfl,show upd fL 12 11=fL 11 from if_neg (by decide),show upd fL 12 13=fL 13 from if_neg (by decide),jl,jg];exact ⟨k1,k2,k3,fun h=>(by cases h),fun _=>(Below.block jx _ jD).trans jt,fun _=>km⟩
        case c13 =>
         obtain ⟨c76,e76,j1⟩:=d76;have ee76:=e76;rw [A8] at ee76;have jB:=hS.2.2.2.2.2 rfl;have jN:=IH.out xt (ws ++ [y]) (some ⟨wy.heap.size+1,0,none⟩) c76 (pre ++ S) W (by simp;omega) (by omega) jB j1 (HV.out.kp hS.2.1) (AC hn hS.2.1.1.size) (HW.out.trans hS.2.1.1) hS.1 (by rw [jj.out];exact kL);rw [jj.out] at jN;have kk:=hS.2.1;refine Ao rfl (.inr ⟨128,#[.int .i64 xt,.slice (some ⟨wy.heap.size+1,0,none⟩) (ws ++ [y]).length c76,.pointer (some ⟨gD,0,none⟩),.pointer (some ⟨gY,0,none⟩),.pointer (some ⟨gV,0,none⟩)],W,by (clear jo hS jc jn jN kk jB;simp [go_sem,Act.eval, *]),?_⟩);refine jN.mono ?_;clear jN;have ji:∀ w',TV n₀ J wz wr.heap.size wy.heap.size #[.int .u8 (y.toNat:Int),.int .i64 xt] y (ws ++ [y]) (pre ++ S) (upd fL 13 11) (upd fL 13 12) (upd fL 13 13) w':=fun w'=>by
          rw [show upd fL 13 13=true from if_pos rfl];trivial
         rintro e w' (⟨rfl,h1,h2,h3⟩ | ⟨rfl,h1,h2⟩ | ⟨rfl,p,h1,h2⟩)
         · exact ⟨_,rfl,.inl ⟨rfl,h1,by rw [← List.append_assoc];exact h2,kk.trans h3⟩,trivial,ji _⟩
         · exact ⟨_,rfl,.inr ⟨rfl,.inl ⟨h1,by rw [← List.append_assoc];exact h2⟩⟩,trivial,ji _⟩
         · exact ⟨_,rfl,.inr ⟨rfl,.inr ⟨p,h1,by rw [← List.append_assoc];exact h2⟩⟩,trivial,ji _⟩
        case c14 =>
         have jd:(fun b1 b2 b3 W=>TV n₀ J wz wr.heap.size wy.heap.size #[.int .u8 (y.toNat:Int),.int .i64 xt] y (ws ++ [y]) (pre ++ S) b1 b2 b3 W) ((upd fL 14) 11) ((upd fL 14) 12) ((upd fL 14) 13) W:=jc;rcases d77 with ⟨e77,jA⟩ | ⟨e77,jA⟩
         ·rw [A8] at e77;refine Ao rfl (.inl ⟨.bool false,W,?_,.inl ⟨rfl,jA⟩,Ext.refl _,jd⟩);clear jo hS jc jd jn jA;simp [go_sem,Act.eval, *]
         ·rw [A8] at e77;refine Ao rfl (.inl ⟨.bool true,W,?_,.inr ⟨rfl,jA⟩,Ext.refl _,jd⟩);clear jo hS jc jd jn jA;simp [go_sem,Act.eval, *]
        all_goals (refine Ao rfl (.inl ⟨_,W,?_,rfl,Ext.refl _,jc⟩);clear jo hS jc jn;simp [go_sem,Act.eval, *];done)
       case hlast =>
        intro h;exact absurd rfl h
       case hfin =>
        intro _ ac W jo ki fL hf jc hv jb;have hS:(fun b1 b2 b3 W=>TV n₀ J wz wr.heap.size wy.heap.size #[.int .u8 (y.toNat:Int),.int .i64 xt] y (ws ++ [y]) (pre ++ S) b1 b2 b3 W) (fL 11) (fL 12) (fL 13) W:=jc;clear jc;rw [hf 11 (by decide),hf 12 (by decide),hf 13 (by decide)] at hS;obtain ⟨sx,kr,kq⟩:=Aw [64,65,66,67,68,69,70,71,72,73,74,75,76,77,78] (by kernel_rfl) jo ki jb;have jF:PV false n₀ J Jx wz pre S q2 (sx 78) W:=by rw [kr 78];exact hv 14 (by decide)
        rw [kq];simp only [List.foldl];simp only [Act.put,List.setIfInBounds_toArray,List.set_cons_succ,List.set_cons_zero];clear kq kr hv jb jo ki hf;obtain ⟨v78,jH⟩:∃ v78,sx 78=v78:=⟨_,rfl⟩
        rw [jH] at jF ⊢;clear jH;rcases jF with ⟨rfl,h1,h2,h3⟩ | ⟨rfl,jC⟩
        ·have kC:=A6 h2;have kE:=A6 h3;have jk:=jr.out;rw [if_pos h1] at jk;have ko:S ++ q2.1 ++ (EB (visitL D m) ws (X.drop (j+1))).1=L1 ++ FA.1:=by have:=jK.out;rw [jk] at this;rw [List.append_assoc];exact this
         have jG:(EB (visitL D m) ws (X.drop (j+1))).2=FA.2:=by have:=jV.out;rw [jk] at this;exact this
         have kG:=A6 ko;have jW:=A6 jG;clear hS h1 h2 h3 jk ko jG
         go_wp2_with fail
         go_roundw
         case rel=>exact ⟨j+1,S ++ q2.1,by omega,by go_num,kC.out,kE.out,kG.out,jW.out⟩
         case measure=>simp [intOf];omega
        ·have jT:=A6 jC;clear hS jC
         go_wp2_with fail
         go_ret;rcases jT.out with ⟨h1,h2⟩ | ⟨p,h1,h2⟩
         ·refine .inr (.inl ⟨rfl,?_,?_⟩)
          · rw [jq.out];have:=jV.out;rw [jr.out,if_neg (by rw [h1];decide)] at this;exact this.symm
          · rw [jq.out];have:=jK.out;rw [jr.out,if_neg (by rw [h1];decide)] at this;rw [← this];exact h2
         ·refine .inr (.inr ⟨rfl,S ++ p,?_,h2⟩);rw [jq.out];exact ((List.prefix_append_right_inj _).2 h1).trans kF.out
      ·obtain rfl:j=X.length:=by omega
       have h1:=jK.out;have h2:=jV.out;rw [List.drop_length,EB] at h1 h2;have ku:=A6 h1;have kv:=A6 h2;clear h1 h2
       go_wp2_with fail
       go_ret;refine .inl ⟨rfl,?_,?_,jI.out⟩
       · rw [jq.out];exact kv.out.symm
       ·rw [jq.out];simp only;rw [← ku.out,List.append_nil];exact ka.out
    ·go_wp2_with fail
     go_ret;rw [jq.out];exact .inr (.inr ⟨rfl,L1,List.prefix_append _ _,ja⟩)
def w2b (W:World) (l gD:Nat):World:=(W.alloc (Obj.cells #[.func (.yield l) #[] #[]] 208)).alloc (Obj.cells #[.func (.func 128) #[] #[.pointer (some ⟨gD,0,none⟩),.pointer (some ⟨W.heap.size,0,none⟩),.pointer (some ⟨W.heap.size+1,0,none⟩)]] 209)
theorem JG (W:World) (l gD:Nat):Ext W (w2b W l gD):=((Below.refl _ W).alloc (A7 _) _).alloc (by simp only [AA];omega) _
theorem Ry {W:World} {l gD:Nat} {aD:Option Addr} {nD cD:Nat} (h:W.heap[gD]? = some (.cells #[.slice aD nD cD] 35 (0,0))):VBy l gD W.heap.size (W.heap.size+1) aD nD cD (w2b W l gD):=by
 refine ⟨(Below.block (JG W l gD) gD (A9.1 h).1).trans h,?_,?_⟩
 · exact skip (by simp only [AA];omega) (heap_alloc_new _ _)
 ·have h:=heap_alloc_new (W.alloc (Obj.cells #[.func (.yield l) #[] #[]] 208)) (Obj.cells #[.func (.func 128) #[] #[.pointer (some ⟨gD,0,none⟩),.pointer (some ⟨W.heap.size,0,none⟩),.pointer (some ⟨W.heap.size+1,0,none⟩)]] 209);simp only [AA] at h;exact h
theorem OT (n gD n₀:Nat) (aD:Option Addr) (cD:Nat) (D:List Nd) (wW w:World) (jh:wW.heap.size≤n₀) (hn:n₀≤w.heap.size) (hb:Below n₀ wW w) (hg:w.heap[gD]? = some (.cells #[.slice aD D.length cD] 35 (0,0))) (hD:Cc wW aD D) (jg:D.length≤9223372036854775807) (hC:Kf D) :
  SeqStopsK Fence.wide n Tryz.prog 127 #[.pointer (some ⟨gD,0,none⟩)] (fun x:ByteArray × Bool=>#[Value.string x.1,Value.bool x.2]) (Kp n₀) (fun ys=>ys=(visitL D 22 0 []).1) (fun pre=>pre <+: (visitL D 22 0 []).1) (visitL D 22 0 []).1.length w:=by
 intro l J Jx W hW hJ jb hY h0;refine callsIn_wide.2 ?_;show Calls _ _ #[.func (.yield l) #[] #[],.pointer (some ⟨gD,0,none⟩)] _ _;have jd:W.heap[gD]? = some (.cells #[.slice aD D.length cD] 35 (0,0)):=(hW.block gD (A9.1 hg).1).trans hg;have je:n₀≤W.heap.size:=AC hn hW.size;have jc:=vis_any l gD W.heap.size (W.heap.size+1) n₀ (visitL D 22 0 []).1.length aD cD D wW jh hD jg hC J Jx (Ke.of hJ) (Ke.of jb) (fun pre x W h1 h2=>YieldAt.anyD 8 (hY pre x W h1 h2)) 22 0 [] none 0 [] (w2b W l gD) rfl (by omega) (Dh.nil _) (A7 _) (Ry jd) (AC je (JG W l gD).size) ((hb.trans (hW.mono hn)).trans ((JG W l gD).mono je)) ((Ke.of hJ) _ _ _ h0 (JG W l gD)) (by simp);have ja:=A6 jc;clear jc hJ jb hY h0 hD hC;have ji:∀ (fn:Fn) (x y:Array Value) (a:Addr) (m:Mode) (w:World),(store a (.func fn x y) m).run Tryz.prog w=stored Tryz.prog w a (.func fn x y) m:=fun fn x y a m w=>run_store Tryz.prog w a (.func fn x y) m rfl
 go_enter Tryz.func127,Tryz.ntmps127
 go_upto_region 3 with fail
 clear ji;have jj:=(Ry (l:=l) jd).cells.2.2;change Code.wp _ _ _ _ (w2b W l gD);obtain ⟨wz,jf⟩:∃ wz,w2b W l gD=wz:=⟨_,rfl⟩
 rw [jf] at ja jj ⊢;clear jf
 go_wp2_with (first
  | (go_at_call 128;refine ja.out.mono ?_;rintro e w6 (⟨rfl,h1,h2,h3⟩ | ⟨rfl,h1,h2⟩ | ⟨rfl,p,h1,h2⟩)))
 ·go_end0
  exact ⟨⟨_,rfl⟩,.inl ⟨_,rfl,by simpa using h2⟩⟩
 ·go_end0
  exact ⟨⟨_,rfl⟩,.inl ⟨_,rfl,by simpa using h2⟩⟩
 ·go_end0
  exact ⟨⟨_,rfl⟩,.inr ⟨p,h1,by simpa using h2⟩⟩
theorem TK (a:Option Addr) (n c:Nat) (w:World):Calls Tryz.prog 113 #[.slice a n c] w fun e w'=>e=.returned (.func (.func 127) #[] #[.pointer (some ⟨w.heap.size,0,none⟩)])∧w'=w.alloc (.cells #[.slice a n c] 35):=by
 have hmf:∀ (fn:Fn) (first cap:Array Value) (w:World),(Instr.makeFunc fn first cap).run Tryz.prog w=.ok (.func fn first cap) w:=fun _ _ _ _=>rfl
 go_enter Tryz.func113,Tryz.ntmps113
 go_wp2;go_ret;exact ⟨rfl,rfl⟩
attribute [local go_sem] Oper.semAt_some
def EC (l:List (ByteArray × Bool)):Prop:=(∀ x∈l,x.2=true)∧l.length≤200
theorem EC.pre {l m:List (ByteArray × Bool)} (h:EC l) (hp:m <+: l):EC m:=⟨fun x hx=>h.1 x (hp.subset hx),AC hp.length_le h.2⟩
def DH (l:List (ByteArray × Bool)):List ByteArray:=l.map Prod.fst
def U4 (w:World) (pre:List (ByteArray × Bool)) (W:World):Prop :=
 (((EC pre∧Boxed W w.heap.size 37 (.slice none 0 0))∧Boxed W (w.heap.size+1) 4 (.bool false))∧(∃ v,Boxed W (w.heap.size+1+1) 37 v∧As C0 W w.heap.size v (DH pre)∧True))∧Below w.heap.size w W
def U5 (w:World) (c:Code) (pre:List (ByteArray × Bool)) (W:World):Prop :=
 (((c=.ret∧¬ EC pre)∧Boxed W w.heap.size 37 (.slice none 0 0))∧Boxed W (w.heap.size+1) 4 (.bool false))∧Below w.heap.size w W
theorem Rz (w:World) (B:Nat) (hB:w.heap.size≤B):OwnFrom B (U4 w) :=
 OwnFrom.and (OwnFrom.and (OwnFrom.and (OwnFrom.and (ownFrom_pure _ _) (Own.from (boxed_own _ _ (fun _=>.slice none 0 0)) _)) (Own.from (boxed_own _ _ (fun _=>.bool false)) _))
  (Own.from (holdsRow_own w.heap.size (w.heap.size+1+1) 37 9 1 (fun pre=>(DH pre).length) (fun pre=>(DH pre).flatMap C0.enc) (fun _ _=>True)) _)) (ownFrom_below (A7 _) hB)
theorem S0 (w:World) (B:Nat) (hB:w.heap.size≤B) (c:Code):OwnFrom B (U5 w c) :=
 OwnFrom.and (OwnFrom.and (OwnFrom.and (ownFrom_pure _ _) (Own.from (boxed_own _ _ (fun _=>.slice none 0 0)) _)) (Own.from (boxed_own _ _ (fun _=>.bool false)) _)) (ownFrom_below (A7 _) hB)
theorem U6 {W w1:World} {n₀ B:Nat} {v v':Value} {k:Nat} {xs:List Value} {tmp:Obj} (hv:Boxed W B 37 v) (jc:W.ownsRow n₀ 9 1 v k xs) (ja:(W.alloc tmp).grownBy w1 v.ownBlock) (hb:Below n₀ W (w1.setCell ⟨B,0,none⟩ v')):Kp n₀ W (w1.setCell ⟨B,0,none⟩ v'):=by
 refine ⟨hb,fun q cs t fz hq h1 h2 h3=>?_⟩;have je:q≠B:=fun e=>by
  subst e;have h4:W.heap[q]? = _:=hv;rw [hq] at h4;injection h4 with h4;injection h4 with _ h5;exact h2 h5
 have jd:=(A9.1 hq).1;rw [Below.heap_setCell _ _ _ _ je,ja.block q (by rw [AA];omega) ?_]
 · exact Below.heap_alloc _ _ _ jd
 ·intro e;rcases jc.2 with ⟨rfl,_⟩ | ⟨g,cap,cur,rfl,_,jb,_⟩
  · cases e
  ·injection e with e;rw [e] at hq;rw [show W.heap[g]? = some (.cells cs t fz) from hq] at jb;injection jb with jb;injection jb with _ h5;exact h1 h5
def V8 (l:List (ByteArray × Bool)) (w:World) (e:Ending) (w':World):Prop :=
 (EC l∧∃ v,e=.returned (.tuple #[v,.bool true])∧As C0 w' w.heap.size v (DH l)∧Below w.heap.size w w')∨(¬ EC l∧e=.returned (.tuple #[.slice none 0 0,.bool false])∧Below w.heap.size w w')
theorem collect_any (D:List Nd) (a:Option Addr) (c:Nat) (w:World) (hD:Cc w a D) (jw:D.length≤9223372036854775807) (hC:Kf D) :
  Calls Tryz.prog 91 #[.slice a D.length c] w (V8 (visitL D 22 0 []).1 w):=by
 obtain ⟨i0,hi,jB,jC,jD⟩:=info_parts CX.info;obtain ⟨LL,jr⟩:∃ LL,(visitL D 22 0 []).1=LL:=⟨_,rfl⟩
 refine (callsIn_wide (n:=9)).1 ?_;refine callsIn_of_wp_marks Tryz.func91 rfl trivial ?_ rfl;simp only [Tryz.ntmps91,List.size_toArray,List.length_cons,List.length_nil,Nat.reduceAdd,Nat.reduceSub,Array.replicate_succ,Array.replicate_zero,List.push_toArray,List.append_toArray,List.nil_append,List.cons_append];have hfn:Fence.wide.fn 113:=trivial
 gi_wp2_with (gi_at_call 113;refine (callsIn_wide.2 (TK _ _ _ _)).mono ?_;rintro e w' ⟨rfl,rfl⟩)
 obtain ⟨w4,ji⟩:∃ w4,(((w.alloc (Obj.cells #[Value.slice none 0 0] 37)).alloc (Obj.cells #[Value.bool false] 4)).alloc (Obj.cells #[Value.slice none 0 0] 37)).alloc (Obj.cells #[.slice a D.length c] 35)=w4:=⟨_,rfl⟩
 have jq:Below w.heap.size w w4:=by
  rw [← ji];exact ((((Below.refl _ w).alloc (A7 _) _).alloc (by simp only [AA];omega) _).alloc (by simp only [AA];omega) _).alloc (by simp only [AA];omega) _
 have hs4:w4.heap.size=w.heap.size+4:=by rw [← ji];simp only [AA]
 have b2:Boxed w4 w.heap.size 37 (.slice none 0 0):=by
  rw [← ji];exact (((Boxed.new w _ _).alloc _).alloc _).alloc _
 have b3:Boxed w4 (w.heap.size+1) 4 (.bool false):=by
  rw [← ji];have h:=Boxed.new (w.alloc (Obj.cells #[Value.slice none 0 0] 37)) 4 (.bool false);rw [AA] at h;exact (h.alloc _).alloc _
 have b4:Boxed w4 (w.heap.size+1+1) 37 (.slice none 0 0):=by
  rw [← ji];have h:=Boxed.new ((w.alloc (Obj.cells #[Value.slice none 0 0] 37)).alloc (Obj.cells #[Value.bool false] 4)) 37 (.slice none 0 0);simp only [AA] at h;exact h.alloc _
 have b5:Boxed w4 (w.heap.size+1+1+1) 35 (.slice a D.length c):=by
  rw [← ji];have h:=Boxed.new (((w.alloc (Obj.cells #[Value.slice none 0 0] 37)).alloc (Obj.cells #[Value.bool false] 4)).alloc (Obj.cells #[Value.slice none 0 0] 37)) 35 (.slice a D.length c);simp only [AA] at h;exact h
 rw [ji];clear ji;refine wpIn_rangeFunc_ownF (w0:=w4) rfl (by omega) (gf:=127) (lb:=#[.pointer (some ⟨w.heap.size+1+1+1,0,none⟩)]) rfl trivial (enters_of Tryz.func127 (by kernel_rfl) rfl)
  (OT 8 (w.heap.size+1+1+1) w.heap.size a c D w w4 (A7 _) (by omega) jq b5 hD jw hC) (fun h k=>h.trans k) (Kp.obj (by omega)) (Below.refl _ _) (fun _=>rfl)
  (U4 w) (U5 w) (Rz w _ (by omega)) (fun c=>S0 w _ (by omega) c) ⟨⟨⟨⟨⟨fun x hx=>by (cases hx),by simp⟩,b2⟩,b3⟩,_,b4,As.nil C0 _ _,trivial⟩,jq⟩
  (fun x=>{ tmps:=#[.slice a D.length c,undef,.pointer (some ⟨w.heap.size,0,none⟩),.pointer (some ⟨w.heap.size+1,0,none⟩),.pointer (some ⟨w.heap.size+1+1,0,none⟩),.string x.1,.bool x.2,.slice a D.length c,.func (.func 127) #[] #[.pointer (some ⟨w.heap.size+1+1+1,0,none⟩)],.string x.1,.bool x.2,undef,undef,undef,undef,undef,undef,undef,undef,undef,undef,undef,undef],defers:=[] }) ?assign ?body ?done ?stop
 case assign =>
  intro l x W K hK
  gi_wp2
  exact hK
 case body =>
  rintro l pre ⟨s,ok⟩ W ⟨⟨⟨⟨jl,jb⟩,jc⟩,v,hv,ja, -⟩,hB⟩ -;have jt:w.heap.size≤W.heap.size:=hB.size;have e1:=jb.cell;have e2:=jb.frozen;have e3:=jc.cell;have e4:=jc.frozen;have e5:=hv.cell;have e6:=hv.frozen;have je:∀ ac,¬ EC (pre ++ [(s,ok)])→ownPostK (Kp w.heap.size) (U4 w) (U5 w) (pre ++ [(s,ok)]) W Exit.ret ac ((W.setCell ⟨w.heap.size,0,none⟩ (.slice none 0 0)).setCell ⟨w.heap.size+1,0,none⟩ (.bool false)):=fun ac jo=>by
   refine ⟨(KeepsOthers.setCell _ _ _).trans (KeepsOthers.setCell _ _ _),⟨⟨⟨rfl,jo⟩,?_⟩,?_⟩,?_⟩
   · exact (jb.set _).kept (grownBy_setCell' _ _ _) (by simp)
   · exact (jc.kept (grownBy_setCell' _ _ _) (by simp)).set _
   · exact (hB.setCell (p:=⟨w.heap.size,0,none⟩) (A7 _) _).setCell (p:=⟨w.heap.size+1,0,none⟩) (by show w.heap.size≤w.heap.size+1;omega) _
  obtain ⟨a0,c0,rfl, -, -⟩:=ja.form;have jm:Hid ((DH pre).length=pre.length):=by show _=_;simp [DH]
  cases ok with
  | false =>
   gi_wp2
   exact je _ (fun h=>by have:=h.1 (s,false) (by simp);cases this)
  | true =>
   by_cases jg:pre.length=200
   ·have HH:=A6 jg;have h2:(((DH pre).length:Int) == 200)=true:=by rw [jm.out,jg];rfl
    clear jg
    gi_wp2
    exact je _ (fun h=>by have:=h.2;have:=HH.out;simp at *;omega)
   ·have
       h2:(((DH pre).length:Int) == 200)=false:=by rw [jm.out];simp;omega
    have hle:(DH pre).length<200:=by rw [jm.out];have:=jl.2;omega
    clear jg
    gi_wp2_with (first
     | (
       gi_at_builtin;refine wpListIn_append_own _ rfl _ _ 37 rfl w.heap.size 9 i0 (.string ⟨#[]⟩) 1 16 Tryz.underlying37 hi jB jC jD rfl (by decide) _ _ _ rfl (ja.alloc _) ⟨W.heap.size,0,none⟩ 1 1 [.string s] rfl rfl (cell_one_new _ _ _) (by simp [Value.oneCell']) (by unfold maxLen;omega) (by omega) (by simp;omega) ?_;intro v' w3 jf js jk
       have jh:As C0 w3 w.heap.size v' (DH pre ++ [s]):=by unfold As;rw [AF,List.flatMap_append];exact jf
       have jd:(W.alloc (.cells #[.string s] 9)).grownBy w3 (Value.slice a0 (DH pre).length c0).ownBlock:=js;obtain ⟨g1,c1,rfl⟩:=ownsRow_succ jf;obtain ⟨p1,p2,p3,p4,p5⟩:=Boxed.appended hv (by decide) ja jt (by omega) jh jd;have q1:=p1.cell;have q2:=p1.frozen;have r2:=(((jb.alloc (.cells #[.string s] 9)).kept jd (jb.not_row (by decide) ja)).kept (grownBy_setCell' w3 (w.heap.size+1+1) (.slice (some ⟨g1,0,none⟩) ((DH pre).length+1) c1)) (by simp;omega))
       have r3:=(((jc.alloc (.cells #[.string s] 9)).kept jd (jc.not_row (by decide) ja)).kept (grownBy_setCell' w3 (w.heap.size+1+1) (.slice (some ⟨g1,0,none⟩) ((DH pre).length+1) c1)) (by simp))
       have r4:=U6 hv ja jd p5;have HR:=A6 (And.intro p2 (And.intro p3 (And.intro p4 (And.intro p5 (And.intro r2 (And.intro r3 r4))))));clear p1 p2 p3 p4 p5 r2 r3 r4 jd js jk jh jf))
    obtain ⟨p2,p3,p4,p5,r2,r3,r4⟩:=HR.out;have jx:DH (pre ++ [(s,true)])=DH pre ++ [s]:=by simp [DH]
    refine ⟨p4,r4,⟨⟨⟨⟨fun x hx=>?_,?_⟩,r2⟩,r3⟩,_,p2,?_,trivial⟩,hB.trans p5⟩
    ·rcases Ak.1 hx with hx | hx
     · exact jl.1 x hx
     · obtain rfl:=AJ.1 hx;rfl
    · have:=jm.out;simp;omega
    · rw [jx];exact p3
 case done =>
  rintro D' ys W jv rfl ⟨⟨⟨⟨jl,jb⟩,jc⟩,v,hv,ja, -⟩,hB⟩ hK;rw [jr] at jl ja;obtain ⟨a0,c0,rfl, -, -⟩:=ja.form;have jt:w.heap.size≤W.heap.size:=hB.size;have e1:=jb.cell;have e2:=jb.frozen;have e3:=jc.cell;have e4:=jc.frozen;have e5:=hv.cell;have e6:=hv.frozen
  gi_wp2
  obtain ⟨W2,jj⟩:∃ W2,(W.setCell ⟨w.heap.size,0,none⟩ (.slice a0 (DH LL).length c0)).setCell ⟨w.heap.size+1,0,none⟩ (.bool true)=W2:=⟨_,rfl⟩
  have jn:W2.heap[D']? = some (.deferred (some [])):=by
   rw [← jj];exact ((KeepsOthers.setCell W _ _).trans (KeepsOthers.setCell _ _ _)).same D' _ hK rfl
  have r2:Boxed W2 w.heap.size 37 (.slice a0 (DH LL).length c0):=by
   rw [← jj];exact (jb.set _).kept (grownBy_setCell' _ _ _) (by simp)
  have r3:Boxed W2 (w.heap.size+1) 4 (.bool true):=by
   rw [← jj];exact (jc.kept (grownBy_setCell' _ _ _) (by simp)).set _
  have ju:Below w.heap.size w W2:=by
   rw [← jj];exact (hB.setCell (p:=⟨w.heap.size,0,none⟩) (A7 _) _).setCell (p:=⟨w.heap.size+1,0,none⟩) (by show w.heap.size≤w.heap.size+1;omega) _
  have jy:As C0 (W.setCell ⟨w.heap.size,0,none⟩ (.slice a0 (DH LL).length c0)) w.heap.size (.slice a0 (DH LL).length c0) (DH LL):=ja.grown (grownBy_setCell' _ _ _) fun q hq=>fun e=>by
   have:=jb.not_row (e:=9) (by decide) ja;injection e with e;exact this (by rw [hq,e])
  have jz:As C0 W2 w.heap.size (.slice a0 (DH LL).length c0) (DH LL):=by
   rw [← jj];refine jy.grown (grownBy_setCell' _ _ _) fun q hq=>fun e=>?_;have:=jc.not_row (e:=9) (by decide) ja;injection e with e;exact this (by rw [hq,e])
  have jA:As C0 (W2.putObj D' (.deferred none)) w.heap.size (.slice a0 (DH LL).length c0) (DH LL):=ownsRow_putObj jz _ jn rfl;rw [jj];clear jj;refine ⟨by simp,.inl ⟨_,_,rfl,run_takeDeferred jn,?_⟩⟩;have f2:=(r2.kept (grownBy_putObj' W2 D' (.deferred none)) (fun e=>by injection e with e;omega)).cell;have f3:=(r3.kept (grownBy_putObj' W2 D' (.deferred none)) (fun e=>by injection e with e;omega)).cell;refine ⟨.tuple #[.slice a0 (DH LL).length c0,.bool true],by simp [results,Tryz.f91,go_sem,f2,f3],by rw [jr];exact .inl ⟨jl,_,rfl,jA,ju.trans (belowK_b (w:=w) (A7 _) W2 D' _ _ (by omega) jn rfl rfl)⟩⟩
 case stop =>
  rintro D' c' pre W jv jp ⟨⟨⟨⟨rfl,jo⟩,jb⟩,jc⟩,hB⟩ hK
  gi_wp2
  refine ⟨by simp,.inl ⟨_,_,rfl,run_takeDeferred hK,?_⟩⟩;have f2:=(jb.kept (grownBy_putObj' W D' (.deferred none)) (fun e=>by injection e with e;omega)).cell;have f3:=(jc.kept (grownBy_putObj' W D' (.deferred none)) (fun e=>by injection e with e;omega)).cell;refine ⟨.tuple #[.slice none 0 0,.bool false],by simp [results,Tryz.f91,go_sem,f2,f3],.inr ⟨fun h=>jo (h.pre jp),rfl,hB.trans (belowK_b (w:=w) (A7 _) W D' _ _ (by omega) hK rfl rfl)⟩⟩
theorem NQ (D:List Nd) (a:Option Addr) (c:Nat) (w:World) (hD:Cc w a D) (ja:D.length≤9223372036854775807) (hC:Kf D) (h:EC (visitL D 22 0 []).1) :
  Calls Tryz.prog 91 #[.slice a D.length c] w fun e w'=>∃ a1 c1,e=.returned (.tuple #[.slice a1 (DH (visitL D 22 0 []).1).length c1,.bool true])∧As C0 w' w.heap.size (.slice a1 (DH (visitL D 22 0 []).1).length c1) (DH (visitL D 22 0 []).1)∧Below w.heap.size w w':=by
 refine (collect_any D a c w hD ja hC).mono ?_;rintro e w1 (⟨-,v,rfl,ho,hb⟩ | ⟨hn, -, -⟩)
 ·obtain ⟨a1,c1,rfl, -, -⟩:=ho.form;exact ⟨a1,c1,rfl,ho,hb⟩
 · exact absurd h hn
theorem OU (D:List Nd) (a:Option Addr) (c:Nat) (w:World) (hD:Cc w a D) (ja:D.length≤9223372036854775807) (hC:Kf D) (h:¬ EC (visitL D 22 0 []).1) :
  Calls Tryz.prog 91 #[.slice a D.length c] w fun e w'=>e=.returned (.tuple #[.slice none 0 0,.bool false])∧Below w.heap.size w w':=by
 refine (collect_any D a c w hD ja hC).mono ?_;rintro e w1 (⟨hn, -⟩ | ⟨hn,rfl,hb⟩)
 · exact absurd hn h
 · exact ⟨rfl,hb⟩
theorem Q9 (L:List ByteArray) (n:Nat) (a:Option Addr) (cap:Nat) (w:World) (hR:Bz w a L) (hL:n=L.length) (hn:n≤9223372036854775807) (hc:n≤cap) (hT:Tab w) (h:Cz L) :
  Calls Tryz.prog 25 #[.slice a n cap] w fun e w'=>∃ a c,e=.returned (.tuple #[.slice a (ofF (Ax 0 L)).length c,.int .i64 0])∧(ofF (Ax 0 L)).length≤c∧(ofF (Ax 0 L)).length≤4200∧Cc w' a (ofF (Ax 0 L))∧Below w.heap.size w w':=by
 refine (build_any L n a cap w hR hL hn hc hT).mono ?_;rintro e w1 (⟨-,h⟩ | ⟨hn, -⟩)
 · exact h
 · exact absurd h hn
noncomputable def BQ (D:List Nd):List ByteArray:=@ite _ (EC (visitL D 22 0 []).1) (Classical.propDecidable _) (DH (visitL D 22 0 []).1) []
theorem K4 {D:List Nd} (h:EC (visitL D 22 0 []).1):BQ D=DH (visitL D 22 0 []).1:=if_pos h
theorem QA {D:List Nd} (h:¬ EC (visitL D 22 0 []).1):BQ D=[]:=if_neg h
theorem QB (D:List Nd) (a:Option Addr) (c:Nat) (w:World) (hD:Cc w a D) (ja:D.length≤9223372036854775807) (hC:Kf D) :
  Calls Tryz.prog 62 #[.slice a D.length c] w fun e w'=>∃ a1 c1,e=.returned (.slice a1 (BQ D).length c1)∧Bz w' a1 (BQ D)∧(BQ D).length≤c1∧Below w.heap.size w w':=by
 have HD:=A6 hD;clear hD;by_cases h:EC (visitL D 22 0 []).1
 ·have HY:=A6 (K4 h);have HH:=A6 h;clear h
  go_enter Tryz.func62,Tryz.ntmps62
  go_wp2_with (first
   | (go_at_call 91;refine (NQ D a c w HD.out ja hC HH.out).mono ?_;rintro e w1 ⟨a1,c1,rfl,ho,hb⟩;have HO:=A6 ho;have HB:=A6 hb;clear ho hb))
  go_ret;have:=HO.out.strs;rw [HY.out];exact ⟨_,_,rfl,this.1,this.2.2,HB.out⟩
 ·have HY:=A6 (QA h);have HH:Hid (¬ EC (visitL D 22 0 []).1):=h;clear h
  go_enter Tryz.func62,Tryz.ntmps62
  go_wp2_with (first
   | (go_at_call 91;refine (OU D a c w HD.out ja hC HH.out).mono ?_;rintro e w1 ⟨rfl,hb⟩;have HB:=A6 hb;clear hb))
  go_ret;rw [HY.out];exact ⟨_,_,rfl,Bz.nil _ _,A7 _,HB.out⟩
def toB (l:Wd):ByteArray:=⟨l.toArray⟩
def D6 (r:Rst):List ByteArray:=r.map toB
theorem TL {l m:Wd} (h:toB l=toB m):l=m:=by
 have:=congrArg (fun s:ByteArray=>s.data.toList) h;exact this
theorem QC {r q:Rst} (h:D6 r=D6 q):r=q:=List.map_inj_right (fun _ _ h=>TL h) |>.1 h
theorem OV (L:List ByteArray):D6 (Ax 0 L)=L:=by
 unfold D6 Ax;rw [List.map_map];have:(toB ∘ fun s:ByteArray=>s.data.toList.drop 0)=id:=by
  funext s;show toB (s.data.toList.drop 0)=s;rw [List.drop_zero];rfl
 rw [this,List.map_id]
theorem GL (r:Rst):(D6 r).length=r.length:=AW _
theorem QD (r q:Rst):decide (D6 r=D6 q)=decide (r=q):=by
 by_cases h:r=q
 · subst h;simp
 · rw [decide_eq_false h,decide_eq_false fun e=>h (QC e)]
theorem afterF_rows (c:Nat):∀ r:Rst,Cd (D6 r) (c:Int)=D6 (B8 r c)
 | []=>rfl
 | [] :: r=>by
  have ih:=afterF_rows c r;rw [Rh,← ih];show ((toB [] :: D6 r).filter fun s=>CR s c).map Il=_;rw [List.filter_cons,if_neg (by simp [CR,toB,ByteArray.size])];rfl
 | (b :: t) :: r=>by
  have ih:=afterF_rows c r;show ((toB (b :: t) :: D6 r).filter fun s=>CR s c).map Il=_;by_cases h:b.toNat=c
  ·rw [Gt h,List.filter_cons,if_pos (by subst h;simp [CR,toB,ByteArray.size]),List.map_cons];have e:Il (toB (b :: t))=toB t:=by
    unfold Il;refine bytes_inj ?_;rw [ByteArray.data_extract];simp [toB,ByteArray.size]
   rw [e];show toB t :: Cd (D6 r) c=_;rw [ih];rfl
  ·rw [Py h,List.filter_cons,if_neg (by simp [CR,toB,ByteArray.size];omega)];exact ih
theorem OW (r:Rst) (c:Nat):(B8 r c).length≤r.length:=List.length_filterMap_le _ _
theorem I8 {rec:Rst→List Rst→List Nd→Nat × List Rst × List Nd} (hr:∀ r Mt E,E.length≤(rec r Mt E).2.2.length) (r:Rst):∀ C A Mt E,E.length≤(Df rec r C A Mt E).2.2.length
 | [],_,_,_=>A7 _
 | c :: C,A,Mt,E=>by
  rw [Df];split
  · exact I8 hr r C _ _ _
  · exact AC (hr _ _ _) (I8 hr r C _ _ _)
theorem JH:∀ m r Mt E,E.length≤(refV m r Mt E).2.2.length
 | 0,_,_,_=>A7 _
 | m
   + 1,r,Mt,E=>by
  rw [refV];split
  · exact A7 _
  ·have:=I8 (JH m) r (List.range' 33 94) [] (Mt ++ [r]) (E ++ [⟨false,[]⟩]);simp only [AF,AI] at this;simp only [List.length_set];omega
theorem TM {m:Nat} {r:Rst} {Mt:List Rst} {E:List Nd} (h:¬ I3 Mt r<Mt.length):refV (m+1) r Mt E =
  (E.length,(Df (refV m) r (List.range' 33 94) [] (Mt ++ [r]) (E ++ [⟨false,[]⟩])).2.1,(Df (refV m) r (List.range' 33 94) [] (Mt ++ [r]) (E ++ [⟨false,[]⟩])).2.2.set E.length ⟨F8 r,(Df (refV m) r (List.range' 33 94) [] (Mt ++ [r]) (E ++ [⟨false,[]⟩])).1⟩):=by
 rw [refV,if_neg h]
theorem S1 {m:Nat} {r:Rst} {Mt:List Rst} {E:List Nd} (h:I3 Mt r<Mt.length):refV (m+1) r Mt E=(I3 Mt r,Mt,E):=by
 rw [refV,if_pos h]
theorem QE {Mt:List Rst} {r:Rst} {k:Nat} (hk:k<Mt.length) (ja:∀ j (hj:j<Mt.length),j<k→Mt[j]≠r) (h:Mt[k]=r):I3 Mt r=k :=
 (List.findIdx_eq hk).2 ⟨by simp [h],fun j hj=>by simpa using ja j (by omega) hj⟩
theorem QF {Mt:List Rst} {r:Rst} (ja:∀ j (hj:j<Mt.length),Mt[j]≠r):¬ I3 Mt r<Mt.length:=by
 intro h;have:=List.findIdx_getElem (w:=h);simp only [decide_eq_true_eq] at this;exact ja _ h this
theorem IY {rec:Rst→List Rst→List Nd→Nat × List Rst × List Nd} (hr:∀ r Mt E,Mt.length=E.length→(rec r Mt E).2.1.length=(rec r Mt E).2.2.length) (r:Rst):∀ C A Mt E,Mt.length=E.length→(Df rec r C A Mt E).2.1.length=(Df rec r C A Mt E).2.2.length
 | [],_,_,_,h=>h
 | c :: C,A,Mt,E,h=>by
  rw [Df];split
  · exact IY hr r C _ _ _ h
  · exact IY hr r C _ _ _ (hr _ _ _ h)
theorem NR:∀ m r Mt E,Mt.length=E.length→(refV m r Mt E).2.1.length=(refV m r Mt E).2.2.length
 | 0,_,_,_,h=>h
 | m
   + 1,r,Mt,E,h=>by
  rw [refV];split
  · exact h
  ·have:=IY (NR m) r (List.range' 33 94) [] (Mt ++ [r]) (E ++ [⟨false,[]⟩]) (by simp [h]);simp only [List.length_set];exact this
structure CO (wW:World) (B:Nat) (w:World) (x:SV) (r:Rst):Prop where
 n:x.n=r.length
 c:x.n≤x.c
 b:r.length≤1000
 s:Bz wW x.a (D6 r)∨As C0 w B (.slice x.a x.n x.c) (D6 r)
theorem CO.strs {wW w:World} {B:Nat} {x:SV} {r:Rst} (h:CO wW B w x r) (hb:Below B wW w) (hB:wW.heap.size≤B):Bz w x.a (D6 r):=by
 rcases h.s with h | h
 · exact h.later hb hB
 · exact h.strs.1
theorem CO.keep {wW w w':World} {B:Nat} {x:SV} {r:Rst} (h:CO wW B w x r) (hk:∀ (q:Nat) (cs:Array Value),w.heap[q]? = some (Obj.cells cs 9 (0,0))→w'.heap[q]? = w.heap[q]?):CO wW B w' x r :=
 ⟨h.n,h.c,h.b,h.s.imp id fun h=>h.keep fun g hg=>by
  rcases h.2 with ⟨he,_⟩ | ⟨g',cap,cur,he,_,h2,_⟩
  · rw [he] at hg;cases hg
  · rw [he] at hg;cases hg;exact hk _ _ h2⟩
structure RSt (wW w:World) (B gB:Nat) (v vr:Value) (N:List NV) (D:List Nd) (S:List SV) (R:List Rst):Prop where
 rep:w.heap[gB]? = some (.cells #[v,vr] 167 (0,0))
 own:As Bj w B v N
 len:N.length=D.length
 arcs:∀ k (h:k<N.length) (h2:k<D.length),N[k].fin=D[k].fin∧As C5 w B (.slice N[k].a N[k].n N[k].c) D[k].arcs
 rown:As JC w B vr S
 slen:S.length=R.length
 rests:∀ k (h:k<S.length) (h2:k<R.length),CO wW B w S[k] R[k]
 gB:B≤gB
theorem RSt.keep {wW w w':World} {B gB:Nat} {v vr:Value} {N:List NV} {D:List Nd} {S:List SV} {R:List Rst} (h:RSt wW w B gB v vr N D S R)
  (hk:∀ q cs t,w.heap[q]? = some (.cells cs t (0,0))→(q=gB∨v.ownBlock=some q∨(∃ x∈N,nvB x=some q)∨t=9∨t=37)→w'.heap[q]? = w.heap[q]?):RSt wW w' B gB v vr N D S R:=by
 refine ⟨(hk gB _ _ h.rep (.inl rfl)).trans h.rep,h.own.keep fun g hg=>?_,h.len,fun k h1 h2=>⟨(h.arcs k h1 h2).1,(h.arcs k h1 h2).2.keep fun g hg=>?_⟩,h.rown.keep fun g hg=>?_,h.slen,fun k h1 h2=>(h.rests k h1 h2).keep fun q cs hq=>hk q cs _ hq (.inr (.inr (.inr (.inl rfl)))),h.gB⟩
 ·obtain ⟨cs,ja⟩:=h.own.obj hg;exact hk g _ _ ja (.inr (.inl hg))
 ·obtain ⟨cs,ja⟩:=(h.arcs k h1 h2).2.obj hg;exact hk g _ _ ja (.inr (.inr (.inl ⟨N[k],AO h1,hg⟩)))
 ·obtain ⟨cs,ja⟩:=h.rown.obj hg;exact hk g _ _ ja (.inr (.inr (.inr (.inr rfl))))
theorem RSt.ext {wW w w':World} {B gB:Nat} {v vr:Value} {N:List NV} {D:List Nd} {S:List SV} {R:List Rst} (h:RSt wW w B gB v vr N D S R) (hx:Ext w w'):RSt wW w' B gB v vr N D S R :=
 h.keep fun q cs t hq _=>Below.block hx q (A9.1 hq).1
theorem RSt.size {wW w:World} {B gB:Nat} {v vr:Value} {N:List NV} {D:List Nd} {S:List SV} {R:List Rst} (h:RSt wW w B gB v vr N D S R):B≤w.heap.size:=AC h.gB (Nat.le_of_lt (A9.1 h.rep).1)
structure FrR (gB:Nat) (vb:Option Nat) (w w':World):Prop where
 os:w'.os=w.os
 tape:w'.tape=w.tape
 output:w'.output=w.output
 size:w.heap.size≤w'.heap.size
 block:∀ q cs t,w.heap[q]? = some (.cells cs t (0,0))→q≠gB→vb≠some q→t≠37→w'.heap[q]? = w.heap[q]?
theorem FrR.trans {gB:Nat} {vb vb1:Option Nat} {a b c:World} (h:FrR gB vb a b) (h2:FrR gB vb1 b c) (hn:DG vb vb1 a.heap.size):FrR gB vb a c :=
 ⟨h2.os.trans h.os,h2.tape.trans h.tape,h2.output.trans h.output,AC h.size h2.size,fun q cs t hq h3 h4 h5=>by
  have e:=h.block q cs t hq h3 h4 h5;refine (h2.block q cs t (e.trans hq) h3 (fun e2=>?_) h5).trans e;have hlt:=(A9.1 hq).1;rcases hn with rfl | hn
  · exact h4 e2
  · have:=hn q e2;omega⟩
theorem FrR.of_below {gB:Nat} {vb:Option Nat} {w w':World} (h:Below w.heap.size w w'):FrR gB vb w w':=⟨h.os,h.tape,h.output,h.size,fun q cs t hq _ _ _=>h.block q (A9.1 hq).1⟩
def S4 (wW:World) (B gB:Nat) (q:Nat × List Rst × List Nd) (v:Value) (N:List NV) (w:World) (e:Ending) (w':World):Prop :=
 ∃ v' vr' N' S' E,e=.returned (.int .i64 (q.1:Int))∧RSt wW w' B gB v' vr' N' q.2.2 S' q.2.1∧N'=N ++ E∧(∀ x∈E,∀ g,nvB x=some g→w.heap.size≤g)∧Below B wW w'∧FrR gB v.ownBlock w w'∧DG v.ownBlock v'.ownBlock w.heap.size
structure RL0 (wW w0:World) (B gB:Nat) (vb0:Option Nat) (N0:List NV) (v vr:Value) (N:List NV) (D:List Nd) (S:List SV) (R:List Rst) (w:World):Prop where
 bst:RSt wW w B gB v vr N D S R
 bl:Below B wW w
 fr:FrR gB vb0 w0 w
 nr:DG vb0 v.ownBlock w0.heap.size
 ex:∃ E,N=N0 ++ E∧∀ x∈E,∀ g,nvB x=some g→w0.heap.size≤g
structure RL1 (wW w0:World) (B gB gn:Nat) (vb0:Option Nat) (N0:List NV) (fin:Bool) (vA:Value) (v vr:Value) (N:List NV) (D:List Nd) (S:List SV) (R:List Rst) (w:World):Prop extends RL0 wW w0 B gB vb0 N0 v vr N D S R w where
 box:w.heap[gn]? = some (.cells #[.bool fin,vA] 153 (0,0))
 gg:w0.heap.size≤gn
 vn:v.ownBlock≠some gn
structure RL (wW w0:World) (B gB gn:Nat) (vb0:Option Nat) (N0:List NV) (fin:Bool) (vA:Value) (A:List Ar) (v vr:Value) (N:List NV) (D:List Nd) (S:List SV) (R:List Rst) (w:World):Prop extends RL1 wW w0 B gB gn vb0 N0 fin vA v vr N D S R w where
 own:As C5 w w0.heap.size vA A
 apart:∀ x∈N,∀ g,nvB x=some g→vA.ownBlock≠some g
section
variable {wW w0 w w':World} {B gB gn:Nat} {vb0:Option Nat} {N0:List NV} {fin:Bool} {vA va:Value} {A A2:List Ar} {v vr:Value} {N:List NV} {D:List Nd} {S:List SV} {R:List Rst}
theorem RL0.ext (h:RL0 wW w0 B gB vb0 N0 v vr N D S R w) (hx:Ext w w'):RL0 wW w0 B gB vb0 N0 v vr N D S R w' :=
 ⟨h.bst.ext hx,h.bl.trans (Below.mono hx h.bst.size),h.fr.trans (FrR.of_below hx) h.nr,h.nr,h.ex⟩
theorem RL1.ext (h:RL1 wW w0 B gB gn vb0 N0 fin vA v vr N D S R w) (hx:Ext w w'):RL1 wW w0 B gB gn vb0 N0 fin vA v vr N D S R w' :=
 ⟨h.toRL0.ext hx,(Below.block hx gn (A9.1 h.box).1).trans h.box,h.gg,h.vn⟩
theorem RL.ext (h:RL wW w0 B gB gn vb0 N0 fin vA A v vr N D S R w) (hx:Ext w w'):RL wW w0 B gB gn vb0 N0 fin vA A v vr N D S R w' :=
 ⟨h.toRL1.ext hx,h.own.later hx (A7 _),h.apart⟩
theorem BT {w:World} {q q':Nat} {cs cs':Array Value} {t t':TypeId} {f f':Nat × Nat} (h:w.heap[q]? = some (.cells cs t f)) (h':w.heap[q']? = some (.cells cs' t' f')) (ht:t≠t'):q≠q':=fun e=>by
 rw [e,h'] at h;injection h with h;injection h with _ h2;exact ht h2.symm
theorem RSt.row_ty (h:RSt wW w B gB v vr N D S R):∀ x∈N,∀ g,nvB x=some g→∃ cs,w.heap[g]? = some (.cells cs 155 (0,0)):=by
 intro x hx g hg;obtain ⟨k,hk,rfl⟩:=List.getElem_of_mem hx;exact (h.arcs k hk (by rw [← h.len];exact hk)).2.obj hg
theorem RSt.apart_node (h:RSt wW w B gB v vr N D S R) {g:Nat} {cs:Array Value} (hg:w.heap[g]? = some (.cells cs 153 (0,0))) (hv:v.ownBlock≠some g) :
  ∀ q cs' t,w.heap[q]? = some (.cells cs' t (0,0))→(q=gB∨v.ownBlock=some q∨(∃ x∈N,nvB x=some q)∨t=9∨t=37)→q≠g:=by
 rintro q cs' t hq (rfl | jc | ⟨x,hx,jb⟩ | rfl | rfl)
 · exact BT h.rep hg (by decide)
 · rintro rfl;exact hv jc
 ·obtain ⟨cs2,ja⟩:=h.row_ty x hx q jb;exact BT ja hg (by decide)
 · exact BT hq hg (by decide)
 · exact BT hq hg (by decide)
theorem RL1.setBox {fin':Bool} {vA':Value} {A':List Ar} {i:Nat} {y:Value} (h:RL1 wW w0 B gB gn vb0 N0 fin vA v vr N D S R w) (hB:B≤w0.heap.size)
  (hc:(#[.bool fin,vA]:Array Value).setIfInBounds i y=#[.bool fin',vA']) (ho:As C5 w w0.heap.size vA' A') (jb:∀ x∈N,∀ g,nvB x=some g→vA'.ownBlock≠some g):RL wW w0 B gB gn vb0 N0 fin' vA' A' v vr N D S R (w.setCell ⟨gn,i,none⟩ y):=by
 have ja:∀ q,q≠gn→(w.setCell ⟨gn,i,none⟩ y).heap[q]? = w.heap[q]?:=fun q hq=>Below.heap_setCell _ _ _ _ hq;refine ⟨⟨⟨h.bst.keep fun q cs t hq hh=>ja q (h.bst.apart_node h.box h.vn q cs t hq hh),h.bl.setCell (AC hB h.gg) _,⟨h.fr.os,h.fr.tape,h.fr.output,by rw [World.size_setCell];exact h.fr.size,fun q cs t hq h3 h4 h5=>(ja q (by have:=h.gg;have:=(A9.1 hq).1;omega)).trans (h.fr.block q cs t hq h3 h4 h5)⟩,h.nr,h.ex⟩,B7 h.box hc,h.gg,h.vn⟩,ho.keep fun g hg=>ja g ?_,jb⟩;obtain ⟨cs,jc⟩:=ho.obj hg;exact BT jc h.box (by decide)
theorem RL.called (h:RL wW w0 B gB gn vb0 N0 fin vA A v vr N D S R w) {q:Nat × List Rst × List Nd} {e:Ending} (hp:S4 wW B gB q v N w e w') :
  e=.returned (.int .i64 (q.1:Int))∧∃ v' vr' N' S',RL wW w0 B gB gn vb0 N0 fin vA A v' vr' N' q.2.2 S' q.2.1 w':=by
 obtain ⟨v',vr',N',S',E,rfl,hb,rfl,hE,jf,jb,jc⟩:=hp;have jd:=h.fr.size;have hgs:=(A9.1 h.box).1;refine ⟨rfl,v',vr',_,S',⟨⟨⟨hb,jf,h.fr.trans jb h.nr,h.nr.trans jc jd,?_⟩,(jb.block gn _ _ h.box (BT h.box h.bst.rep (by decide)) h.vn (by decide)).trans h.box,h.gg,?_⟩,h.own.keep fun g hg=>?_,fun x hx g hg=>?_⟩⟩
 ·obtain ⟨E0,rfl,je⟩:=h.ex;refine ⟨E0 ++ E,by rw [List.append_assoc],fun x hx g hg=>?_⟩;rcases Ak.1 hx with hx | hx
  · exact je x hx g hg
  · exact AC jd (hE x hx g hg)
 ·intro e;rcases jc with h1 | h1
  · exact h.vn (by rw [← h1];exact e)
  · have:=h1 gn e;omega
 ·obtain ⟨cs,ja⟩:=h.own.obj hg;refine jb.block g _ _ ja (BT ja h.bst.rep (by decide)) (fun e=>?_) (by decide);obtain ⟨cs2,jg⟩:=h.bst.own.obj e;exact BT ja jg (by decide) rfl
 ·intro e;rcases Ak.1 hx with hx | hx
  · exact h.apart x hx g hg e
  · have:=hE x hx g hg;have:=h.own.lt g e;omega
theorem RL.app (h:RL wW w0 B gB gn vb0 N0 fin vA A v vr N D S R w) (hB:B≤w0.heap.size) (hg:w.grownBy w' vA.ownBlock):RL1 wW w0 B gB gn vb0 N0 fin vA v vr N D S R w':=by
 have hk:∀ q,q<w.heap.size→vA.ownBlock≠some q→w'.heap[q]? = w.heap[q]?:=fun q hq jc=>hg.block q hq (fun e=>jc e.symm);have ja:∀ (q:Nat) (cs:Array Value) (t:TypeId),w.heap[q]? = some (Obj.cells cs t (0,0))→t≠155→w'.heap[q]? = w.heap[q]?:=fun q cs t hq ht=>hk q (A9.1 hq).1 fun e=>by
  obtain ⟨cs2,jb⟩:=h.own.obj e;exact BT hq jb ht rfl
 refine ⟨⟨h.bst.keep fun q cs t hq hh=>?_,h.bl.grown hg h.bst.size fun q hq=>AC hB (h.own.ge q hq),⟨hg.os.trans h.fr.os,hg.tape.trans h.fr.tape,hg.output.trans h.fr.output,AC h.fr.size hg.size,fun q cs t hq h3 h4 h5=>?_⟩,h.nr,h.ex⟩,(ja gn _ _ h.box (by decide)).trans h.box,h.gg,h.vn⟩
 ·rcases hh with rfl | hv | ⟨x,hx,jd⟩ | rfl | rfl
  · exact ja _ _ _ h.bst.rep (by decide)
  ·obtain ⟨cs2,jb⟩:=h.bst.own.obj hv;exact ja _ _ _ jb (by decide)
  · exact hk q (A9.1 hq).1 fun e=>h.apart x hx q jd e
  · exact ja _ _ _ hq (by decide)
  · exact ja _ _ _ hq (by decide)
 ·have h6:=h.fr.size;have hlt:=(A9.1 hq).1;exact (hk q (by omega) (fun e=>by have:=h.own.ge q e;omega)).trans (h.fr.block q cs t hq h3 h4 h5)
theorem CO.of_own {x:SV} {r:Rst} (h:As C0 w B (.slice x.a x.n x.c) (D6 r)) (hb:r.length≤1000):CO wW B w x r:=by
 obtain ⟨h1,h2,h3⟩:=h.strs;rw [GL] at h2 h3;exact ⟨h2,by omega,hb,.inr h⟩
theorem RL0.addD (h:RL0 wW w0 B gB vb0 N0 v vr N D S R w) (hb0:B≤w0.heap.size) (ho:As Bj w' B va (N ++ [⟨false,none,0,0⟩])) (hg:w.grownBy w' v.ownBlock) (jj:va.ownBlock=v.ownBlock∨va.ownBlock=some w.heap.size) :
  RL0 wW w0 B gB vb0 N0 va vr (N ++ [⟨false,none,0,0⟩]) (D ++ [⟨false,[]⟩]) S R (w'.setCell ⟨gB,0,none⟩ va):=by
 have jl:=h.fr.size;have hk:∀ q,q<w.heap.size→v.ownBlock≠some q→w'.heap[q]? = w.heap[q]?:=fun q hq jb=>hg.block q hq (fun e=>jb e.symm);have jb:∀ q,q≠gB→(w'.setCell ⟨gB,0,none⟩ va).heap[q]? = w'.heap[q]?:=fun q hq=>Below.heap_setCell _ _ _ _ hq;have jc:w'.heap[gB]? = some (.cells #[v,vr] 167 (0,0)):=(hk gB (A9.1 h.bst.rep).1 fun e=>by
  obtain ⟨cs2,jd⟩:=h.bst.own.obj e;exact BT h.bst.rep jd (by decide) rfl).trans h.bst.rep
 have jg:∀ (q:Nat) (cs:Array Value) (t:TypeId),w.heap[q]? = some (Obj.cells cs t (0,0))→t≠153→t≠167→(w'.setCell ⟨gB,0,none⟩ va).heap[q]? = w.heap[q]?:=fun q cs t hq ht jm=>(jb q (BT hq h.bst.rep jm)).trans (hk q (A9.1 hq).1 fun e=>by
  obtain ⟨cs2,jd⟩:=h.bst.own.obj e;exact BT hq jd ht rfl)
 refine ⟨⟨B7 jc rfl,ho.keep fun g je=>jb g ?_,by simp [h.bst.len],fun k h1 h2=>?_,h.bst.rown.keep fun g je=>?_,h.bst.slen,fun k h1 h2=>(h.bst.rests k h1 h2).keep fun q cs hq=>jg q cs _ hq (by decide) (by decide),h.bst.gB⟩,(h.bl.grown hg h.bst.size fun q hq=>h.bst.own.ge q hq).setCell h.bst.gB _,⟨hg.os.trans h.fr.os,hg.tape.trans h.fr.tape,hg.output.trans h.fr.output,by rw [World.size_setCell];exact AC jl hg.size,fun q cs t hq h3 h4 h5=>?_⟩,?_,?_⟩
 ·obtain ⟨cs,ja⟩:=ho.obj je;exact BT ja jc (by decide)
 ·by_cases jf:k<N.length
  ·have jh:k<D.length:=by rw [← h.bst.len];exact jf
   obtain ⟨h3,h4⟩:=h.bst.arcs k jf jh;simp only [List.getElem_append_left jf,List.getElem_append_left jh];exact ⟨h3,h4.keep fun g jk=>by
    obtain ⟨cs,ja⟩:=h4.obj jk;exact jg g _ _ ja (by decide) (by decide)⟩
  ·obtain rfl:k=N.length:=by rw [AF] at h1;simp at h1;omega
   have e1:(N ++ [(⟨false,none,0,0⟩:NV)])[N.length]=⟨false,none,0,0⟩:=by simp
   have e2:(D ++ [(⟨false,[]⟩:Nd)])[N.length]=⟨false,[]⟩:=by simp [h.bst.len]
   rw [e1,e2];exact ⟨rfl,As.nil _ _ _⟩
 ·obtain ⟨cs,ja⟩:=h.bst.rown.obj je;exact jg g _ _ ja (by decide) (by decide)
 ·have hlt:=(A9.1 hq).1;refine (jb q h3).trans ((hk q (by omega) fun e=>?_).trans (h.fr.block q cs t hq h3 h4 h5));rcases h.nr with h7 | h7
  · exact h4 (by rw [← h7];exact e)
  · have:=h7 q e;omega
 ·rcases jj with h1 | h1
  · rw [h1];exact h.nr
  · rw [h1];exact .inr fun q hq=>by injection hq with hq;omega
 ·obtain ⟨E0,rfl,ji⟩:=h.ex;refine ⟨E0 ++ [⟨false,none,0,0⟩],by rw [List.append_assoc],fun x hx g hg=>?_⟩;rcases Ak.1 hx with hx | hx
  · exact ji x hx g hg
  · obtain rfl:=AJ.1 hx;cases hg
theorem RL0.addR {vra:Value} {x:SV} {r:Rst} (h:RL0 wW w0 B gB vb0 N0 v vr N D S R w) (hb0:B≤w0.heap.size) (hx:CO wW B w x r) (ho:As JC w' B vra (S ++ [x])) (hg:w.grownBy w' vr.ownBlock) :
  RL0 wW w0 B gB vb0 N0 v vra N D (S ++ [x]) (R ++ [r]) (w'.setCell ⟨gB,1,none⟩ vra):=by
 have jk:=h.fr.size;have hk:∀ q,q<w.heap.size→vr.ownBlock≠some q→w'.heap[q]? = w.heap[q]?:=fun q hq jd=>hg.block q hq (fun e=>jd e.symm);have jd:∀ q,q≠gB→(w'.setCell ⟨gB,1,none⟩ vra).heap[q]? = w'.heap[q]?:=fun q hq=>Below.heap_setCell _ _ _ _ hq;have jc:w'.heap[gB]? = some (.cells #[v,vr] 167 (0,0)):=(hk gB (A9.1 h.bst.rep).1 fun e=>by
  obtain ⟨cs2,jf⟩:=h.bst.rown.obj e;exact BT h.bst.rep jf (by decide) rfl).trans h.bst.rep
 have je:∀ (q:Nat) (cs:Array Value) (t:TypeId),w.heap[q]? = some (Obj.cells cs t (0,0))→t≠37→q≠gB→(w'.setCell ⟨gB,1,none⟩ vra).heap[q]? = w.heap[q]?:=fun q cs t hq ht jl=>(jd q jl).trans (hk q (A9.1 hq).1 fun e=>by
  obtain ⟨cs2,jf⟩:=h.bst.rown.obj e;exact BT hq jf ht rfl)
 refine ⟨⟨B7 jc rfl,h.bst.own.keep fun g jg=>?_,h.bst.len,fun k h1 h2=>⟨(h.bst.arcs k h1 h2).1,(h.bst.arcs k h1 h2).2.keep fun g jj=>?_⟩,ho.keep fun g jg=>jd g ?_,by simp [h.bst.slen],fun k h1 h2=>?_,h.bst.gB⟩,(h.bl.grown hg h.bst.size fun q hq=>h.bst.rown.ge q hq).setCell h.bst.gB _,⟨hg.os.trans h.fr.os,hg.tape.trans h.fr.tape,hg.output.trans h.fr.output,by rw [World.size_setCell];exact AC jk hg.size,fun q cs t hq h3 h4 h5=>?_⟩,h.nr,h.ex⟩
 ·obtain ⟨cs,jb⟩:=h.bst.own.obj jg;exact je g _ _ jb (by decide) (BT jb h.bst.rep (by decide))
 ·obtain ⟨cs,jb⟩:=(h.bst.arcs k h1 h2).2.obj jj;exact je g _ _ jb (by decide) (BT jb h.bst.rep (by decide))
 ·obtain ⟨cs,jb⟩:=ho.obj jg;exact BT jb jc (by decide)
 ·have ja:∀ {y:SV} {q:Rst},CO wW B w y q→CO wW B (w'.setCell ⟨gB,1,none⟩ vra) y q:=fun hy=>hy.keep fun q cs hq=>je q cs _ hq (by decide) (BT hq h.bst.rep (by decide));by_cases jh:k<S.length
  ·have ji:k<R.length:=by rw [← h.bst.slen];exact jh
   simp only [List.getElem_append_left jh,List.getElem_append_left ji];exact ja (h.bst.rests k jh ji)
  ·obtain rfl:k=S.length:=by rw [AF] at h1;simp at h1;omega
   have e1:(S ++ [x])[S.length]=x:=by simp
   have e2:(R ++ [r])[S.length]=r:=by simp [h.bst.slen]
   rw [e1,e2];exact ja hx
 ·have hlt:=(A9.1 hq).1;have e:=h.fr.block q cs t hq h3 h4 h5;exact (je q cs t (e.trans hq) h5 h3).trans e
theorem LO:∀ {N:List NV} {k:Nat} (hk:k<N.length) (f:Bool),(N.set k ⟨f,N[k].a,N[k].n,N[k].c⟩).flatMap Bj.enc=(N.flatMap Bj.enc).set (k*2) (.bool f)
 | x :: r,0,_,f=>by simp [Bj]
 | x :: r,k+1,hk,f=>by
  have ih:=LO (N:=r) (k:=k) (by simpa using hk) f;have e:(k+1)*2=(k*2)+1+1:=by omega
  simp only [List.set_cons_succ,List.getElem_cons_succ,List.flatMap_cons,e];rw [ih];simp [Bj]
theorem As.setFin {g n c0:Nat} {N:List NV} {k:Nat} (h:As Bj w B (.slice (some ⟨g,0,none⟩) n c0) N) (hk:k<N.length) (f:Bool) :
  As Bj (w.setCell ⟨g,k*2,none⟩ (.bool f)) B (.slice (some ⟨g,0,none⟩) n c0) (N.set k ⟨f,N[k].a,N[k].n,N[k].c⟩):=by
 have hf:=LO hk f;have ja:=F6 CH N;rcases id h.2 with ⟨he,_⟩ | ⟨g',cap,cur,he,h1,h2,h3,h4,h5,h6⟩
 · cases he
 ·injection he with e1 e2 e3;injection e1 with e1;injection e1 with e1;subst e1 e3;refine ⟨by rw [hf,List.length_set,ja,List.length_set],.inr ⟨g,c0,cur.setIfInBounds (k*2) (.bool f),by rw [List.length_set,e2],h1,B7 h2 rfl,by rw [List.length_set];exact h3,h4,by simp [h5],?_⟩⟩;rw [hf,← h6,List.length_set];simp only [Array.toList_setIfInBounds];rw [List.take_set]
theorem RL.done {n g cr c:Nat} {a:Option Addr} (h:RL wW w0 B gB gn vb0 N0 fin (.slice a A.length c) A (.slice (some ⟨g,0,none⟩) N.length cr) vr N D S R w) (jk:B≤w0.heap.size) (hn:N0.length=n) (je:n<N.length) :
  ∃ N',RL0 wW w0 B gB vb0 N0 (.slice (some ⟨g,0,none⟩) N.length cr) vr N' (D.set n ⟨fin,A⟩) S R ((w.setCell ⟨g,n*2,none⟩ (.bool fin)).setCell ⟨g,n*2+1,none⟩ (.slice a A.length c)):=by
 obtain ⟨w2,ja⟩:∃ w2,(w.setCell ⟨g,n*2,none⟩ (.bool fin)).setCell ⟨g,n*2+1,none⟩ (.slice a A.length c)=w2:=⟨_,rfl⟩
 have jh:∀ q,q≠g→w2.heap[q]? = w.heap[q]?:=fun q hq=>by
  rw [← ja];exact (Below.heap_setCell _ _ _ _ hq).trans (Below.heap_setCell _ _ _ _ hq)
 have jm:=h.bst.own.setFin je fin;have jf:=jm.setArcs (k:=n) (by rw [List.length_set];exact je) a A.length c;rw [ja] at jf;obtain ⟨csg,jl⟩:=h.bst.own.obj (g:=g) rfl;have jc:∀ (q:Nat) (cs:Array Value) (t:TypeId),w.heap[q]? = some (Obj.cells cs t (0,0))→t≠153→w2.heap[q]? = w.heap[q]?:=fun q cs t hq ht=>jh q (BT hq jl ht);have jn:w2.heap.size=w.heap.size:=by rw [← ja,World.size_setCell,World.size_setCell]
 have jg:=h.bst.own.ge g rfl;have ji:(N.set n (⟨fin,N[n].a,N[n].n,N[n].c⟩:NV)).set n ⟨((N.set n (⟨fin,N[n].a,N[n].n,N[n].c⟩:NV))[n]'(by rw [List.length_set];exact je)).fin,a,A.length,c⟩=N.set n ⟨fin,a,A.length,c⟩:=by
  rw [List.set_set];congr 1;rw [List.getElem_set_self]
 rw [ji] at jf;rw [ja];have jd:Below B wW w2:=by rw [← ja];exact (h.bl.setCell jg _).setCell jg _
 refine ⟨N.set n ⟨fin,a,A.length,c⟩,⟨(jc gB _ _ h.bst.rep (by decide)).trans h.bst.rep,jf,by simp [h.bst.len],fun k h1 h2=>?_,h.bst.rown.keep fun q hq=>?_,h.bst.slen,fun k h1 h2=>(h.bst.rests k h1 h2).keep fun q cs hq=>jc q cs _ hq (by decide),h.bst.gB⟩,jd,⟨?_,?_,?_,by rw [jn];exact h.fr.size,fun q cs t hq h3 h4 h5=>?_⟩,h.nr,?_⟩
 ·rw [List.length_set] at h1 h2;by_cases e:k=n
  ·subst e;simp only [List.getElem_set_self];refine ⟨trivial,(h.own.mono jk).keep fun q hq=>?_⟩;obtain ⟨cs,jb⟩:=h.own.obj hq;exact jc q _ _ jb (by decide)
  ·simp only [List.getElem_set_ne (Ne.symm e)];refine ⟨(h.bst.arcs k h1 h2).1,(h.bst.arcs k h1 h2).2.keep fun q hq=>?_⟩;obtain ⟨cs,jb⟩:=(h.bst.arcs k h1 h2).2.obj hq;exact jc q _ _ jb (by decide)
 ·obtain ⟨cs,jb⟩:=h.bst.rown.obj hq;exact jc q _ _ jb (by decide)
 · rw [← ja];exact h.fr.os
 · rw [← ja];exact h.fr.tape
 · rw [← ja];exact h.fr.output
 ·have hlt:=(A9.1 hq).1;refine (jh q fun e=>?_).trans (h.fr.block q cs t hq h3 h4 h5);subst e;rcases h.nr with h7 | h7
  · exact h4 (by rw [← h7];rfl)
  · have:=h7 q rfl;omega
 ·obtain ⟨X,hX,jj⟩:=h.ex;refine ⟨X.set 0 ⟨fin,a,A.length,c⟩,?_,fun x hx q hq=>?_⟩
  · rw [hX,List.set_append_right _ _ (by omega),hn,Nat.sub_self]
  ·rcases List.mem_or_eq_of_mem_set hx with hx | rfl
   · exact jj x hx q hq
   · exact h.own.ge q hq
theorem RL0.post {q:Nat × List Rst × List Nd} (h:RL0 wW w B gB v.ownBlock N0 va vr N q.2.2 S q.2.1 w'):S4 wW B gB q v N0 w (.returned (.int .i64 (q.1:Int))) w':=by
 obtain ⟨E,h1,h2⟩:=h.ex;exact ⟨va,vr,N,S,E,rfl,h.bst,h1,h2,h.bl,h.fr,h.nr⟩
theorem CO.fr {x:SV} {r:Rst} (h:CO wW B w x r) (hb:RSt wW w B gB v vr N D S R) (hf:FrR gB v.ownBlock w w'):CO wW B w' x r :=
 h.keep fun q cs hq=>hf.block q cs _ hq (BT hq hb.rep (by decide)) (fun e=>by
  obtain ⟨cs2,ja⟩:=hb.own.obj e;exact BT hq ja (by decide) rfl) (by decide)
theorem RSt.repD (h:RSt wW w B gB v vr N D S R) (hg:w.grownBy w' v.ownBlock):w'.heap[gB]? = some (.cells #[v,vr] 167 (0,0)) :=
 (hg.block gB (A9.1 h.rep).1 fun e=>by
  obtain ⟨cs2,ja⟩:=h.own.obj e.symm;exact BT h.rep ja (by decide) rfl).trans h.rep
theorem RSt.repR (h:RSt wW w B gB v vr N D S R) (hg:w.grownBy w' vr.ownBlock):w'.heap[gB]? = some (.cells #[v,vr] 167 (0,0)) :=
 (hg.block gB (A9.1 h.rep).1 fun e=>by
  obtain ⟨cs2,ja⟩:=h.rown.obj e.symm;exact BT h.rep ja (by decide) rfl).trans h.rep
theorem RL0.rows_lt (h:RL0 wW w0 B gB vb0 N0 v vr N D S R w):∀ x∈N,∀ g,nvB x=some g→g<w.heap.size:=fun x hx g hg=>by
 obtain ⟨cs,ja⟩:=h.bst.row_ty x hx g hg;exact (A9.1 ja).1
end
end Go.Proofs.YthjmdgejnakcmaaGreatDoor
