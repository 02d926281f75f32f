/- Texts that the claims share: DAll, DColl, DEq, DWords, DRefQ, DRef, DOf, DList, DSame, DListed, DHas, DVis, DMake, DFacts, DLit, DLawK, DCopy, DViews, DLaid. -/
import Derived.RangeFuncNested
import Derived.RangeFuncBound
import Derived.RangeFuncCalls
import Derived.RangeFuncLeaves
import Derived.Shelf.Abstract
import Derived.OwnWalkIn
import Derived.TacticsInMore
import Derived.LoopNIn
import Derived.LoopIn
import Derived.RangeFuncBox
import Derived.Maps.AppendAt
import Derived.Laws.Concat
import Derived.Deep.CutBlock
import Derived.Deep.QuietTactic
import Derived.BigQuiet
import Derived.Laws.RangeString
import Derived.Laws.Strings3
import Derived.Deep.Slices
import Derived.Deep.Strs
import Derived.Lib.LaidTab
import Derived.Deep.DeepHandedRow
import Derived.WalkKit
import Derived.ProofKit
import Derived.OpenShut
import Derived.Test.YtpljngaejaehcaaGreatDoorRows
import Derived.Test.YtpljngaejaehcaaGreatDoorMD3
import Derived.Test.YtpljngaejaehcaaGreatDoorMD1
import Derived.Test.YtpljngaejaehcaaGreatDoorMA2
set_option maxHeartbeats 2000000
set_option maxRecDepth 100000
set_option linter.unusedVariables false
set_option linter.unusedSimpArgs false
namespace Go.Proofs.YtpljngaejaehcaaGreatDoor
open Go.RowKit Go.WideShapes
def H5 (D:List Nd) (i:Int) (ws:List UInt8):Bool :=
 decide (i<0) || decide ((D.length:Int)≤i) || decide (20<ws.length) || (!(D.getD i.toNat default).fin && decide ((D.getD i.toNat default).arcs=[]))
def DH (rec:Int→List UInt8→List (ByteArray × Bool) × Bool) (ws:List UInt8):List Ar→List (ByteArray × Bool) × Bool
 | []=>([],true)
 | x :: r=>if (rec x.t (ws ++ [UInt8.ofNat x.c.toNat])).2=true then ((rec x.t (ws ++ [UInt8.ofNat x.c.toNat])).1 ++ (DH rec ws r).1,(DH rec ws r).2) else ((rec x.t (ws ++ [UInt8.ofNat x.c.toNat])).1,false)
def
  visitL (D:List Nd):Nat→Int→List UInt8→List (ByteArray × Bool) × Bool
 | 0,_,_=>([],true)
 | m+1,i,ws=>if H5 D i ws=true then ([(⟨#[]⟩,false)],false)
  else ((if (D.getD i.toNat default).fin=true then [(⟨ws.toArray⟩,true)] else []) ++ (DH (visitL D m) ws (D.getD i.toNat default).arcs).1,(DH (visitL D m) ws (D.getD i.toNat default).arcs).2)
def Cc (W:World) (a:Option Addr) (l:List UInt8):Prop:=(a=none∧l=[])∨∃ b cs,a=some ⟨b,0,none⟩∧W.heap[b]? = some (.cells cs 5 (0,0))∧cs.toList.take l.length=l.map fun c=>Value.int .u8 (c.toNat:Int)
theorem Cc.nil (W:World):Cc W none []:=.inl ⟨rfl,rfl⟩
theorem Cc.keep {W W':World} {a:Option Addr} {l:List UInt8} (h:Cc W a l) (hk:∀ (b:Nat) (cs:Array Value),W.heap[b]? = some (.cells cs 5 (0,0))→W'.heap[b]? = W.heap[b]?):Cc W' a l:=by
 rcases h with h | ⟨b,cs,h1,h2,h3⟩
 · exact .inl h
 · exact .inr ⟨b,cs,h1,(hk b cs h2).trans h2,h3⟩
theorem Cc.cells {W:World} {b:Nat} {l:List UInt8} (h:Cc W (some ⟨b,0,none⟩) l):∀ j v,(l.map fun c=>Value.int .u8 (c.toNat:Int))[j]? = some v→W.cell? ((⟨b,0,none⟩:Addr).add j)=some v:=by
 rcases h with ⟨h,_⟩ | ⟨b',cs,h1,h2,h3⟩
 · cases h
 ·injection h1 with h1;injection h1 with h1;subst h1;intro j v hj;rw [← h3] at hj;have hlt:=(List.getElem?_eq_some_iff.1 hj).1;rw [List.getElem?_take] at hj;split at hj
  ·rw [Gd,Nat.zero_add,cell_of_row _ _ _ _ _ _ h2];simpa using hj
  · cases hj
theorem conv_bytes {W:World} {a:Option Addr} {l:List UInt8} (h:Cc W a l) (c:Nat):(convert 26 9 (.slice a l.length c)).run Tryz.prog W=.ok (.string ⟨l.toArray⟩) W:=by
 rcases id h with ⟨rfl,rfl⟩ | ⟨b,cs,rfl,h2,h3⟩
 · exact run_convert_bytes_nil W 26 5 Tryz.underlying26 Tryz.underlying5 0 c 9 Tryz.underlying9
 ·have:=run_convert_bytes_arg W 26 5 Tryz.underlying26 Tryz.underlying5 b 0 l.length c (l.map fun c=>(c.toNat:Int)) (by simp) (fun i hi=>by
   have hc:=h.cells i (.int .u8 (l[i].toNat:Int)) (by simp [hi]);rw [Gd] at hc;rw [hc];simp [AO,hi]) 9 Tryz.underlying9
  refine this.trans ?_;have e0:((l.map fun c=>(c.toNat:Int)).map fun n=>UInt8.ofNat n.toNat)=l:=by
   rw [List.map_map];have h1:((fun n:Int=>UInt8.ofNat n.toNat) ∘ fun c:UInt8=>(c.toNat:Int))=id:=by
    funext c;show UInt8.ofNat ((c.toNat:Int).toNat)=c;rw [Int.toNat_natCast,UInt8.ofNat_toNat]
   rw [h1,List.map_id]
  have e:strOfNums (l.map fun c=>(c.toNat:Int))=⟨l.toArray⟩:=by
   unfold strOfNums;rw [e0]
  rw [e]
theorem MI (a:Option Addr) (n c:Nat) (hn:n≤c) (ha:a=none→n=0) (w:World) :
  (Instr.slice 26 (.slice a n c) none (some (.int .i64 (n:Int))) (some (.int .i64 (n:Int)))).run Tryz.prog w=.ok (.slice a n n) w:=by
 have h0:(0:Int)≤(n:Int):=by omega
 have h1:(n:Int)≤(c:Int):=by omega
 cases a with
 | none =>
  obtain rfl:=ha rfl;simp [go_sem,Instr.slice,Instr.sliceBounds,Instr.sliceBound,asIntOf]
 | some p=>simp [go_sem,Instr.slice,Instr.sliceBounds,Instr.sliceBound,asIntOf,h0,h1];intro h;omega
theorem Qw:(Tryz.prog.info? 5).map (fun i=>(i.zero,i.size,i.bytes))=some (some (.int .u8 0),1,1):=by kernel_rfl
theorem TE {W:World}:Ext W W.drew:=(Below.refl _ W).drew
theorem PS {W:World} {a:Option Addr} {l:List UInt8} (h:Cc W a l) (hl:l.length≤1000) (x:UInt8) (g:Nat) (hg:W.heap[g]? = some (.cells #[.int .u8 (x.toNat:Int)] 5 (0,0))) (ty:TypeId) :
  ∃ c W',(Builtin.append_ #[26,26] ty #[.slice a l.length l.length,.slice (some ⟨g,0,none⟩) 1 1]).run Tryz.prog W=.ok (.slice (some ⟨W.heap.size,0,none⟩) (l ++ [x]).length c) W'∧Cc W' (some ⟨W.heap.size,0,none⟩) (l ++ [x])∧(l ++ [x]).length≤c∧Ext W W':=by
 obtain ⟨i0,hi,jc,jb,jd⟩:=info_parts Qw;have hn:∀ j v,([Value.int .u8 (x.toNat:Int)]:List Value)[j]? = some v→W.cell? ((⟨g,0,none⟩:Addr).add j)=some v:=fun j v hj=>by
  rw [Gd,Nat.zero_add,cell_of_row _ _ _ _ _ _ hg];simpa using hj
 have hx:∀ o,Ext W (W.drew.alloc o):=fun o=>TE.alloc (by exact A3 _) _;rcases id h with ⟨rfl,rfl⟩ | ⟨b,cs,rfl,h2,h3⟩
 ·have hr:=run_append_nil (P:=Tryz.prog) (w:=W) 26 ty 5 i0 (.int .u8 0) Tryz.underlying26 hi jc ⟨g,0,none⟩ 1 1 [.int .u8 (x.toNat:Int)] (by rw [jb];rfl) hn (by omega) (by omega) (by rw [jd];omega);have ja:=grownCap_ge W 1 0 5;refine ⟨_,_,hr,.inr ⟨_,_,rfl,heap_alloc_new W.drew _,?_⟩,ja,hx _⟩;simp
 ·have hr:=run_append_grow (P:=Tryz.prog) (w:=W) 26 ty 5 i0 (.int .u8 0) Tryz.underlying26 hi jc ⟨b,0,none⟩ l.length l.length (l.map fun c=>Value.int .u8 (c.toNat:Int)) (by rw [jb];simp) h.cells ⟨g,0,none⟩ 1 1 [.int .u8 (x.toNat:Int)] (by rw [jb];rfl) hn (by omega) (by omega) (growslice_fits (by omega) (by rw [jd];omega));have ja:=grownCap_ge W (l.length+1) l.length 5;rw [show (l ++ [x]).length=l.length+1 by simp];refine ⟨grownCap W (l.length+1) l.length 5,_,hr,.inr ⟨_,_,rfl,heap_alloc_new W.drew _,?_⟩,ja,hx _⟩;simp only [Builtin.zeroCells,List.append_toArray,Array.toList_append,AB,List.map_append];simp [List.take_append,AF]
def Kp (n₀:Nat) (W W':World):Prop:=Below n₀ W W'∧∀ (q:Nat) (cs:Array Value) (t:TypeId) (fz:Nat × Nat),W.heap[q]? = some (.cells cs t fz)→t≠9→t≠35→t≠4→W'.heap[q]? = W.heap[q]?
theorem Kp.trans {n₀:Nat} {A B C:World} (h:Kp n₀ A B) (h2:Kp n₀ B C):Kp n₀ A C :=
 ⟨h.1.trans h2.1,fun q cs t fz hq h3 h4 h5=>by
  have e:=h.2 q cs t fz hq h3 h4 h5;exact (h2.2 q cs t fz (e.trans hq) h3 h4 h5).trans e⟩
theorem Kp.of_ext {n₀:Nat} {A B:World} (h:Ext A B) (hn:n₀≤A.heap.size):Kp n₀ A B:=⟨Below.mono h hn,fun q cs t fz hq _ _ _=>Below.block h q (A5.1 hq).1⟩
theorem Kp.refl (n₀:Nat) (A:World):Kp n₀ A A:=⟨Below.refl _ _,fun _ _ _ _ _ _ _ _=>rfl⟩
theorem Kp.obj {n₀:Nat} {W:World} (hn:n₀≤W.heap.size) (X:World) (l:Nat) (o o':Obj) (hl:W.heap.size≤l) (h:X.heap[l]? = some o) (ho:o.isCells=false) (hw:o.isWalk=false):Kp n₀ X (X.putObj l o') :=
 ⟨belowK_b hn X l o o' hl h ho hw,fun q cs t fz hq _ _ _=>by
  have ja:q≠l:=fun e=>by subst e;rw [hq] at h;injection h with h;subst h;cases ho
  exact World.putObj_heap_other ja⟩
theorem Cc.kp {n₀:Nat} {W W':World} {a:Option Addr} {l:List UInt8} (h:Cc W a l) (hk:Kp n₀ W W'):Cc W' a l:=h.keep fun b cs hb=>hk.2 b cs _ _ hb (by decide) (by decide) (by decide)
structure VBy (l gD gY gV:Nat) (aD:Option Addr) (nD cD:Nat) (W:World):Prop where
 dd:W.heap[gD]? = some (.cells #[.slice aD nD cD] 69 (0,0))
 yy:W.heap[gY]? = some (.cells #[.func (.yield l) #[] #[]] 247 (0,0))
 vv:W.heap[gV]? = some (.cells #[.func (.func 156) #[] #[.pointer (some ⟨gD,0,none⟩),.pointer (some ⟨gY,0,none⟩),.pointer (some ⟨gV,0,none⟩)]] 248 (0,0))
theorem VBy.kp {n₀ l gD gY gV:Nat} {aD:Option Addr} {nD cD:Nat} {W W':World} (h:VBy l gD gY gV aD nD cD W) (hk:Kp n₀ W W'):VBy l gD gY gV aD nD cD W' :=
 ⟨(hk.2 _ _ _ _ h.dd (by decide) (by decide) (by decide)).trans h.dd,(hk.2 _ _ _ _ h.yy (by decide) (by decide) (by decide)).trans h.yy,(hk.2 _ _ _ _ h.vv (by decide) (by decide) (by decide)).trans h.vv⟩
theorem VBy.cells {l gD gY gV:Nat} {aD:Option Addr} {nD cD:Nat} {W:World} (h:VBy l gD gY gV aD nD cD W):W.cell? ⟨gD,0,none⟩=some (.slice aD nD cD)∧W.cell? ⟨gY,0,none⟩=some (.func (.yield l) #[] #[])∧W.cell? ⟨gV,0,none⟩=some (.func (.func 156) #[] #[.pointer (some ⟨gD,0,none⟩),.pointer (some ⟨gY,0,none⟩),.pointer (some ⟨gV,0,none⟩)]) :=
 ⟨Cu h.dd,Cu h.yy,Cu h.vv⟩
theorem YieldAt.anyD {m:Nat} (m':Nat) {P:Program} {l:Nat} {args:Array Value} {W:World} {R:Ending→World→Prop} (h:YieldAt Fence.wide m P l args W R):YieldAt Fence.wide m' P l args W R:=by
 obtain ⟨fn,tmps,assign,body,hy,hR⟩:=h;exact ⟨fn,tmps,assign,body,hy,hR.1,fun c cs _=>hR.2 c cs (room_wide _)⟩
def J2 (J:List (ByteArray × Bool)→World→Prop):Prop:=∀ s W W',J s W→Ext W W'→J s W'
theorem J2.of {B:Nat} {J:List (ByteArray × Bool)→World→Prop} (h:AbidesFrom B J):J2 J:=fun s W W' hs hx =>
 h s W W' none hs ⟨hx.os,hx.tape,hx.output,hx.size,fun k hk _=>hx.block k hk⟩ (fun r e=>by cases e)
attribute [local go_sem] Oper.semAt_some
def KD (D:List Nd):Prop:=∀ i (h:i<D.length),∀ x∈D[i].arcs,0≤x.c∧x.c≤255∧-9223372036854775808≤x.t∧x.t≤9223372036854775807
def TF (n₀:Nat) (J Jx:List (ByteArray × Bool)→World→Prop) (q:List (ByteArray × Bool) × Bool) (pre:List (ByteArray × Bool)) (W:World) (e:Ending) (W':World):Prop :=
 (e=.returned (.bool true)∧q.2=true∧J (pre ++ q.1) W'∧Kp n₀ W W')∨(e=.returned (.bool false)∧q.2=false∧J (pre ++ q.1) W')∨(e=.returned (.bool false)∧∃ p,p <+: q.1∧Jx (pre ++ p) W')
def PV (b:Bool) (n₀:Nat) (J Jx:List (ByteArray × Bool)→World→Prop) (wz:World) (pre S:List (ByteArray × Bool)) (q:List (ByteArray × Bool) × Bool) (v:Value) (W:World):Prop :=
 (v=.bool b∧q.2=true∧J (pre ++ (S ++ q.1)) W∧Kp n₀ wz W)∨(v=.bool (!b)∧((q.2=false∧J (pre ++ (S ++ q.1)) W)∨∃ p,p <+: q.1∧Jx (pre ++ (S ++ p)) W))
theorem LK {b:Bool} {n₀:Nat} {J Jx:List (ByteArray × Bool)→World→Prop} (hJ:J2 J) (ja:J2 Jx) {wz:World} (hn:n₀≤wz.heap.size) {pre S:List (ByteArray × Bool)} {q:List (ByteArray × Bool) × Bool}:Bb (PV b n₀ J Jx wz pre S q):=by
 rintro v w w' (⟨h1,h2,h3,h4⟩ | ⟨h1,⟨h2,h3⟩ | ⟨p,h2,h3⟩⟩) hx
 · exact .inl ⟨h1,h2,hJ _ _ _ h3 hx,h4.trans (Kp.of_ext hx (A8 hn h4.1.size))⟩
 · exact .inr ⟨h1,.inl ⟨h2,hJ _ _ _ h3 hx⟩⟩
 · exact .inr ⟨h1,.inr ⟨p,h2,ja _ _ _ h3 hx⟩⟩
def Qx (g n:Nat) (v:Value) (_:World):Prop:=∃ c,v=.slice (some ⟨g,0,none⟩) n c∧n≤c
theorem MJ (g n:Nat):Bb (Qx g n):=fun _ _ _ h _=>h
theorem IN {W:World} {A:Act} {o:Oper} {s y:Operand} {a:Option Addr} {l:List UInt8} {x:UInt8} {g:Nat} (h:Cc W a l) (hl:l.length≤1000) (hg:W.heap[g]? = some (.cells #[.int .u8 (x.toNat:Int)] 5 (0,0)))
  (ho:o.op=.call { callee:=.builtin .append,args:=#[s,y],argTypes:=#[26,26] }) (hs:A.eval s=.slice a l.length l.length) (hy:A.eval y=.slice (some ⟨g,0,none⟩) 1 1) :
  Ee Tryz.prog A o W (fun v w'=>Qx W.heap.size (l ++ [x]).length v w'∧Cc w' (some ⟨W.heap.size,0,none⟩) (l ++ [x])∧Ext W w'):=by
 obtain ⟨c,W',hr,h1,h2,h3⟩:=PS h hl x g hg o.type;refine .inl ⟨_,W',?_,⟨c,rfl,h2⟩,h1,h3⟩;unfold execOp;simp only [ho,resolve,invoke,builtin,Sem.run_bind,Sem.run_pure,Result.andThen_ok,List.map_toArray,List.map_cons,List.map_nil,hs,hy,hr]
def TV (n₀:Nat) (J:List (ByteArray × Bool)→World→Prop) (wz:World) (g s0:Nat) (cs:Array Value) (y:UInt8) (l:List UInt8) (pre:List (ByteArray × Bool)) (b1 b2 b3:Bool) (W:World):Prop :=
 match b3 with
 | false=>J pre W∧Kp n₀ wz W∧W.heap[g]? = some (.cells cs 170 (0,0))∧(b2=false→W.heap.size=s0+b1.toNat)∧(b1=true→W.heap[s0]? = some (.cells #[.int .u8 (y.toNat:Int)] 5 (0,0)))∧(b2=true→Cc W (some ⟨s0+1,0,none⟩) l)
 | true=>True
theorem TV.keep {n₀:Nat} {J:List (ByteArray × Bool)→World→Prop} (hJ:J2 J) {wz:World} (hn:n₀≤wz.heap.size) {g s0:Nat} {cs:Array Value} {y:UInt8} {l:List UInt8} {pre:List (ByteArray × Bool)} {w w':World} {b1 b2:Bool} (h:TV n₀ J wz g s0 cs y l pre b1 b2 false w) (hx:Ext w w') :
  J pre w'∧Kp n₀ wz w'∧w'.heap[g]? = some (.cells cs 170 (0,0)) :=
 ⟨hJ _ _ _ h.1 hx,h.2.1.trans (Kp.of_ext hx (A8 hn h.2.1.1.size)),(Below.block hx g (A5.1 h.2.2.1).1).trans h.2.2.1⟩
theorem OC {i:Int} (h:¬ i<0):∃ k:Nat,i=(k:Int):=⟨i.toNat,by omega⟩
theorem vis_any
        (l gD gY gV n₀ N:Nat) (aD:Option Addr) (cD:Nat) (D:List Nd) (wW:World) (hWB:wW.heap.size≤n₀) (hD:C7 wW aD D) (hDl:D.length≤9223372036854775807) (hC:KD D)
  (J Jx:List (ByteArray × Bool)→World→Prop) (hJ:J2 J) (kf:J2 Jx)
  (hY:∀ pre (x:ByteArray × Bool) W,J pre W→pre.length<N→YieldAt Fence.wide 8 Tryz.prog l #[.string x.1,.bool x.2] W fun e W' =>
   (e=.returned (.bool true)∧J (pre ++ [x]) W'∧Kp n₀ W W')∨(e=.returned (.bool false)∧Jx (pre ++ [x]) W')) :
  ∀
   (m:Nat) (i:Int) (ws:List UInt8) (aw:Option Addr) (cw:Nat) (pre:List (ByteArray × Bool)) (W:World),m+ws.length=22→1≤m→Cc W aw ws→ws.length≤cw→VBy l gD gY gV aD D.length cD W→n₀≤W.heap.size→Below n₀ wW W→J pre W →
   pre.length+(visitL D m i ws).1.length≤N→Calls Tryz.prog 156 #[.int .i64 i,.slice aw ws.length cw,.pointer (some ⟨gD,0,none⟩),.pointer (some ⟨gY,0,none⟩),.pointer (some ⟨gV,0,none⟩)] W (TF n₀ J Jx (visitL D m i ws) pre W):=by
 intro m
 induction m with
 | zero=>intro i ws aw cw pre W _ h;omega
 | succ m ih
       =>
  intro i ws aw cw pre W hm _ hB kQ hV hn hW ke hN;obtain ⟨q,hq⟩:∃ q,visitL D (m+1) i ws=q:=⟨_,rfl⟩
  rw [hq] at hN ⊢;have jz:=A0 hY;have HJ:=A0 hJ;have kd:=A0 kf;have HD:=A0 hD;have HC:=A0 hC;have IH:=A0 ih;have HB:=A0 hB;have HV:=A0 hV;have HW:=A0 hW;have jw:=A0 ke;have HN:=A0 hN;have HQ:=A0 hq;clear hY hJ kf hD hC ih hB hV hW ke hN hq;obtain ⟨kO,kR,kP⟩:=HV.out.cells;by_cases j6:i<0
  ·have kC:=A0 j6;have je:q=([(⟨#[]⟩,false)],false):=by rw [← HQ.out,visitL,if_pos (by simp [H5,kC.out])]
   obtain ⟨fn,tmps,assign,body,hy,hR⟩:=YieldAt.anyD 8 (jz.out pre (⟨#[]⟩,false) W jw.out (by have:=HN.out;rw [je] at this;simp at this;omega));dsimp only at hy;have jj:=A0 je;have HR:=A0 hR;clear je hR
   go_enter Tryz.func156,Tryz.ntmps156
   go_upto_region 2 with fail
   refine (wpIn_wide (n:=9)).1 ?_
   gi_wp2
   refine HR.out.mono ?_;rintro e W2 (⟨rfl,ja,jp⟩ | ⟨rfl,ja⟩)
   ·dsimp only
    apply_assumption -exfalso
    gi_wp2
    try apply_assumption -exfalso
    go_wp2_with fail
    go_ret;rw [jj.out];exact .inr (.inl ⟨rfl,rfl,ja⟩)
   ·dsimp only
    apply_assumption -exfalso
    gi_wp2
    try apply_assumption -exfalso
    go_wp2_with fail
    go_ret;rw [jj.out];exact .inr (.inr ⟨rfl,_,List.prefix_refl _,ja⟩)
  by_cases j4:(D.length:Int)≤i
  ·have kB:=A0 j4;have je:q=([(⟨#[]⟩,false)],false):=by rw [← HQ.out,visitL,if_pos (by simp [H5,kB.out])]
   obtain ⟨fn,tmps,assign,body,hy,hR⟩:=YieldAt.anyD 8 (jz.out pre (⟨#[]⟩,false) W jw.out (by have:=HN.out;rw [je] at this;simp at this;omega));dsimp only at hy;have jj:=A0 je;have HR:=A0 hR;clear je hR
   go_enter Tryz.func156,Tryz.ntmps156
   go_upto_region 2 with fail
   refine (wpIn_wide (n:=9)).1 ?_
   gi_wp2
   refine HR.out.mono ?_;rintro e W2 (⟨rfl,ja,jp⟩ | ⟨rfl,ja⟩)
   ·dsimp only
    apply_assumption -exfalso
    gi_wp2
    try apply_assumption -exfalso
    go_wp2_with fail
    go_ret;rw [jj.out];exact .inr (.inl ⟨rfl,rfl,ja⟩)
   ·dsimp only
    apply_assumption -exfalso
    gi_wp2
    try apply_assumption -exfalso
    go_wp2_with fail
    go_ret;rw [jj.out];exact .inr (.inr ⟨rfl,_,List.prefix_refl _,ja⟩)
  obtain ⟨k,rfl⟩:=OC j6;have jQ:k<D.length:=by omega
  have hkI:¬ (D.length:Int)≤(k:Int):=j4;by_cases jX:20<ws.length
  ·have jY:(20:Int)<(ws.length:Int):=by omega
   have kv:=A0 jX;clear jX;have je:q=([(⟨#[]⟩,false)],false):=by rw [← HQ.out,visitL,if_pos (by simp [H5,kv.out])]
   obtain ⟨fn,tmps,assign,body,hy,hR⟩:=YieldAt.anyD 8 (jz.out pre (⟨#[]⟩,false) W jw.out (by have:=HN.out;rw [je] at this;simp at this;omega));dsimp only at hy;have jj:=A0 je;have HR:=A0 hR;clear je hR
   go_enter Tryz.func156,Tryz.ntmps156
   go_upto_region 2 with fail
   refine (wpIn_wide (n:=9)).1 ?_
   gi_wp2
   refine HR.out.mono ?_;rintro e W2 (⟨rfl,ja,jp⟩ | ⟨rfl,ja⟩)
   ·dsimp only
    apply_assumption -exfalso
    gi_wp2
    try apply_assumption -exfalso
    go_wp2_with fail
    go_ret;rw [jj.out];exact .inr (.inl ⟨rfl,rfl,ja⟩)
   ·dsimp only
    apply_assumption -exfalso
    gi_wp2
    try apply_assumption -exfalso
    go_wp2_with fail
    go_ret;rw [jj.out];exact .inr (.inr ⟨rfl,_,List.prefix_refl _,ja⟩)
  have jY:¬ (20:Int)<(ws.length:Int):=by omega
  obtain ⟨bN,oN,kj,hbN,f0,aa,cc,f1,kh,jM⟩:=HD.out.at jQ;have hidxN:=Gc aD bN oN D.length cD k kj jQ;have j5:D.getD k default=D[k]:=by rw [AO,AA jQ];rfl
  have jL:=HC.out k jQ;obtain ⟨nd0,jE⟩:∃ nd0,D[k]=nd0:=⟨_,rfl⟩
  rw [jE] at f0 f1 kh jM j5 jL;obtain ⟨f,X⟩:=nd0;simp only at f0 f1 kh jM jL;have c0:=(HW.out.cell (p:=⟨bN,oN+k*2,none⟩) (by show bN<n₀;omega)).trans f0;have c1:=(HW.out.cell (p:=⟨bN,oN+k*2+1,none⟩) (by show bN<n₀;omega)).trans f1;have HF0:=A0 f0;have kA:=A0 f1;have kM:=A0 jM;have jU:=A0 j5;have kz:=A0 jL;clear f0 f1 jM j5 jL jE kj;by_cases jf:f=false∧X=[]
  ·obtain ⟨rfl,rfl⟩:=jf;have je:q=([(⟨#[]⟩,false)],false):=by rw [← HQ.out,visitL,if_pos (by unfold H5;rw [Int.toNat_natCast,jU.out];simp)]
   obtain ⟨fn,tmps,assign,body,hy,hR⟩:=YieldAt.anyD 8 (jz.out pre (⟨#[]⟩,false) W jw.out (by have:=HN.out;rw [je] at this;simp at this;omega));dsimp only at hy;have jj:=A0 je;have HR:=A0 hR;clear je hR;simp only [List.length_nil] at c1
   go_enter Tryz.func156,Tryz.ntmps156
   go_upto_region 2 with fail
   refine (wpIn_wide (n:=9)).1 ?_
   gi_wp2
   refine HR.out.mono ?_;rintro e W2 (⟨rfl,ja,jp⟩ | ⟨rfl,ja⟩)
   ·dsimp only
    apply_assumption -exfalso
    gi_wp2
    try apply_assumption -exfalso
    go_wp2_with fail
    go_ret;rw [jj.out];exact .inr (.inl ⟨rfl,rfl,ja⟩)
   ·dsimp only
    apply_assumption -exfalso
    gi_wp2
    try apply_assumption -exfalso
    go_wp2_with fail
    go_ret;rw [jj.out];exact .inr (.inr ⟨rfl,_,List.prefix_refl _,ja⟩)
  have jy:=A0 jf;obtain ⟨L1,j0⟩:∃ L1:List (ByteArray × Bool),(if f=true then [(⟨ws.toArray⟩,true)] else [])=L1:=⟨_,rfl⟩
  obtain ⟨FA,jZ⟩:∃ FA,DH (visitL D m) ws X=FA:=⟨_,rfl⟩
  have kn:q=(L1 ++ FA.1,FA.2):=by
   rw [← HQ.out,visitL,if_neg (by unfold H5;rw [Int.toNat_natCast,jU.out];simp;simp at jf;exact ⟨⟨by omega,by omega⟩,jf⟩),Int.toNat_natCast,jU.out,← j0,← jZ]
  have jq:=A0 kn;have jJ:=A0 j0;have kb:=A0 jZ;have hws:ws.length≤20:=by omega
  have ky:Hid (aw=none→ws.length=0):=fun e=>by
   rcases HB.out with ⟨_,h⟩ | ⟨b,cs,h,_⟩
   · rw [h];rfl
   · rw [e] at h;cases h
  clear kn j0 jZ jf jX j4 j6
  go_enter Tryz.func156,Tryz.ntmps156
  go_upto_region 1 with fail
  go_cut [39] (fun s39 wx=>∃ wz,wz=wx∧wz=W∧s39=.bool false)
  case first =>
   cases f with
   | true =>
    go_wp2
    go_meet
    exact ⟨_,rfl,rfl,rfl⟩
   | false =>
    have hx0:((X.length:Int) == 0)=false:=by
     have:=jy.out;cases X with
     | nil=>simp at this
     | cons=>simp;omega
    go_wp2
    go_meet
    exact ⟨_,rfl,rfl,rfl⟩
  case rest
       =>
   obtain ⟨wz,rfl,rfl,rfl⟩:=hcut
   apply_assumption -exfalso
   go_upto_region 4 with fail
   go_cut [53] (fun s53 wx=>∃ wz2,wz2=wx∧((s53=.bool false∧J (pre ++ L1) wz2∧Kp n₀ wz wz2)∨(s53=.bool true∧Jx (pre ++ L1) wz2)))
   case first =>
    cases f with
    | true =>
     obtain ⟨fn,tmps,assign,body,hy,hR⟩:=YieldAt.anyD 8 (jz.out pre (⟨ws.toArray⟩,true) wz jw.out (by have:=HN.out;rw [jq.out,← jJ.out] at this;simp at this;omega));dsimp only at hy;have HR:=A0 hR;clear hR;have hconv:=conv_bytes HB.out cw;refine (wpIn_wide (n:=9)).1 ?_
     gi_wp2
     refine HR.out.mono ?_;rintro e W2 (⟨rfl,ja,jp⟩ | ⟨rfl,ja⟩)
     ·dsimp only
      apply_assumption -exfalso
      gi_wp2
      go_meet
      exact ⟨_,rfl,.inl ⟨rfl,by rw [← jJ.out];exact ja,jp⟩⟩
     ·dsimp only
      apply_assumption -exfalso
      gi_wp2
      go_meet
      exact ⟨_,rfl,.inr ⟨rfl,by rw [← jJ.out];exact ja⟩⟩
    | false =>
     go_wp2
     go_meet
     exact ⟨_,rfl,.inl ⟨rfl,by rw [← jJ.out];simpa using jw.out,Kp.refl _ _⟩⟩
   case rest
        =>
    obtain ⟨wz2,rfl,kU⟩:=hcut
    apply_assumption -exfalso
    rcases kU with ⟨rfl,ja,jp⟩ | ⟨rfl,ja⟩
    ·have kK:=A0 (HV.out.kp jp);have kL:=A0 (HW.out.trans jp.1);have kD:=A0 ja;have kF:=A0 jp;obtain ⟨hcd2, -, -⟩:=kK.out.cells;have c1b:=(kL.out.cell (p:=⟨bN,oN+k*2+1,none⟩) (by show bN<n₀;omega)).trans kA.out;clear kO kR kP c0 c1 ja jp
     go_wp2_with fail
     go_loopw [60] (fun s60 wr=>∃ (j:Nat) (S:List (ByteArray × Bool)),j≤X.length∧s60=.int .i64 (j:Int)∧J (pre ++ S) wr∧Kp n₀ wz wr∧S ++ (DH (visitL D m) ws (X.drop j)).1=L1 ++ FA.1∧(DH (visitL D m) ws (X.drop j)).2=FA.2) (fun s60 _=>X.length - (intOf s60).toNat)
     case atStart=>exact ⟨0,L1,Nat.zero_le _,rfl,kD.out,kF.out,by rw [List.drop_zero,kb.out],by rw [List.drop_zero,kb.out]⟩
     case round =>
      obtain ⟨j,S,hj,rfl,kl,j7,jd,kg⟩:=hrel;have kc:=A0 kl;have jI:=A0 j7;have jK:=A0 jd;have jV:=A0 kg;have kT:n₀≤wr.heap.size:=A8 hn j7.1.size;clear kl j7 jd kg;by_cases jP:j<X.length
      ·obtain ⟨b3,o3,ki,hb3,q0,q1⟩:=kM.out.at jP;have hidx3:=EI aa b3 o3 X.length cc j ki jP;have j2:=kz.out X[j] (AG jP);have j3:=AE jP;obtain ⟨x,hx⟩:∃ x,X[j]=x:=⟨_,rfl⟩
       rw [hx] at q0 q1 j2 j3;obtain ⟨xc,xt⟩:=x;simp only at q0 q1 j2;obtain ⟨y,hy,ku⟩:∃ y:UInt8,xc=(y.toNat:Int)∧UInt8.ofNat xc.toNat=y:=⟨UInt8.ofNat xc.toNat,by rw [UInt8.toNat_ofNat'];omega,rfl⟩
       obtain ⟨q2,je⟩:∃ q2,visitL D m xt (ws ++ [y])=q2:=⟨_,rfl⟩
       have js:DH (visitL D m) ws (X.drop j)=if q2.2=true then (q2.1 ++ (DH (visitL D m) ws (X.drop (j+1))).1,(DH (visitL D m) ws (X.drop (j+1))).2) else (q2.1,false):=by
        rw [j3,DH];simp only [ku,je]
       subst hy;have jr:=A0 js;have jj:=A0 je;have c3:=((HW.out.trans jI.out.1).cell (p:=⟨b3,o3+j*2,none⟩) (by show b3<n₀;omega)).trans q0;have c4:=((HW.out.trans jI.out.1).cell (p:=⟨b3,o3+j*2+1,none⟩) (by show b3<n₀;omega)).trans q1;have j8:(S ++ q2.1) <+: (L1 ++ FA.1):=by
        rw [← jK.out,js];split
        · exact List.prefix_append_right_inj _ |>.2 (List.prefix_append _ _)
        · exact List.prefix_refl _
       have kH:=A0 j8;have kN:(pre ++ S).length+q2.1.length≤N:=by
        have h1:=HN.out;have h2:=j8.length_le;rw [jq.out] at h1;simp only [AB] at h1 h2 ⊢;omega
       clear ki hx j3 q0 q1 j2 js je ku j8
       go_upto_region 9 with fail
       obtain ⟨wy,jS⟩:∃ wy,wy=wr.alloc (.cells #[.int .u8 (y.toNat:Int),.int .i64 xt] 170):=⟨_,rfl⟩
       have kJ:Hid (TV n₀ J wz wr.heap.size wy.heap.size #[.int .u8 (y.toNat:Int),.int .i64 xt] y (ws ++ [y]) (pre ++ S) false false false wy):=by
        have jx:Ext wr wy:=by rw [jS];exact (Below.refl _ _).alloc (A3 _) _
        exact ⟨HJ.out _ _ _ kc.out jx,jI.out.trans (Kp.of_ext jx kT),by rw [jS];exact heap_alloc_new _ _,fun _=>rfl,fun h=>(by cases h),fun h=>(by cases h)⟩
       rw [← jS];clear jS;refine An (by kernel_rfl) (Vs [vq (.func (.func 156) #[] #[.pointer (some ⟨gD,0,none⟩),.pointer (some ⟨gY,0,none⟩),.pointer (some ⟨gV,0,none⟩)]),vq (.pointer (some ⟨wr.heap.size,1,none⟩)),vq (.int .i64 xt),vq (.slice aw ws.length cw),vq (.slice aw ws.length cw),vq (.int .i64 (ws.length:Int)),vq (.slice aw ws.length cw),vq (.int .i64 (ws.length:Int)),vq (.slice aw ws.length ws.length),vq (.pointer (some ⟨wr.heap.size,0,none⟩)),vq (.int .u8 (y.toNat:Int)),vq (.slice (some ⟨wy.heap.size,0,none⟩) 1 1),Qx (wy.heap.size+1) (ws ++ [y]).length,PV true n₀ J Jx wz pre S q2,PV false n₀ J Jx wz pre S q2]) (Xs [Ext,Ext,Ext,Ext,Ext,Ext,Ext,Ext,Ext,Ext,Ext,(Ext),(Ext),(fun _ _=>True),Ext]) (fun fL=>(fun b1 b2 b3 W=>TV n₀ J wz wr.heap.size wy.heap.size #[.int .u8 (y.toNat:Int),.int .i64 xt] y (ws ++ [y]) (pre ++ S) b1 b2 b3 W) (fL 11) (fL 12) (fL 13)) [0,0,2,0,0,16,0,64,248,0,512,1536,4088,8191,16383] 80 15 (by kernel_rfl) rfl ?hV ?hS ?hop ?hfin ?hlast
       case hV =>
        refine Az (Af (by simp only [AS,List.not_mem_nil,or_false,forall_eq_or_imp,forall_eq];exact ⟨AW _,AW _,AW _,AW _,AW _,AW _,AW _,AW _,AW _,AW _,AW _,AW _,MJ _ _,LK HJ.out kd.out hn,LK HJ.out kd.out hn⟩)) ?_;exact ⟨.inl rfl,.inl rfl,.inl rfl,.inl rfl,.inl rfl,.inl rfl,.inl rfl,.inl rfl,.inl rfl,.inl rfl,.inl rfl,.inr (Aw ⟨fun _ _=>fun _ _ _ h _=>h,fun _ _=>fun _ _ _ h _=>h,fun _ _=>fun _ _ _ h _=>h,fun _ _=>fun _ _ _ h _=>h,fun _ _=>fun _ _ _ h _=>h,fun _ _=>fun _ _ _ h _=>h,fun _ _=>fun _ _ _ h _=>h,fun _ _=>fun _ _ _ h _=>h,fun _ _=>fun _ _ _ h _=>h,fun _ _=>fun _ _ _ h _=>h,fun _ _=>fun _ _ _ h _=>h,fun h=>absurd rfl h,fun _ h=>absurd h (by decide),fun _ h=>absurd h (by decide),fun _ h=>absurd h (by decide),trivial⟩),.inr (Aw ⟨fun _ _=>fun _ _ _ h _=>h,fun _ _=>fun _ _ _ h _=>h,fun _ _=>fun _ _ _ h _=>h,fun _ _=>fun _ _ _ h _=>h,fun _ _=>fun _ _ _ h _=>h,fun _ _=>fun _ _ _ h _=>h,fun _ _=>fun _ _ _ h _=>h,fun _ _=>fun _ _ _ h _=>h,fun _ _=>fun _ _ _ h _=>h,fun _ _=>fun _ _ _ h _=>h,fun _ _=>fun _ _ _ h _=>h,fun _ _=>fun _ _ _ h _=>h,fun h=>absurd rfl h,fun _ h=>absurd h (by decide),fun _ h=>absurd h (by decide),trivial⟩),.inr (Aw ⟨fun _ _=>fun _ _ _ h _=>h,fun _ _=>fun _ _ _ h _=>h,fun _ _=>fun _ _ _ h _=>h,fun _ _=>fun _ _ _ h _=>h,fun _ _=>fun _ _ _ h _=>h,fun _ _=>fun _ _ _ h _=>h,fun _ _=>fun _ _ _ h _=>h,fun _ _=>fun _ _ _ h _=>h,fun _ _=>fun _ _ _ h _=>h,fun _ _=>fun _ _ _ h _=>h,fun _ _=>fun _ _ _ h _=>h,fun _ _=>fun _ _ _ h _=>h,fun _ _=>fun _ _ _ h _=>h,fun h=>absurd rfl h,fun _ h=>absurd h (by decide),trivial⟩),.inl rfl,trivial⟩
       case hS =>
        intro fL hf;show (fun b1 b2 b3 W=>TV n₀ J wz wr.heap.size wy.heap.size #[.int .u8 (y.toNat:Int),.int .i64 xt] y (ws ++ [y]) (pre ++ S) b1 b2 b3 W) (fL 11) (fL 12) (fL 13) _;rw [hf 11 (by decide),hf 12 (by decide),hf 13 (by decide)];have kV:Ext wy { heap:=wy.heap,tape:=wy.tape,drawn:=wy.drawn+1,os:=wy.os,output:=wy.output }:=⟨rfl,rfl,rfl,A3 _,fun _ _=>rfl⟩
        obtain ⟨k1,k2,k3⟩:=TV.keep HJ.out hn kJ.out kV;exact ⟨k1,k2,k3,fun _=>rfl,fun h=>(by cases h),fun h=>(by cases h)⟩
       case hop =>
        refine ⟨?c0,?_,?c2,?_,?_,?_,?_,?_,?c8,?_,?c10,?c11,?c12,?c13,?c14,trivial⟩
        all_goals first | rw [if_neg (by decide)] | rw [if_pos (by decide)]
        all_goals try intro ac W fL jo jn jR jO jc jh jb ka
        all_goals try have hS:(fun b1 b2 b3 W=>TV n₀ J wz wr.heap.size wy.heap.size #[.int .u8 (y.toNat:Int),.int .i64 xt] y (ws ++ [y]) (pre ++ S) b1 b2 b3 W) (fL 11) (fL 12) (fL 13) W:=jc
        all_goals try (have jl:fL 11=true:=jR 11 (by decide);rw [jl] at hS)
        all_goals try (have jl:fL 11=false:=(by first | exact jn | exact jO 11 (by decide) (by decide));rw [jl] at hS)
        all_goals try (have jm:fL 12=true:=jR 12 (by decide);rw [jm] at hS)
        all_goals try (have jm:fL 12=false:=(by first | exact jn | exact jO 12 (by decide) (by decide));rw [jm] at hS)
        all_goals try (have jg:fL 13=true:=jR 13 (by decide);rw [jg] at hS)
        all_goals try (have jg:fL 13=false:=(by first | exact jn | exact jO 13 (by decide) (by decide));rw [jg] at hS)
        all_goals try have hh4:=gdA ac 4 (.pointer (some ⟨gV,0,none⟩)) (jb 4 (by kernel_rfl))
        all_goals try have hh9:=gdA ac 9 (.pointer (some ⟨wr.heap.size,0,none⟩)) (jb 9 (by kernel_rfl))
        all_goals try (have h1:ac.tmps.getD 1 undef=.slice aw ws.length cw:=jb 1 (by kernel_rfl);have kS:=h1;rw [A4] at kS)
        all_goals try (have d72:ac.tmps.getD 72 undef=.slice aw ws.length ws.length:=jh 8 (by decide);have dd72:=d72;rw [A4] at dd72)
        all_goals try (have d75:ac.tmps.getD 75 undef=.slice (some ⟨wy.heap.size,0,none⟩) 1 1:=jh 11 (by decide);have dd75:=d75;rw [A4] at dd75)
        all_goals try have d76:(Qx (wy.heap.size+1) (ws ++ [y]).length) (ac.tmps.getD 76 undef) W:=jh 12 (by decide)
        all_goals try have d77:(PV true n₀ J Jx wz pre S q2) (ac.tmps.getD 77 undef) W:=jh 13 (by decide)
        all_goals try (have jh:=DJ jh;simp [Cg,AY,vq] at jh)
        all_goals try clear jb jR jO ka
        case c0 =>
         have jd:(fun b1 b2 b3 W=>TV n₀ J wz wr.heap.size wy.heap.size #[.int .u8 (y.toNat:Int),.int .i64 xt] y (ws ++ [y]) (pre ++ S) b1 b2 b3 W) ((upd fL 0) 11) ((upd fL 0) 12) ((upd fL 0) 13) W:=jc;have hvv:=(HV.out.kp hS.2.1).cells.2.2;refine AX rfl (.inl ⟨_,W,?_,rfl,Ext.refl _,jd⟩);clear jo hS jc jd jn;simp [go_sem,Act.eval, *]
        case c2 =>
         have jd:(fun b1 b2 b3 W=>TV n₀ J wz wr.heap.size wy.heap.size #[.int .u8 (y.toNat:Int),.int .i64 xt] y (ws ++ [y]) (pre ++ S) b1 b2 b3 W) ((upd fL 2) 11) ((upd fL 2) 12) ((upd fL 2) 13) W:=jc;obtain ⟨v0,v1⟩:=Ah hS.2.2.1;refine AX rfl (.inl ⟨_,W,?_,rfl,Ext.refl _,jd⟩);clear jo hS jc jd jn;simp [go_sem,Act.eval, *]
        case c8 =>
         have jd:(fun b1 b2 b3 W=>TV n₀ J wz wr.heap.size wy.heap.size #[.int .u8 (y.toNat:Int),.int .i64 xt] y (ws ++ [y]) (pre ++ S) b1 b2 b3 W) ((upd fL 8) 11) ((upd fL 8) 12) ((upd fL 8) 13) W:=jc;have hsl:=MI aw ws.length cw kQ ky.out;refine AX rfl (.inl ⟨_,W,?_,rfl,Ext.refl _,jd⟩);clear jo hS jc jd jn;simp [go_sem,Act.eval, *]
        case c10 =>
         have jd:(fun b1 b2 b3 W=>TV n₀ J wz wr.heap.size wy.heap.size #[.int .u8 (y.toNat:Int),.int .i64 xt] y (ws ++ [y]) (pre ++ S) b1 b2 b3 W) ((upd fL 10) 11) ((upd fL 10) 12) ((upd fL 10) 13) W:=jc;obtain ⟨v0,v1⟩:=Ah hS.2.2.1;refine AX rfl (.inl ⟨_,W,?_,rfl,Ext.refl _,jd⟩);clear jo hS jc jd jn;simp [go_sem,Act.eval, *]
        case c11 =>
         have ju:W.heap.size=wy.heap.size:=hS.2.2.2.1 rfl;have jv:Ext W (W.alloc (.cells #[.int .u8 (y.toNat:Int)] 5)):=(Below.refl _ _).alloc (A3 _) _;obtain ⟨k1,k2,k3⟩:=TV.keep HJ.out hn hS jv;refine AX rfl (.inl ⟨.slice (some ⟨W.heap.size,0,none⟩) 1 1,W.alloc (.cells #[.int .u8 (y.toNat:Int)] 5),?_,(by show _=_;rw [ju]),jv,?_⟩)
         · clear jo hS jc jn k1 k2 k3 jv;simp [go_sem,Act.eval, *]
         ·show TV n₀ J wz wr.heap.size wy.heap.size #[.int .u8 (y.toNat:Int),.int .i64 xt] y (ws ++ [y]) (pre ++ S) (upd fL 11 11) (upd fL 11 12) (upd fL 11 13) _;rw [show upd fL 11 11=true from if_pos rfl,show upd fL 11 12=fL 12 from if_neg (by decide),show upd fL 11 13=fL 13 from if_neg (by decide),jm,jg];exact ⟨k1,k2,k3,fun _=>(by rw [A6,ju];rfl),fun _=>(by rw [← ju];exact heap_alloc_new _ _),fun h=>(by cases h)⟩
        case c12 =>
         have j9:W.heap.size=wy.heap.size+1:=hS.2.2.2.1 rfl;have jt:=hS.2.2.2.2.1 rfl;have jD:=(A5.1 jt).1;refine AX rfl ((IN (HB.out.kp hS.2.1) (by omega) jt rfl (Ad d72) (Ad d75)).mono ?_);rintro v w' ⟨kq,ko,jx⟩;rw [j9] at kq ko;obtain ⟨k1,k2,k3⟩:=TV.keep HJ.out hn hS jx;refine ⟨kq,jx,?_⟩;show TV n₀ J wz wr.heap.size wy.heap.size #[.int .u8 (y.toNat:Int),.int .i64 xt] y (ws ++ [y]) (pre ++ S) (upd fL 12 11) (upd fL 12 12) (upd fL 12 13) _;rw [show upd fL 12 12=true from if_pos rfl,show upd fL 12 11=fL 11 from if_neg (by decide),show upd fL 12 13=fL 13 from if_neg (by decide),jl,jg];exact ⟨k1,k2,k3,fun h=>(by cases h),fun _=>(Below.block jx _ jD).trans jt,fun _=>ko⟩
        case c13 =>
         obtain ⟨c76,e76,j1⟩:=d76;have ee76:=e76;rw [A4] at ee76;have jB:=hS.2.2.2.2.2 rfl;have jN:=IH.out xt (ws ++ [y]) (some ⟨wy.heap.size+1,0,none⟩) c76 (pre ++ S) W (by simp;omega) (by omega) jB j1 (HV.out.kp hS.2.1) (A8 hn hS.2.1.1.size) (HW.out.trans hS.2.1.1) hS.1 (by rw [jj.out];exact kN);rw [jj.out] at jN;have km:=hS.2.1;refine AX rfl (.inr ⟨156,#[.int .i64 xt,.slice (some ⟨wy.heap.size+1,0,none⟩) (ws ++ [y]).length c76,.pointer (some ⟨gD,0,none⟩),.pointer (some ⟨gY,0,none⟩),.pointer (some ⟨gV,0,none⟩)],W,by (clear jo hS jc jn jN km jB;simp [go_sem,Act.eval, *]),?_⟩);refine jN.mono ?_;clear jN;have ji:∀ w',TV n₀ J wz wr.heap.size wy.heap.size #[.int .u8 (y.toNat:Int),.int .i64 xt] y (ws ++ [y]) (pre ++ S) (upd fL 13 11) (upd fL 13 12) (upd fL 13 13) w':=fun w'=>by
          rw [show upd fL 13 13=true from if_pos rfl];trivial
         rintro e w' (⟨rfl,h1,h2,h3⟩ | ⟨rfl,h1,h2⟩ | ⟨rfl,p,h1,h2⟩)
         · exact ⟨_,rfl,.inl ⟨rfl,h1,by rw [← List.append_assoc];exact h2,km.trans h3⟩,trivial,ji _⟩
         · exact ⟨_,rfl,.inr ⟨rfl,.inl ⟨h1,by rw [← List.append_assoc];exact h2⟩⟩,trivial,ji _⟩
         · exact ⟨_,rfl,.inr ⟨rfl,.inr ⟨p,h1,by rw [← List.append_assoc];exact h2⟩⟩,trivial,ji _⟩
        case c14 =>
         have jd:(fun b1 b2 b3 W=>TV n₀ J wz wr.heap.size wy.heap.size #[.int .u8 (y.toNat:Int),.int .i64 xt] y (ws ++ [y]) (pre ++ S) b1 b2 b3 W) ((upd fL 14) 11) ((upd fL 14) 12) ((upd fL 14) 13) W:=jc;rcases d77 with ⟨e77,jA⟩ | ⟨e77,jA⟩
         ·rw [A4] at e77;refine AX rfl (.inl ⟨.bool false,W,?_,.inl ⟨rfl,jA⟩,Ext.refl _,jd⟩);clear jo hS jc jd jn jA;simp [go_sem,Act.eval, *]
         ·rw [A4] at e77;refine AX rfl (.inl ⟨.bool true,W,?_,.inr ⟨rfl,jA⟩,Ext.refl _,jd⟩);clear jo hS jc jd jn jA;simp [go_sem,Act.eval, *]
        all_goals (refine AX rfl (.inl ⟨_,W,?_,rfl,Ext.refl _,jc⟩);clear jo hS jc jn;simp [go_sem,Act.eval, *];done)
       case hlast =>
        intro h;exact absurd rfl h
       case hfin =>
        intro _ ac W jo kk fL hf jc hv jb;have hS:(fun b1 b2 b3 W=>TV n₀ J wz wr.heap.size wy.heap.size #[.int .u8 (y.toNat:Int),.int .i64 xt] y (ws ++ [y]) (pre ++ S) b1 b2 b3 W) (fL 11) (fL 12) (fL 13) W:=jc;clear jc;rw [hf 11 (by decide),hf 12 (by decide),hf 13 (by decide)] at hS;obtain ⟨sx,kt,ks⟩:=Ag [64,65,66,67,68,69,70,71,72,73,74,75,76,77,78] (by kernel_rfl) jo kk jb;have jF:PV false n₀ J Jx wz pre S q2 (sx 78) W:=by rw [kt 78];exact hv 14 (by decide)
        rw [ks];simp only [List.foldl];simp only [Act.put,List.setIfInBounds_toArray,List.set_cons_succ,List.set_cons_zero];clear ks kt hv jb jo kk hf;obtain ⟨v78,jH⟩:∃ v78,sx 78=v78:=⟨_,rfl⟩
        rw [jH] at jF ⊢;clear jH;rcases jF with ⟨rfl,h1,h2,h3⟩ | ⟨rfl,jC⟩
        ·have kE:=A0 h2;have kG:=A0 h3;have jk:=jr.out;rw [if_pos h1] at jk;have kr:S ++ q2.1 ++ (DH (visitL D m) ws (X.drop (j+1))).1=L1 ++ FA.1:=by have:=jK.out;rw [jk] at this;rw [List.append_assoc];exact this
         have jG:(DH (visitL D m) ws (X.drop (j+1))).2=FA.2:=by have:=jV.out;rw [jk] at this;exact this
         have kI:=A0 kr;have jW:=A0 jG;clear hS h1 h2 h3 jk kr jG
         go_wp2_with fail
         go_roundw
         case rel=>exact ⟨j+1,S ++ q2.1,by omega,by go_num,kE.out,kG.out,kI.out,jW.out⟩
         case measure=>simp [intOf];omega
        ·have jT:=A0 jC;clear hS jC
         go_wp2_with fail
         go_ret;rcases jT.out with ⟨h1,h2⟩ | ⟨p,h1,h2⟩
         ·refine .inr (.inl ⟨rfl,?_,?_⟩)
          · rw [jq.out];have:=jV.out;rw [jr.out,if_neg (by rw [h1];decide)] at this;exact this.symm
          · rw [jq.out];have:=jK.out;rw [jr.out,if_neg (by rw [h1];decide)] at this;rw [← this];exact h2
         ·refine .inr (.inr ⟨rfl,S ++ p,?_,h2⟩);rw [jq.out];exact ((List.prefix_append_right_inj _).2 h1).trans kH.out
      ·obtain rfl:j=X.length:=by omega
       have h1:=jK.out;have h2:=jV.out;rw [List.drop_length,DH] at h1 h2;have kw:=A0 h1;have kx:=A0 h2;clear h1 h2
       go_wp2_with fail
       go_ret;refine .inl ⟨rfl,?_,?_,jI.out⟩
       · rw [jq.out];exact kx.out.symm
       ·rw [jq.out];simp only;rw [← kw.out,List.append_nil];exact kc.out
    ·go_wp2_with fail
     go_ret;rw [jq.out];exact .inr (.inr ⟨rfl,L1,List.prefix_append _ _,ja⟩)
def w2b (W:World) (l gD:Nat):World:=(W.alloc (Obj.cells #[.func (.yield l) #[] #[]] 247)).alloc (Obj.cells #[.func (.func 156) #[] #[.pointer (some ⟨gD,0,none⟩),.pointer (some ⟨W.heap.size,0,none⟩),.pointer (some ⟨W.heap.size+1,0,none⟩)]] 248)
theorem Hn (W:World) (l gD:Nat):Ext W (w2b W l gD):=((Below.refl _ W).alloc (A3 _) _).alloc (by simp only [A6];omega) _
theorem PT {W:World} {l gD:Nat} {aD:Option Addr} {nD cD:Nat} (h:W.heap[gD]? = some (.cells #[.slice aD nD cD] 69 (0,0))):VBy l gD W.heap.size (W.heap.size+1) aD nD cD (w2b W l gD):=by
 refine ⟨(Below.block (Hn W l gD) gD (A5.1 h).1).trans h,?_,?_⟩
 · exact skip (by simp only [A6];omega) (heap_alloc_new _ _)
 ·have h:=heap_alloc_new (W.alloc (Obj.cells #[.func (.yield l) #[] #[]] 247)) (Obj.cells #[.func (.func 156) #[] #[.pointer (some ⟨gD,0,none⟩),.pointer (some ⟨W.heap.size,0,none⟩),.pointer (some ⟨W.heap.size+1,0,none⟩)]] 248);simp only [A6] at h;exact h
theorem MK (n gD n₀:Nat) (aD:Option Addr) (cD:Nat) (D:List Nd) (wW w:World) (jh:wW.heap.size≤n₀) (hn:n₀≤w.heap.size) (hb:Below n₀ wW w) (hg:w.heap[gD]? = some (.cells #[.slice aD D.length cD] 69 (0,0))) (hD:C7 wW aD D) (jg:D.length≤9223372036854775807) (hC:KD D) :
  SeqStopsK Fence.wide n Tryz.prog 155 #[.pointer (some ⟨gD,0,none⟩)] (fun x:ByteArray × Bool=>#[Value.string x.1,Value.bool x.2]) (Kp n₀) (fun ys=>ys=(visitL D 22 0 []).1) (fun pre=>pre <+: (visitL D 22 0 []).1) (visitL D 22 0 []).1.length w:=by
 intro l J Jx W hW hJ jb hY h0;refine callsIn_wide.2 ?_;show Calls _ _ #[.func (.yield l) #[] #[],.pointer (some ⟨gD,0,none⟩)] _ _;have jd:W.heap[gD]? = some (.cells #[.slice aD D.length cD] 69 (0,0)):=(hW.block gD (A5.1 hg).1).trans hg;have je:n₀≤W.heap.size:=A8 hn hW.size;have jc:=vis_any l gD W.heap.size (W.heap.size+1) n₀ (visitL D 22 0 []).1.length aD cD D wW jh hD jg hC J Jx (J2.of hJ) (J2.of jb) (fun pre x W h1 h2=>YieldAt.anyD 8 (hY pre x W h1 h2)) 22 0 [] none 0 [] (w2b W l gD) rfl (by omega) (Cc.nil _) (A3 _) (PT jd) (A8 je (Hn W l gD).size) ((hb.trans (hW.mono hn)).trans ((Hn W l gD).mono je)) ((J2.of hJ) _ _ _ h0 (Hn W l gD)) (by simp);have ja:=A0 jc;clear jc hJ jb hY h0 hD hC;have ji:∀ (fn:Fn) (x y:Array Value) (a:Addr) (m:Mode) (w:World),(store a (.func fn x y) m).run Tryz.prog w=stored Tryz.prog w a (.func fn x y) m:=fun fn x y a m w=>run_store Tryz.prog w a (.func fn x y) m rfl
 go_enter Tryz.func155,Tryz.ntmps155
 go_upto_region 3 with fail
 clear ji;have jj:=(PT (l:=l) jd).cells.2.2;change Code.wp _ _ _ _ (w2b W l gD);obtain ⟨wz,jf⟩:∃ wz,w2b W l gD=wz:=⟨_,rfl⟩
 rw [jf] at ja jj ⊢;clear jf
 go_wp2_with (first
  | (go_at_call 156;refine ja.out.mono ?_;rintro e w6 (⟨rfl,h1,h2,h3⟩ | ⟨rfl,h1,h2⟩ | ⟨rfl,p,h1,h2⟩)))
 ·go_end0
  exact ⟨⟨_,rfl⟩,.inl ⟨_,rfl,by simpa using h2⟩⟩
 ·go_end0
  exact ⟨⟨_,rfl⟩,.inl ⟨_,rfl,by simpa using h2⟩⟩
 ·go_end0
  exact ⟨⟨_,rfl⟩,.inr ⟨p,h1,by simpa using h2⟩⟩
theorem Qy (a:Option Addr) (n c:Nat) (w:World):Calls Tryz.prog 147 #[.slice a n c] w fun e w'=>e=.returned (.func (.func 155) #[] #[.pointer (some ⟨w.heap.size,0,none⟩)])∧w'=w.alloc (.cells #[.slice a n c] 69):=by
 have hmf:∀ (fn:Fn) (first cap:Array Value) (w:World),(Instr.makeFunc fn first cap).run Tryz.prog w=.ok (.func fn first cap) w:=fun _ _ _ _=>rfl
 go_enter Tryz.func147,Tryz.ntmps147
 go_wp2;go_ret;exact ⟨rfl,rfl⟩
attribute [local go_sem] Oper.semAt_some
def DI (l:List (ByteArray × Bool)):Prop:=(∀ x∈l,x.2=true)∧l.length≤200
theorem DI.pre {l m:List (ByteArray × Bool)} (h:DI l) (hp:m <+: l):DI m:=⟨fun x hx=>h.1 x (hp.subset hx),A8 hp.length_le h.2⟩
def CC (l:List (ByteArray × Bool)):List ByteArray:=l.map Prod.fst
def S5 (w:World) (pre:List (ByteArray × Bool)) (W:World):Prop :=
 (((DI pre∧Boxed W w.heap.size 35 (.slice none 0 0))∧Boxed W (w.heap.size+1) 4 (.bool false))∧(∃ v,Boxed W (w.heap.size+1+1) 35 v∧AZ CB W w.heap.size v (CC pre)∧True))∧Below w.heap.size w W
def S6 (w:World) (c:Code) (pre:List (ByteArray × Bool)) (W:World):Prop :=
 (((c=.ret∧¬ DI pre)∧Boxed W w.heap.size 35 (.slice none 0 0))∧Boxed W (w.heap.size+1) 4 (.bool false))∧Below w.heap.size w W
theorem PU (w:World) (B:Nat) (hB:w.heap.size≤B):OwnFrom B (S5 w) :=
 OwnFrom.and (OwnFrom.and (OwnFrom.and (OwnFrom.and (ownFrom_pure _ _) (Own.from (boxed_own _ _ (fun _=>.slice none 0 0)) _)) (Own.from (boxed_own _ _ (fun _=>.bool false)) _))
  (Own.from (holdsRow_own w.heap.size (w.heap.size+1+1) 35 9 1 (fun pre=>(CC pre).length) (fun pre=>(CC pre).flatMap CB.enc) (fun _ _=>True)) _)) (ownFrom_below (A3 _) hB)
theorem PW (w:World) (B:Nat) (hB:w.heap.size≤B) (c:Code):OwnFrom B (S6 w c) :=
 OwnFrom.and (OwnFrom.and (OwnFrom.and (ownFrom_pure _ _) (Own.from (boxed_own _ _ (fun _=>.slice none 0 0)) _)) (Own.from (boxed_own _ _ (fun _=>.bool false)) _)) (ownFrom_below (A3 _) hB)
theorem S7 {W w1:World} {n₀ B:Nat} {v v':Value} {k:Nat} {xs:List Value} {tmp:Obj} (hv:Boxed W B 35 v) (jc:W.ownsRow n₀ 9 1 v k xs) (ja:(W.alloc tmp).grownBy w1 v.ownBlock) (hb:Below n₀ W (w1.setCell ⟨B,0,none⟩ v')):Kp n₀ W (w1.setCell ⟨B,0,none⟩ v'):=by
 refine ⟨hb,fun q cs t fz hq h1 h2 h3=>?_⟩;have je:q≠B:=fun e=>by
  subst e;have h4:W.heap[q]? = _:=hv;rw [hq] at h4;injection h4 with h4;injection h4 with _ h5;exact h2 h5
 have jd:=(A5.1 hq).1;rw [Below.heap_setCell _ _ _ _ je,ja.block q (by rw [A6];omega) ?_]
 · exact Below.heap_alloc _ _ _ jd
 ·intro e;rcases jc.2 with ⟨rfl,_⟩ | ⟨g,cap,cur,rfl,_,jb,_⟩
  · cases e
  ·injection e with e;rw [e] at hq;rw [show W.heap[g]? = some (.cells cs t fz) from hq] at jb;injection jb with jb;injection jb with _ h5;exact h1 h5
def TG (l:List (ByteArray × Bool)) (w:World) (e:Ending) (w':World):Prop :=
 (DI l∧∃ v,e=.returned (.tuple #[v,.bool true])∧AZ CB w' w.heap.size v (CC l)∧Below w.heap.size w w')∨(¬ DI l∧e=.returned (.tuple #[.slice none 0 0,.bool false])∧Below w.heap.size w w')
theorem collect_any (D:List Nd) (a:Option Addr) (c:Nat) (w:World) (hD:C7 w a D) (jw:D.length≤9223372036854775807) (hC:KD D) :
  Calls Tryz.prog 131 #[.slice a D.length c] w (TG (visitL D 22 0 []).1 w):=by
 obtain ⟨i0,hi,jB,jC,jD⟩:=info_parts Cl.info;obtain ⟨LL,jr⟩:∃ LL,(visitL D 22 0 []).1=LL:=⟨_,rfl⟩
 refine (callsIn_wide (n:=9)).1 ?_;refine callsIn_of_wp_marks Tryz.func131 rfl trivial ?_ rfl;simp only [Tryz.ntmps131,List.size_toArray,List.length_cons,List.length_nil,Nat.reduceAdd,Nat.reduceSub,Array.replicate_succ,Array.replicate_zero,List.push_toArray,List.append_toArray,List.nil_append,List.cons_append];have hfn:Fence.wide.fn 147:=trivial
 gi_wp2_with (gi_at_call 147;refine (callsIn_wide.2 (Qy _ _ _ _)).mono ?_;rintro e w' ⟨rfl,rfl⟩)
 obtain ⟨w4,ji⟩:∃ w4,(((w.alloc (Obj.cells #[Value.slice none 0 0] 35)).alloc (Obj.cells #[Value.bool false] 4)).alloc (Obj.cells #[Value.slice none 0 0] 35)).alloc (Obj.cells #[.slice a D.length c] 69)=w4:=⟨_,rfl⟩
 have jq:Below w.heap.size w w4:=by
  rw [← ji];exact ((((Below.refl _ w).alloc (A3 _) _).alloc (by simp only [A6];omega) _).alloc (by simp only [A6];omega) _).alloc (by simp only [A6];omega) _
 have hs4:w4.heap.size=w.heap.size+4:=by rw [← ji];simp only [A6]
 have b2:Boxed w4 w.heap.size 35 (.slice none 0 0):=by
  rw [← ji];exact (((Boxed.new w _ _).alloc _).alloc _).alloc _
 have b3:Boxed w4 (w.heap.size+1) 4 (.bool false):=by
  rw [← ji];have h:=Boxed.new (w.alloc (Obj.cells #[Value.slice none 0 0] 35)) 4 (.bool false);rw [A6] at h;exact (h.alloc _).alloc _
 have b4:Boxed w4 (w.heap.size+1+1) 35 (.slice none 0 0):=by
  rw [← ji];have h:=Boxed.new ((w.alloc (Obj.cells #[Value.slice none 0 0] 35)).alloc (Obj.cells #[Value.bool false] 4)) 35 (.slice none 0 0);simp only [A6] at h;exact h.alloc _
 have b5:Boxed w4 (w.heap.size+1+1+1) 69 (.slice a D.length c):=by
  rw [← ji];have h:=Boxed.new (((w.alloc (Obj.cells #[Value.slice none 0 0] 35)).alloc (Obj.cells #[Value.bool false] 4)).alloc (Obj.cells #[Value.slice none 0 0] 35)) 69 (.slice a D.length c);simp only [A6] at h;exact h
 rw [ji];clear ji;refine wpIn_rangeFunc_ownF (w0:=w4) rfl (by omega) (gf:=155) (lb:=#[.pointer (some ⟨w.heap.size+1+1+1,0,none⟩)]) rfl trivial (enters_of Tryz.func155 (by kernel_rfl) rfl)
  (MK 8 (w.heap.size+1+1+1) w.heap.size a c D w w4 (A3 _) (by omega) jq b5 hD jw hC) (fun h k=>h.trans k) (Kp.obj (by omega)) (Below.refl _ _) (fun _=>rfl)
  (S5 w) (S6 w) (PU w _ (by omega)) (fun c=>PW w _ (by omega) c) ⟨⟨⟨⟨⟨fun x hx=>by (cases hx),by simp⟩,b2⟩,b3⟩,_,b4,AZ.nil CB _ _,trivial⟩,jq⟩
  (fun x=>{ tmps:=#[.slice a D.length c,undef,.pointer (some ⟨w.heap.size,0,none⟩),.pointer (some ⟨w.heap.size+1,0,none⟩),.pointer (some ⟨w.heap.size+1+1,0,none⟩),.string x.1,.bool x.2,.slice a D.length c,.func (.func 155) #[] #[.pointer (some ⟨w.heap.size+1+1+1,0,none⟩)],.string x.1,.bool x.2,undef,undef,undef,undef,undef,undef,undef,undef,undef,undef,undef,undef],defers:=[] }) ?assign ?body ?done ?stop
 case assign =>
  intro l x W K hK
  gi_wp2
  exact hK
 case body =>
  rintro l pre ⟨s,ok⟩ W ⟨⟨⟨⟨jl,jb⟩,jc⟩,v,hv,ja, -⟩,hB⟩ -;have jt:w.heap.size≤W.heap.size:=hB.size;have e1:=jb.cell;have e2:=jb.frozen;have e3:=jc.cell;have e4:=jc.frozen;have e5:=hv.cell;have e6:=hv.frozen;have je:∀ ac,¬ DI (pre ++ [(s,ok)])→ownPostK (Kp w.heap.size) (S5 w) (S6 w) (pre ++ [(s,ok)]) W Exit.ret ac ((W.setCell ⟨w.heap.size,0,none⟩ (.slice none 0 0)).setCell ⟨w.heap.size+1,0,none⟩ (.bool false)):=fun ac jo=>by
   refine ⟨(KeepsOthers.setCell _ _ _).trans (KeepsOthers.setCell _ _ _),⟨⟨⟨rfl,jo⟩,?_⟩,?_⟩,?_⟩
   · exact (jb.set _).kept (grownBy_setCell' _ _ _) (by simp)
   · exact (jc.kept (grownBy_setCell' _ _ _) (by simp)).set _
   · exact (hB.setCell (p:=⟨w.heap.size,0,none⟩) (A3 _) _).setCell (p:=⟨w.heap.size+1,0,none⟩) (by show w.heap.size≤w.heap.size+1;omega) _
  obtain ⟨a0,c0,rfl, -, -⟩:=ja.form;have jm:Hid ((CC pre).length=pre.length):=by show _=_;simp [CC]
  cases ok with
  | false =>
   gi_wp2
   exact je _ (fun h=>by have:=h.1 (s,false) (by simp);cases this)
  | true =>
   by_cases jg:pre.length=200
   ·have HH:=A0 jg;have h2:(((CC pre).length:Int) == 200)=true:=by rw [jm.out,jg];rfl
    clear jg
    gi_wp2
    exact je _ (fun h=>by have:=h.2;have:=HH.out;simp at *;omega)
   ·have
       h2:(((CC pre).length:Int) == 200)=false:=by rw [jm.out];simp;omega
    have hle:(CC pre).length<200:=by rw [jm.out];have:=jl.2;omega
    clear jg
    gi_wp2_with (first
     | (
       gi_at_builtin;refine wpListIn_append_own _ rfl _ _ 35 rfl w.heap.size 9 i0 (.string ⟨#[]⟩) 1 16 Tryz.underlying35 hi jB jC jD rfl (by decide) _ _ _ rfl (ja.alloc _) ⟨W.heap.size,0,none⟩ 1 1 [.string s] rfl rfl (cell_one_new _ _ _) (by simp [Value.oneCell']) (by unfold maxLen;omega) (by omega) (by simp;omega) ?_;intro v' w3 jf js jk
       have jh:AZ CB w3 w.heap.size v' (CC pre ++ [s]):=by unfold AZ;rw [AB,List.flatMap_append];exact jf
       have jd:(W.alloc (.cells #[.string s] 9)).grownBy w3 (Value.slice a0 (CC pre).length c0).ownBlock:=js;obtain ⟨g1,c1,rfl⟩:=ownsRow_succ jf;obtain ⟨p1,p2,p3,p4,p5⟩:=Boxed.appended hv (by decide) ja jt (by omega) jh jd;have q1:=p1.cell;have q2:=p1.frozen;have r2:=(((jb.alloc (.cells #[.string s] 9)).kept jd (jb.not_row (by decide) ja)).kept (grownBy_setCell' w3 (w.heap.size+1+1) (.slice (some ⟨g1,0,none⟩) ((CC pre).length+1) c1)) (by simp;omega))
       have r3:=(((jc.alloc (.cells #[.string s] 9)).kept jd (jc.not_row (by decide) ja)).kept (grownBy_setCell' w3 (w.heap.size+1+1) (.slice (some ⟨g1,0,none⟩) ((CC pre).length+1) c1)) (by simp))
       have r4:=S7 hv ja jd p5;have HR:=A0 (And.intro p2 (And.intro p3 (And.intro p4 (And.intro p5 (And.intro r2 (And.intro r3 r4))))));clear p1 p2 p3 p4 p5 r2 r3 r4 jd js jk jh jf))
    obtain ⟨p2,p3,p4,p5,r2,r3,r4⟩:=HR.out;have jx:CC (pre ++ [(s,true)])=CC pre ++ [s]:=by simp [CC]
    refine ⟨p4,r4,⟨⟨⟨⟨fun x hx=>?_,?_⟩,r2⟩,r3⟩,_,p2,?_,trivial⟩,hB.trans p5⟩
    ·rcases AT.1 hx with hx | hx
     · exact jl.1 x hx
     · obtain rfl:=AD.1 hx;rfl
    · have:=jm.out;simp;omega
    · rw [jx];exact p3
 case done =>
  rintro D' ys W jv rfl ⟨⟨⟨⟨jl,jb⟩,jc⟩,v,hv,ja, -⟩,hB⟩ hK;rw [jr] at jl ja;obtain ⟨a0,c0,rfl, -, -⟩:=ja.form;have jt:w.heap.size≤W.heap.size:=hB.size;have e1:=jb.cell;have e2:=jb.frozen;have e3:=jc.cell;have e4:=jc.frozen;have e5:=hv.cell;have e6:=hv.frozen
  gi_wp2
  obtain ⟨W2,jj⟩:∃ W2,(W.setCell ⟨w.heap.size,0,none⟩ (.slice a0 (CC LL).length c0)).setCell ⟨w.heap.size+1,0,none⟩ (.bool true)=W2:=⟨_,rfl⟩
  have jn:W2.heap[D']? = some (.deferred (some [])):=by
   rw [← jj];exact ((KeepsOthers.setCell W _ _).trans (KeepsOthers.setCell _ _ _)).same D' _ hK rfl
  have r2:Boxed W2 w.heap.size 35 (.slice a0 (CC LL).length c0):=by
   rw [← jj];exact (jb.set _).kept (grownBy_setCell' _ _ _) (by simp)
  have r3:Boxed W2 (w.heap.size+1) 4 (.bool true):=by
   rw [← jj];exact (jc.kept (grownBy_setCell' _ _ _) (by simp)).set _
  have ju:Below w.heap.size w W2:=by
   rw [← jj];exact (hB.setCell (p:=⟨w.heap.size,0,none⟩) (A3 _) _).setCell (p:=⟨w.heap.size+1,0,none⟩) (by show w.heap.size≤w.heap.size+1;omega) _
  have jy:AZ CB (W.setCell ⟨w.heap.size,0,none⟩ (.slice a0 (CC LL).length c0)) w.heap.size (.slice a0 (CC LL).length c0) (CC LL):=ja.grown (grownBy_setCell' _ _ _) fun q hq=>fun e=>by
   have:=jb.not_row (e:=9) (by decide) ja;injection e with e;exact this (by rw [hq,e])
  have jz:AZ CB W2 w.heap.size (.slice a0 (CC LL).length c0) (CC LL):=by
   rw [← jj];refine jy.grown (grownBy_setCell' _ _ _) fun q hq=>fun e=>?_;have:=jc.not_row (e:=9) (by decide) ja;injection e with e;exact this (by rw [hq,e])
  have jA:AZ CB (W2.putObj D' (.deferred none)) w.heap.size (.slice a0 (CC LL).length c0) (CC LL):=ownsRow_putObj jz _ jn rfl;rw [jj];clear jj;refine ⟨by simp,.inl ⟨_,_,rfl,run_takeDeferred jn,?_⟩⟩;have f2:=(r2.kept (grownBy_putObj' W2 D' (.deferred none)) (fun e=>by injection e with e;omega)).cell;have f3:=(r3.kept (grownBy_putObj' W2 D' (.deferred none)) (fun e=>by injection e with e;omega)).cell;refine ⟨.tuple #[.slice a0 (CC LL).length c0,.bool true],by simp [results,Tryz.f131,go_sem,f2,f3],by rw [jr];exact .inl ⟨jl,_,rfl,jA,ju.trans (belowK_b (w:=w) (A3 _) W2 D' _ _ (by omega) jn rfl rfl)⟩⟩
 case stop =>
  rintro D' c' pre W jv jp ⟨⟨⟨⟨rfl,jo⟩,jb⟩,jc⟩,hB⟩ hK
  gi_wp2
  refine ⟨by simp,.inl ⟨_,_,rfl,run_takeDeferred hK,?_⟩⟩;have f2:=(jb.kept (grownBy_putObj' W D' (.deferred none)) (fun e=>by injection e with e;omega)).cell;have f3:=(jc.kept (grownBy_putObj' W D' (.deferred none)) (fun e=>by injection e with e;omega)).cell;refine ⟨.tuple #[.slice none 0 0,.bool false],by simp [results,Tryz.f131,go_sem,f2,f3],.inr ⟨fun h=>jo (h.pre jp),rfl,hB.trans (belowK_b (w:=w) (A3 _) W D' _ _ (by omega) hK rfl rfl)⟩⟩
theorem LN (D:List Nd) (a:Option Addr) (c:Nat) (w:World) (hD:C7 w a D) (ja:D.length≤9223372036854775807) (hC:KD D) (h:DI (visitL D 22 0 []).1) :
  Calls Tryz.prog 131 #[.slice a D.length c] w fun e w'=>∃ a1 c1,e=.returned (.tuple #[.slice a1 (CC (visitL D 22 0 []).1).length c1,.bool true])∧AZ CB w' w.heap.size (.slice a1 (CC (visitL D 22 0 []).1).length c1) (CC (visitL D 22 0 []).1)∧Below w.heap.size w w':=by
 refine (collect_any D a c w hD ja hC).mono ?_;rintro e w1 (⟨-,v,rfl,ho,hb⟩ | ⟨hn, -, -⟩)
 ·obtain ⟨a1,c1,rfl, -, -⟩:=ho.form;exact ⟨a1,c1,rfl,ho,hb⟩
 · exact absurd h hn
theorem ML (D:List Nd) (a:Option Addr) (c:Nat) (w:World) (hD:C7 w a D) (ja:D.length≤9223372036854775807) (hC:KD D) (h:¬ DI (visitL D 22 0 []).1) :
  Calls Tryz.prog 131 #[.slice a D.length c] w fun e w'=>e=.returned (.tuple #[.slice none 0 0,.bool false])∧Below w.heap.size w w':=by
 refine (collect_any D a c w hD ja hC).mono ?_;rintro e w1 (⟨hn, -⟩ | ⟨hn,rfl,hb⟩)
 · exact absurd hn h
 · exact ⟨rfl,hb⟩
theorem OD (L:List ByteArray) (n:Nat) (a:Option Addr) (cap:Nat) (w:World) (hR:BH w a L) (hL:n=L.length) (hn:n≤9223372036854775807) (hc:n≤cap) (hT:Tab w) (h:CJ L) :
  Calls Tryz.prog 42 #[.slice a n cap] w fun e w'=>∃ a c,e=.returned (.tuple #[.slice a (ofF (Aj 0 L)).length c,.int .i64 0])∧(ofF (Aj 0 L)).length≤c∧(ofF (Aj 0 L)).length≤4200∧C7 w' a (ofF (Aj 0 L))∧Below w.heap.size w w':=by
 refine (build_any L n a cap w hR hL hn hc hT).mono ?_;rintro e w1 (⟨-,h⟩ | ⟨hn, -⟩)
 · exact h
 · exact absurd h hn
noncomputable def B7 (D:List Nd):List ByteArray:=@ite _ (DI (visitL D 22 0 []).1) (Classical.propDecidable _) (CC (visitL D 22 0 []).1) []
theorem IO9 {D:List Nd} (h:DI (visitL D 22 0 []).1):B7 D=CC (visitL D 22 0 []).1:=if_pos h
theorem OE {D:List Nd} (h:¬ DI (visitL D 22 0 []).1):B7 D=[]:=if_neg h
theorem OF (D:List Nd) (a:Option Addr) (c:Nat) (w:World) (hD:C7 w a D) (ja:D.length≤9223372036854775807) (hC:KD D) :
  Calls Tryz.prog 104 #[.slice a D.length c] w fun e w'=>∃ a1 c1,e=.returned (.slice a1 (B7 D).length c1)∧BH w' a1 (B7 D)∧(B7 D).length≤c1∧Below w.heap.size w w':=by
 have HD:=A0 hD;clear hD;by_cases h:DI (visitL D 22 0 []).1
 ·have HY:=A0 (IO9 h);have HH:=A0 h;clear h
  go_enter Tryz.func104,Tryz.ntmps104
  go_wp2_with (first
   | (go_at_call 131;refine (LN D a c w HD.out ja hC HH.out).mono ?_;rintro e w1 ⟨a1,c1,rfl,ho,hb⟩;have HO:=A0 ho;have HB:=A0 hb;clear ho hb))
  go_ret;have:=HO.out.strs;rw [HY.out];exact ⟨_,_,rfl,this.1,this.2.2,HB.out⟩
 ·have HY:=A0 (OE h);have HH:Hid (¬ DI (visitL D 22 0 []).1):=h;clear h
  go_enter Tryz.func104,Tryz.ntmps104
  go_wp2_with (first
   | (go_at_call 131;refine (ML D a c w HD.out ja hC HH.out).mono ?_;rintro e w1 ⟨rfl,hb⟩;have HB:=A0 hb;clear hb))
  go_ret;rw [HY.out];exact ⟨_,_,rfl,BH.nil _ _,A3 _,HB.out⟩
def toB (l:Wd):ByteArray:=⟨l.toArray⟩
theorem NE {L:List ByteArray} (hd:CJ L):(ofF (Aj 0 L)).length≤4200:=by
 have hle:=PR hd.okR.1;have hln:(Aj 0 L).length=L.length:=by simp [Aj]
 have:=hd.2.1;omega
def IP (ws:Wd) (l:Wd):ByteArray × Bool:=(toB (ws ++ l),true)
theorem OG (c:Nat) (g:Rst) (G:List (Nat × Rst)):Iw ((c,g) :: G)=g.map (UInt8.ofNat c :: ·) ++ Iw G:=rfl
theorem OH {Mt:List Rst} {n:Nat} {rec:Int→List UInt8→List (ByteArray × Bool) × Bool} {ws:Wd}:∀ {G:List (Nat × Rst)} {X:List Ar},CV Mt n G X →
  (∀ (c t:Nat) (g:Rst),(c,g)∈G→t<n→Mt[t]? = some g→rec (t:Int) (ws ++ [UInt8.ofNat c])=(g.map (IP (ws ++ [UInt8.ofNat c])),true))→DH rec ws X=((Iw G).map (IP ws),true):=by
 intro G X hA
 induction hA with
 | nil=>intro _;rfl
 | @cons c t g G X h1 h2 h3 _ ih =>
  intro hr;have h:=hr c t g (by simp) h2 h3;have ih2:=ih fun c t g hg=>hr c t g (List.mem_cons_of_mem _ hg);have e:UInt8.ofNat (c:Int).toNat=UInt8.ofNat c:=by rw [Int.toNat_natCast]
  rw [DH];simp only [e,h,if_pos,ih2];rw [OG,List.map_append,List.map_map];have:(IP ws ∘ fun x=>UInt8.ofNat c :: x)=IP (ws ++ [UInt8.ofNat c]):=by
   funext l;simp [IP]
  rw [this]
theorem S8 {r:Rst} (h:OkR r) (hf:Eo r=false):grp r≠[]:=by
 intro e;have:=recon h.1 h.2.1;rw [hf,e] at this;simp [Iw] at this;exact h.2.2 this
theorem OkR.fst {r:Rst} (h:OkR r):∃ s,s∈r:=List.exists_mem_of_ne_nil _ h.2.2
theorem visit_tab {Mt:List Rst} {E:List Nd} (hT:Sx Mt E):∀ (m k:Nat) (r:Rst) (ws:Wd),Mt[k]? = some r→(∀ s∈r,s.length<m)→(∀ s∈r,ws.length+s.length≤20)→visitL E m (k:Int) ws=(r.map (IP ws),true)
 | 0,k,r,ws,hk,hm,_=>by
  exfalso;have ja:=hT.ok r (List.mem_of_getElem? hk);obtain ⟨s,hs⟩:=ja.fst;have:=hm s hs;omega
 | m
   +
    1,k,r,ws,hk,hm,hw=>by
  have ja:=hT.ok r (List.mem_of_getElem? hk);have jd:k<E.length:=by rw [← hT.len];exact (List.getElem?_eq_some_iff.1 hk).1
  obtain ⟨r',h1,h2,h3⟩:=hT.nd k jd;obtain rfl:r=r':=by rw [hk] at h1;injection h1
  have jc:E.getD (k:Int).toNat default=E[k]:=by rw [Int.toNat_natCast,AO,AA jd];rfl
  have je:¬ ((E[k].fin=false)∧E[k].arcs=[]):=by
   rintro ⟨a,b⟩;rw [h2] at a;have:=h3.len;rw [b] at this;exact S8 ja a (List.eq_nil_of_length_eq_zero this.symm)
  obtain ⟨s0,jh⟩:=ja.fst;have jb:H5 E (k:Int) ws=false:=by
   unfold H5;rw [jc];have:=hw s0 jh;have e1:¬ (k:Int)<0:=by omega
   have e2:¬ (E.length:Int)≤k:=by omega
   have e3:¬ 20<ws.length:=by omega
   simp only [e1,e2,e3,decide_false,Bool.or_false,Bool.false_or,Bool.and_eq_false_iff,Bool.not_eq_false'];by_cases hf:E[k].fin=true
   · exact .inl hf
   · exact .inr (decide_eq_false fun h=>je ⟨by simpa using hf,h⟩)
  rw [visitL,if_neg (by rw [jb];simp),jc];have hA:=OH (rec:=visitL E m) (ws:=ws) h3 fun c t g hg ht hM=>by
   obtain ⟨g1,g2,g3,g4⟩:=Hk hg;simp only at g3;refine visit_tab hT m t g _ hM (fun s hs=>?_) (fun s hs=>?_)
   ·rw [g3] at hs;obtain ⟨b,_,h5⟩:=DX.1 hs;have:=hm _ h5;simp at this;omega
   ·rw [g3] at hs;obtain ⟨b,_,h5⟩:=DX.1 hs;have:=hw _ h5;simp at this ⊢;omega
  rw [hA,h2];have jg:r.map (IP ws)=(if Eo r=true then [((⟨ws.toArray⟩:ByteArray),true)] else []) ++ (Iw (grp r)).map (IP ws):=by
   have jf:=recon ja.1 ja.2.1;refine (congrArg (List.map (IP ws)) jf).trans ?_;rw [List.map_append];congr 1;split
   · simp [IP,toB]
   · rfl
  rw [jg]
theorem LO {L:List ByteArray} (hd:CJ L):(visitL (ofF (Aj 0 L)) 22 0 []).1=L.map fun s=>(s,true):=by
 obtain ⟨Mt,ja,h0⟩:=MG hd.okR.1 hd.okR.2;have h:=visit_tab ja 22 0 (Aj 0 L) [] h0 (fun s hs=>by have:=hd.okR.2 s hs;omega) (fun s hs=>by have:=hd.okR.2 s hs;simp;omega);have e:((0:Nat):Int)=0:=rfl;rw [e] at h;rw [h];show (Aj 0 L).map (IP [])=_;unfold Aj;rw [List.map_map];congr 1
theorem S9 {L:List ByteArray} (hd:CJ L):DI (visitL (ofF (Aj 0 L)) 22 0 []).1:=by
 rw [LO hd];refine ⟨fun x hx=>?_,by rw [AM];exact hd.2.1⟩;obtain ⟨s,_,rfl⟩:=AH.1 hx;rfl
theorem SB {L:List ByteArray} (hd:CJ L):CC (visitL (ofF (Aj 0 L)) 22 0 []).1=L:=by
 rw [LO hd];unfold CC;rw [List.map_map];exact List.map_id'' (fun _=>rfl) _
theorem PX {L:List ByteArray} (hd:CJ L):B7 (ofF (Aj 0 L))=L:=by rw [IO9 (S9 hd),SB hd]
structure BR where
 a:Option Addr
 n:Nat
 c:Nat
 Z:Nat→Int
instance:Inhabited BR:=⟨⟨none,0,0,fun _=>0⟩⟩
def EJ (w:World) (a:Option Addr) (len:Nat) (Q:Nat→BR):Prop :=
 ∀ i,i<len→∃ b o,a=some ⟨b,o,none⟩∧b<w.heap.size∧w.cell? ⟨b,o+i,none⟩=some (.slice (Q i).a (Q i).n (Q i).c)∧BX w (Q i).a (Q i).n (Q i).Z∧(Q i).n≤9223372036854775807
theorem EJ.later {w w1:World} {a:Option Addr} {len:Nat} {Q:Nat→BR} {B:Nat} (h:EJ w a len Q) (hb:Below B w w1) (hB:w.heap.size≤B):EJ w1 a len Q:=fun i hi=>by
 obtain ⟨b,o,ha,h1,h2,h3,h4⟩:=h i hi;exact ⟨b,o,ha,by have:=hb.size;omega,(hb.cell (p:=⟨b,o+i,none⟩) (by show b<B;omega)).trans h2,h3.later hb hB,h4⟩
theorem KE (a:Option Addr) (b o len cap k:Nat) (ha:a=some ⟨b,o,none⟩) (hk:k<len) (w:World) :
  (Instr.indexAt 25 (.slice a len cap) (.int .i64 (k:Int))).run Tryz.prog w=.ok (.pointer (some ⟨b,o+k,none⟩)) w:=by
 subst ha;have h0:(0:Int)≤(k:Int):=by omega
 have h1:(k:Int)<(len:Int):=by omega
 simp [go_sem,h0,h1]
theorem Qz {L:List ByteArray} (hd:CJ L):KD (ofF (Aj 0 L)):=fun i hi x hx=>by
 obtain ⟨Mt,ja, -⟩:=MG hd.okR.1 hd.okR.2;obtain ⟨r,_,_,h3⟩:=ja.nd i hi;obtain ⟨⟨p1,p2,p3⟩,p4⟩:=h3.mem x hx;have:=NE hd;exact ⟨p1,by omega,by omega,by omega⟩
theorem PY {L:List ByteArray} (h1:1≤L.length) (h2:L.length≤200) (hw:∀ x∈L,CO x=true) (hs:L.Pairwise fun x y=>ltS x y=true):CJ L :=
 ⟨h1,h2,fun i hi _=>⟨hw _ (AG hi),fun h0=>List.pairwise_iff_getElem.1 hs (i - 1) i (by omega) hi (by omega)⟩⟩
theorem R3 {a b:ByteArray} (h:ltS a b=false) (jb:a≠b):ltS b a=true:=by
 have:=Fh a.toList b.toList;unfold ltS at h ⊢;have ja:(a.toList == b.toList)=false:=by
  cases e:(a.toList == b.toList)
  · rfl
  · exact absurd (by rw [QX] at e;exact of_decide_eq_true e) jb
 rw [h,ja] at this;simpa using this.symm
theorem R4 (a:ByteArray):ltS a a=false:=by
 have:=Fh a.toList a.toList;unfold ltS;cases h:Op.bytesLess a.toList a.toList
 · rfl
 · rw [h] at this;simp at this
theorem R5 {L:List ByteArray} (h1:1≤L.length) (h2:L.length≤200) (h3:(List.range L.length).all (fun i=>CO (L.getD i ⟨#[]⟩) && (i == 0 || Op.bytesLess (L.getD (i - 1) ⟨#[]⟩).data.toList (L.getD i ⟨#[]⟩).data.toList))=true):CJ L:=by
 refine ⟨h1,h2,fun i hi _=>?_⟩;have h:=List.all_eq_true.1 h3 i (AV.2 hi);rw [AO,AA hi] at h;simp only [Option.getD_some,Bool.and_eq_true,Bool.or_eq_true,beq_iff_eq] at h;refine ⟨h.1,fun h0=>?_⟩;rcases h.2 with h' | h'
 · omega
 ·rw [AO,AA (by omega)] at h';rw [ltS,ByteArray.toList_eq,ByteArray.toList_eq];exact h'
theorem PZ {w:World} {g:Nat} {cs:Array Value} {t:TypeId} {fz:Nat × Nat} {L:List ByteArray} (h:w.heap[g]? = some (.cells cs t fz)) (ja:cs.toList=L.map Value.string):BH w (some ⟨g,0,none⟩) L:=fun k hk=>by
 refine ⟨g,0,rfl,(A5.1 h).1,?_⟩;rw [cell_of_row _ _ _ _ _ _ h,← Array.getElem?_toList,ja];simp [hk]
structure IQ (w:World) (a:Option Addr) (n c:Nat) (L:List ByteArray):Prop where
 dict:CJ L
 len:n=(ofF (Aj 0 L)).length
 cap:n≤c
 rows:C7 w a (ofF (Aj 0 L))
theorem IQ.later {w w1:World} {a:Option Addr} {n c:Nat} {L:List ByteArray} (h:IQ w a n c L) (hb:Below w.heap.size w w1):IQ w1 a n c L:=⟨h.dict,h.len,h.cap,h.rows.later hb (A3 _)⟩
theorem IQ.go {w w1:World} {a:Option Addr} {n c:Nat} {L:List ByteArray} (h:IQ w a n c L) (hb:Below w.heap.size w w1):IQ w1 a n c L:=h.later hb
theorem Tab.go {w w1:World} (h:Tab w) (hb:Below w.heap.size w w1):Tab w1:=h.later hb
theorem IQ.big {w:World} {a:Option Addr} {n c:Nat} {L:List ByteArray} (h:IQ w a n c L):(ofF (Aj 0 L)).length≤9223372036854775807:=by
 have h1:=NE h.dict;omega
theorem R6 {L:List ByteArray} {n:Nat} {a:Option Addr} {cap:Nat} {w:World} (hd:CJ L) (hR:BH w a L) (hL:n=L.length) (hc:n≤cap) (hT:Tab w) :
  Calls Tryz.prog 42 #[.slice a n cap] w fun e w'=>∃ a n c,e=.returned (.tuple #[.slice a n c,.int .i64 0])∧IQ w' a n c L∧Below w.heap.size w w':=by
 refine (OD L n a cap w hR hL (by have:=hd.2.1;omega) hc hT hd).mono ?_;rintro e w1 ⟨a1,c1,rfl,ja,h2,h3,hb⟩;exact ⟨a1,_,c1,rfl,⟨hd,rfl,ja,h3⟩,hb⟩
theorem LP {α:Type} {T:BQ α} (hT:T.Ok) (g:Nat) (aa:Option Addr) (cc:Nat) (ty:TypeId) (w:World) :
  (Builtin.append_ #[T.sl,T.sl] ty #[.slice (some ⟨g,0,none⟩) 0 0,.slice aa 0 cc]).run Tryz.prog w=.ok (.slice (some ⟨g,0,none⟩) 0 0) w:=by
 obtain ⟨i0,hi,hz0,hz1,hz2⟩:=info_parts hT.info;cases aa <;> simp [Builtin.append_,run_underlying hT.und,sizeOf,typeInfo,hi,Builtin.lenOf,Builtin.firstCells,storeCells,loadCells,loadCellsFrom]
theorem AZ.rebase {α:Type} {T:BQ α} {w:World} {B C:Nat} {v:Value} {L:List α} (h:AZ T w B v L) (hC:∀ q,v.ownBlock=some q→C≤q):AZ T w C v L:=by
 rcases h.2 with ⟨rfl,h0⟩ | ⟨g',cap,cur,rfl,h1,h2⟩
 · exact ⟨h.1,.inl ⟨rfl,h0⟩⟩
 · exact ⟨h.1,.inr ⟨g',cap,cur,rfl,hC g' rfl,h2⟩⟩
theorem SC {α:Type} {T:BQ α} (hT:T.Ok) {w:World} {g:Nat} (hg:w.heap[g]? = some (.cells #[] T.e (0,0))) (ty:TypeId) (aa:Option Addr) (n c:Nat) (news:List α) (hn:n=news.length)
  (hc:news≠[]→∃ ad,aa=some ad∧∀ j u,(news.flatMap T.enc)[j]? = some u→w.cell? (ad.add j)=some u) (hl:news.length≤1000000) :
  ∃ v' w',(Builtin.append_ #[T.sl,T.sl] ty #[.slice (some ⟨g,0,none⟩) 0 0,.slice aa n c]).run Tryz.prog w=.ok v' w'∧AZ T w' g v' news∧(news≠[]→AZ T w' w.heap.size v' news)∧Ext w w':=by
 subst hn;by_cases h0:news=[]
 ·subst h0;exact ⟨_,w,LP hT g aa c ty w,AZ.empty T hg (A3 _),fun h=>absurd rfl h,Ext.refl _⟩
 ·obtain ⟨ad,rfl,ja⟩:=hc h0;have hpos:0<news.length:=List.length_pos_iff.2 h0;have hgl:g<w.heap.size:=(A5.1 hg).1;obtain ⟨i0,hi,jc,jd,je⟩:=info_parts hT.info;have hb:news.length*T.bytes≤1000000*64:=Nat.mul_le_mul hl hT.b;obtain ⟨v',w',hr,ho, -, -⟩:=(AZ.empty T hg (A3 g)).run_append hT ty ad c news ja (by have:=hl;simp only [List.length_nil,Nat.zero_add];omega) (by omega);have jb:=run_append_grow (P:=Tryz.prog) (w:=w) T.sl ty T.e i0 T.z hT.und hi jc ⟨g,0,none⟩ 0 0 [] (by simp) (by simp) ad news.length c (news.flatMap T.enc) (by rw [jd];exact DV hT news) ja (by omega) (by omega) (growslice_fits (by omega) (by rw [je,Nat.zero_add];omega));rw [jb] at hr;injection hr with e1 e2;rw [List.nil_append] at ho;refine ⟨v',w',by rw [jb];simp [← e1,← e2],ho,fun _=>ho.rebase fun q hq=>?_,?_⟩
  ·rw [← e1] at hq;injection hq with hq;rw [← hq];exact A3 _
  ·rw [← e2];exact ((Below.refl _ w).drew).alloc (by exact A3 _) _
theorem Cz {α:Type} {T:BQ α} (hT:T.Ok) {w:World} {g:Nat} (hg:w.heap[g]? = some (.cells #[] T.e (0,0))) {ops:Array Oper} {rest:List Oper} {o:Oper} {a:Act} {Q:Exit→Act→World→Prop} (jb:o.guard=none) (s x:Operand)
  (ho:o.op=.call { callee:=.builtin .append,args:=#[s,x],argTypes:=#[T.sl,T.sl] }) (hs:a.eval s=.slice (some ⟨g,0,none⟩) 0 0) (aa:Option Addr) (n c:Nat) (news:List α) (hn:n=news.length) (hx:a.eval x=.slice aa n c)
  (hc:news≠[]→∃ ad,aa=some ad∧∀ j u,(news.flatMap T.enc)[j]? = some u→w.cell? (ad.add j)=some u) (hl:news.length≤1000000)
  (h:∀ v' w',AZ T w' g v' news→(news≠[]→AZ T w' w.heap.size v' news)→Ext w w'→wpList Tryz.prog ops Q rest (a.put o.dst v') w'):wpList Tryz.prog ops Q (o :: rest) a w:=by
 refine wpList_plain jb fun K' ja=>?_;obtain ⟨v',w',hr,h1,h2,h3⟩:=SC hT hg o.type aa n c news hn hc hl;unfold Oper.wp;simp only [execOp,ho,resolve,invoke,builtin,Sem.run_bind,Sem.run_pure,Result.andThen_ok,List.map_toArray,List.map_cons,List.map_nil,hs,hx,hr];exact ja _ _ (h v' w' h1 h2 h3)
open Go.ChangeShapes Go.WideShapes Go.ChangeAt Go.RowKit
structure Sy where
 a:Option Addr
 len:Nat
 cap:Nat
 Z:Nat→Int
structure Sz (w:World) (x:Sy):Prop where
 by':BX w x.a x.len x.Z
 le:x.len≤9223372036854775807
structure Pa where
 a:Option Addr
 len:Nat
 cap:Nat
 Q:Nat→BR
structure Pb (w:World) (x:Pa):Prop where
 rows:EJ w x.a x.len x.Q
 le:x.len≤9223372036854775807
section
variable {H:Type} {enc:TypeId × Value→H} {w:World} {base:Nat} {spare:Nat→Bool} {held:Bool} {d:DataW H} {p:List MemPlace} {r:Reach} {b0:Nat} {v:Value}
open Go.Deep in
theorem slice_bytes {fuel:Nat} {cs:List Value} {x:DataW H × List MemPlace} (h:DataW.trod enc Tryz.prog w base spare held fuel 26 cs=some x):∃ a len cap Z,cs=[.slice a len cap]∧BX w a len Z∧len≤9223372036854775807:=by
 rcases open_slice1 Tryz.underlying26 (by kernel_rfl) h with ⟨h0,_⟩ | ⟨ad,l,c,m,n,V,D,Pl,h0,hba,hl,jb,jd,_,jc⟩
 · exact ⟨none,0,0,fun _=>0,h0,.inl rfl,by omega⟩
 ·have hlm:l≤m:=by rw [jd];split <;> omega
  have ja:l≤9223372036854775807:=by unfold maxLen at jb;omega
  have key:∀ i,i<l→∃ z,w.cell? (ad.add i)=some (.int .u8 z)∧0≤z∧z≤255:=fun i hi=>by
   obtain ⟨h1,h2⟩:=jc i (by omega);obtain ⟨z,hz,_,hw⟩:=DataW.trod_int Tryz.underlying5 h2;have:V i=.int .u8 z:=List.head_eq_of_cons_eq hz;rw [this] at h1;exact ⟨z,h1,bounds_u8 hw⟩
  by_cases h9:l=0
  · exact ⟨some ad,l,c,fun _=>0,h0,.inl h9,ja⟩
  ·obtain ⟨Z,hZ⟩:=choose_lt (α:=Int) key;obtain ⟨b,o,sp⟩:=ad;have hs:=World.cell?_spot (hZ 0 (by omega)).1;obtain rfl:sp=none:=by simpa [Addr.add] using hs
   refine ⟨some ⟨b,o,none⟩,l,c,Z,h0,.inr ⟨b,o,rfl,ja,?_,fun i hi=>?_⟩,ja⟩
   ·have:=World.block_lt_of_cell? w _ (hZ 0 (by omega)).1
    rwa [C3] at this
   ·have hk:=hZ i hi;rw [addr_add] at hk;exact hk
end
theorem TH:Tryz.prog.globalNamed "internal/strconv.uint64pow10" = some 0:=by kernel_rfl
theorem T0:(Tryz.prog.globals[0]?).map (·.type)=some 271:=by kernel_rfl
theorem Pc {W:World} (h:laidMetH Tryz.prog [("math/bits.deBruijn32tab",Rows.laid_math_bits_deBruijn32tab),("math/bits.deBruijn64tab",Rows.laid_math_bits_deBruijn64tab),("internal/strconv.uint64pow10",Rows.laid_internal_strconv_uint64pow10)] W):Tab W:=by
 obtain ⟨ps,h1,_⟩:laidMet Tryz.prog [("math/bits.deBruijn32tab",Rows.laid_math_bits_deBruijn32tab),("math/bits.deBruijn64tab",Rows.laid_math_bits_deBruijn64tab),("internal/strconv.uint64pow10",Rows.laid_internal_strconv_uint64pow10)] W:=h;obtain ⟨_,_,_,_,_,q1,_,_,_,_,h2,_⟩:=h1;obtain ⟨_,_,_,_,_,q2,_,_,_,_,h3,_⟩:=h2;obtain ⟨g',t',cs,fuel,p,q,jc,jd,ja,hd,_,_⟩:=h3;obtain rfl:=Option.some.inj (TH.symm.trans jc);obtain rfl:=Option.some.inj (T0.symm.trans jd);have jb:DataW.trod (fun _=>()) Tryz.prog W 0 (fun _=>true) false fuel 271 cs.toList=some (Lib.tabData .u64 Lib.pow10Tab,p):=hd;show W.var? Tryz.prog "internal/strconv.uint64pow10" = _;rw [ja,← Lib.cells_of_tab Tryz.underlying271 Tryz.underlying259 (by kernel_rfl) (by kernel_rfl) jb]
def putCells (w:World) (g:Nat) (cs:Array Value):World :=
 { w
   with heap:=w.heap.modify g fun
   | .cells _ t f=>.cells cs t f
   | o=>o }
noncomputable def Gn (os:Os):World :=
 putCells (putCells (putCells (World.holding Tryz.prog os ⟨#[],#[],[]⟩) 0 #[.int .u64 1,.int .u64 10,.int .u64 100,.int .u64 1000,.int .u64 10000,.int .u64 100000,.int .u64 1000000,.int .u64 10000000,.int .u64 100000000,.int .u64 1000000000,.int .u64 10000000000,.int .u64 100000000000,.int .u64 1000000000000,.int .u64 10000000000000,.int .u64 100000000000000,.int .u64 1000000000000000,.int .u64 10000000000000000,.int .u64 100000000000000000,.int .u64 1000000000000000000,.int .u64 10000000000000000000])
  1 #[.int .u8 0,.int .u8 1,.int .u8 28,.int .u8 2,.int .u8 29,.int .u8 14,.int .u8 24,.int .u8 3,.int .u8 30,.int .u8 22,.int .u8 20,.int .u8 15,.int .u8 25,.int .u8 17,.int .u8 4,.int .u8 8,.int .u8 31,.int .u8 27,.int .u8 13,.int .u8 23,.int .u8 21,.int .u8 19,.int .u8 16,.int .u8 7,.int .u8 26,.int .u8 12,.int .u8 18,.int .u8 6,.int .u8 11,.int .u8 5,.int .u8 10,.int .u8 9])
  2 #[.int .u8 0,.int .u8 1,.int .u8 56,.int .u8 2,.int .u8 57,.int .u8 49,.int .u8 28,.int .u8 3,.int .u8 61,.int .u8 58,.int .u8 42,.int .u8 50,.int .u8 38,.int .u8 29,.int .u8 17,.int .u8 4,.int .u8 62,.int .u8 47,.int .u8 59,.int .u8 36,.int .u8 45,.int .u8 43,.int .u8 51,.int .u8 22,.int .u8 53,.int .u8 39,.int .u8 33,.int .u8 30,.int .u8 24,.int .u8 18,.int .u8 12,.int .u8 5,.int .u8 63,.int .u8 55,.int .u8 48,.int .u8 27,.int .u8 60,.int .u8 41,.int .u8 37,.int .u8 16,.int .u8 46,.int .u8 35,.int .u8 44,.int .u8 21,.int .u8 52,.int .u8 32,.int .u8 23,.int .u8 11,.int .u8 54,.int .u8 26,.int .u8 40,.int .u8 15,.int .u8 34,.int .u8 20,.int .u8 31,.int .u8 10,.int .u8 25,.int .u8 14,.int .u8 19,.int .u8 9,.int .u8 13,.int .u8 8,.int .u8 7,.int .u8 6]
theorem Pd (os:Os) (args:Array Value):laidMet Tryz.prog [("math/bits.deBruijn32tab",Rows.laid_math_bits_deBruijn32tab),("math/bits.deBruijn64tab",Rows.laid_math_bits_deBruijn64tab),("internal/strconv.uint64pow10",Rows.laid_internal_strconv_uint64pow10)] ((Gn os).forCall (fun _ _=>0) ⟨#[],args,[]⟩).memory :=
 laidMet_of_run' 8 (by kernel_rfl) (by kernel_rfl)
end Go.Proofs.YtpljngaejaehcaaGreatDoor
