/- Texts that the claims share: DAll, DColl, DEq, DWords, DRefQ. -/
import Derived.RangeFuncNested
import Derived.RangeFuncBound
import Derived.RangeFuncCalls
import Derived.RangeFuncLeaves
import Derived.Shelf.Abstract
import Derived.OwnWalkIn
import Derived.TacticsInMore
import Derived.LoopNIn
import Derived.LoopIn
import Derived.RangeFuncBox
import Derived.Maps.AppendAt
import Derived.Test.YthjmdgejnakcmaaGreatDoorMD4
import Derived.Test.YthjmdgejnakcmaaGreatDoorMD1
set_option linter.unusedVariables false
set_option linter.unusedSimpArgs false
namespace Go.Proofs.YthjmdgejnakcmaaGreatDoor
open Go.RowKit Go.WideShapes
def IB (D:List Nd) (i:Int) (ws:List UInt8):Bool :=
 decide (i<0) || decide ((D.length:Int)≤i) || decide (20<ws.length) || (!(D.getD i.toNat default).fin && decide ((D.getD i.toNat default).arcs=[]))
def Dh (rec:Int→List UInt8→List (ByteArray × Bool) × Bool) (ws:List UInt8):List Ar→List (ByteArray × Bool) × Bool
 | []=>([],true)
 | x :: r=>if (rec x.t (ws ++ [UInt8.ofNat x.c.toNat])).2=true then ((rec x.t (ws ++ [UInt8.ofNat x.c.toNat])).1 ++ (Dh rec ws r).1,(Dh rec ws r).2) else ((rec x.t (ws ++ [UInt8.ofNat x.c.toNat])).1,false)
def
  visitL (D:List Nd):Nat→Int→List UInt8→List (ByteArray × Bool) × Bool
 | 0,_,_=>([],true)
 | m+1,i,ws=>if IB D i ws=true then ([(⟨#[]⟩,false)],false)
  else ((if (D.getD i.toNat default).fin=true then [(⟨ws.toArray⟩,true)] else []) ++ (Dh (visitL D m) ws (D.getD i.toNat default).arcs).1,(Dh (visitL D m) ws (D.getD i.toNat default).arcs).2)
def DB (W:World) (a:Option Addr) (l:List UInt8):Prop:=(a=none∧l=[])∨∃ b cs,a=some ⟨b,0,none⟩∧W.heap[b]? = some (.cells cs 5 (0,0))∧cs.toList.take l.length=l.map fun c=>Value.int .u8 (c.toNat:Int)
theorem DB.nil (W:World):DB W none []:=.inl ⟨rfl,rfl⟩
theorem DB.keep {W W':World} {a:Option Addr} {l:List UInt8} (h:DB W a l) (hk:∀ (b:Nat) (cs:Array Value),W.heap[b]? = some (.cells cs 5 (0,0))→W'.heap[b]? = W.heap[b]?):DB W' a l:=by
 rcases h with h | ⟨b,cs,h1,h2,h3⟩
 · exact .inl h
 · exact .inr ⟨b,cs,h1,(hk b cs h2).trans h2,h3⟩
theorem DB.cells {W:World} {b:Nat} {l:List UInt8} (h:DB W (some ⟨b,0,none⟩) l):∀ j v,(l.map fun c=>Value.int .u8 (c.toNat:Int))[j]? = some v→W.cell? ((⟨b,0,none⟩:Addr).add j)=some v:=by
 rcases h with ⟨h,_⟩ | ⟨b',cs,h1,h2,h3⟩
 · cases h
 ·
  injection h1 with h1;injection h1 with h1;subst h1
  intro j v hj
  rw [← h3] at hj
  have hlt:=(List.getElem?_eq_some_iff.1 hj).1
  rw [List.getElem?_take] at hj
  split at hj
  ·
   rw [FV,Nat.zero_add,cell_of_row _ _ _ _ _ _ h2]
   simpa using hj
  · cases hj
theorem
    conv_bytes {W:World} {a:Option Addr} {l:List UInt8} (h:DB W a l) (c:Nat):(convert 26 9 (.slice a l.length c)).run Tryz.prog W=.ok (.string ⟨l.toArray⟩) W:=by
 rcases id h with ⟨rfl,rfl⟩ | ⟨b,cs,rfl,h2,h3⟩
 · exact run_convert_bytes_nil W 26 5 Tryz.underlying26 Tryz.underlying5 0 c 9 Tryz.underlying9
 ·
  have:=run_convert_bytes_arg W 26 5 Tryz.underlying26 Tryz.underlying5 b 0 l.length c (l.map fun c=>(c.toNat:Int)) (by simp) (fun i hi=>by
   have hc:=h.cells i (.int .u8 (l[i].toNat:Int)) (by simp [hi])
   rw [FV] at hc
   rw [hc];simp [AP,hi]) 9 Tryz.underlying9
  refine this.trans ?_
  have e0:((l.map fun c=>(c.toNat:Int)).map fun n=>UInt8.ofNat n.toNat)=l:=by
   rw [List.map_map]
   have h1:((fun n:Int=>UInt8.ofNat n.toNat) ∘ fun c:UInt8=>(c.toNat:Int))=id:=by
    funext c
    show UInt8.ofNat ((c.toNat:Int).toNat)=c
    rw [Int.toNat_natCast,UInt8.ofNat_toNat]
   rw [h1,List.map_id]
  have e:strOfNums (l.map fun c=>(c.toNat:Int))=⟨l.toArray⟩:=by
   unfold strOfNums
   rw [e0]
  rw [e]
theorem My (a:Option Addr) (n c:Nat) (hn:n≤c) (ha:a=none→n=0) (w:World) :
  (Instr.slice 26 (.slice a n c) none (some (.int .i64 (n:Int))) (some (.int .i64 (n:Int)))).run Tryz.prog w=.ok (.slice a n n) w:=by
 have h0:(0:Int)≤(n:Int):=by omega
 have h1:(n:Int)≤(c:Int):=by omega
 cases a with
 | none =>
  obtain rfl:=ha rfl
  simp [go_sem,Instr.slice,Instr.sliceBounds,Instr.sliceBound,asIntOf]
 | some p=>simp [go_sem,Instr.slice,Instr.sliceBounds,Instr.sliceBound,asIntOf,h0,h1];intro h;omega
theorem Rd:(Tryz.prog.info? 5).map (fun i=>(i.zero,i.size,i.bytes))=some (some (.int .u8 0),1,1):=by kernel_rfl
theorem Tc {W:World}:Ext W W.drew:=(Below.refl _ W).drew
theorem QH {W:World} {a:Option Addr} {l:List UInt8} (h:DB W a l) (hl:l.length≤1000) (x:UInt8) (g:Nat) (hg:W.heap[g]? = some (.cells #[.int .u8 (x.toNat:Int)] 5 (0,0))) (ty:TypeId) :
  ∃ c W',(Builtin.append_ #[26,26] ty #[.slice a l.length l.length,.slice (some ⟨g,0,none⟩) 1 1]).run Tryz.prog W=.ok (.slice (some ⟨W.heap.size,0,none⟩) (l ++ [x]).length c) W'∧DB W' (some ⟨W.heap.size,0,none⟩) (l ++ [x])∧(l ++ [x]).length≤c∧Ext W W':=by
 obtain ⟨i0,hi,hz0,hz1,hz2⟩:=info_parts Rd
 have hn:∀ j v,([Value.int .u8 (x.toNat:Int)]:List Value)[j]? = some v→W.cell? ((⟨g,0,none⟩:Addr).add j)=some v:=fun j v hj=>by
  rw [FV,Nat.zero_add,cell_of_row _ _ _ _ _ _ hg]
  simpa using hj
 have hx:∀ o,Ext W (W.drew.alloc o):=fun o=>Tc.alloc (by exact A3 _) _
 rcases id h with ⟨rfl,rfl⟩ | ⟨b,cs,rfl,h2,h3⟩
 ·
  have hr:=run_append_nil (P:=Tryz.prog) (w:=W) 26 ty 5 i0 (.int .u8 0) Tryz.underlying26 hi hz0 ⟨g,0,none⟩ 1 1 [.int .u8 (x.toNat:Int)] (by rw [hz1];rfl) hn (by omega) (by omega) (by rw [hz2];omega)
  have hge:=grownCap_ge W 1 0 5
  refine ⟨_,_,hr,.inr ⟨_,_,rfl,heap_alloc_new W.drew _,?_⟩,hge,hx _⟩
  simp
 ·
  have hr:=run_append_grow (P:=Tryz.prog) (w:=W) 26 ty 5 i0 (.int .u8 0) Tryz.underlying26 hi hz0 ⟨b,0,none⟩ l.length l.length (l.map fun c=>Value.int .u8 (c.toNat:Int)) (by rw [hz1];simp) h.cells ⟨g,0,none⟩ 1 1 [.int .u8 (x.toNat:Int)] (by rw [hz1];rfl) hn (by omega) (by omega) (growslice_fits (by omega) (by rw [hz2];omega))
  have hge:=grownCap_ge W (l.length+1) l.length 5
  rw [show (l ++ [x]).length=l.length+1 by simp]
  refine ⟨grownCap W (l.length+1) l.length 5,_,hr,.inr ⟨_,_,rfl,heap_alloc_new W.drew _,?_⟩,hge,hx _⟩
  simp only [Builtin.zeroCells,List.append_toArray,Array.toList_append,AB,List.map_append]
  simp [List.take_append,AF]
def Kp (n₀:Nat) (W W':World):Prop:=Below n₀ W W'∧∀ (q:Nat) (cs:Array Value) (t:TypeId) (fz:Nat × Nat),W.heap[q]? = some (.cells cs t fz)→t≠9→t≠37→t≠4→W'.heap[q]? = W.heap[q]?
theorem Kp.trans {n₀:Nat} {A B C:World} (h:Kp n₀ A B) (h2:Kp n₀ B C):Kp n₀ A C :=
 ⟨h.1.trans h2.1,fun q cs t fz hq h3 h4 h5=>by
  have e:=h.2 q cs t fz hq h3 h4 h5
  exact (h2.2 q cs t fz (e.trans hq) h3 h4 h5).trans e⟩
theorem Kp.of_ext {n₀:Nat} {A B:World} (h:Ext A B) (hn:n₀≤A.heap.size):Kp n₀ A B:=⟨Below.mono h hn,fun q cs t fz hq _ _ _=>Below.block h q (A5.1 hq).1⟩
theorem Kp.refl (n₀:Nat) (A:World):Kp n₀ A A:=⟨Below.refl _ _,fun _ _ _ _ _ _ _ _=>rfl⟩
theorem Kp.obj {n₀:Nat} {W:World} (hn:n₀≤W.heap.size) (X:World) (l:Nat) (o o':Obj) (hl:W.heap.size≤l) (h:X.heap[l]? = some o) (ho:o.isCells=false) (hw:o.isWalk=false):Kp n₀ X (X.putObj l o') :=
 ⟨belowK_b hn X l o o' hl h ho hw,fun q cs t fz hq _ _ _=>by
  have hne:q≠l:=fun e=>by subst e;rw [hq] at h;injection h with h;subst h;cases ho
  exact World.putObj_heap_other hne⟩
theorem DB.kp {n₀:Nat} {W W':World} {a:Option Addr} {l:List UInt8} (h:DB W a l) (hk:Kp n₀ W W'):DB W' a l:=h.keep fun b cs hb=>hk.2 b cs _ _ hb (by decide) (by decide) (by decide)
structure VBy (l gD gY gV:Nat) (aD:Option Addr) (nD cD:Nat) (W:World):Prop where
 dd:W.heap[gD]? = some (.cells #[.slice aD nD cD] 35 (0,0))
 yy:W.heap[gY]? = some (.cells #[.func (.yield l) #[] #[]] 208 (0,0))
 vv:W.heap[gV]? = some (.cells #[.func (.func 128) #[] #[.pointer (some ⟨gD,0,none⟩),.pointer (some ⟨gY,0,none⟩),.pointer (some ⟨gV,0,none⟩)]] 209 (0,0))
theorem VBy.kp {n₀ l gD gY gV:Nat} {aD:Option Addr} {nD cD:Nat} {W W':World} (h:VBy l gD gY gV aD nD cD W) (hk:Kp n₀ W W'):VBy l gD gY gV aD nD cD W' :=
 ⟨(hk.2 _ _ _ _ h.dd (by decide) (by decide) (by decide)).trans h.dd,(hk.2 _ _ _ _ h.yy (by decide) (by decide) (by decide)).trans h.yy,(hk.2 _ _ _ _ h.vv (by decide) (by decide) (by decide)).trans h.vv⟩
theorem VBy.cells {l gD gY gV:Nat} {aD:Option Addr} {nD cD:Nat} {W:World} (h:VBy l gD gY gV aD nD cD W):W.cell? ⟨gD,0,none⟩=some (.slice aD nD cD)∧W.cell? ⟨gY,0,none⟩=some (.func (.yield l) #[] #[])∧W.cell? ⟨gV,0,none⟩=some (.func (.func 128) #[] #[.pointer (some ⟨gD,0,none⟩),.pointer (some ⟨gY,0,none⟩),.pointer (some ⟨gV,0,none⟩)]) :=
 ⟨DJ h.dd,DJ h.yy,DJ h.vv⟩
theorem YieldAt.anyD {m:Nat} (m':Nat) {P:Program} {l:Nat} {args:Array Value} {W:World} {R:Ending→World→Prop} (h:YieldAt Fence.wide m P l args W R):YieldAt Fence.wide m' P l args W R:=by
 obtain ⟨fn,tmps,assign,body,hy,hR⟩:=h
 exact ⟨fn,tmps,assign,body,hy,hR.1,fun c cs _=>hR.2 c cs (room_wide _)⟩
def Jg (J:List (ByteArray × Bool)→World→Prop):Prop:=∀ s W W',J s W→Ext W W'→J s W'
theorem Jg.of {B:Nat} {J:List (ByteArray × Bool)→World→Prop} (h:AbidesFrom B J):Jg J:=fun s W W' hs hx =>
 h s W W' none hs ⟨hx.os,hx.tape,hx.output,hx.size,fun k hk _=>hx.block k hk⟩ (fun r e=>by cases e)
attribute [local go_sem] Oper.semAt_some
def Hs (D:List Nd):Prop:=∀ i (h:i<D.length),∀ x∈D[i].arcs,0≤x.c∧x.c≤255∧-9223372036854775808≤x.t∧x.t≤9223372036854775807
def Td (n₀:Nat) (J Jx:List (ByteArray × Bool)→World→Prop) (q:List (ByteArray × Bool) × Bool) (pre:List (ByteArray × Bool)) (W:World) (e:Ending) (W':World):Prop :=
 (e=.returned (.bool true)∧q.2=true∧J (pre ++ q.1) W'∧Kp n₀ W W')∨(e=.returned (.bool false)∧q.2=false∧J (pre ++ q.1) W')∨(e=.returned (.bool false)∧∃ p,p <+: q.1∧Jx (pre ++ p) W')
def PV (b:Bool) (n₀:Nat) (J Jx:List (ByteArray × Bool)→World→Prop) (wz:World) (pre S:List (ByteArray × Bool)) (q:List (ByteArray × Bool) × Bool) (v:Value) (W:World):Prop :=
 (v=.bool b∧q.2=true∧J (pre ++ (S ++ q.1)) W∧Kp n₀ wz W)∨(v=.bool (!b)∧((q.2=false∧J (pre ++ (S ++ q.1)) W)∨∃ p,p <+: q.1∧Jx (pre ++ (S ++ p)) W))
theorem M1 {b:Bool} {n₀:Nat} {J Jx:List (ByteArray × Bool)→World→Prop} (hJ:Jg J) (hJx:Jg Jx) {wz:World} (hn:n₀≤wz.heap.size) {pre S:List (ByteArray × Bool)} {q:List (ByteArray × Bool) × Bool}:Bp (PV b n₀ J Jx wz pre S q):=by
 rintro v w w' (⟨h1,h2,h3,h4⟩ | ⟨h1,⟨h2,h3⟩ | ⟨p,h2,h3⟩⟩) hx
 · exact .inl ⟨h1,h2,hJ _ _ _ h3 hx,h4.trans (Kp.of_ext hx (A8 hn h4.1.size))⟩
 · exact .inr ⟨h1,.inl ⟨h2,hJ _ _ _ h3 hx⟩⟩
 · exact .inr ⟨h1,.inr ⟨p,h2,hJx _ _ _ h3 hx⟩⟩
def Re (g n:Nat) (v:Value) (_:World):Prop:=∃ c,v=.slice (some ⟨g,0,none⟩) n c∧n≤c
theorem Mz (g n:Nat):Bp (Re g n):=fun _ _ _ h _=>h
theorem J7 {W:World} {A:Act} {o:Oper} {s y:Operand} {a:Option Addr} {l:List UInt8} {x:UInt8} {g:Nat} (h:DB W a l) (hl:l.length≤1000) (hg:W.heap[g]? = some (.cells #[.int .u8 (x.toNat:Int)] 5 (0,0)))
  (ho:o.op=.call { callee:=.builtin .append,args:=#[s,y],argTypes:=#[26,26] }) (hs:A.eval s=.slice a l.length l.length) (hy:A.eval y=.slice (some ⟨g,0,none⟩) 1 1) :
  Ep Tryz.prog A o W (fun v w'=>Re W.heap.size (l ++ [x]).length v w'∧DB w' (some ⟨W.heap.size,0,none⟩) (l ++ [x])∧Ext W w'):=by
 obtain ⟨c,W',hr,h1,h2,h3⟩:=QH h hl x g hg o.type
 refine .inl ⟨_,W',?_,⟨c,rfl,h2⟩,h1,h3⟩
 unfold execOp
 simp only [ho,resolve,invoke,builtin,Sem.run_bind,Sem.run_pure,Result.andThen_ok,List.map_toArray,List.map_cons,List.map_nil,hs,hy,hr]
def TV (n₀:Nat) (J:List (ByteArray × Bool)→World→Prop) (wz:World) (g s0:Nat) (cs:Array Value) (y:UInt8) (l:List UInt8) (pre:List (ByteArray × Bool)) (b1 b2 b3:Bool) (W:World):Prop :=
 match b3 with
 | false=>J pre W∧Kp n₀ wz W∧W.heap[g]? = some (.cells cs 155 (0,0))∧(b2=false→W.heap.size=s0+b1.toNat)∧(b1=true→W.heap[s0]? = some (.cells #[.int .u8 (y.toNat:Int)] 5 (0,0)))∧(b2=true→DB W (some ⟨s0+1,0,none⟩) l)
 | true=>True
theorem TV.keep {n₀:Nat} {J:List (ByteArray × Bool)→World→Prop} (hJ:Jg J) {wz:World} (hn:n₀≤wz.heap.size) {g s0:Nat} {cs:Array Value} {y:UInt8} {l:List UInt8} {pre:List (ByteArray × Bool)} {w w':World} {b1 b2:Bool} (h:TV n₀ J wz g s0 cs y l pre b1 b2 false w) (hx:Ext w w') :
  J pre w'∧Kp n₀ wz w'∧w'.heap[g]? = some (.cells cs 155 (0,0)) :=
 ⟨hJ _ _ _ h.1 hx,h.2.1.trans (Kp.of_ext hx (A8 hn h.2.1.1.size)),(Below.block hx g (A5.1 h.2.2.1).1).trans h.2.2.1⟩
theorem Ob {i:Int} (h:¬ i<0):∃ k:Nat,i=(k:Int):=⟨i.toNat,by omega⟩
set_option maxHeartbeats 1600000 in
set_option maxRecDepth 100000 in
theorem
    vis_any
        (l gD gY gV n₀ N:Nat) (aD:Option Addr) (cD:Nat) (D:List Nd) (wW:World) (hWB:wW.heap.size≤n₀) (hD:Bs wW aD D) (hDl:D.length≤9223372036854775807) (hC:Hs D)
  (J Jx:List (ByteArray × Bool)→World→Prop) (hJ:Jg J) (hJx:Jg Jx)
  (hY:∀ pre (x:ByteArray × Bool) W,J pre W→pre.length<N→YieldAt Fence.wide 8 Tryz.prog l #[.string x.1,.bool x.2] W fun e W' =>
   (e=.returned (.bool true)∧J (pre ++ [x]) W'∧Kp n₀ W W')∨(e=.returned (.bool false)∧Jx (pre ++ [x]) W')) :
  ∀
   (m:Nat) (i:Int) (ws:List UInt8) (aw:Option Addr) (cw:Nat) (pre:List (ByteArray × Bool)) (W:World),m+ws.length=22→1≤m→DB W aw ws→ws.length≤cw→VBy l gD gY gV aD D.length cD W→n₀≤W.heap.size→Below n₀ wW W→J pre W →
   pre.length+(visitL D m i ws).1.length≤N→Calls Tryz.prog 128 #[.int .i64 i,.slice aw ws.length cw,.pointer (some ⟨gD,0,none⟩),.pointer (some ⟨gY,0,none⟩),.pointer (some ⟨gV,0,none⟩)] W (Td n₀ J Jx (visitL D m i ws) pre W):=by
 intro m
 induction m with
 | zero=>intro i ws aw cw pre W _ h;omega
 | succ m ih
       =>
  intro i ws aw cw pre W hm _ hB hcw hV hn hW hJp hN
  obtain ⟨q,hq⟩:∃ q,visitL D (m+1) i ws=q:=⟨_,rfl⟩
  rw [hq] at hN ⊢
  have HYY:=A0 hY;have HJ:=A0 hJ;have HJX:=A0 hJx;have HD:=A0 hD;have HC:=A0 hC;have IH:=A0 ih;have HB:=A0 hB;have HV:=A0 hV;have HW:=A0 hW;have HJP:=A0 hJp;have HN:=A0 hN;have HQ:=A0 hq
  clear hY hJ hJx hD hC ih hB hV hW hJp hN hq
  obtain ⟨hcd,hcy,hcv⟩:=HV.out.cells
  by_cases hi0:i<0
  ·
   have HI0:=A0 hi0
   have hq2:q=([(⟨#[]⟩,false)],false):=by rw [← HQ.out,visitL,if_pos (by simp [IB,HI0.out])]
   obtain ⟨fn,tmps,assign,body,hy,hR⟩:=YieldAt.anyD 8 (HYY.out pre (⟨#[]⟩,false) W HJP.out (by have:=HN.out;rw [hq2] at this;simp at this;omega))
   dsimp only at hy
   have HQ2:=A0 hq2
   have HR:=A0 hR
   clear hq2 hR
   go_enter Tryz.func128,Tryz.ntmps128
   go_upto_region 2 with fail
   refine (wpIn_wide (n:=9)).1 ?_
   gi_wp2
   refine HR.out.mono ?_
   rintro e W2 (⟨rfl,hj2,hk2⟩ | ⟨rfl,hj2⟩)
   ·
    dsimp only
    apply_assumption -exfalso
    gi_wp2
    try apply_assumption -exfalso
    go_wp2_with fail
    go_ret
    rw [HQ2.out]
    exact .inr (.inl ⟨rfl,rfl,hj2⟩)
   ·
    dsimp only
    apply_assumption -exfalso
    gi_wp2
    try apply_assumption -exfalso
    go_wp2_with fail
    go_ret
    rw [HQ2.out]
    exact .inr (.inr ⟨rfl,_,List.prefix_refl _,hj2⟩)
  by_cases hge:(D.length:Int)≤i
  ·
   have HGE:=A0 hge
   have hq2:q=([(⟨#[]⟩,false)],false):=by rw [← HQ.out,visitL,if_pos (by simp [IB,HGE.out])]
   obtain ⟨fn,tmps,assign,body,hy,hR⟩:=YieldAt.anyD 8 (HYY.out pre (⟨#[]⟩,false) W HJP.out (by have:=HN.out;rw [hq2] at this;simp at this;omega))
   dsimp only at hy
   have HQ2:=A0 hq2
   have HR:=A0 hR
   clear hq2 hR
   go_enter Tryz.func128,Tryz.ntmps128
   go_upto_region 2 with fail
   refine (wpIn_wide (n:=9)).1 ?_
   gi_wp2
   refine HR.out.mono ?_
   rintro e W2 (⟨rfl,hj2,hk2⟩ | ⟨rfl,hj2⟩)
   ·
    dsimp only
    apply_assumption -exfalso
    gi_wp2
    try apply_assumption -exfalso
    go_wp2_with fail
    go_ret
    rw [HQ2.out]
    exact .inr (.inl ⟨rfl,rfl,hj2⟩)
   ·
    dsimp only
    apply_assumption -exfalso
    gi_wp2
    try apply_assumption -exfalso
    go_wp2_with fail
    go_ret
    rw [HQ2.out]
    exact .inr (.inr ⟨rfl,_,List.prefix_refl _,hj2⟩)
  obtain ⟨k,rfl⟩:=Ob hi0
  have hkD:k<D.length:=by omega
  have hkI:¬ (D.length:Int)≤(k:Int):=hge
  by_cases h20:20<ws.length
  ·
   have h20I:(20:Int)<(ws.length:Int):=by omega
   have H20:=A0 h20
   clear h20
   have hq2:q=([(⟨#[]⟩,false)],false):=by rw [← HQ.out,visitL,if_pos (by simp [IB,H20.out])]
   obtain ⟨fn,tmps,assign,body,hy,hR⟩:=YieldAt.anyD 8 (HYY.out pre (⟨#[]⟩,false) W HJP.out (by have:=HN.out;rw [hq2] at this;simp at this;omega))
   dsimp only at hy
   have HQ2:=A0 hq2
   have HR:=A0 hR
   clear hq2 hR
   go_enter Tryz.func128,Tryz.ntmps128
   go_upto_region 2 with fail
   refine (wpIn_wide (n:=9)).1 ?_
   gi_wp2
   refine HR.out.mono ?_
   rintro e W2 (⟨rfl,hj2,hk2⟩ | ⟨rfl,hj2⟩)
   ·
    dsimp only
    apply_assumption -exfalso
    gi_wp2
    try apply_assumption -exfalso
    go_wp2_with fail
    go_ret
    rw [HQ2.out]
    exact .inr (.inl ⟨rfl,rfl,hj2⟩)
   ·
    dsimp only
    apply_assumption -exfalso
    gi_wp2
    try apply_assumption -exfalso
    go_wp2_with fail
    go_ret
    rw [HQ2.out]
    exact .inr (.inr ⟨rfl,_,List.prefix_refl _,hj2⟩)
  have h20I:¬ (20:Int)<(ws.length:Int):=by omega
  obtain ⟨bN,oN,haN,hbN,f0,aa,cc,f1,hXl,hXs⟩:=HD.out.at hkD
  have hidxN:=EM aD bN oN D.length cD k haN hkD
  have hgi:D.getD k default=D[k]:=by rw [AP,AA hkD];rfl
  have hCk:=HC.out k hkD
  obtain ⟨nd0,hnd0⟩:∃ nd0,D[k]=nd0:=⟨_,rfl⟩
  rw [hnd0] at f0 f1 hXl hXs hgi hCk
  obtain ⟨f,X⟩:=nd0
  simp only at f0 f1 hXl hXs hCk
  have c0:=(HW.out.cell (p:=⟨bN,oN+k*2,none⟩) (by show bN<n₀;omega)).trans f0
  have c1:=(HW.out.cell (p:=⟨bN,oN+k*2+1,none⟩) (by show bN<n₀;omega)).trans f1
  have HF0:=A0 f0;have HF1:=A0 f1;have HXS:=A0 hXs;have HGI:=A0 hgi;have HCK:=A0 hCk
  clear f0 f1 hXs hgi hCk hnd0 haN
  by_cases hdead:f=false∧X=[]
  ·
   obtain ⟨rfl,rfl⟩:=hdead
   have hq2:q=([(⟨#[]⟩,false)],false):=by rw [← HQ.out,visitL,if_pos (by unfold IB;rw [Int.toNat_natCast,HGI.out];simp)]
   obtain ⟨fn,tmps,assign,body,hy,hR⟩:=YieldAt.anyD 8 (HYY.out pre (⟨#[]⟩,false) W HJP.out (by have:=HN.out;rw [hq2] at this;simp at this;omega))
   dsimp only at hy
   have HQ2:=A0 hq2
   have HR:=A0 hR
   clear hq2 hR
   simp only [List.length_nil] at c1
   go_enter Tryz.func128,Tryz.ntmps128
   go_upto_region 2 with fail
   refine (wpIn_wide (n:=9)).1 ?_
   gi_wp2
   refine HR.out.mono ?_
   rintro e W2 (⟨rfl,hj2,hk2⟩ | ⟨rfl,hj2⟩)
   ·
    dsimp only
    apply_assumption -exfalso
    gi_wp2
    try apply_assumption -exfalso
    go_wp2_with fail
    go_ret
    rw [HQ2.out]
    exact .inr (.inl ⟨rfl,rfl,hj2⟩)
   ·
    dsimp only
    apply_assumption -exfalso
    gi_wp2
    try apply_assumption -exfalso
    go_wp2_with fail
    go_ret
    rw [HQ2.out]
    exact .inr (.inr ⟨rfl,_,List.prefix_refl _,hj2⟩)
  have HDEAD:=A0 hdead
  obtain ⟨L1,hL1⟩:∃ L1:List (ByteArray × Bool),(if f=true then [(⟨ws.toArray⟩,true)] else [])=L1:=⟨_,rfl⟩
  obtain ⟨FA,hFA⟩:∃ FA,Dh (visitL D m) ws X=FA:=⟨_,rfl⟩
  have hq3:q=(L1 ++ FA.1,FA.2):=by
   rw [← HQ.out,visitL,if_neg (by unfold IB;rw [Int.toNat_natCast,HGI.out];simp;simp at hdead;exact ⟨⟨by omega,by omega⟩,hdead⟩),Int.toNat_natCast,HGI.out,← hL1,← hFA]
  have HQ3:=A0 hq3;have HL1:=A0 hL1;have HFA:=A0 hFA
  have hws:ws.length≤20:=by omega
  have HAN:Hid (aw=none→ws.length=0):=fun e=>by
   rcases HB.out with ⟨_,h⟩ | ⟨b,cs,h,_⟩
   · rw [h];rfl
   · rw [e] at h;cases h
  clear hq3 hL1 hFA hdead h20 hge hi0
  go_enter Tryz.func128,Tryz.ntmps128
  go_upto_region 1 with fail
  go_cut [39] (fun s39 wx=>∃ wz,wz=wx∧wz=W∧s39=.bool false)
  case first =>
   cases f with
   | true =>
    go_wp2
    go_meet
    exact ⟨_,rfl,rfl,rfl⟩
   | false =>
    have hx0:((X.length:Int) == 0)=false:=by
     have:=HDEAD.out
     cases X with
     | nil=>simp at this
     | cons=>simp;omega
    go_wp2
    go_meet
    exact ⟨_,rfl,rfl,rfl⟩
  case rest
       =>
   obtain ⟨wz,rfl,rfl,rfl⟩:=hcut
   apply_assumption -exfalso
   go_upto_region 4 with fail
   go_cut [53] (fun s53 wx=>∃ wz2,wz2=wx∧((s53=.bool false∧J (pre ++ L1) wz2∧Kp n₀ wz wz2)∨(s53=.bool true∧Jx (pre ++ L1) wz2)))
   case first =>
    cases f with
    | true =>
     obtain ⟨fn,tmps,assign,body,hy,hR⟩:=YieldAt.anyD 8 (HYY.out pre (⟨ws.toArray⟩,true) wz HJP.out (by have:=HN.out;rw [HQ3.out,← HL1.out] at this;simp at this;omega))
     dsimp only at hy
     have HR:=A0 hR
     clear hR
     have hconv:=conv_bytes HB.out cw
     refine (wpIn_wide (n:=9)).1 ?_
     gi_wp2
     refine HR.out.mono ?_
     rintro e W2 (⟨rfl,hj2,hk2⟩ | ⟨rfl,hj2⟩)
     ·
      dsimp only
      apply_assumption -exfalso
      gi_wp2
      go_meet
      exact ⟨_,rfl,.inl ⟨rfl,by rw [← HL1.out];exact hj2,hk2⟩⟩
     ·
      dsimp only
      apply_assumption -exfalso
      gi_wp2
      go_meet
      exact ⟨_,rfl,.inr ⟨rfl,by rw [← HL1.out];exact hj2⟩⟩
    | false =>
     go_wp2
     go_meet
     exact ⟨_,rfl,.inl ⟨rfl,by rw [← HL1.out];simpa using HJP.out,Kp.refl _ _⟩⟩
   case rest
        =>
    obtain ⟨wz2,rfl,hor⟩:=hcut
    apply_assumption -exfalso
    rcases hor with ⟨rfl,hj2,hk2⟩ | ⟨rfl,hj2⟩
    ·
     have HV2:=A0 (HV.out.kp hk2)
     have HW2:=A0 (HW.out.trans hk2.1)
     have HJ2:=A0 hj2;have HK2:=A0 hk2
     obtain ⟨hcd2, -, -⟩:=HV2.out.cells
     have c1b:=(HW2.out.cell (p:=⟨bN,oN+k*2+1,none⟩) (by show bN<n₀;omega)).trans HF1.out
     clear hcd hcy hcv c0 c1 hj2 hk2
     go_wp2_with fail
     go_loopw [60] (fun s60 wr=>∃ (j:Nat) (S:List (ByteArray × Bool)),j≤X.length∧s60=.int .i64 (j:Int)∧J (pre ++ S) wr∧Kp n₀ wz wr∧S ++ (Dh (visitL D m) ws (X.drop j)).1=L1 ++ FA.1∧(Dh (visitL D m) ws (X.drop j)).2=FA.2) (fun s60 _=>X.length - (intOf s60).toNat)
     case atStart=>exact ⟨0,L1,Nat.zero_le _,rfl,HJ2.out,HK2.out,by rw [List.drop_zero,HFA.out],by rw [List.drop_zero,HFA.out]⟩
     case round =>
      obtain ⟨j,S,hj,rfl,hjs,hks,hS1,hS2⟩:=hrel
      have HJS:=A0 hjs;have HKS:=A0 hks;have HS1:=A0 hS1;have HS2:=A0 hS2
      have hnr:n₀≤wr.heap.size:=A8 hn hks.1.size
      clear hjs hks hS1 hS2
      by_cases hjX:j<X.length
      ·
       obtain ⟨b3,o3,ha3,hb3,q0,q1⟩:=HXS.out.at hjX
       have hidx3:=Dw aa b3 o3 X.length cc j ha3 hjX
       have hck:=HCK.out X[j] (AG hjX)
       have hdr:=AE hjX
       obtain ⟨x,hx⟩:∃ x,X[j]=x:=⟨_,rfl⟩
       rw [hx] at q0 q1 hck hdr
       obtain ⟨xc,xt⟩:=x
       simp only at q0 q1 hck
       obtain ⟨y,hy,hy2⟩:∃ y:UInt8,xc=(y.toNat:Int)∧UInt8.ofNat xc.toNat=y:=⟨UInt8.ofNat xc.toNat,by rw [UInt8.toNat_ofNat'];omega,rfl⟩
       obtain ⟨q2,hq2⟩:∃ q2,visitL D m xt (ws ++ [y])=q2:=⟨_,rfl⟩
       have harm:Dh (visitL D m) ws (X.drop j)=if q2.2=true then (q2.1 ++ (Dh (visitL D m) ws (X.drop (j+1))).1,(Dh (visitL D m) ws (X.drop (j+1))).2) else (q2.1,false):=by
        rw [hdr,Dh];simp only [hy2,hq2]
       subst hy
       have HARM:=A0 harm;have HQ2:=A0 hq2
       have c3:=((HW.out.trans HKS.out.1).cell (p:=⟨b3,o3+j*2,none⟩) (by show b3<n₀;omega)).trans q0
       have c4:=((HW.out.trans HKS.out.1).cell (p:=⟨b3,o3+j*2+1,none⟩) (by show b3<n₀;omega)).trans q1
       have hpf:(S ++ q2.1) <+: (L1 ++ FA.1):=by
        rw [← HS1.out,harm]
        split
        · exact List.prefix_append_right_inj _ |>.2 (List.prefix_append _ _)
        · exact List.prefix_refl _
       have HPF:=A0 hpf
       have hNN:(pre ++ S).length+q2.1.length≤N:=by
        have h1:=HN.out
        have h2:=hpf.length_le
        rw [HQ3.out] at h1
        simp only [AB] at h1 h2 ⊢
        omega
       clear ha3 hx hdr q0 q1 hck harm hq2 hy2 hpf
       go_upto_region 9 with fail
       obtain ⟨wy,hwy⟩:∃ wy,wy=wr.alloc (.cells #[.int .u8 (y.toNat:Int),.int .i64 xt] 155):=⟨_,rfl⟩
       have HTY:Hid (TV n₀ J wz wr.heap.size wy.heap.size #[.int .u8 (y.toNat:Int),.int .i64 xt] y (ws ++ [y]) (pre ++ S) false false false wy):=by
        have hxx:Ext wr wy:=by rw [hwy];exact (Below.refl _ _).alloc (A3 _) _
        exact ⟨HJ.out _ _ _ HJS.out hxx,HKS.out.trans (Kp.of_ext hxx hnr),by rw [hwy];exact heap_alloc_new _ _,fun _=>rfl,fun h=>(by cases h),fun h=>(by cases h)⟩
       rw [← hwy]
       clear hwy
       refine Am (by kernel_rfl) (Vs [vq (.func (.func 128) #[] #[.pointer (some ⟨gD,0,none⟩),.pointer (some ⟨gY,0,none⟩),.pointer (some ⟨gV,0,none⟩)]),vq (.pointer (some ⟨wr.heap.size,1,none⟩)),vq (.int .i64 xt),vq (.slice aw ws.length cw),vq (.slice aw ws.length cw),vq (.int .i64 (ws.length:Int)),vq (.slice aw ws.length cw),vq (.int .i64 (ws.length:Int)),vq (.slice aw ws.length ws.length),vq (.pointer (some ⟨wr.heap.size,0,none⟩)),vq (.int .u8 (y.toNat:Int)),vq (.slice (some ⟨wy.heap.size,0,none⟩) 1 1),Re (wy.heap.size+1) (ws ++ [y]).length,PV true n₀ J Jx wz pre S q2,PV false n₀ J Jx wz pre S q2]) (Xs [Ext,Ext,Ext,Ext,Ext,Ext,Ext,Ext,Ext,Ext,Ext,(Ext),(Ext),(fun _ _=>True),Ext]) (fun fL=>(fun b1 b2 b3 W=>TV n₀ J wz wr.heap.size wy.heap.size #[.int .u8 (y.toNat:Int),.int .i64 xt] y (ws ++ [y]) (pre ++ S) b1 b2 b3 W) (fL 11) (fL 12) (fL 13)) [0,0,2,0,0,16,0,64,248,0,512,1536,4088,8191,16383] 80 15 (by kernel_rfl) rfl ?hV ?hS ?hop ?hfin ?hlast
       case hV =>
        refine Ay (Ac (by simp only [AU,List.not_mem_nil,or_false,forall_eq_or_imp,forall_eq];exact ⟨AY _,AY _,AY _,AY _,AY _,AY _,AY _,AY _,AY _,AY _,AY _,AY _,Mz _ _,M1 HJ.out HJX.out hn,M1 HJ.out HJX.out hn⟩)) ?_
        exact ⟨.inl rfl,.inl rfl,.inl rfl,.inl rfl,.inl rfl,.inl rfl,.inl rfl,.inl rfl,.inl rfl,.inl rfl,.inl rfl,.inr (B4 ⟨fun _ _=>fun _ _ _ h _=>h,fun _ _=>fun _ _ _ h _=>h,fun _ _=>fun _ _ _ h _=>h,fun _ _=>fun _ _ _ h _=>h,fun _ _=>fun _ _ _ h _=>h,fun _ _=>fun _ _ _ h _=>h,fun _ _=>fun _ _ _ h _=>h,fun _ _=>fun _ _ _ h _=>h,fun _ _=>fun _ _ _ h _=>h,fun _ _=>fun _ _ _ h _=>h,fun _ _=>fun _ _ _ h _=>h,fun h=>absurd rfl h,fun _ h=>absurd h (by decide),fun _ h=>absurd h (by decide),fun _ h=>absurd h (by decide),trivial⟩),.inr (B4 ⟨fun _ _=>fun _ _ _ h _=>h,fun _ _=>fun _ _ _ h _=>h,fun _ _=>fun _ _ _ h _=>h,fun _ _=>fun _ _ _ h _=>h,fun _ _=>fun _ _ _ h _=>h,fun _ _=>fun _ _ _ h _=>h,fun _ _=>fun _ _ _ h _=>h,fun _ _=>fun _ _ _ h _=>h,fun _ _=>fun _ _ _ h _=>h,fun _ _=>fun _ _ _ h _=>h,fun _ _=>fun _ _ _ h _=>h,fun _ _=>fun _ _ _ h _=>h,fun h=>absurd rfl h,fun _ h=>absurd h (by decide),fun _ h=>absurd h (by decide),trivial⟩),.inr (B4 ⟨fun _ _=>fun _ _ _ h _=>h,fun _ _=>fun _ _ _ h _=>h,fun _ _=>fun _ _ _ h _=>h,fun _ _=>fun _ _ _ h _=>h,fun _ _=>fun _ _ _ h _=>h,fun _ _=>fun _ _ _ h _=>h,fun _ _=>fun _ _ _ h _=>h,fun _ _=>fun _ _ _ h _=>h,fun _ _=>fun _ _ _ h _=>h,fun _ _=>fun _ _ _ h _=>h,fun _ _=>fun _ _ _ h _=>h,fun _ _=>fun _ _ _ h _=>h,fun _ _=>fun _ _ _ h _=>h,fun h=>absurd rfl h,fun _ h=>absurd h (by decide),trivial⟩),.inl rfl,trivial⟩
       case hS =>
        intro fL hf
        show (fun b1 b2 b3 W=>TV n₀ J wz wr.heap.size wy.heap.size #[.int .u8 (y.toNat:Int),.int .i64 xt] y (ws ++ [y]) (pre ++ S) b1 b2 b3 W) (fL 11) (fL 12) (fL 13) _
        rw [hf 11 (by decide),hf 12 (by decide),hf 13 (by decide)]
        have hxd:Ext wy { heap:=wy.heap,tape:=wy.tape,drawn:=wy.drawn+1,os:=wy.os,output:=wy.output }:=⟨rfl,rfl,rfl,A3 _,fun _ _=>rfl⟩
        obtain ⟨k1,k2,k3⟩:=TV.keep HJ.out hn HTY.out hxd
        exact ⟨k1,k2,k3,fun _=>rfl,fun h=>(by cases h),fun h=>(by cases h)⟩
       case hop =>
        refine ⟨?c0,?_,?c2,?_,?_,?_,?_,?_,?c8,?_,?c10,?c11,?c12,?c13,?c14,trivial⟩
        all_goals first | rw [if_neg (by decide)] | rw [if_pos (by decide)]
        all_goals try intro ac W fL hsz hfi hms hdn hS0 hdep hbase hund
        all_goals try have hS:(fun b1 b2 b3 W=>TV n₀ J wz wr.heap.size wy.heap.size #[.int .u8 (y.toNat:Int),.int .i64 xt] y (ws ++ [y]) (pre ++ S) b1 b2 b3 W) (fL 11) (fL 12) (fL 13) W:=hS0
        all_goals try (have hfl11:fL 11=true:=hms 11 (by decide);rw [hfl11] at hS)
        all_goals try (have hfl11:fL 11=false:=(by first | exact hfi | exact hdn 11 (by decide) (by decide));rw [hfl11] at hS)
        all_goals try (have hfl12:fL 12=true:=hms 12 (by decide);rw [hfl12] at hS)
        all_goals try (have hfl12:fL 12=false:=(by first | exact hfi | exact hdn 12 (by decide) (by decide));rw [hfl12] at hS)
        all_goals try (have hfl13:fL 13=true:=hms 13 (by decide);rw [hfl13] at hS)
        all_goals try (have hfl13:fL 13=false:=(by first | exact hfi | exact hdn 13 (by decide) (by decide));rw [hfl13] at hS)
        all_goals try have hh4:=gdA ac 4 (.pointer (some ⟨gV,0,none⟩)) (hbase 4 (by kernel_rfl))
        all_goals try have hh9:=gdA ac 9 (.pointer (some ⟨wr.heap.size,0,none⟩)) (hbase 9 (by kernel_rfl))
        all_goals try (have h1:ac.tmps.getD 1 undef=.slice aw ws.length cw:=hbase 1 (by kernel_rfl);have hh1:=h1;rw [A4] at hh1)
        all_goals try (have d72:ac.tmps.getD 72 undef=.slice aw ws.length ws.length:=hdep 8 (by decide);have dd72:=d72;rw [A4] at dd72)
        all_goals try (have d75:ac.tmps.getD 75 undef=.slice (some ⟨wy.heap.size,0,none⟩) 1 1:=hdep 11 (by decide);have dd75:=d75;rw [A4] at dd75)
        all_goals try have d76:(Re (wy.heap.size+1) (ws ++ [y]).length) (ac.tmps.getD 76 undef) W:=hdep 12 (by decide)
        all_goals try have d77:(PV true n₀ J Jx wz pre S q2) (ac.tmps.getD 77 undef) W:=hdep 13 (by decide)
        all_goals try (have hdep:=DS hdep;simp [D1,Aa,vq] at hdep)
        all_goals try clear hbase hms hdn hund
        case c0 =>
         have hS1:(fun b1 b2 b3 W=>TV n₀ J wz wr.heap.size wy.heap.size #[.int .u8 (y.toNat:Int),.int .i64 xt] y (ws ++ [y]) (pre ++ S) b1 b2 b3 W) ((upd fL 0) 11) ((upd fL 0) 12) ((upd fL 0) 13) W:=hS0
         have hvv:=(HV.out.kp hS.2.1).cells.2.2
         refine AZ rfl (.inl ⟨_,W,?_,rfl,Ext.refl _,hS1⟩)
         clear hsz hS hS0 hS1 hfi;simp [go_sem,Act.eval, *]
        case c2 =>
         have hS1:(fun b1 b2 b3 W=>TV n₀ J wz wr.heap.size wy.heap.size #[.int .u8 (y.toNat:Int),.int .i64 xt] y (ws ++ [y]) (pre ++ S) b1 b2 b3 W) ((upd fL 2) 11) ((upd fL 2) 12) ((upd fL 2) 13) W:=hS0
         obtain ⟨v0,v1⟩:=Ak hS.2.2.1
         refine AZ rfl (.inl ⟨_,W,?_,rfl,Ext.refl _,hS1⟩)
         clear hsz hS hS0 hS1 hfi;simp [go_sem,Act.eval, *]
        case c8 =>
         have hS1:(fun b1 b2 b3 W=>TV n₀ J wz wr.heap.size wy.heap.size #[.int .u8 (y.toNat:Int),.int .i64 xt] y (ws ++ [y]) (pre ++ S) b1 b2 b3 W) ((upd fL 8) 11) ((upd fL 8) 12) ((upd fL 8) 13) W:=hS0
         have hsl:=My aw ws.length cw hcw HAN.out
         refine AZ rfl (.inl ⟨_,W,?_,rfl,Ext.refl _,hS1⟩)
         clear hsz hS hS0 hS1 hfi;simp [go_sem,Act.eval, *]
        case c10 =>
         have hS1:(fun b1 b2 b3 W=>TV n₀ J wz wr.heap.size wy.heap.size #[.int .u8 (y.toNat:Int),.int .i64 xt] y (ws ++ [y]) (pre ++ S) b1 b2 b3 W) ((upd fL 10) 11) ((upd fL 10) 12) ((upd fL 10) 13) W:=hS0
         obtain ⟨v0,v1⟩:=Ak hS.2.2.1
         refine AZ rfl (.inl ⟨_,W,?_,rfl,Ext.refl _,hS1⟩)
         clear hsz hS hS0 hS1 hfi;simp [go_sem,Act.eval, *]
        case c11 =>
         have hs75:W.heap.size=wy.heap.size:=hS.2.2.2.1 rfl
         have hx75:Ext W (W.alloc (.cells #[.int .u8 (y.toNat:Int)] 5)):=(Below.refl _ _).alloc (A3 _) _
         obtain ⟨k1,k2,k3⟩:=TV.keep HJ.out hn hS hx75
         refine AZ rfl (.inl ⟨.slice (some ⟨W.heap.size,0,none⟩) 1 1,W.alloc (.cells #[.int .u8 (y.toNat:Int)] 5),?_,(by show _=_;rw [hs75]),hx75,?_⟩)
         · clear hsz hS hS0 hfi k1 k2 k3 hx75;simp [go_sem,Act.eval, *]
         ·
          show TV n₀ J wz wr.heap.size wy.heap.size #[.int .u8 (y.toNat:Int),.int .i64 xt] y (ws ++ [y]) (pre ++ S) (upd fL 11 11) (upd fL 11 12) (upd fL 11 13) _
          rw [show upd fL 11 11=true from if_pos rfl,show upd fL 11 12=fL 12 from if_neg (by decide),show upd fL 11 13=fL 13 from if_neg (by decide),hfl12,hfl13]
          exact ⟨k1,k2,k3,fun _=>(by rw [A6,hs75];rfl),fun _=>(by rw [← hs75];exact heap_alloc_new _ _),fun h=>(by cases h)⟩
        case c12 =>
         have hs76:W.heap.size=wy.heap.size+1:=hS.2.2.2.1 rfl
         have hr76:=hS.2.2.2.2.1 rfl
         have hlt76:=(A5.1 hr76).1
         refine AZ rfl ((J7 (HB.out.kp hS.2.1) (by omega) hr76 rfl (Ai d72) (Ai d75)).mono ?_)
         rintro v w' ⟨hrc,hrb,hxx⟩
         rw [hs76] at hrc hrb
         obtain ⟨k1,k2,k3⟩:=TV.keep HJ.out hn hS hxx
         refine ⟨hrc,hxx,?_⟩
         show TV n₀ J wz wr.heap.size wy.heap.size #[.int .u8 (y.toNat:Int),.int .i64 xt] y (ws ++ [y]) (pre ++ S) (upd fL 12 11) (upd fL 12 12) (upd fL 12 13) _
         rw [show upd fL 12 12=true from if_pos rfl,show upd fL 12 11=fL 11 from if_neg (by decide),show upd fL 12 13=fL 13 from if_neg (by decide),hfl11,hfl13]
         exact ⟨k1,k2,k3,fun h=>(by cases h),fun _=>(Below.block hxx _ hlt76).trans hr76,fun _=>hrb⟩
        case c13 =>
         obtain ⟨c76,e76,hc76⟩:=d76
         have ee76:=e76;rw [A4] at ee76
         have hb76:=hS.2.2.2.2.2 rfl
         have hcl:=IH.out xt (ws ++ [y]) (some ⟨wy.heap.size+1,0,none⟩) c76 (pre ++ S) W (by simp;omega) (by omega) hb76 hc76 (HV.out.kp hS.2.1) (A8 hn hS.2.1.1.size) (HW.out.trans hS.2.1.1) hS.1 (by rw [HQ2.out];exact hNN)
         rw [HQ2.out] at hcl
         have hkk:=hS.2.1
         refine AZ rfl (.inr ⟨128,#[.int .i64 xt,.slice (some ⟨wy.heap.size+1,0,none⟩) (ws ++ [y]).length c76,.pointer (some ⟨gD,0,none⟩),.pointer (some ⟨gY,0,none⟩),.pointer (some ⟨gV,0,none⟩)],W,by (clear hsz hS hS0 hfi hcl hkk hb76;simp [go_sem,Act.eval, *]),?_⟩)
         refine hcl.mono ?_
         clear hcl
         have hfin77:∀ w',TV n₀ J wz wr.heap.size wy.heap.size #[.int .u8 (y.toNat:Int),.int .i64 xt] y (ws ++ [y]) (pre ++ S) (upd fL 13 11) (upd fL 13 12) (upd fL 13 13) w':=fun w'=>by
          rw [show upd fL 13 13=true from if_pos rfl];trivial
         rintro e w' (⟨rfl,h1,h2,h3⟩ | ⟨rfl,h1,h2⟩ | ⟨rfl,p,h1,h2⟩)
         · exact ⟨_,rfl,.inl ⟨rfl,h1,by rw [← List.append_assoc];exact h2,hkk.trans h3⟩,trivial,hfin77 _⟩
         · exact ⟨_,rfl,.inr ⟨rfl,.inl ⟨h1,by rw [← List.append_assoc];exact h2⟩⟩,trivial,hfin77 _⟩
         · exact ⟨_,rfl,.inr ⟨rfl,.inr ⟨p,h1,by rw [← List.append_assoc];exact h2⟩⟩,trivial,hfin77 _⟩
        case c14 =>
         have hS1:(fun b1 b2 b3 W=>TV n₀ J wz wr.heap.size wy.heap.size #[.int .u8 (y.toNat:Int),.int .i64 xt] y (ws ++ [y]) (pre ++ S) b1 b2 b3 W) ((upd fL 14) 11) ((upd fL 14) 12) ((upd fL 14) 13) W:=hS0
         rcases d77 with ⟨e77,h77⟩ | ⟨e77,h77⟩
         ·
          rw [A4] at e77
          refine AZ rfl (.inl ⟨.bool false,W,?_,.inl ⟨rfl,h77⟩,Ext.refl _,hS1⟩)
          clear hsz hS hS0 hS1 hfi h77;simp [go_sem,Act.eval, *]
         ·
          rw [A4] at e77
          refine AZ rfl (.inl ⟨.bool true,W,?_,.inr ⟨rfl,h77⟩,Ext.refl _,hS1⟩)
          clear hsz hS hS0 hS1 hfi h77;simp [go_sem,Act.eval, *]
        all_goals (refine AZ rfl (.inl ⟨_,W,?_,rfl,Ext.refl _,hS0⟩);clear hsz hS hS0 hfi;simp [go_sem,Act.eval, *];done)
       case hlast =>
        intro h;exact absurd rfl h
       case hfin =>
        intro _ ac W hsz hdf fL hf hS0 hv hbase
        have hS:(fun b1 b2 b3 W=>TV n₀ J wz wr.heap.size wy.heap.size #[.int .u8 (y.toNat:Int),.int .i64 xt] y (ws ++ [y]) (pre ++ S) b1 b2 b3 W) (fL 11) (fL 12) (fL 13) W:=hS0
        clear hS0
        rw [hf 11 (by decide),hf 12 (by decide),hf 13 (by decide)] at hS
        obtain ⟨sx,hsx,hsA⟩:=Af [64,65,66,67,68,69,70,71,72,73,74,75,76,77,78] (by kernel_rfl) hsz hdf hbase
        have hr78:PV false n₀ J Jx wz pre S q2 (sx 78) W:=by rw [hsx 78];exact hv 14 (by decide)
        rw [hsA]
        simp only [List.foldl]
        simp only [Act.put,List.setIfInBounds_toArray,List.set_cons_succ,List.set_cons_zero]
        clear hsA hsx hv hbase hsz hdf hf
        obtain ⟨v78,hv78⟩:∃ v78,sx 78=v78:=⟨_,rfl⟩
        rw [hv78] at hr78 ⊢
        clear hv78
        rcases hr78 with ⟨rfl,h1,h2,h3⟩ | ⟨rfl,hbad⟩
        ·
         have HJ9:=A0 h2;have HK9:=A0 h3
         have harm9:=HARM.out
         rw [if_pos h1] at harm9
         have hs9:S ++ q2.1 ++ (Dh (visitL D m) ws (X.drop (j+1))).1=L1 ++ FA.1:=by have:=HS1.out;rw [harm9] at this;rw [List.append_assoc];exact this
         have hs9b:(Dh (visitL D m) ws (X.drop (j+1))).2=FA.2:=by have:=HS2.out;rw [harm9] at this;exact this
         have HS9:=A0 hs9;have HS9b:=A0 hs9b
         clear hS h1 h2 h3 harm9 hs9 hs9b
         go_wp2_with fail
         go_roundw
         case rel=>exact ⟨j+1,S ++ q2.1,by omega,by go_num,HJ9.out,HK9.out,HS9.out,HS9b.out⟩
         case measure=>simp [intOf];omega
        ·
         have HBAD:=A0 hbad
         clear hS hbad
         go_wp2_with fail
         go_ret
         rcases HBAD.out with ⟨h1,h2⟩ | ⟨p,h1,h2⟩
         ·
          refine .inr (.inl ⟨rfl,?_,?_⟩)
          · rw [HQ3.out];have:=HS2.out;rw [HARM.out,if_neg (by rw [h1];decide)] at this;exact this.symm
          · rw [HQ3.out];have:=HS1.out;rw [HARM.out,if_neg (by rw [h1];decide)] at this;rw [← this];exact h2
         ·
          refine .inr (.inr ⟨rfl,S ++ p,?_,h2⟩)
          rw [HQ3.out]
          exact ((List.prefix_append_right_inj _).2 h1).trans HPF.out
      ·
       obtain rfl:j=X.length:=by omega
       have h1:=HS1.out;have h2:=HS2.out
       rw [List.drop_length,Dh] at h1 h2
       have HA1:=A0 h1;have HA2:=A0 h2
       clear h1 h2
       go_wp2_with fail
       go_ret
       refine .inl ⟨rfl,?_,?_,HKS.out⟩
       · rw [HQ3.out];exact HA2.out.symm
       ·
        rw [HQ3.out]
        simp only
        rw [← HA1.out,List.append_nil];exact HJS.out
    ·
     go_wp2_with fail
     go_ret
     rw [HQ3.out]
     exact .inr (.inr ⟨rfl,L1,List.prefix_append _ _,hj2⟩)
def w2b (W:World) (l gD:Nat):World:=(W.alloc (Obj.cells #[.func (.yield l) #[] #[]] 208)).alloc (Obj.cells #[.func (.func 128) #[] #[.pointer (some ⟨gD,0,none⟩),.pointer (some ⟨W.heap.size,0,none⟩),.pointer (some ⟨W.heap.size+1,0,none⟩)]] 209)
theorem IS (W:World) (l gD:Nat):Ext W (w2b W l gD):=((Below.refl _ W).alloc (A3 _) _).alloc (by simp only [A6];omega) _
theorem QI {W:World} {l gD:Nat} {aD:Option Addr} {nD cD:Nat} (h:W.heap[gD]? = some (.cells #[.slice aD nD cD] 35 (0,0))):VBy l gD W.heap.size (W.heap.size+1) aD nD cD (w2b W l gD):=by
 refine ⟨(Below.block (IS W l gD) gD (A5.1 h).1).trans h,?_,?_⟩
 · exact skip (by simp only [A6];omega) (heap_alloc_new _ _)
 ·
  have h:=heap_alloc_new (W.alloc (Obj.cells #[.func (.yield l) #[] #[]] 208)) (Obj.cells #[.func (.func 128) #[] #[.pointer (some ⟨gD,0,none⟩),.pointer (some ⟨W.heap.size,0,none⟩),.pointer (some ⟨W.heap.size+1,0,none⟩)]] 209)
  simp only [A6] at h
  exact h
set_option maxHeartbeats 800000 in
theorem N1 (n gD n₀:Nat) (aD:Option Addr) (cD:Nat) (D:List Nd) (wW w:World) (hWB:wW.heap.size≤n₀) (hn:n₀≤w.heap.size) (hb:Below n₀ wW w) (hg:w.heap[gD]? = some (.cells #[.slice aD D.length cD] 35 (0,0))) (hD:Bs wW aD D) (hDl:D.length≤9223372036854775807) (hC:Hs D) :
  SeqStopsK Fence.wide n Tryz.prog 127 #[.pointer (some ⟨gD,0,none⟩)] (fun x:ByteArray × Bool=>#[Value.string x.1,Value.bool x.2]) (Kp n₀) (fun ys=>ys=(visitL D 22 0 []).1) (fun pre=>pre <+: (visitL D 22 0 []).1) (visitL D 22 0 []).1.length w:=by
 intro l J Jx W hW hJ hJx hY h0
 refine callsIn_wide.2 ?_
 show Calls _ _ #[.func (.yield l) #[] #[],.pointer (some ⟨gD,0,none⟩)] _ _
 have hgW:W.heap[gD]? = some (.cells #[.slice aD D.length cD] 35 (0,0)):=(hW.block gD (A5.1 hg).1).trans hg
 have hnW:n₀≤W.heap.size:=A8 hn hW.size
 have hVI:=vis_any l gD W.heap.size (W.heap.size+1) n₀ (visitL D 22 0 []).1.length aD cD D wW hWB hD hDl hC J Jx (Jg.of hJ) (Jg.of hJx) (fun pre x W h1 h2=>YieldAt.anyD 8 (hY pre x W h1 h2)) 22 0 [] none 0 [] (w2b W l gD) rfl (by omega) (DB.nil _) (A3 _) (QI hgW) (A8 hnW (IS W l gD).size) ((hb.trans (hW.mono hn)).trans ((IS W l gD).mono hnW)) ((Jg.of hJ) _ _ _ h0 (IS W l gD)) (by simp)
 have HVI:=A0 hVI
 clear hVI hJ hJx hY h0 hD hC
 have hsf:∀ (fn:Fn) (x y:Array Value) (a:Addr) (m:Mode) (w:World),(store a (.func fn x y) m).run Tryz.prog w=stored Tryz.prog w a (.func fn x y) m:=fun fn x y a m w=>run_store Tryz.prog w a (.func fn x y) m rfl
 go_enter Tryz.func127,Tryz.ntmps127
 go_upto_region 3 with fail
 clear hsf
 have hvv:=(QI (l:=l) hgW).cells.2.2
 change Code.wp _ _ _ _ (w2b W l gD)
 obtain ⟨wz,hwz⟩:∃ wz,w2b W l gD=wz:=⟨_,rfl⟩
 rw [hwz] at HVI hvv ⊢
 clear hwz
 go_wp2_with (first
  | (go_at_call 128;refine HVI.out.mono ?_;rintro e w6 (⟨rfl,h1,h2,h3⟩ | ⟨rfl,h1,h2⟩ | ⟨rfl,p,h1,h2⟩)))
 ·
  go_end0
  exact ⟨⟨_,rfl⟩,.inl ⟨_,rfl,by simpa using h2⟩⟩
 ·
  go_end0
  exact ⟨⟨_,rfl⟩,.inl ⟨_,rfl,by simpa using h2⟩⟩
 ·
  go_end0
  exact ⟨⟨_,rfl⟩,.inr ⟨p,h1,by simpa using h2⟩⟩
theorem Rg (a:Option Addr) (n c:Nat) (w:World):Calls Tryz.prog 113 #[.slice a n c] w fun e w'=>e=.returned (.func (.func 127) #[] #[.pointer (some ⟨w.heap.size,0,none⟩)])∧w'=w.alloc (.cells #[.slice a n c] 35):=by
 have hmf:∀ (fn:Fn) (first cap:Array Value) (w:World),(Instr.makeFunc fn first cap).run Tryz.prog w=.ok (.func fn first cap) w:=fun _ _ _ _=>rfl
 go_enter Tryz.func113,Tryz.ntmps113
 go_wp2
 go_ret
 exact ⟨rfl,rfl⟩
attribute [local go_sem] Oper.semAt_some
def Di (l:List (ByteArray × Bool)):Prop:=(∀ x∈l,x.2=true)∧l.length≤200
theorem Di.pre {l m:List (ByteArray × Bool)} (h:Di l) (hp:m <+: l):Di m:=⟨fun x hx=>h.1 x (hp.subset hx),A8 hp.length_le h.2⟩
def Cd (l:List (ByteArray × Bool)):List ByteArray:=l.map Prod.fst
def Sj (w:World) (pre:List (ByteArray × Bool)) (W:World):Prop :=
 (((Di pre∧Boxed W w.heap.size 37 (.slice none 0 0))∧Boxed W (w.heap.size+1) 4 (.bool false))∧(∃ v,Boxed W (w.heap.size+1+1) 37 v∧Ab B8 W w.heap.size v (Cd pre)∧True))∧Below w.heap.size w W
def Sk (w:World) (c:Code) (pre:List (ByteArray × Bool)) (W:World):Prop :=
 (((c=.ret∧¬ Di pre)∧Boxed W w.heap.size 37 (.slice none 0 0))∧Boxed W (w.heap.size+1) 4 (.bool false))∧Below w.heap.size w W
theorem QJ (w:World) (B:Nat) (hB:w.heap.size≤B):OwnFrom B (Sj w) :=
 OwnFrom.and (OwnFrom.and (OwnFrom.and (OwnFrom.and (ownFrom_pure _ _) (Own.from (boxed_own _ _ (fun _=>.slice none 0 0)) _)) (Own.from (boxed_own _ _ (fun _=>.bool false)) _))
  (Own.from (holdsRow_own w.heap.size (w.heap.size+1+1) 37 9 1 (fun pre=>(Cd pre).length) (fun pre=>(Cd pre).flatMap B8.enc) (fun _ _=>True)) _)) (ownFrom_below (A3 _) hB)
theorem QK (w:World) (B:Nat) (hB:w.heap.size≤B) (c:Code):OwnFrom B (Sk w c) :=
 OwnFrom.and (OwnFrom.and (OwnFrom.and (ownFrom_pure _ _) (Own.from (boxed_own _ _ (fun _=>.slice none 0 0)) _)) (Own.from (boxed_own _ _ (fun _=>.bool false)) _)) (ownFrom_below (A3 _) hB)
theorem Sl {W w1:World} {n₀ B:Nat} {v v':Value} {k:Nat} {xs:List Value} {tmp:Obj} (hv:Boxed W B 37 v) (hrow:W.ownsRow n₀ 9 1 v k xs) (hgrow:(W.alloc tmp).grownBy w1 v.ownBlock) (hb:Below n₀ W (w1.setCell ⟨B,0,none⟩ v')):Kp n₀ W (w1.setCell ⟨B,0,none⟩ v'):=by
 refine ⟨hb,fun q cs t fz hq h1 h2 h3=>?_⟩
 have hqB:q≠B:=fun e=>by
  subst e
  have h4:W.heap[q]? = _:=hv
  rw [hq] at h4;injection h4 with h4;injection h4 with _ h5;exact h2 h5
 have hlt:=(A5.1 hq).1
 rw [Below.heap_setCell _ _ _ _ hqB,hgrow.block q (by rw [A6];omega) ?_]
 · exact Below.heap_alloc _ _ _ hlt
 ·
  intro e
  rcases hrow.2 with ⟨rfl,_⟩ | ⟨g,cap,cur,rfl,_,hgb,_⟩
  · cases e
  ·
   injection e with e
   rw [e] at hq
   rw [show W.heap[g]? = some (.cells cs t fz) from hq] at hgb
   injection hgb with hgb;injection hgb with _ h5;exact h1 h5
def Te (l:List (ByteArray × Bool)) (w:World) (e:Ending) (w':World):Prop :=
 (Di l∧∃ v,e=.returned (.tuple #[v,.bool true])∧Ab B8 w' w.heap.size v (Cd l)∧Below w.heap.size w w')∨(¬ Di l∧e=.returned (.tuple #[.slice none 0 0,.bool false])∧Below w.heap.size w w')
set_option maxHeartbeats 2000000 in
set_option maxRecDepth 100000 in
theorem
    collect_any (D:List Nd) (a:Option Addr) (c:Nat) (w:World) (hD:Bs w a D) (hDl:D.length≤9223372036854775807) (hC:Hs D) :
  Calls Tryz.prog 91 #[.slice a D.length c] w (Te (visitL D 22 0 []).1 w):=by
 obtain ⟨i0,hi,hz0,hz1,hz2⟩:=info_parts Bd.info
 obtain ⟨LL,hLL⟩:∃ LL,(visitL D 22 0 []).1=LL:=⟨_,rfl⟩
 refine (callsIn_wide (n:=9)).1 ?_
 refine callsIn_of_wp_marks Tryz.func91 rfl trivial ?_ rfl
 simp only [Tryz.ntmps91,List.size_toArray,List.length_cons,List.length_nil,Nat.reduceAdd,Nat.reduceSub,Array.replicate_succ,Array.replicate_zero,List.push_toArray,List.append_toArray,List.nil_append,List.cons_append]
 have hfn:Fence.wide.fn 113:=trivial
 gi_wp2_with (gi_at_call 113;refine (callsIn_wide.2 (Rg _ _ _ _)).mono ?_;rintro e w' ⟨rfl,rfl⟩)
 obtain ⟨w4,hw4⟩:∃ w4,(((w.alloc (Obj.cells #[Value.slice none 0 0] 37)).alloc (Obj.cells #[Value.bool false] 4)).alloc (Obj.cells #[Value.slice none 0 0] 37)).alloc (Obj.cells #[.slice a D.length c] 35)=w4:=⟨_,rfl⟩
 have hB0:Below w.heap.size w w4:=by
  rw [← hw4]
  exact ((((Below.refl _ w).alloc (A3 _) _).alloc (by simp only [A6];omega) _).alloc (by simp only [A6];omega) _).alloc (by simp only [A6];omega) _
 have hs4:w4.heap.size=w.heap.size+4:=by rw [← hw4];simp only [A6]
 have b2:Boxed w4 w.heap.size 37 (.slice none 0 0):=by
  rw [← hw4];exact (((Boxed.new w _ _).alloc _).alloc _).alloc _
 have b3:Boxed w4 (w.heap.size+1) 4 (.bool false):=by
  rw [← hw4]
  have h:=Boxed.new (w.alloc (Obj.cells #[Value.slice none 0 0] 37)) 4 (.bool false)
  rw [A6] at h
  exact (h.alloc _).alloc _
 have b4:Boxed w4 (w.heap.size+1+1) 37 (.slice none 0 0):=by
  rw [← hw4]
  have h:=Boxed.new ((w.alloc (Obj.cells #[Value.slice none 0 0] 37)).alloc (Obj.cells #[Value.bool false] 4)) 37 (.slice none 0 0)
  simp only [A6] at h
  exact h.alloc _
 have b5:Boxed w4 (w.heap.size+1+1+1) 35 (.slice a D.length c):=by
  rw [← hw4]
  have h:=Boxed.new (((w.alloc (Obj.cells #[Value.slice none 0 0] 37)).alloc (Obj.cells #[Value.bool false] 4)).alloc (Obj.cells #[Value.slice none 0 0] 37)) 35 (.slice a D.length c)
  simp only [A6] at h
  exact h
 rw [hw4]
 clear hw4
 refine wpIn_rangeFunc_ownF (w0:=w4) rfl (by omega) (gf:=127) (lb:=#[.pointer (some ⟨w.heap.size+1+1+1,0,none⟩)]) rfl trivial (enters_of Tryz.func127 (by kernel_rfl) rfl)
  (N1 8 (w.heap.size+1+1+1) w.heap.size a c D w w4 (A3 _) (by omega) hB0 b5 hD hDl hC) (fun h k=>h.trans k) (Kp.obj (by omega)) (Below.refl _ _) (fun _=>rfl)
  (Sj w) (Sk w) (QJ w _ (by omega)) (fun c=>QK w _ (by omega) c) ⟨⟨⟨⟨⟨fun x hx=>by (cases hx),by simp⟩,b2⟩,b3⟩,_,b4,Ab.nil B8 _ _,trivial⟩,hB0⟩
  (fun x=>{ tmps:=#[.slice a D.length c,undef,.pointer (some ⟨w.heap.size,0,none⟩),.pointer (some ⟨w.heap.size+1,0,none⟩),.pointer (some ⟨w.heap.size+1+1,0,none⟩),.string x.1,.bool x.2,.slice a D.length c,.func (.func 127) #[] #[.pointer (some ⟨w.heap.size+1+1+1,0,none⟩)],.string x.1,.bool x.2,undef,undef,undef,undef,undef,undef,undef,undef,undef,undef,undef,undef],defers:=[] }) ?assign ?body ?done ?stop
 case assign =>
  intro l x W K hK
  gi_wp2
  exact hK
 case body =>
  rintro l pre ⟨s,ok⟩ W ⟨⟨⟨⟨hok,hb2⟩,hb3⟩,v,hv,hrow, -⟩,hB⟩ -
  have hws:w.heap.size≤W.heap.size:=hB.size
  have e1:=hb2.cell;have e2:=hb2.frozen;have e3:=hb3.cell;have e4:=hb3.frozen;have e5:=hv.cell;have e6:=hv.frozen
  have hleave:∀ ac,¬ Di (pre ++ [(s,ok)])→ownPostK (Kp w.heap.size) (Sj w) (Sk w) (pre ++ [(s,ok)]) W Exit.ret ac ((W.setCell ⟨w.heap.size,0,none⟩ (.slice none 0 0)).setCell ⟨w.heap.size+1,0,none⟩ (.bool false)):=fun ac hno=>by
   refine ⟨(KeepsOthers.setCell _ _ _).trans (KeepsOthers.setCell _ _ _),⟨⟨⟨rfl,hno⟩,?_⟩,?_⟩,?_⟩
   · exact (hb2.set _).kept (grownBy_setCell' _ _ _) (by simp)
   · exact (hb3.kept (grownBy_setCell' _ _ _) (by simp)).set _
   · exact (hB.setCell (p:=⟨w.heap.size,0,none⟩) (A3 _) _).setCell (p:=⟨w.heap.size+1,0,none⟩) (by show w.heap.size≤w.heap.size+1;omega) _
  obtain ⟨a0,c0,rfl, -, -⟩:=hrow.form
  have HPL:Hid ((Cd pre).length=pre.length):=by show _=_;simp [Cd]
  cases ok with
  | false =>
   gi_wp2
   exact hleave _ (fun h=>by have:=h.1 (s,false) (by simp);cases this)
  | true =>
   by_cases h200:pre.length=200
   ·
    have HH:=A0 h200
    have h2:(((Cd pre).length:Int) == 200)=true:=by rw [HPL.out,h200];rfl
    clear h200
    gi_wp2
    exact hleave _ (fun h=>by have:=h.2;have:=HH.out;simp at *;omega)
   ·
    have
       h2:(((Cd pre).length:Int) == 200)=false:=by rw [HPL.out];simp;omega
    have hle:(Cd pre).length<200:=by rw [HPL.out];have:=hok.2;omega
    clear h200
    gi_wp2_with (first
     | (
       gi_at_builtin;refine wpListIn_append_own _ rfl _ _ 37 rfl w.heap.size 9 i0 (.string ⟨#[]⟩) 1 16 Tryz.underlying37 hi hz0 hz1 hz2 rfl (by decide) _ _ _ rfl (hrow.alloc _) ⟨W.heap.size,0,none⟩ 1 1 [.string s] rfl rfl (cell_one_new _ _ _) (by simp [Value.oneCell']) (by unfold maxLen;omega) (by omega) (by simp;omega) ?_;intro v' w3 hown' hg3 hnil3
       have hown2:Ab B8 w3 w.heap.size v' (Cd pre ++ [s]):=by unfold Ab;rw [AB,List.flatMap_append];exact hown'
       have hg3':(W.alloc (.cells #[.string s] 9)).grownBy w3 (Value.slice a0 (Cd pre).length c0).ownBlock:=hg3
       obtain ⟨g1,c1,rfl⟩:=ownsRow_succ hown'
       obtain ⟨p1,p2,p3,p4,p5⟩:=Boxed.appended hv (by decide) hrow hws (by omega) hown2 hg3'
       have q1:=p1.cell;have q2:=p1.frozen
       have r2:=(((hb2.alloc (.cells #[.string s] 9)).kept hg3' (hb2.not_row (by decide) hrow)).kept (grownBy_setCell' w3 (w.heap.size+1+1) (.slice (some ⟨g1,0,none⟩) ((Cd pre).length+1) c1)) (by simp;omega))
       have r3:=(((hb3.alloc (.cells #[.string s] 9)).kept hg3' (hb3.not_row (by decide) hrow)).kept (grownBy_setCell' w3 (w.heap.size+1+1) (.slice (some ⟨g1,0,none⟩) ((Cd pre).length+1) c1)) (by simp))
       have r4:=Sl hv hrow hg3' p5
       have HR:=A0 (And.intro p2 (And.intro p3 (And.intro p4 (And.intro p5 (And.intro r2 (And.intro r3 r4))))))
       clear p1 p2 p3 p4 p5 r2 r3 r4 hg3' hg3 hnil3 hown2 hown'))
    obtain ⟨p2,p3,p4,p5,r2,r3,r4⟩:=HR.out
    have hfs:Cd (pre ++ [(s,true)])=Cd pre ++ [s]:=by simp [Cd]
    refine ⟨p4,r4,⟨⟨⟨⟨fun x hx=>?_,?_⟩,r2⟩,r3⟩,_,p2,?_,trivial⟩,hB.trans p5⟩
    ·
     rcases AV.1 hx with hx | hx
     · exact hok.1 x hx
     · obtain rfl:=AD.1 hx;rfl
    · have:=HPL.out;simp;omega
    · rw [hfs];exact p3
 case done =>
  rintro D' ys W hD' rfl ⟨⟨⟨⟨hok,hb2⟩,hb3⟩,v,hv,hrow, -⟩,hB⟩ hK
  rw [hLL] at hok hrow
  obtain ⟨a0,c0,rfl, -, -⟩:=hrow.form
  have hws:w.heap.size≤W.heap.size:=hB.size
  have e1:=hb2.cell;have e2:=hb2.frozen;have e3:=hb3.cell;have e4:=hb3.frozen;have e5:=hv.cell;have e6:=hv.frozen
  gi_wp2
  obtain ⟨W2,hW2⟩:∃ W2,(W.setCell ⟨w.heap.size,0,none⟩ (.slice a0 (Cd LL).length c0)).setCell ⟨w.heap.size+1,0,none⟩ (.bool true)=W2:=⟨_,rfl⟩
  have hK2:W2.heap[D']? = some (.deferred (some [])):=by
   rw [← hW2];exact ((KeepsOthers.setCell W _ _).trans (KeepsOthers.setCell _ _ _)).same D' _ hK rfl
  have r2:Boxed W2 w.heap.size 37 (.slice a0 (Cd LL).length c0):=by
   rw [← hW2];exact (hb2.set _).kept (grownBy_setCell' _ _ _) (by simp)
  have r3:Boxed W2 (w.heap.size+1) 4 (.bool true):=by
   rw [← hW2];exact (hb3.kept (grownBy_setCell' _ _ _) (by simp)).set _
  have hB2:Below w.heap.size w W2:=by
   rw [← hW2];exact (hB.setCell (p:=⟨w.heap.size,0,none⟩) (A3 _) _).setCell (p:=⟨w.heap.size+1,0,none⟩) (by show w.heap.size≤w.heap.size+1;omega) _
  have hr1:Ab B8 (W.setCell ⟨w.heap.size,0,none⟩ (.slice a0 (Cd LL).length c0)) w.heap.size (.slice a0 (Cd LL).length c0) (Cd LL):=hrow.grown (grownBy_setCell' _ _ _) fun q hq=>fun e=>by
   have:=hb2.not_row (e:=9) (by decide) hrow;injection e with e;exact this (by rw [hq,e])
  have hr2:Ab B8 W2 w.heap.size (.slice a0 (Cd LL).length c0) (Cd LL):=by
   rw [← hW2]
   refine hr1.grown (grownBy_setCell' _ _ _) fun q hq=>fun e=>?_
   have:=hb3.not_row (e:=9) (by decide) hrow;injection e with e;exact this (by rw [hq,e])
  have hr3:Ab B8 (W2.putObj D' (.deferred none)) w.heap.size (.slice a0 (Cd LL).length c0) (Cd LL):=ownsRow_putObj hr2 _ hK2 rfl
  rw [hW2]
  clear hW2
  refine ⟨by simp,.inl ⟨_,_,rfl,run_takeDeferred hK2,?_⟩⟩
  have f2:=(r2.kept (grownBy_putObj' W2 D' (.deferred none)) (fun e=>by injection e with e;omega)).cell
  have f3:=(r3.kept (grownBy_putObj' W2 D' (.deferred none)) (fun e=>by injection e with e;omega)).cell
  refine ⟨.tuple #[.slice a0 (Cd LL).length c0,.bool true],by simp [results,Tryz.f91,go_sem,f2,f3],by rw [hLL];exact .inl ⟨hok,_,rfl,hr3,hB2.trans (belowK_b (w:=w) (A3 _) W2 D' _ _ (by omega) hK2 rfl rfl)⟩⟩
 case stop =>
  rintro D' c' pre W hD' hpre ⟨⟨⟨⟨rfl,hno⟩,hb2⟩,hb3⟩,hB⟩ hK
  gi_wp2
  refine ⟨by simp,.inl ⟨_,_,rfl,run_takeDeferred hK,?_⟩⟩
  have f2:=(hb2.kept (grownBy_putObj' W D' (.deferred none)) (fun e=>by injection e with e;omega)).cell
  have f3:=(hb3.kept (grownBy_putObj' W D' (.deferred none)) (fun e=>by injection e with e;omega)).cell
  refine ⟨.tuple #[.slice none 0 0,.bool false],by simp [results,Tryz.f91,go_sem,f2,f3],.inr ⟨fun h=>hno (h.pre hpre),rfl,hB.trans (belowK_b (w:=w) (A3 _) W D' _ _ (by omega) hK rfl rfl)⟩⟩
theorem M4 (D:List Nd) (a:Option Addr) (c:Nat) (w:World) (hD:Bs w a D) (hDl:D.length≤9223372036854775807) (hC:Hs D) (h:Di (visitL D 22 0 []).1) :
  Calls Tryz.prog 91 #[.slice a D.length c] w fun e w'=>∃ a1 c1,e=.returned (.tuple #[.slice a1 (Cd (visitL D 22 0 []).1).length c1,.bool true])∧Ab B8 w' w.heap.size (.slice a1 (Cd (visitL D 22 0 []).1).length c1) (Cd (visitL D 22 0 []).1)∧Below w.heap.size w w':=by
 refine (collect_any D a c w hD hDl hC).mono ?_
 rintro e w1 (⟨-,v,rfl,ho,hb⟩ | ⟨hn, -, -⟩)
 ·
  obtain ⟨a1,c1,rfl, -, -⟩:=ho.form
  exact ⟨a1,c1,rfl,ho,hb⟩
 · exact absurd h hn
theorem N4 (D:List Nd) (a:Option Addr) (c:Nat) (w:World) (hD:Bs w a D) (hDl:D.length≤9223372036854775807) (hC:Hs D) (h:¬ Di (visitL D 22 0 []).1) :
  Calls Tryz.prog 91 #[.slice a D.length c] w fun e w'=>e=.returned (.tuple #[.slice none 0 0,.bool false])∧Below w.heap.size w w':=by
 refine (collect_any D a c w hD hDl hC).mono ?_
 rintro e w1 (⟨hn, -⟩ | ⟨hn,rfl,hb⟩)
 · exact absurd hn h
 · exact ⟨rfl,hb⟩
theorem Oc (L:List ByteArray) (n:Nat) (a:Option Addr) (cap:Nat) (w:World) (hR:Ba w a L) (hL:n=L.length) (hn:n≤9223372036854775807) (hc:n≤cap) (hT:Tab w) (h:CP L) :
  Calls Tryz.prog 25 #[.slice a n cap] w fun e w'=>∃ a c,e=.returned (.tuple #[.slice a (ofF (Ah 0 L)).length c,.int .i64 0])∧(ofF (Ah 0 L)).length≤c∧(ofF (Ah 0 L)).length≤4200∧Bs w' a (ofF (Ah 0 L))∧Below w.heap.size w w':=by
 refine (build_any L n a cap w hR hL hn hc hT).mono ?_
 rintro e w1 (⟨-,h⟩ | ⟨hn, -⟩)
 · exact h
 · exact absurd h hn
noncomputable def B5 (D:List Nd):List ByteArray:=@ite _ (Di (visitL D 22 0 []).1) (Classical.propDecidable _) (Cd (visitL D 22 0 []).1) []
theorem J8 {D:List Nd} (h:Di (visitL D 22 0 []).1):B5 D=Cd (visitL D 22 0 []).1:=if_pos h
theorem Od {D:List Nd} (h:¬ Di (visitL D 22 0 []).1):B5 D=[]:=if_neg h
theorem Oe (D:List Nd) (a:Option Addr) (c:Nat) (w:World) (hD:Bs w a D) (hDl:D.length≤9223372036854775807) (hC:Hs D) :
  Calls Tryz.prog 62 #[.slice a D.length c] w fun e w'=>∃ a1 c1,e=.returned (.slice a1 (B5 D).length c1)∧Ba w' a1 (B5 D)∧(B5 D).length≤c1∧Below w.heap.size w w':=by
 have HD:=A0 hD;clear hD
 by_cases h:Di (visitL D 22 0 []).1
 ·
  have HY:=A0 (J8 h)
  have HH:=A0 h
  clear h
  go_enter Tryz.func62,Tryz.ntmps62
  go_wp2_with (first
   | (go_at_call 91;refine (M4 D a c w HD.out hDl hC HH.out).mono ?_;rintro e w1 ⟨a1,c1,rfl,ho,hb⟩;have HO:=A0 ho;have HB:=A0 hb;clear ho hb))
  go_ret
  have:=HO.out.strs
  rw [HY.out]
  exact ⟨_,_,rfl,this.1,this.2.2,HB.out⟩
 ·
  have HY:=A0 (Od h)
  have HH:Hid (¬ Di (visitL D 22 0 []).1):=h
  clear h
  go_enter Tryz.func62,Tryz.ntmps62
  go_wp2_with (first
   | (go_at_call 91;refine (N4 D a c w HD.out hDl hC HH.out).mono ?_;rintro e w1 ⟨rfl,hb⟩;have HB:=A0 hb;clear hb))
  go_ret
  rw [HY.out]
  exact ⟨_,_,rfl,Ba.nil _ _,A3 _,HB.out⟩
def toB (l:Wd):ByteArray:=⟨l.toArray⟩
def BK (r:Rst):List ByteArray:=r.map toB
theorem Rh {l m:Wd} (h:toB l=toB m):l=m:=by
 have:=congrArg (fun s:ByteArray=>s.data.toList) h
 exact this
theorem Of {r q:Rst} (h:BK r=BK q):r=q:=List.map_inj_right (fun _ _ h=>Rh h) |>.1 h
theorem J9 (L:List ByteArray):BK (Ah 0 L)=L:=by
 unfold BK Ah
 rw [List.map_map]
 have:(toB ∘ fun s:ByteArray=>s.data.toList.drop 0)=id:=by
  funext s
  show toB (s.data.toList.drop 0)=s
  rw [List.drop_zero];rfl
 rw [this,List.map_id]
theorem DL (r:Rst):(BK r).length=r.length:=AN _
theorem Og (r q:Rst):decide (BK r=BK q)=decide (r=q):=by
 by_cases h:r=q
 · subst h;simp
 · rw [decide_eq_false h,decide_eq_false fun e=>h (Of e)]
theorem
    afterF_rows (c:Nat):∀ r:Rst,CC (BK r) (c:Int)=BK (As r c)
 | []=>rfl
 | [] :: r=>by
  have ih:=afterF_rows c r
  rw [Q9,← ih]
  show ((toB [] :: BK r).filter fun s=>Cf s c).map I5=_
  rw [List.filter_cons,if_neg (by simp [Cf,toB,ByteArray.size])]
  rfl
 | (b :: t) :: r=>by
  have ih:=afterF_rows c r
  show ((toB (b :: t) :: BK r).filter fun s=>Cf s c).map I5=_
  by_cases h:b.toNat=c
  ·
   rw [GI h,List.filter_cons,if_pos (by subst h;simp [Cf,toB,ByteArray.size]),List.map_cons]
   have e:I5 (toB (b :: t))=toB t:=by
    unfold I5
    refine bytes_inj ?_
    rw [ByteArray.data_extract]
    simp [toB,ByteArray.size]
   rw [e]
   show toB t :: CC (BK r) c=_
   rw [ih];rfl
  ·
   rw [OR h,List.filter_cons,if_neg (by simp [Cf,toB,ByteArray.size];omega)]
   exact ih
theorem N7 (r:Rst) (c:Nat):(As r c).length≤r.length:=List.length_filterMap_le _ _
theorem Gy {rec:Rst→List Rst→List Nd→Nat × List Rst × List Nd} (hr:∀ r Mt E,E.length≤(rec r Mt E).2.2.length) (r:Rst):∀ C A Mt E,E.length≤(DA rec r C A Mt E).2.2.length
 | [],_,_,_=>A3 _
 | c :: C,A,Mt,E=>by
  rw [DA]
  split
  · exact Gy hr r C _ _ _
  · exact A8 (hr _ _ _) (Gy hr r C _ _ _)
theorem IT:∀ m r Mt E,E.length≤(refV m r Mt E).2.2.length
 | 0,_,_,_=>A3 _
 | m
   + 1,r,Mt,E=>by
  rw [refV]
  split
  · exact A3 _
  ·
   have:=Gy (IT m) r (List.range' 33 94) [] (Mt ++ [r]) (E ++ [⟨false,[]⟩])
   simp only [AB,AC] at this
   simp only [List.length_set];omega
theorem Ri {m:Nat} {r:Rst} {Mt:List Rst} {E:List Nd} (h:¬ Gt Mt r<Mt.length):refV (m+1) r Mt E =
  (E.length,(DA (refV m) r (List.range' 33 94) [] (Mt ++ [r]) (E ++ [⟨false,[]⟩])).2.1,(DA (refV m) r (List.range' 33 94) [] (Mt ++ [r]) (E ++ [⟨false,[]⟩])).2.2.set E.length ⟨E7 r,(DA (refV m) r (List.range' 33 94) [] (Mt ++ [r]) (E ++ [⟨false,[]⟩])).1⟩):=by
 rw [refV,if_neg h]
theorem QL {m:Nat} {r:Rst} {Mt:List Rst} {E:List Nd} (h:Gt Mt r<Mt.length):refV (m+1) r Mt E=(Gt Mt r,Mt,E):=by
 rw [refV,if_pos h]
theorem Oh {Mt:List Rst} {r:Rst} {k:Nat} (hk:k<Mt.length) (hno:∀ j (hj:j<Mt.length),j<k→Mt[j]≠r) (h:Mt[k]=r):Gt Mt r=k :=
 (List.findIdx_eq hk).2 ⟨by simp [h],fun j hj=>by simpa using hno j (by omega) hj⟩
theorem Oi {Mt:List Rst} {r:Rst} (hno:∀ j (hj:j<Mt.length),Mt[j]≠r):¬ Gt Mt r<Mt.length:=by
 intro h
 have:=List.findIdx_getElem (w:=h)
 simp only [decide_eq_true_eq] at this
 exact hno _ h this
theorem Ht {rec:Rst→List Rst→List Nd→Nat × List Rst × List Nd} (hr:∀ r Mt E,Mt.length=E.length→(rec r Mt E).2.1.length=(rec r Mt E).2.2.length) (r:Rst):∀ C A Mt E,Mt.length=E.length→(DA rec r C A Mt E).2.1.length=(DA rec r C A Mt E).2.2.length
 | [],_,_,_,h=>h
 | c :: C,A,Mt,E,h=>by
  rw [DA]
  split
  · exact Ht hr r C _ _ _ h
  · exact Ht hr r C _ _ _ (hr _ _ _ h)
theorem M5:∀ m r Mt E,Mt.length=E.length→(refV m r Mt E).2.1.length=(refV m r Mt E).2.2.length
 | 0,_,_,_,h=>h
 | m
   + 1,r,Mt,E,h=>by
  rw [refV]
  split
  · exact h
  ·
   have:=Ht (M5 m) r (List.range' 33 94) [] (Mt ++ [r]) (E ++ [⟨false,[]⟩]) (by simp [h])
   simp only [List.length_set];exact this
structure C3 (wW:World) (B:Nat) (w:World) (x:SV) (r:Rst):Prop where
 n:x.n=r.length
 c:x.n≤x.c
 b:r.length≤1000
 s:Ba wW x.a (BK r)∨Ab B8 w B (.slice x.a x.n x.c) (BK r)
theorem C3.strs {wW w:World} {B:Nat} {x:SV} {r:Rst} (h:C3 wW B w x r) (hb:Below B wW w) (hB:wW.heap.size≤B):Ba w x.a (BK r):=by
 rcases h.s with h | h
 · exact h.later hb hB
 · exact h.strs.1
theorem C3.keep {wW w w':World} {B:Nat} {x:SV} {r:Rst} (h:C3 wW B w x r) (hk:∀ (q:Nat) (cs:Array Value),w.heap[q]? = some (Obj.cells cs 9 (0,0))→w'.heap[q]? = w.heap[q]?):C3 wW B w' x r :=
 ⟨h.n,h.c,h.b,h.s.imp id fun h=>h.keep fun g hg=>by
  rcases h.2 with ⟨he,_⟩ | ⟨g',cap,cur,he,_,h2,_⟩
  · rw [he] at hg;cases hg
  · rw [he] at hg;cases hg;exact hk _ _ h2⟩
structure RSt (wW w:World) (B gB:Nat) (v vr:Value) (N:List NV) (D:List Nd) (S:List SV) (R:List Rst):Prop where
 rep:w.heap[gB]? = some (.cells #[v,vr] 167 (0,0))
 own:Ab BG w B v N
 len:N.length=D.length
 arcs:∀ k (h:k<N.length) (h2:k<D.length),N[k].fin=D[k].fin∧Ab Bh w B (.slice N[k].a N[k].n N[k].c) D[k].arcs
 rown:Ab IP w B vr S
 slen:S.length=R.length
 rests:∀ k (h:k<S.length) (h2:k<R.length),C3 wW B w S[k] R[k]
 gB:B≤gB
theorem RSt.keep {wW w w':World} {B gB:Nat} {v vr:Value} {N:List NV} {D:List Nd} {S:List SV} {R:List Rst} (h:RSt wW w B gB v vr N D S R)
  (hk:∀ q cs t,w.heap[q]? = some (.cells cs t (0,0))→(q=gB∨v.ownBlock=some q∨(∃ x∈N,nvB x=some q)∨t=9∨t=37)→w'.heap[q]? = w.heap[q]?):RSt wW w' B gB v vr N D S R:=by
 refine ⟨(hk gB _ _ h.rep (.inl rfl)).trans h.rep,h.own.keep fun g hg=>?_,h.len,fun k h1 h2=>⟨(h.arcs k h1 h2).1,(h.arcs k h1 h2).2.keep fun g hg=>?_⟩,h.rown.keep fun g hg=>?_,h.slen,fun k h1 h2=>(h.rests k h1 h2).keep fun q cs hq=>hk q cs _ hq (.inr (.inr (.inr (.inl rfl)))),h.gB⟩
 ·
  obtain ⟨cs,hcs⟩:=h.own.obj hg
  exact hk g _ _ hcs (.inr (.inl hg))
 ·
  obtain ⟨cs,hcs⟩:=(h.arcs k h1 h2).2.obj hg
  exact hk g _ _ hcs (.inr (.inr (.inl ⟨N[k],AG h1,hg⟩)))
 ·
  obtain ⟨cs,hcs⟩:=h.rown.obj hg
  exact hk g _ _ hcs (.inr (.inr (.inr (.inr rfl))))
theorem RSt.ext {wW w w':World} {B gB:Nat} {v vr:Value} {N:List NV} {D:List Nd} {S:List SV} {R:List Rst} (h:RSt wW w B gB v vr N D S R) (hx:Ext w w'):RSt wW w' B gB v vr N D S R :=
 h.keep fun q cs t hq _=>Below.block hx q (A5.1 hq).1
theorem RSt.size {wW w:World} {B gB:Nat} {v vr:Value} {N:List NV} {D:List Nd} {S:List SV} {R:List Rst} (h:RSt wW w B gB v vr N D S R):B≤w.heap.size:=A8 h.gB (Nat.le_of_lt (A5.1 h.rep).1)
structure FrR (gB:Nat) (vb:Option Nat) (w w':World):Prop where
 os:w'.os=w.os
 tape:w'.tape=w.tape
 output:w'.output=w.output
 size:w.heap.size≤w'.heap.size
 block:∀ q cs t,w.heap[q]? = some (.cells cs t (0,0))→q≠gB→vb≠some q→t≠37→w'.heap[q]? = w.heap[q]?
theorem FrR.trans {gB:Nat} {vb vb1:Option Nat} {a b c:World} (h:FrR gB vb a b) (h2:FrR gB vb1 b c) (hn:Cc vb vb1 a.heap.size):FrR gB vb a c :=
 ⟨h2.os.trans h.os,h2.tape.trans h.tape,h2.output.trans h.output,A8 h.size h2.size,fun q cs t hq h3 h4 h5=>by
  have e:=h.block q cs t hq h3 h4 h5
  refine (h2.block q cs t (e.trans hq) h3 (fun e2=>?_) h5).trans e
  have hlt:=(A5.1 hq).1
  rcases hn with rfl | hn
  · exact h4 e2
  · have:=hn q e2;omega⟩
theorem FrR.of_below {gB:Nat} {vb:Option Nat} {w w':World} (h:Below w.heap.size w w'):FrR gB vb w w':=⟨h.os,h.tape,h.output,h.size,fun q cs t hq _ _ _=>h.block q (A5.1 hq).1⟩
def QM (wW:World) (B gB:Nat) (q:Nat × List Rst × List Nd) (v:Value) (N:List NV) (w:World) (e:Ending) (w':World):Prop :=
 ∃ v' vr' N' S' E,e=.returned (.int .i64 (q.1:Int))∧RSt wW w' B gB v' vr' N' q.2.2 S' q.2.1∧N'=N ++ E∧(∀ x∈E,∀ g,nvB x=some g→w.heap.size≤g)∧Below B wW w'∧FrR gB v.ownBlock w w'∧Cc v.ownBlock v'.ownBlock w.heap.size
structure RL0 (wW w0:World) (B gB:Nat) (vb0:Option Nat) (N0:List NV) (v vr:Value) (N:List NV) (D:List Nd) (S:List SV) (R:List Rst) (w:World):Prop where
 bst:RSt wW w B gB v vr N D S R
 bl:Below B wW w
 fr:FrR gB vb0 w0 w
 nr:Cc vb0 v.ownBlock w0.heap.size
 ex:∃ E,N=N0 ++ E∧∀ x∈E,∀ g,nvB x=some g→w0.heap.size≤g
structure RL1 (wW w0:World) (B gB gn:Nat) (vb0:Option Nat) (N0:List NV) (fin:Bool) (vA:Value) (v vr:Value) (N:List NV) (D:List Nd) (S:List SV) (R:List Rst) (w:World):Prop extends RL0 wW w0 B gB vb0 N0 v vr N D S R w where
 box:w.heap[gn]? = some (.cells #[.bool fin,vA] 153 (0,0))
 gg:w0.heap.size≤gn
 vn:v.ownBlock≠some gn
structure RL (wW w0:World) (B gB gn:Nat) (vb0:Option Nat) (N0:List NV) (fin:Bool) (vA:Value) (A:List Ar) (v vr:Value) (N:List NV) (D:List Nd) (S:List SV) (R:List Rst) (w:World):Prop extends RL1 wW w0 B gB gn vb0 N0 fin vA v vr N D S R w where
 own:Ab Bh w w0.heap.size vA A
 apart:∀ x∈N,∀ g,nvB x=some g→vA.ownBlock≠some g
section
variable {wW w0 w w':World} {B gB gn:Nat} {vb0:Option Nat} {N0:List NV} {fin:Bool} {vA va:Value} {A A2:List Ar} {v vr:Value} {N:List NV} {D:List Nd} {S:List SV} {R:List Rst}
theorem RL0.ext (h:RL0 wW w0 B gB vb0 N0 v vr N D S R w) (hx:Ext w w'):RL0 wW w0 B gB vb0 N0 v vr N D S R w' :=
 ⟨h.bst.ext hx,h.bl.trans (Below.mono hx h.bst.size),h.fr.trans (FrR.of_below hx) h.nr,h.nr,h.ex⟩
theorem RL1.ext (h:RL1 wW w0 B gB gn vb0 N0 fin vA v vr N D S R w) (hx:Ext w w'):RL1 wW w0 B gB gn vb0 N0 fin vA v vr N D S R w' :=
 ⟨h.toRL0.ext hx,(Below.block hx gn (A5.1 h.box).1).trans h.box,h.gg,h.vn⟩
theorem RL.ext (h:RL wW w0 B gB gn vb0 N0 fin vA A v vr N D S R w) (hx:Ext w w'):RL wW w0 B gB gn vb0 N0 fin vA A v vr N D S R w' :=
 ⟨h.toRL1.ext hx,h.own.later hx (A3 _),h.apart⟩
theorem At {w:World} {q q':Nat} {cs cs':Array Value} {t t':TypeId} {f f':Nat × Nat} (h:w.heap[q]? = some (.cells cs t f)) (h':w.heap[q']? = some (.cells cs' t' f')) (ht:t≠t'):q≠q':=fun e=>by
 rw [e,h'] at h;injection h with h;injection h with _ h2;exact ht h2.symm
theorem RSt.row_ty (h:RSt wW w B gB v vr N D S R):∀ x∈N,∀ g,nvB x=some g→∃ cs,w.heap[g]? = some (.cells cs 155 (0,0)):=by
 intro x hx g hg
 obtain ⟨k,hk,rfl⟩:=List.getElem_of_mem hx
 exact (h.arcs k hk (by rw [← h.len];exact hk)).2.obj hg
theorem RSt.apart_node (h:RSt wW w B gB v vr N D S R) {g:Nat} {cs:Array Value} (hg:w.heap[g]? = some (.cells cs 153 (0,0))) (hv:v.ownBlock≠some g) :
  ∀ q cs' t,w.heap[q]? = some (.cells cs' t (0,0))→(q=gB∨v.ownBlock=some q∨(∃ x∈N,nvB x=some q)∨t=9∨t=37)→q≠g:=by
 rintro q cs' t hq (rfl | hv2 | ⟨x,hx,hq2⟩ | rfl | rfl)
 · exact At h.rep hg (by decide)
 · rintro rfl;exact hv hv2
 ·
  obtain ⟨cs2,hc2⟩:=h.row_ty x hx q hq2
  exact At hc2 hg (by decide)
 · exact At hq hg (by decide)
 · exact At hq hg (by decide)
theorem RL1.setBox {fin':Bool} {vA':Value} {A':List Ar} {i:Nat} {y:Value} (h:RL1 wW w0 B gB gn vb0 N0 fin vA v vr N D S R w) (hB:B≤w0.heap.size)
  (hc:(#[.bool fin,vA]:Array Value).setIfInBounds i y=#[.bool fin',vA']) (ho:Ab Bh w w0.heap.size vA' A') (hap:∀ x∈N,∀ g,nvB x=some g→vA'.ownBlock≠some g):RL wW w0 B gB gn vb0 N0 fin' vA' A' v vr N D S R (w.setCell ⟨gn,i,none⟩ y):=by
 have hne:∀ q,q≠gn→(w.setCell ⟨gn,i,none⟩ y).heap[q]? = w.heap[q]?:=fun q hq=>Below.heap_setCell _ _ _ _ hq
 refine ⟨⟨⟨h.bst.keep fun q cs t hq hh=>hne q (h.bst.apart_node h.box h.vn q cs t hq hh),h.bl.setCell (A8 hB h.gg) _,⟨h.fr.os,h.fr.tape,h.fr.output,by rw [World.size_setCell];exact h.fr.size,fun q cs t hq h3 h4 h5=>(hne q (by have:=h.gg;have:=(A5.1 hq).1;omega)).trans (h.fr.block q cs t hq h3 h4 h5)⟩,h.nr,h.ex⟩,Aq h.box hc,h.gg,h.vn⟩,ho.keep fun g hg=>hne g ?_,hap⟩
 obtain ⟨cs,hcs⟩:=ho.obj hg
 exact At hcs h.box (by decide)
theorem RL.called (h:RL wW w0 B gB gn vb0 N0 fin vA A v vr N D S R w) {q:Nat × List Rst × List Nd} {e:Ending} (hp:QM wW B gB q v N w e w') :
  e=.returned (.int .i64 (q.1:Int))∧∃ v' vr' N' S',RL wW w0 B gB gn vb0 N0 fin vA A v' vr' N' q.2.2 S' q.2.1 w':=by
 obtain ⟨v',vr',N',S',E,rfl,hb,rfl,hE,hbl,hfr,hnr⟩:=hp
 have hw0:=h.fr.size
 have hgs:=(A5.1 h.box).1
 refine ⟨rfl,v',vr',_,S',⟨⟨⟨hb,hbl,h.fr.trans hfr h.nr,h.nr.trans hnr hw0,?_⟩,(hfr.block gn _ _ h.box (At h.box h.bst.rep (by decide)) h.vn (by decide)).trans h.box,h.gg,?_⟩,h.own.keep fun g hg=>?_,fun x hx g hg=>?_⟩⟩
 ·
  obtain ⟨E0,rfl,hE0⟩:=h.ex
  refine ⟨E0 ++ E,by rw [List.append_assoc],fun x hx g hg=>?_⟩
  rcases AV.1 hx with hx | hx
  · exact hE0 x hx g hg
  · exact A8 hw0 (hE x hx g hg)
 ·
  intro e
  rcases hnr with h1 | h1
  · exact h.vn (by rw [← h1];exact e)
  · have:=h1 gn e;omega
 ·
  obtain ⟨cs,hcs⟩:=h.own.obj hg
  refine hfr.block g _ _ hcs (At hcs h.bst.rep (by decide)) (fun e=>?_) (by decide)
  obtain ⟨cs2,hc2⟩:=h.bst.own.obj e
  exact At hcs hc2 (by decide) rfl
 ·
  intro e
  rcases AV.1 hx with hx | hx
  · exact h.apart x hx g hg e
  · have:=hE x hx g hg;have:=h.own.lt g e;omega
theorem RL.app (h:RL wW w0 B gB gn vb0 N0 fin vA A v vr N D S R w) (hB:B≤w0.heap.size) (hg:w.grownBy w' vA.ownBlock):RL1 wW w0 B gB gn vb0 N0 fin vA v vr N D S R w':=by
 have hk:∀ q,q<w.heap.size→vA.ownBlock≠some q→w'.heap[q]? = w.heap[q]?:=fun q hq hne=>hg.block q hq (fun e=>hne e.symm)
 have hty:∀ (q:Nat) (cs:Array Value) (t:TypeId),w.heap[q]? = some (Obj.cells cs t (0,0))→t≠155→w'.heap[q]? = w.heap[q]?:=fun q cs t hq ht=>hk q (A5.1 hq).1 fun e=>by
  obtain ⟨cs2,hc2⟩:=h.own.obj e
  exact At hq hc2 ht rfl
 refine ⟨⟨h.bst.keep fun q cs t hq hh=>?_,h.bl.grown hg h.bst.size fun q hq=>A8 hB (h.own.ge q hq),⟨hg.os.trans h.fr.os,hg.tape.trans h.fr.tape,hg.output.trans h.fr.output,A8 h.fr.size hg.size,fun q cs t hq h3 h4 h5=>?_⟩,h.nr,h.ex⟩,(hty gn _ _ h.box (by decide)).trans h.box,h.gg,h.vn⟩
 ·
  rcases hh with rfl | hv | ⟨x,hx,hq2⟩ | rfl | rfl
  · exact hty _ _ _ h.bst.rep (by decide)
  ·
   obtain ⟨cs2,hc2⟩:=h.bst.own.obj hv
   exact hty _ _ _ hc2 (by decide)
  · exact hk q (A5.1 hq).1 fun e=>h.apart x hx q hq2 e
  · exact hty _ _ _ hq (by decide)
  · exact hty _ _ _ hq (by decide)
 ·
  have h6:=h.fr.size
  have hlt:=(A5.1 hq).1
  exact (hk q (by omega) (fun e=>by have:=h.own.ge q e;omega)).trans (h.fr.block q cs t hq h3 h4 h5)
theorem C3.of_own {x:SV} {r:Rst} (h:Ab B8 w B (.slice x.a x.n x.c) (BK r)) (hb:r.length≤1000):C3 wW B w x r:=by
 obtain ⟨h1,h2,h3⟩:=h.strs
 rw [DL] at h2 h3
 exact ⟨h2,by omega,hb,.inr h⟩
theorem
    RL0.addD (h:RL0 wW w0 B gB vb0 N0 v vr N D S R w) (hb0:B≤w0.heap.size) (ho:Ab BG w' B va (N ++ [⟨false,none,0,0⟩])) (hg:w.grownBy w' v.ownBlock) (hat:va.ownBlock=v.ownBlock∨va.ownBlock=some w.heap.size) :
  RL0 wW w0 B gB vb0 N0 va vr (N ++ [⟨false,none,0,0⟩]) (D ++ [⟨false,[]⟩]) S R (w'.setCell ⟨gB,0,none⟩ va):=by
 have hsz:=h.fr.size
 have hk:∀ q,q<w.heap.size→v.ownBlock≠some q→w'.heap[q]? = w.heap[q]?:=fun q hq hne=>hg.block q hq (fun e=>hne e.symm)
 have hne:∀ q,q≠gB→(w'.setCell ⟨gB,0,none⟩ va).heap[q]? = w'.heap[q]?:=fun q hq=>Below.heap_setCell _ _ _ _ hq
 have hrep:w'.heap[gB]? = some (.cells #[v,vr] 167 (0,0)):=(hk gB (A5.1 h.bst.rep).1 fun e=>by
  obtain ⟨cs2,hc2⟩:=h.bst.own.obj e
  exact At h.bst.rep hc2 (by decide) rfl).trans h.bst.rep
 have hty:∀ (q:Nat) (cs:Array Value) (t:TypeId),w.heap[q]? = some (Obj.cells cs t (0,0))→t≠153→t≠167→(w'.setCell ⟨gB,0,none⟩ va).heap[q]? = w.heap[q]?:=fun q cs t hq ht ht2=>(hne q (At hq h.bst.rep ht2)).trans (hk q (A5.1 hq).1 fun e=>by
  obtain ⟨cs2,hc2⟩:=h.bst.own.obj e
  exact At hq hc2 ht rfl)
 refine ⟨⟨Aq hrep rfl,ho.keep fun g hg2=>hne g ?_,by simp [h.bst.len],fun k h1 h2=>?_,h.bst.rown.keep fun g hg2=>?_,h.bst.slen,fun k h1 h2=>(h.bst.rests k h1 h2).keep fun q cs hq=>hty q cs _ hq (by decide) (by decide),h.bst.gB⟩,(h.bl.grown hg h.bst.size fun q hq=>h.bst.own.ge q hq).setCell h.bst.gB _,⟨hg.os.trans h.fr.os,hg.tape.trans h.fr.tape,hg.output.trans h.fr.output,by rw [World.size_setCell];exact A8 hsz hg.size,fun q cs t hq h3 h4 h5=>?_⟩,?_,?_⟩
 ·
  obtain ⟨cs,hcs⟩:=ho.obj hg2
  exact At hcs hrep (by decide)
 ·
  by_cases hkN:k<N.length
  ·
   have hkD:k<D.length:=by rw [← h.bst.len];exact hkN
   obtain ⟨h3,h4⟩:=h.bst.arcs k hkN hkD
   simp only [List.getElem_append_left hkN,List.getElem_append_left hkD]
   exact ⟨h3,h4.keep fun g hgk=>by
    obtain ⟨cs,hcs⟩:=h4.obj hgk
    exact hty g _ _ hcs (by decide) (by decide)⟩
  ·
   obtain rfl:k=N.length:=by rw [AB] at h1;simp at h1;omega
   have e1:(N ++ [(⟨false,none,0,0⟩:NV)])[N.length]=⟨false,none,0,0⟩:=by simp
   have e2:(D ++ [(⟨false,[]⟩:Nd)])[N.length]=⟨false,[]⟩:=by simp [h.bst.len]
   rw [e1,e2]
   exact ⟨rfl,Ab.nil _ _ _⟩
 ·
  obtain ⟨cs,hcs⟩:=h.bst.rown.obj hg2
  exact hty g _ _ hcs (by decide) (by decide)
 ·
  have hlt:=(A5.1 hq).1
  refine (hne q h3).trans ((hk q (by omega) fun e=>?_).trans (h.fr.block q cs t hq h3 h4 h5))
  rcases h.nr with h7 | h7
  · exact h4 (by rw [← h7];exact e)
  · have:=h7 q e;omega
 ·
  rcases hat with h1 | h1
  · rw [h1];exact h.nr
  · rw [h1];exact .inr fun q hq=>by injection hq with hq;omega
 ·
  obtain ⟨E0,rfl,hE0⟩:=h.ex
  refine ⟨E0 ++ [⟨false,none,0,0⟩],by rw [List.append_assoc],fun x hx g hg=>?_⟩
  rcases AV.1 hx with hx | hx
  · exact hE0 x hx g hg
  · obtain rfl:=AD.1 hx;cases hg
theorem RL0.addR {vra:Value} {x:SV} {r:Rst} (h:RL0 wW w0 B gB vb0 N0 v vr N D S R w) (hb0:B≤w0.heap.size) (hx:C3 wW B w x r) (ho:Ab IP w' B vra (S ++ [x])) (hg:w.grownBy w' vr.ownBlock) :
  RL0 wW w0 B gB vb0 N0 v vra N D (S ++ [x]) (R ++ [r]) (w'.setCell ⟨gB,1,none⟩ vra):=by
 have hsz:=h.fr.size
 have hk:∀ q,q<w.heap.size→vr.ownBlock≠some q→w'.heap[q]? = w.heap[q]?:=fun q hq hne=>hg.block q hq (fun e=>hne e.symm)
 have hne:∀ q,q≠gB→(w'.setCell ⟨gB,1,none⟩ vra).heap[q]? = w'.heap[q]?:=fun q hq=>Below.heap_setCell _ _ _ _ hq
 have hrep:w'.heap[gB]? = some (.cells #[v,vr] 167 (0,0)):=(hk gB (A5.1 h.bst.rep).1 fun e=>by
  obtain ⟨cs2,hc2⟩:=h.bst.rown.obj e
  exact At h.bst.rep hc2 (by decide) rfl).trans h.bst.rep
 have hty:∀ (q:Nat) (cs:Array Value) (t:TypeId),w.heap[q]? = some (Obj.cells cs t (0,0))→t≠37→q≠gB→(w'.setCell ⟨gB,1,none⟩ vra).heap[q]? = w.heap[q]?:=fun q cs t hq ht ht2=>(hne q ht2).trans (hk q (A5.1 hq).1 fun e=>by
  obtain ⟨cs2,hc2⟩:=h.bst.rown.obj e
  exact At hq hc2 ht rfl)
 refine ⟨⟨Aq hrep rfl,h.bst.own.keep fun g hg2=>?_,h.bst.len,fun k h1 h2=>⟨(h.bst.arcs k h1 h2).1,(h.bst.arcs k h1 h2).2.keep fun g hgk=>?_⟩,ho.keep fun g hg2=>hne g ?_,by simp [h.bst.slen],fun k h1 h2=>?_,h.bst.gB⟩,(h.bl.grown hg h.bst.size fun q hq=>h.bst.rown.ge q hq).setCell h.bst.gB _,⟨hg.os.trans h.fr.os,hg.tape.trans h.fr.tape,hg.output.trans h.fr.output,by rw [World.size_setCell];exact A8 hsz hg.size,fun q cs t hq h3 h4 h5=>?_⟩,h.nr,h.ex⟩
 ·
  obtain ⟨cs,hcs⟩:=h.bst.own.obj hg2
  exact hty g _ _ hcs (by decide) (At hcs h.bst.rep (by decide))
 ·
  obtain ⟨cs,hcs⟩:=(h.bst.arcs k h1 h2).2.obj hgk
  exact hty g _ _ hcs (by decide) (At hcs h.bst.rep (by decide))
 ·
  obtain ⟨cs,hcs⟩:=ho.obj hg2
  exact At hcs hrep (by decide)
 ·
  have hkeep:∀ {y:SV} {q:Rst},C3 wW B w y q→C3 wW B (w'.setCell ⟨gB,1,none⟩ vra) y q:=fun hy=>hy.keep fun q cs hq=>hty q cs _ hq (by decide) (At hq h.bst.rep (by decide))
  by_cases hkS:k<S.length
  ·
   have hkR:k<R.length:=by rw [← h.bst.slen];exact hkS
   simp only [List.getElem_append_left hkS,List.getElem_append_left hkR]
   exact hkeep (h.bst.rests k hkS hkR)
  ·
   obtain rfl:k=S.length:=by rw [AB] at h1;simp at h1;omega
   have e1:(S ++ [x])[S.length]=x:=by simp
   have e2:(R ++ [r])[S.length]=r:=by simp [h.bst.slen]
   rw [e1,e2]
   exact hkeep hx
 ·
  have hlt:=(A5.1 hq).1
  have e:=h.fr.block q cs t hq h3 h4 h5
  exact (hty q cs t (e.trans hq) h5 h3).trans e
theorem KD:∀ {N:List NV} {k:Nat} (hk:k<N.length) (f:Bool),(N.set k ⟨f,N[k].a,N[k].n,N[k].c⟩).flatMap BG.enc=(N.flatMap BG.enc).set (k*2) (.bool f)
 | x :: r,0,_,f=>by simp [BG]
 | x :: r,k+1,hk,f=>by
  have ih:=KD (N:=r) (k:=k) (by simpa using hk) f
  have e:(k+1)*2=(k*2)+1+1:=by omega
  simp only [List.set_cons_succ,List.getElem_cons_succ,List.flatMap_cons,e]
  rw [ih]
  simp [BG]
theorem Ab.setFin {g n c0:Nat} {N:List NV} {k:Nat} (h:Ab BG w B (.slice (some ⟨g,0,none⟩) n c0) N) (hk:k<N.length) (f:Bool) :
  Ab BG (w.setCell ⟨g,k*2,none⟩ (.bool f)) B (.slice (some ⟨g,0,none⟩) n c0) (N.set k ⟨f,N[k].a,N[k].n,N[k].c⟩):=by
 have hf:=KD hk f
 have hlen:=EN Bz N
 rcases id h.2 with ⟨he,_⟩ | ⟨g',cap,cur,he,h1,h2,h3,h4,h5,h6⟩
 · cases he
 ·
  injection he with e1 e2 e3
  injection e1 with e1
  injection e1 with e1
  subst e1 e3
  refine ⟨by rw [hf,List.length_set,hlen,List.length_set],.inr ⟨g,c0,cur.setIfInBounds (k*2) (.bool f),by rw [List.length_set,e2],h1,Aq h2 rfl,by rw [List.length_set];exact h3,h4,by simp [h5],?_⟩⟩
  rw [hf,← h6,List.length_set]
  simp only [Array.toList_setIfInBounds]
  rw [List.take_set]
theorem RL.done {n g cr c:Nat} {a:Option Addr} (h:RL wW w0 B gB gn vb0 N0 fin (.slice a A.length c) A (.slice (some ⟨g,0,none⟩) N.length cr) vr N D S R w) (hb0:B≤w0.heap.size) (hn:N0.length=n) (hn2:n<N.length) :
  ∃ N',RL0 wW w0 B gB vb0 N0 (.slice (some ⟨g,0,none⟩) N.length cr) vr N' (D.set n ⟨fin,A⟩) S R ((w.setCell ⟨g,n*2,none⟩ (.bool fin)).setCell ⟨g,n*2+1,none⟩ (.slice a A.length c)):=by
 obtain ⟨w2,hw2⟩:∃ w2,(w.setCell ⟨g,n*2,none⟩ (.bool fin)).setCell ⟨g,n*2+1,none⟩ (.slice a A.length c)=w2:=⟨_,rfl⟩
 have hne:∀ q,q≠g→w2.heap[q]? = w.heap[q]?:=fun q hq=>by
  rw [← hw2];exact (Below.heap_setCell _ _ _ _ hq).trans (Below.heap_setCell _ _ _ _ hq)
 have ho1:=h.bst.own.setFin hn2 fin
 have ho2:=ho1.setArcs (k:=n) (by rw [List.length_set];exact hn2) a A.length c
 rw [hw2] at ho2
 obtain ⟨csg,hcg⟩:=h.bst.own.obj (g:=g) rfl
 have hty:∀ (q:Nat) (cs:Array Value) (t:TypeId),w.heap[q]? = some (Obj.cells cs t (0,0))→t≠153→w2.heap[q]? = w.heap[q]?:=fun q cs t hq ht=>hne q (At hq hcg ht)
 have hsz:w2.heap.size=w.heap.size:=by rw [← hw2,World.size_setCell,World.size_setCell]
 have hgB:=h.bst.own.ge g rfl
 have hN':(N.set n (⟨fin,N[n].a,N[n].n,N[n].c⟩:NV)).set n ⟨((N.set n (⟨fin,N[n].a,N[n].n,N[n].c⟩:NV))[n]'(by rw [List.length_set];exact hn2)).fin,a,A.length,c⟩=N.set n ⟨fin,a,A.length,c⟩:=by
  rw [List.set_set]
  congr 1
  rw [List.getElem_set_self]
 rw [hN'] at ho2
 rw [hw2]
 have hbl2:Below B wW w2:=by rw [← hw2];exact (h.bl.setCell hgB _).setCell hgB _
 refine ⟨N.set n ⟨fin,a,A.length,c⟩,⟨(hty gB _ _ h.bst.rep (by decide)).trans h.bst.rep,ho2,by simp [h.bst.len],fun k h1 h2=>?_,h.bst.rown.keep fun q hq=>?_,h.bst.slen,fun k h1 h2=>(h.bst.rests k h1 h2).keep fun q cs hq=>hty q cs _ hq (by decide),h.bst.gB⟩,hbl2,⟨?_,?_,?_,by rw [hsz];exact h.fr.size,fun q cs t hq h3 h4 h5=>?_⟩,h.nr,?_⟩
 ·
  rw [List.length_set] at h1 h2
  by_cases e:k=n
  ·
   subst e
   simp only [List.getElem_set_self]
   refine ⟨trivial,(h.own.mono hb0).keep fun q hq=>?_⟩
   obtain ⟨cs,hcs⟩:=h.own.obj hq
   exact hty q _ _ hcs (by decide)
  ·
   simp only [List.getElem_set_ne (Ne.symm e)]
   refine ⟨(h.bst.arcs k h1 h2).1,(h.bst.arcs k h1 h2).2.keep fun q hq=>?_⟩
   obtain ⟨cs,hcs⟩:=(h.bst.arcs k h1 h2).2.obj hq
   exact hty q _ _ hcs (by decide)
 ·
  obtain ⟨cs,hcs⟩:=h.bst.rown.obj hq
  exact hty q _ _ hcs (by decide)
 · rw [← hw2];exact h.fr.os
 · rw [← hw2];exact h.fr.tape
 · rw [← hw2];exact h.fr.output
 ·
  have hlt:=(A5.1 hq).1
  refine (hne q fun e=>?_).trans (h.fr.block q cs t hq h3 h4 h5)
  subst e
  rcases h.nr with h7 | h7
  · exact h4 (by rw [← h7];rfl)
  · have:=h7 q rfl;omega
 ·
  obtain ⟨X,hX,hX2⟩:=h.ex
  refine ⟨X.set 0 ⟨fin,a,A.length,c⟩,?_,fun x hx q hq=>?_⟩
  · rw [hX,List.set_append_right _ _ (by omega),hn,Nat.sub_self]
  ·
   rcases List.mem_or_eq_of_mem_set hx with hx | rfl
   · exact hX2 x hx q hq
   · exact h.own.ge q hq
theorem RL0.post {q:Nat × List Rst × List Nd} (h:RL0 wW w B gB v.ownBlock N0 va vr N q.2.2 S q.2.1 w'):QM wW B gB q v N0 w (.returned (.int .i64 (q.1:Int))) w':=by
 obtain ⟨E,h1,h2⟩:=h.ex
 exact ⟨va,vr,N,S,E,rfl,h.bst,h1,h2,h.bl,h.fr,h.nr⟩
theorem C3.fr {x:SV} {r:Rst} (h:C3 wW B w x r) (hb:RSt wW w B gB v vr N D S R) (hf:FrR gB v.ownBlock w w'):C3 wW B w' x r :=
 h.keep fun q cs hq=>hf.block q cs _ hq (At hq hb.rep (by decide)) (fun e=>by
  obtain ⟨cs2,hc2⟩:=hb.own.obj e
  exact At hq hc2 (by decide) rfl) (by decide)
theorem RSt.repD (h:RSt wW w B gB v vr N D S R) (hg:w.grownBy w' v.ownBlock):w'.heap[gB]? = some (.cells #[v,vr] 167 (0,0)) :=
 (hg.block gB (A5.1 h.rep).1 fun e=>by
  obtain ⟨cs2,hc2⟩:=h.own.obj e.symm
  exact At h.rep hc2 (by decide) rfl).trans h.rep
theorem RSt.repR (h:RSt wW w B gB v vr N D S R) (hg:w.grownBy w' vr.ownBlock):w'.heap[gB]? = some (.cells #[v,vr] 167 (0,0)) :=
 (hg.block gB (A5.1 h.rep).1 fun e=>by
  obtain ⟨cs2,hc2⟩:=h.rown.obj e.symm
  exact At h.rep hc2 (by decide) rfl).trans h.rep
theorem RL0.rows_lt (h:RL0 wW w0 B gB vb0 N0 v vr N D S R w):∀ x∈N,∀ g,nvB x=some g→g<w.heap.size:=fun x hx g hg=>by
 obtain ⟨cs,hcs⟩:=h.bst.row_ty x hx g hg
 exact (A5.1 hcs).1
end
end Go.Proofs.YthjmdgejnakcmaaGreatDoor
