/- Texts that the claims share: DAll, DColl, DEq, DWords, DRefQ, DRef, DOf, DList, DSame, DListed, DHas, DVis, DMake, DFacts, DLit, DLawK, DViews, DLaid. -/
import Derived.RangeFuncNested
import Derived.RangeFuncBound
import Derived.RangeFuncCalls
import Derived.RangeFuncLeaves
import Derived.Shelf.Abstract
import Derived.OwnWalkIn
import Derived.TacticsInMore
import Derived.LoopNIn
import Derived.LoopIn
import Derived.RangeFuncBox
import Derived.Maps.AppendAt
import Derived.Laws.Concat
import Derived.Deep.CutBlock
import Derived.Deep.QuietTactic
import Derived.BigQuiet
import Derived.Laws.RangeString
import Derived.Laws.Strings3
import Derived.Deep.Strs
import Derived.Lib.LaidTab
import Derived.Deep.DeepHandedRow
import Derived.WalkKit
import Derived.ProofKit
import Derived.OpenShut
import Derived.Test.YthjmdgejnakcmaaDoorRows
import Derived.Test.YthjmdgejnakcmaaDoorMD3
import Derived.Test.YthjmdgejnakcmaaDoorMD1
import Derived.Test.YthjmdgejnakcmaaDoorMA1
namespace Go.Proofs.YthjmdgejnakcmaaDoor
open Go.RowKit Go.WideShapes
set_option linter.unusedVariables false
set_option linter.unusedSimpArgs false
def failV (D:List Nd) (i:Int) (ws:List UInt8):Bool :=
 decide (i<0) || decide ((D.length:Int)≤i) || decide (20<ws.length) || (!(D.getD i.toNat default).fin && decide ((D.getD i.toNat default).arcs=[]))
def armsL (rec:Int→List UInt8→List (ByteArray × Bool) × Bool) (ws:List UInt8):List Ar→List (ByteArray × Bool) × Bool
 | []=>([],true)
 | x :: r=>if (rec x.t (ws ++ [UInt8.ofNat x.c.toNat])).2=true then ((rec x.t (ws ++ [UInt8.ofNat x.c.toNat])).1 ++ (armsL rec ws r).1,(armsL rec ws r).2) else ((rec x.t (ws ++ [UInt8.ofNat x.c.toNat])).1,false)
def
  visitL (D:List Nd):Nat→Int→List UInt8→List (ByteArray × Bool) × Bool
 | 0,_,_=>([],true)
 | m+1,i,ws=>if failV D i ws=true then ([(⟨#[]⟩,false)],false)
  else ((if (D.getD i.toNat default).fin=true then [(⟨ws.toArray⟩,true)] else []) ++ (armsL (visitL D m) ws (D.getD i.toNat default).arcs).1,(armsL (visitL D m) ws (D.getD i.toNat default).arcs).2)
def ByteR (W:World) (a:Option Addr) (l:List UInt8):Prop:=(a=none∧l=[])∨∃ b cs,a=some ⟨b,0,none⟩∧W.heap[b]? = some (.cells cs 5 (0,0))∧cs.toList.take l.length=l.map fun c=>Value.int .u8 (c.toNat:Int)
theorem ByteR.nil (W:World):ByteR W none []:=.inl ⟨rfl,rfl⟩
theorem ByteR.keep {W W':World} {a:Option Addr} {l:List UInt8} (h:ByteR W a l) (hk:∀ (b:Nat) (cs:Array Value),W.heap[b]? = some (.cells cs 5 (0,0))→W'.heap[b]? = W.heap[b]?):ByteR W' a l:=by
 rcases h with h | ⟨b,cs,h1,h2,h3⟩
 · exact .inl h
 · exact .inr ⟨b,cs,h1,(hk b cs h2).trans h2,h3⟩
theorem ByteR.cells {W:World} {b:Nat} {l:List UInt8} (h:ByteR W (some ⟨b,0,none⟩) l):∀ j v,(l.map fun c=>Value.int .u8 (c.toNat:Int))[j]? = some v→W.cell? ((⟨b,0,none⟩:Addr).add j)=some v:=by
 rcases h with ⟨h,_⟩ | ⟨b',cs,h1,h2,h3⟩
 · cases h
 ·
  injection h1 with h1;injection h1 with h1;subst h1
  intro j v hj
  rw [← h3] at hj
  have hlt:=(List.getElem?_eq_some_iff.1 hj).1
  rw [List.getElem?_take] at hj
  split at hj
  ·
   rw [addr_add',Nat.zero_add,cell_of_row _ _ _ _ _ _ h2]
   simpa using hj
  · cases hj
theorem
    conv_bytes {W:World} {a:Option Addr} {l:List UInt8} (h:ByteR W a l) (c:Nat):(convert 22 9 (.slice a l.length c)).run Tryd.prog W=.ok (.string ⟨l.toArray⟩) W:=by
 rcases id h with ⟨rfl,rfl⟩ | ⟨b,cs,rfl,h2,h3⟩
 · exact run_convert_bytes_nil W 22 5 Tryd.underlying22 Tryd.underlying5 0 c 9 Tryd.underlying9
 ·
  have:=run_convert_bytes_arg W 22 5 Tryd.underlying22 Tryd.underlying5 b 0 l.length c (l.map fun c=>(c.toNat:Int)) (by simp) (fun i hi=>by
   have hc:=h.cells i (.int .u8 (l[i].toNat:Int)) (by simp [hi])
   rw [addr_add'] at hc
   rw [hc];simp [List.getD_eq_getElem?_getD,hi]) 9 Tryd.underlying9
  refine this.trans ?_
  have e0:((l.map fun c=>(c.toNat:Int)).map fun n=>UInt8.ofNat n.toNat)=l:=by
   rw [List.map_map]
   have h1:((fun n:Int=>UInt8.ofNat n.toNat) ∘ fun c:UInt8=>(c.toNat:Int))=id:=by
    funext c
    show UInt8.ofNat ((c.toNat:Int).toNat)=c
    rw [Int.toNat_natCast,UInt8.ofNat_toNat]
   rw [h1,List.map_id]
  have e:strOfNums (l.map fun c=>(c.toNat:Int))=⟨l.toArray⟩:=by
   unfold strOfNums
   rw [e0]
  rw [e]
theorem slice_full (a:Option Addr) (n c:Nat) (hn:n≤c) (ha:a=none→n=0) (w:World) :
  (Instr.slice 22 (.slice a n c) none (some (.int .i64 (n:Int))) (some (.int .i64 (n:Int)))).run Tryd.prog w=.ok (.slice a n n) w:=by
 have h0:(0:Int)≤(n:Int):=by omega
 have h1:(n:Int)≤(c:Int):=by omega
 cases a with
 | none =>
  obtain rfl:=ha rfl
  simp [go_sem,Instr.slice,Instr.sliceBounds,Instr.sliceBound,asIntOf]
 | some p=>simp [go_sem,Instr.slice,Instr.sliceBounds,Instr.sliceBound,asIntOf,h0,h1];intro h;omega
theorem info_u8:(Tryd.prog.info? 5).map (fun i=>(i.zero,i.size,i.bytes))=some (some (.int .u8 0),1,1):=by kernel_rfl
theorem runD {W:World}:Ext W W.drew:=(Below.refl _ W).drew
theorem app_byte {W:World} {a:Option Addr} {l:List UInt8} (h:ByteR W a l) (hl:l.length≤1000) (x:UInt8) (g:Nat) (hg:W.heap[g]? = some (.cells #[.int .u8 (x.toNat:Int)] 5 (0,0))) (ty:TypeId) :
  ∃ c W',(Builtin.append_ #[22,22] ty #[.slice a l.length l.length,.slice (some ⟨g,0,none⟩) 1 1]).run Tryd.prog W=.ok (.slice (some ⟨W.heap.size,0,none⟩) (l ++ [x]).length c) W'∧ByteR W' (some ⟨W.heap.size,0,none⟩) (l ++ [x])∧(l ++ [x]).length≤c∧Ext W W':=by
 obtain ⟨i0,hi,hz0,hz1,hz2⟩:=info_parts info_u8
 have hn:∀ j v,([Value.int .u8 (x.toNat:Int)]:List Value)[j]? = some v→W.cell? ((⟨g,0,none⟩:Addr).add j)=some v:=fun j v hj=>by
  rw [addr_add',Nat.zero_add,cell_of_row _ _ _ _ _ _ hg]
  simpa using hj
 have hx:∀ o,Ext W (W.drew.alloc o):=fun o=>runD.alloc (by exact Nat.le_refl _) _
 rcases id h with ⟨rfl,rfl⟩ | ⟨b,cs,rfl,h2,h3⟩
 ·
  have hr:=run_append_nil (P:=Tryd.prog) (w:=W) 22 ty 5 i0 (.int .u8 0) Tryd.underlying22 hi hz0 ⟨g,0,none⟩ 1 1 [.int .u8 (x.toNat:Int)] (by rw [hz1];rfl) hn (by omega) (by omega) (by rw [hz2];omega)
  have hge:=grownCap_ge W 1 0 5
  refine ⟨_,_,hr,.inr ⟨_,_,rfl,heap_alloc_new W.drew _,?_⟩,hge,hx _⟩
  simp
 ·
  have hr:=run_append_grow (P:=Tryd.prog) (w:=W) 22 ty 5 i0 (.int .u8 0) Tryd.underlying22 hi hz0 ⟨b,0,none⟩ l.length l.length (l.map fun c=>Value.int .u8 (c.toNat:Int)) (by rw [hz1];simp) h.cells ⟨g,0,none⟩ 1 1 [.int .u8 (x.toNat:Int)] (by rw [hz1];rfl) hn (by omega) (by omega) (growslice_fits (by omega) (by rw [hz2];omega))
  have hge:=grownCap_ge W (l.length+1) l.length 5
  rw [show (l ++ [x]).length=l.length+1 by simp]
  refine ⟨grownCap W (l.length+1) l.length 5,_,hr,.inr ⟨_,_,rfl,heap_alloc_new W.drew _,?_⟩,hge,hx _⟩
  simp only [Builtin.zeroCells,List.append_toArray,Array.toList_append,List.length_append,List.map_append]
  simp [List.take_append,List.take_of_length_le]
def Kp (n₀:Nat) (W W':World):Prop:=Below n₀ W W'∧∀ (q:Nat) (cs:Array Value) (t:TypeId) (fz:Nat × Nat),W.heap[q]? = some (.cells cs t fz)→t≠9→t≠42→t≠4→W'.heap[q]? = W.heap[q]?
theorem Kp.trans {n₀:Nat} {A B C:World} (h:Kp n₀ A B) (h2:Kp n₀ B C):Kp n₀ A C :=
 ⟨h.1.trans h2.1,fun q cs t fz hq h3 h4 h5=>by
  have e:=h.2 q cs t fz hq h3 h4 h5
  exact (h2.2 q cs t fz (e.trans hq) h3 h4 h5).trans e⟩
theorem Kp.of_ext {n₀:Nat} {A B:World} (h:Ext A B) (hn:n₀≤A.heap.size):Kp n₀ A B:=⟨Below.mono h hn,fun q cs t fz hq _ _ _=>Below.block h q (Array.getElem?_eq_some_iff.1 hq).1⟩
theorem Kp.refl (n₀:Nat) (A:World):Kp n₀ A A:=⟨Below.refl _ _,fun _ _ _ _ _ _ _ _=>rfl⟩
theorem Kp.obj {n₀:Nat} {W:World} (hn:n₀≤W.heap.size) (X:World) (l:Nat) (o o':Obj) (hl:W.heap.size≤l) (h:X.heap[l]? = some o) (ho:o.isCells=false) (hw:o.isWalk=false):Kp n₀ X (X.putObj l o') :=
 ⟨belowK_b hn X l o o' hl h ho hw,fun q cs t fz hq _ _ _=>by
  have hne:q≠l:=fun e=>by subst e;rw [hq] at h;injection h with h;subst h;cases ho
  exact World.putObj_heap_other hne⟩
theorem ByteR.kp {n₀:Nat} {W W':World} {a:Option Addr} {l:List UInt8} (h:ByteR W a l) (hk:Kp n₀ W W'):ByteR W' a l:=h.keep fun b cs hb=>hk.2 b cs _ _ hb (by decide) (by decide) (by decide)
structure VBy (l gD gY gV:Nat) (aD:Option Addr) (nD cD:Nat) (W:World):Prop where
 dd:W.heap[gD]? = some (.cells #[.slice aD nD cD] 38 (0,0))
 yy:W.heap[gY]? = some (.cells #[.func (.yield l) #[] #[]] 128 (0,0))
 vv:W.heap[gV]? = some (.cells #[.func (.func 60) #[] #[.pointer (some ⟨gD,0,none⟩),.pointer (some ⟨gY,0,none⟩),.pointer (some ⟨gV,0,none⟩)]] 129 (0,0))
theorem VBy.kp {n₀ l gD gY gV:Nat} {aD:Option Addr} {nD cD:Nat} {W W':World} (h:VBy l gD gY gV aD nD cD W) (hk:Kp n₀ W W'):VBy l gD gY gV aD nD cD W' :=
 ⟨(hk.2 _ _ _ _ h.dd (by decide) (by decide) (by decide)).trans h.dd,(hk.2 _ _ _ _ h.yy (by decide) (by decide) (by decide)).trans h.yy,(hk.2 _ _ _ _ h.vv (by decide) (by decide) (by decide)).trans h.vv⟩
theorem VBy.cells {l gD gY gV:Nat} {aD:Option Addr} {nD cD:Nat} {W:World} (h:VBy l gD gY gV aD nD cD W):W.cell? ⟨gD,0,none⟩=some (.slice aD nD cD)∧W.cell? ⟨gY,0,none⟩=some (.func (.yield l) #[] #[])∧W.cell? ⟨gV,0,none⟩=some (.func (.func 60) #[] #[.pointer (some ⟨gD,0,none⟩),.pointer (some ⟨gY,0,none⟩),.pointer (some ⟨gV,0,none⟩)]) :=
 ⟨cells1 h.dd,cells1 h.yy,cells1 h.vv⟩
theorem YieldAt.anyD {m:Nat} (m':Nat) {P:Program} {l:Nat} {args:Array Value} {W:World} {R:Ending→World→Prop} (h:YieldAt Fence.wide m P l args W R):YieldAt Fence.wide m' P l args W R:=by
 obtain ⟨fn,tmps,assign,body,hy,hR⟩:=h
 exact ⟨fn,tmps,assign,body,hy,hR.1,fun c cs _=>hR.2 c cs (room_wide _)⟩
def JExt (J:List (ByteArray × Bool)→World→Prop):Prop:=∀ s W W',J s W→Ext W W'→J s W'
theorem JExt.of {B:Nat} {J:List (ByteArray × Bool)→World→Prop} (h:AbidesFrom B J):JExt J:=fun s W W' hs hx =>
 h s W W' none hs ⟨hx.os,hx.tape,hx.output,hx.size,fun k hk _=>hx.block k hk⟩ (fun r e=>by cases e)
end Go.Proofs.YthjmdgejnakcmaaDoor
namespace Go.Proofs.YthjmdgejnakcmaaDoor
open Go.RowKit Go.WideShapes
set_option linter.unusedVariables false
set_option linter.unusedSimpArgs false
attribute [local go_sem] Oper.semAt_some
def CsOk (D:List Nd):Prop:=∀ i (h:i<D.length),∀ x∈D[i].arcs,0≤x.c∧x.c≤255∧-9223372036854775808≤x.t∧x.t≤9223372036854775807
def VisP (n₀:Nat) (J Jx:List (ByteArray × Bool)→World→Prop) (q:List (ByteArray × Bool) × Bool) (pre:List (ByteArray × Bool)) (W:World) (e:Ending) (W':World):Prop :=
 (e=.returned (.bool true)∧q.2=true∧J (pre ++ q.1) W'∧Kp n₀ W W')∨(e=.returned (.bool false)∧q.2=false∧J (pre ++ q.1) W')∨(e=.returned (.bool false)∧∃ p,p <+: q.1∧Jx (pre ++ p) W')
def PV (b:Bool) (n₀:Nat) (J Jx:List (ByteArray × Bool)→World→Prop) (wz:World) (pre S:List (ByteArray × Bool)) (q:List (ByteArray × Bool) × Bool) (v:Value) (W:World):Prop :=
 (v=.bool b∧q.2=true∧J (pre ++ (S ++ q.1)) W∧Kp n₀ wz W)∨(v=.bool (!b)∧((q.2=false∧J (pre ++ (S ++ q.1)) W)∨∃ p,p <+: q.1∧Jx (pre ++ (S ++ p)) W))
theorem pv_stays {b:Bool} {n₀:Nat} {J Jx:List (ByteArray × Bool)→World→Prop} (hJ:JExt J) (hJx:JExt Jx) {wz:World} (hn:n₀≤wz.heap.size) {pre S:List (ByteArray × Bool)} {q:List (ByteArray × Bool) × Bool}:Stays (PV b n₀ J Jx wz pre S q):=by
 rintro v w w' (⟨h1,h2,h3,h4⟩ | ⟨h1,⟨h2,h3⟩ | ⟨p,h2,h3⟩⟩) hx
 · exact .inl ⟨h1,h2,hJ _ _ _ h3 hx,h4.trans (Kp.of_ext hx (Nat.le_trans hn h4.1.size))⟩
 · exact .inr ⟨h1,.inl ⟨h2,hJ _ _ _ h3 hx⟩⟩
 · exact .inr ⟨h1,.inr ⟨p,h2,hJx _ _ _ h3 hx⟩⟩
def RowC (g n:Nat) (v:Value) (_:World):Prop:=∃ c,v=.slice (some ⟨g,0,none⟩) n c∧n≤c
theorem rowC_stays (g n:Nat):Stays (RowC g n):=fun _ _ _ h _=>h
theorem opres_app_byte {W:World} {A:Act} {o:Oper} {s y:Operand} {a:Option Addr} {l:List UInt8} {x:UInt8} {g:Nat} (h:ByteR W a l) (hl:l.length≤1000) (hg:W.heap[g]? = some (.cells #[.int .u8 (x.toNat:Int)] 5 (0,0)))
  (ho:o.op=.call { callee:=.builtin .append,args:=#[s,y],argTypes:=#[22,22] }) (hs:A.eval s=.slice a l.length l.length) (hy:A.eval y=.slice (some ⟨g,0,none⟩) 1 1) :
  OpRes Tryd.prog A o W (fun v w'=>RowC W.heap.size (l ++ [x]).length v w'∧ByteR w' (some ⟨W.heap.size,0,none⟩) (l ++ [x])∧Ext W w'):=by
 obtain ⟨c,W',hr,h1,h2,h3⟩:=app_byte h hl x g hg o.type
 refine .inl ⟨_,W',?_,⟨c,rfl,h2⟩,h1,h3⟩
 unfold execOp
 simp only [ho,resolve,invoke,builtin,Sem.run_bind,Sem.run_pure,Result.andThen_ok,List.map_toArray,List.map_cons,List.map_nil,hs,hy,hr]
def TV (n₀:Nat) (J:List (ByteArray × Bool)→World→Prop) (wz:World) (g s0:Nat) (cs:Array Value) (y:UInt8) (l:List UInt8) (pre:List (ByteArray × Bool)) (b1 b2 b3:Bool) (W:World):Prop :=
 match b3 with
 | false=>J pre W∧Kp n₀ wz W∧W.heap[g]? = some (.cells cs 72 (0,0))∧(b2=false→W.heap.size=s0+b1.toNat)∧(b1=true→W.heap[s0]? = some (.cells #[.int .u8 (y.toNat:Int)] 5 (0,0)))∧(b2=true→ByteR W (some ⟨s0+1,0,none⟩) l)
 | true=>True
theorem TV.keep {n₀:Nat} {J:List (ByteArray × Bool)→World→Prop} (hJ:JExt J) {wz:World} (hn:n₀≤wz.heap.size) {g s0:Nat} {cs:Array Value} {y:UInt8} {l:List UInt8} {pre:List (ByteArray × Bool)} {w w':World} {b1 b2:Bool} (h:TV n₀ J wz g s0 cs y l pre b1 b2 false w) (hx:Ext w w') :
  J pre w'∧Kp n₀ wz w'∧w'.heap[g]? = some (.cells cs 72 (0,0)) :=
 ⟨hJ _ _ _ h.1 hx,h.2.1.trans (Kp.of_ext hx (Nat.le_trans hn h.2.1.1.size)),(Below.block hx g (Array.getElem?_eq_some_iff.1 h.2.2.1).1).trans h.2.2.1⟩
theorem guard_i64 {i:Int} (h:¬ i<0):∃ k:Nat,i=(k:Int):=⟨i.toNat,by omega⟩
set_option maxHeartbeats 1600000 in
set_option maxRecDepth 100000 in
theorem
    vis_any
        (l gD gY gV n₀ N:Nat) (aD:Option Addr) (cD:Nat) (D:List Nd) (wW:World) (hWB:wW.heap.size≤n₀) (hD:DawgS wW aD D) (hDl:D.length≤9223372036854775807) (hC:CsOk D)
  (J Jx:List (ByteArray × Bool)→World→Prop) (hJ:JExt J) (hJx:JExt Jx)
  (hY:∀ pre (x:ByteArray × Bool) W,J pre W→pre.length<N→YieldAt Fence.wide 8 Tryd.prog l #[.string x.1,.bool x.2] W fun e W' =>
   (e=.returned (.bool true)∧J (pre ++ [x]) W'∧Kp n₀ W W')∨(e=.returned (.bool false)∧Jx (pre ++ [x]) W')) :
  ∀
   (m:Nat) (i:Int) (ws:List UInt8) (aw:Option Addr) (cw:Nat) (pre:List (ByteArray × Bool)) (W:World),m+ws.length=22→1≤m→ByteR W aw ws→ws.length≤cw→VBy l gD gY gV aD D.length cD W→n₀≤W.heap.size→Below n₀ wW W→J pre W →
   pre.length+(visitL D m i ws).1.length≤N→Calls Tryd.prog 60 #[.int .i64 i,.slice aw ws.length cw,.pointer (some ⟨gD,0,none⟩),.pointer (some ⟨gY,0,none⟩),.pointer (some ⟨gV,0,none⟩)] W (VisP n₀ J Jx (visitL D m i ws) pre W):=by
 intro m
 induction m with
 | zero=>intro i ws aw cw pre W _ h;omega
 | succ m ih
       =>
  intro i ws aw cw pre W hm _ hB hcw hV hn hW hJp hN
  obtain ⟨q,hq⟩:∃ q,visitL D (m+1) i ws=q:=⟨_,rfl⟩
  rw [hq] at hN ⊢
  have HYY:=Lib.hid hY;have HJ:=Lib.hid hJ;have HJX:=Lib.hid hJx;have HD:=Lib.hid hD;have HC:=Lib.hid hC;have IH:=Lib.hid ih;have HB:=Lib.hid hB;have HV:=Lib.hid hV;have HW:=Lib.hid hW;have HJP:=Lib.hid hJp;have HN:=Lib.hid hN;have HQ:=Lib.hid hq
  clear hY hJ hJx hD hC ih hB hV hW hJp hN hq
  obtain ⟨hcd,hcy,hcv⟩:=HV.out.cells
  by_cases hi0:i<0
  ·
   have HI0:=Lib.hid hi0
   have hq2:q=([(⟨#[]⟩,false)],false):=by rw [← HQ.out,visitL,if_pos (by simp [failV,HI0.out])]
   obtain ⟨fn,tmps,assign,body,hy,hR⟩:=YieldAt.anyD 8 (HYY.out pre (⟨#[]⟩,false) W HJP.out (by have:=HN.out;rw [hq2] at this;simp at this;omega))
   dsimp only at hy
   have HQ2:=Lib.hid hq2
   have HR:=Lib.hid hR
   clear hq2 hR
   go_enter Tryd.func60,Tryd.ntmps60
   go_upto_region 2 with fail
   refine (wpIn_wide (n:=9)).1 ?_
   gi_wp2
   refine HR.out.mono ?_
   rintro e W2 (⟨rfl,hj2,hk2⟩ | ⟨rfl,hj2⟩)
   ·
    dsimp only
    apply_assumption -exfalso
    gi_wp2
    try apply_assumption -exfalso
    go_wp2_with fail
    go_ret
    rw [HQ2.out]
    exact .inr (.inl ⟨rfl,rfl,hj2⟩)
   ·
    dsimp only
    apply_assumption -exfalso
    gi_wp2
    try apply_assumption -exfalso
    go_wp2_with fail
    go_ret
    rw [HQ2.out]
    exact .inr (.inr ⟨rfl,_,List.prefix_refl _,hj2⟩)
  by_cases hge:(D.length:Int)≤i
  ·
   have HGE:=Lib.hid hge
   have hq2:q=([(⟨#[]⟩,false)],false):=by rw [← HQ.out,visitL,if_pos (by simp [failV,HGE.out])]
   obtain ⟨fn,tmps,assign,body,hy,hR⟩:=YieldAt.anyD 8 (HYY.out pre (⟨#[]⟩,false) W HJP.out (by have:=HN.out;rw [hq2] at this;simp at this;omega))
   dsimp only at hy
   have HQ2:=Lib.hid hq2
   have HR:=Lib.hid hR
   clear hq2 hR
   go_enter Tryd.func60,Tryd.ntmps60
   go_upto_region 2 with fail
   refine (wpIn_wide (n:=9)).1 ?_
   gi_wp2
   refine HR.out.mono ?_
   rintro e W2 (⟨rfl,hj2,hk2⟩ | ⟨rfl,hj2⟩)
   ·
    dsimp only
    apply_assumption -exfalso
    gi_wp2
    try apply_assumption -exfalso
    go_wp2_with fail
    go_ret
    rw [HQ2.out]
    exact .inr (.inl ⟨rfl,rfl,hj2⟩)
   ·
    dsimp only
    apply_assumption -exfalso
    gi_wp2
    try apply_assumption -exfalso
    go_wp2_with fail
    go_ret
    rw [HQ2.out]
    exact .inr (.inr ⟨rfl,_,List.prefix_refl _,hj2⟩)
  obtain ⟨k,rfl⟩:=guard_i64 hi0
  have hkD:k<D.length:=by omega
  have hkI:¬ (D.length:Int)≤(k:Int):=hge
  by_cases h20:20<ws.length
  ·
   have h20I:(20:Int)<(ws.length:Int):=by omega
   have H20:=Lib.hid h20
   clear h20
   have hq2:q=([(⟨#[]⟩,false)],false):=by rw [← HQ.out,visitL,if_pos (by simp [failV,H20.out])]
   obtain ⟨fn,tmps,assign,body,hy,hR⟩:=YieldAt.anyD 8 (HYY.out pre (⟨#[]⟩,false) W HJP.out (by have:=HN.out;rw [hq2] at this;simp at this;omega))
   dsimp only at hy
   have HQ2:=Lib.hid hq2
   have HR:=Lib.hid hR
   clear hq2 hR
   go_enter Tryd.func60,Tryd.ntmps60
   go_upto_region 2 with fail
   refine (wpIn_wide (n:=9)).1 ?_
   gi_wp2
   refine HR.out.mono ?_
   rintro e W2 (⟨rfl,hj2,hk2⟩ | ⟨rfl,hj2⟩)
   ·
    dsimp only
    apply_assumption -exfalso
    gi_wp2
    try apply_assumption -exfalso
    go_wp2_with fail
    go_ret
    rw [HQ2.out]
    exact .inr (.inl ⟨rfl,rfl,hj2⟩)
   ·
    dsimp only
    apply_assumption -exfalso
    gi_wp2
    try apply_assumption -exfalso
    go_wp2_with fail
    go_ret
    rw [HQ2.out]
    exact .inr (.inr ⟨rfl,_,List.prefix_refl _,hj2⟩)
  have h20I:¬ (20:Int)<(ws.length:Int):=by omega
  obtain ⟨bN,oN,haN,hbN,f0,aa,cc,f1,hXl,hXs⟩:=HD.out.at hkD
  have hidxN:=idx_nodes aD bN oN D.length cD k haN hkD
  have hgi:D.getD k default=D[k]:=by rw [List.getD_eq_getElem?_getD,List.getElem?_eq_getElem hkD];rfl
  have hCk:=HC.out k hkD
  obtain ⟨nd0,hnd0⟩:∃ nd0,D[k]=nd0:=⟨_,rfl⟩
  rw [hnd0] at f0 f1 hXl hXs hgi hCk
  obtain ⟨f,X⟩:=nd0
  simp only at f0 f1 hXl hXs hCk
  have c0:=(HW.out.cell (p:=⟨bN,oN+k*2,none⟩) (by show bN<n₀;omega)).trans f0
  have c1:=(HW.out.cell (p:=⟨bN,oN+k*2+1,none⟩) (by show bN<n₀;omega)).trans f1
  have HF0:=Lib.hid f0;have HF1:=Lib.hid f1;have HXS:=Lib.hid hXs;have HGI:=Lib.hid hgi;have HCK:=Lib.hid hCk
  clear f0 f1 hXs hgi hCk hnd0 haN
  by_cases hdead:f=false∧X=[]
  ·
   obtain ⟨rfl,rfl⟩:=hdead
   have hq2:q=([(⟨#[]⟩,false)],false):=by rw [← HQ.out,visitL,if_pos (by unfold failV;rw [Int.toNat_natCast,HGI.out];simp)]
   obtain ⟨fn,tmps,assign,body,hy,hR⟩:=YieldAt.anyD 8 (HYY.out pre (⟨#[]⟩,false) W HJP.out (by have:=HN.out;rw [hq2] at this;simp at this;omega))
   dsimp only at hy
   have HQ2:=Lib.hid hq2
   have HR:=Lib.hid hR
   clear hq2 hR
   simp only [List.length_nil] at c1
   go_enter Tryd.func60,Tryd.ntmps60
   go_upto_region 2 with fail
   refine (wpIn_wide (n:=9)).1 ?_
   gi_wp2
   refine HR.out.mono ?_
   rintro e W2 (⟨rfl,hj2,hk2⟩ | ⟨rfl,hj2⟩)
   ·
    dsimp only
    apply_assumption -exfalso
    gi_wp2
    try apply_assumption -exfalso
    go_wp2_with fail
    go_ret
    rw [HQ2.out]
    exact .inr (.inl ⟨rfl,rfl,hj2⟩)
   ·
    dsimp only
    apply_assumption -exfalso
    gi_wp2
    try apply_assumption -exfalso
    go_wp2_with fail
    go_ret
    rw [HQ2.out]
    exact .inr (.inr ⟨rfl,_,List.prefix_refl _,hj2⟩)
  have HDEAD:=Lib.hid hdead
  obtain ⟨L1,hL1⟩:∃ L1:List (ByteArray × Bool),(if f=true then [(⟨ws.toArray⟩,true)] else [])=L1:=⟨_,rfl⟩
  obtain ⟨FA,hFA⟩:∃ FA,armsL (visitL D m) ws X=FA:=⟨_,rfl⟩
  have hq3:q=(L1 ++ FA.1,FA.2):=by
   rw [← HQ.out,visitL,if_neg (by unfold failV;rw [Int.toNat_natCast,HGI.out];simp;simp at hdead;exact ⟨⟨by omega,by omega⟩,hdead⟩),Int.toNat_natCast,HGI.out,← hL1,← hFA]
  have HQ3:=Lib.hid hq3;have HL1:=Lib.hid hL1;have HFA:=Lib.hid hFA
  have hws:ws.length≤20:=by omega
  have HAN:Hid (aw=none→ws.length=0):=fun e=>by
   rcases HB.out with ⟨_,h⟩ | ⟨b,cs,h,_⟩
   · rw [h];rfl
   · rw [e] at h;cases h
  clear hq3 hL1 hFA hdead h20 hge hi0
  go_enter Tryd.func60,Tryd.ntmps60
  go_upto_region 1 with fail
  go_cut [39] (fun s39 wx=>∃ wz,wz=wx∧wz=W∧s39=.bool false)
  case first =>
   cases f with
   | true =>
    go_wp2
    go_meet
    exact ⟨_,rfl,rfl,rfl⟩
   | false =>
    have hx0:((X.length:Int) == 0)=false:=by
     have:=HDEAD.out
     cases X with
     | nil=>simp at this
     | cons=>simp;omega
    go_wp2
    go_meet
    exact ⟨_,rfl,rfl,rfl⟩
  case rest
       =>
   obtain ⟨wz,rfl,rfl,rfl⟩:=hcut
   apply_assumption -exfalso
   go_upto_region 4 with fail
   go_cut [53] (fun s53 wx=>∃ wz2,wz2=wx∧((s53=.bool false∧J (pre ++ L1) wz2∧Kp n₀ wz wz2)∨(s53=.bool true∧Jx (pre ++ L1) wz2)))
   case first =>
    cases f with
    | true =>
     obtain ⟨fn,tmps,assign,body,hy,hR⟩:=YieldAt.anyD 8 (HYY.out pre (⟨ws.toArray⟩,true) wz HJP.out (by have:=HN.out;rw [HQ3.out,← HL1.out] at this;simp at this;omega))
     dsimp only at hy
     have HR:=Lib.hid hR
     clear hR
     have hconv:=conv_bytes HB.out cw
     refine (wpIn_wide (n:=9)).1 ?_
     gi_wp2
     refine HR.out.mono ?_
     rintro e W2 (⟨rfl,hj2,hk2⟩ | ⟨rfl,hj2⟩)
     ·
      dsimp only
      apply_assumption -exfalso
      gi_wp2
      go_meet
      exact ⟨_,rfl,.inl ⟨rfl,by rw [← HL1.out];exact hj2,hk2⟩⟩
     ·
      dsimp only
      apply_assumption -exfalso
      gi_wp2
      go_meet
      exact ⟨_,rfl,.inr ⟨rfl,by rw [← HL1.out];exact hj2⟩⟩
    | false =>
     go_wp2
     go_meet
     exact ⟨_,rfl,.inl ⟨rfl,by rw [← HL1.out];simpa using HJP.out,Kp.refl _ _⟩⟩
   case rest
        =>
    obtain ⟨wz2,rfl,hor⟩:=hcut
    apply_assumption -exfalso
    rcases hor with ⟨rfl,hj2,hk2⟩ | ⟨rfl,hj2⟩
    ·
     have HV2:=Lib.hid (HV.out.kp hk2)
     have HW2:=Lib.hid (HW.out.trans hk2.1)
     have HJ2:=Lib.hid hj2;have HK2:=Lib.hid hk2
     obtain ⟨hcd2, -, -⟩:=HV2.out.cells
     have c1b:=(HW2.out.cell (p:=⟨bN,oN+k*2+1,none⟩) (by show bN<n₀;omega)).trans HF1.out
     clear hcd hcy hcv c0 c1 hj2 hk2
     go_wp2_with fail
     go_loopw [60] (fun s60 wr=>∃ (j:Nat) (S:List (ByteArray × Bool)),j≤X.length∧s60=.int .i64 (j:Int)∧J (pre ++ S) wr∧Kp n₀ wz wr∧S ++ (armsL (visitL D m) ws (X.drop j)).1=L1 ++ FA.1∧(armsL (visitL D m) ws (X.drop j)).2=FA.2) (fun s60 _=>X.length - (intOf s60).toNat)
     case atStart=>exact ⟨0,L1,Nat.zero_le _,rfl,HJ2.out,HK2.out,by rw [List.drop_zero,HFA.out],by rw [List.drop_zero,HFA.out]⟩
     case round =>
      obtain ⟨j,S,hj,rfl,hjs,hks,hS1,hS2⟩:=hrel
      have HJS:=Lib.hid hjs;have HKS:=Lib.hid hks;have HS1:=Lib.hid hS1;have HS2:=Lib.hid hS2
      have hnr:n₀≤wr.heap.size:=Nat.le_trans hn hks.1.size
      clear hjs hks hS1 hS2
      by_cases hjX:j<X.length
      ·
       obtain ⟨b3,o3,ha3,hb3,q0,q1⟩:=HXS.out.at hjX
       have hidx3:=idx_arcs aa b3 o3 X.length cc j ha3 hjX
       have hck:=HCK.out X[j] (List.getElem_mem hjX)
       have hdr:=List.drop_eq_getElem_cons hjX
       obtain ⟨x,hx⟩:∃ x,X[j]=x:=⟨_,rfl⟩
       rw [hx] at q0 q1 hck hdr
       obtain ⟨xc,xt⟩:=x
       simp only at q0 q1 hck
       obtain ⟨y,hy,hy2⟩:∃ y:UInt8,xc=(y.toNat:Int)∧UInt8.ofNat xc.toNat=y:=⟨UInt8.ofNat xc.toNat,by rw [UInt8.toNat_ofNat'];omega,rfl⟩
       obtain ⟨q2,hq2⟩:∃ q2,visitL D m xt (ws ++ [y])=q2:=⟨_,rfl⟩
       have harm:armsL (visitL D m) ws (X.drop j)=if q2.2=true then (q2.1 ++ (armsL (visitL D m) ws (X.drop (j+1))).1,(armsL (visitL D m) ws (X.drop (j+1))).2) else (q2.1,false):=by
        rw [hdr,armsL];simp only [hy2,hq2]
       subst hy
       have HARM:=Lib.hid harm;have HQ2:=Lib.hid hq2
       have c3:=((HW.out.trans HKS.out.1).cell (p:=⟨b3,o3+j*2,none⟩) (by show b3<n₀;omega)).trans q0
       have c4:=((HW.out.trans HKS.out.1).cell (p:=⟨b3,o3+j*2+1,none⟩) (by show b3<n₀;omega)).trans q1
       have hpf:(S ++ q2.1) <+: (L1 ++ FA.1):=by
        rw [← HS1.out,harm]
        split
        · exact List.prefix_append_right_inj _ |>.2 (List.prefix_append _ _)
        · exact List.prefix_refl _
       have HPF:=Lib.hid hpf
       have hNN:(pre ++ S).length+q2.1.length≤N:=by
        have h1:=HN.out
        have h2:=hpf.length_le
        rw [HQ3.out] at h1
        simp only [List.length_append] at h1 h2 ⊢
        omega
       clear ha3 hx hdr q0 q1 hck harm hq2 hy2 hpf
       go_upto_region 9 with fail
       obtain ⟨wy,hwy⟩:∃ wy,wy=wr.alloc (.cells #[.int .u8 (y.toNat:Int),.int .i64 xt] 72):=⟨_,rfl⟩
       have HTY:Hid (TV n₀ J wz wr.heap.size wy.heap.size #[.int .u8 (y.toNat:Int),.int .i64 xt] y (ws ++ [y]) (pre ++ S) false false false wy):=by
        have hxx:Ext wr wy:=by rw [hwy];exact (Below.refl _ _).alloc (Nat.le_refl _) _
        exact ⟨HJ.out _ _ _ HJS.out hxx,HKS.out.trans (Kp.of_ext hxx hnr),by rw [hwy];exact heap_alloc_new _ _,fun _=>rfl,fun h=>(by cases h),fun h=>(by cases h)⟩
       rw [← hwy]
       clear hwy
       refine wp_region_st (by kernel_rfl) (Vs [vq (.func (.func 60) #[] #[.pointer (some ⟨gD,0,none⟩),.pointer (some ⟨gY,0,none⟩),.pointer (some ⟨gV,0,none⟩)]),vq (.pointer (some ⟨wr.heap.size,1,none⟩)),vq (.int .i64 xt),vq (.slice aw ws.length cw),vq (.slice aw ws.length cw),vq (.int .i64 (ws.length:Int)),vq (.slice aw ws.length cw),vq (.int .i64 (ws.length:Int)),vq (.slice aw ws.length ws.length),vq (.pointer (some ⟨wr.heap.size,0,none⟩)),vq (.int .u8 (y.toNat:Int)),vq (.slice (some ⟨wy.heap.size,0,none⟩) 1 1),RowC (wy.heap.size+1) (ws ++ [y]).length,PV true n₀ J Jx wz pre S q2,PV false n₀ J Jx wz pre S q2]) (Xs [Ext,Ext,Ext,Ext,Ext,Ext,Ext,Ext,Ext,Ext,Ext,(Ext),(Ext),(fun _ _=>True),Ext]) (fun fL=>(fun b1 b2 b3 W=>TV n₀ J wz wr.heap.size wy.heap.size #[.int .u8 (y.toNat:Int),.int .i64 xt] y (ws ++ [y]) (pre ++ S) b1 b2 b3 W) (fL 11) (fL 12) (fL 13)) [0,0,2,0,0,16,0,64,248,0,512,1536,4088,8191,16383] 80 15 (by kernel_rfl) rfl ?hV ?hS ?hop ?hfin ?hlast
       case hV =>
        refine xs_stays (vs_stays (by simp only [List.mem_cons,List.not_mem_nil,or_false,forall_eq_or_imp,forall_eq];exact ⟨stays_const _,stays_const _,stays_const _,stays_const _,stays_const _,stays_const _,stays_const _,stays_const _,stays_const _,stays_const _,stays_const _,stays_const _,rowC_stays _ _,pv_stays HJ.out HJX.out hn,pv_stays HJ.out HJX.out hn⟩)) ?_
        exact ⟨.inl rfl,.inl rfl,.inl rfl,.inl rfl,.inl rfl,.inl rfl,.inl rfl,.inl rfl,.inl rfl,.inl rfl,.inl rfl,.inr (staysM_all ⟨fun _ _=>fun _ _ _ h _=>h,fun _ _=>fun _ _ _ h _=>h,fun _ _=>fun _ _ _ h _=>h,fun _ _=>fun _ _ _ h _=>h,fun _ _=>fun _ _ _ h _=>h,fun _ _=>fun _ _ _ h _=>h,fun _ _=>fun _ _ _ h _=>h,fun _ _=>fun _ _ _ h _=>h,fun _ _=>fun _ _ _ h _=>h,fun _ _=>fun _ _ _ h _=>h,fun _ _=>fun _ _ _ h _=>h,fun h=>absurd rfl h,fun _ h=>absurd h (by decide),fun _ h=>absurd h (by decide),fun _ h=>absurd h (by decide),trivial⟩),.inr (staysM_all ⟨fun _ _=>fun _ _ _ h _=>h,fun _ _=>fun _ _ _ h _=>h,fun _ _=>fun _ _ _ h _=>h,fun _ _=>fun _ _ _ h _=>h,fun _ _=>fun _ _ _ h _=>h,fun _ _=>fun _ _ _ h _=>h,fun _ _=>fun _ _ _ h _=>h,fun _ _=>fun _ _ _ h _=>h,fun _ _=>fun _ _ _ h _=>h,fun _ _=>fun _ _ _ h _=>h,fun _ _=>fun _ _ _ h _=>h,fun _ _=>fun _ _ _ h _=>h,fun h=>absurd rfl h,fun _ h=>absurd h (by decide),fun _ h=>absurd h (by decide),trivial⟩),.inr (staysM_all ⟨fun _ _=>fun _ _ _ h _=>h,fun _ _=>fun _ _ _ h _=>h,fun _ _=>fun _ _ _ h _=>h,fun _ _=>fun _ _ _ h _=>h,fun _ _=>fun _ _ _ h _=>h,fun _ _=>fun _ _ _ h _=>h,fun _ _=>fun _ _ _ h _=>h,fun _ _=>fun _ _ _ h _=>h,fun _ _=>fun _ _ _ h _=>h,fun _ _=>fun _ _ _ h _=>h,fun _ _=>fun _ _ _ h _=>h,fun _ _=>fun _ _ _ h _=>h,fun _ _=>fun _ _ _ h _=>h,fun h=>absurd rfl h,fun _ h=>absurd h (by decide),trivial⟩),.inl rfl,trivial⟩
       case hS =>
        intro fL hf
        show (fun b1 b2 b3 W=>TV n₀ J wz wr.heap.size wy.heap.size #[.int .u8 (y.toNat:Int),.int .i64 xt] y (ws ++ [y]) (pre ++ S) b1 b2 b3 W) (fL 11) (fL 12) (fL 13) _
        rw [hf 11 (by decide),hf 12 (by decide),hf 13 (by decide)]
        have hxd:Ext wy { heap:=wy.heap,tape:=wy.tape,drawn:=wy.drawn+1,os:=wy.os,output:=wy.output }:=⟨rfl,rfl,rfl,Nat.le_refl _,fun _ _=>rfl⟩
        obtain ⟨k1,k2,k3⟩:=TV.keep HJ.out hn HTY.out hxd
        exact ⟨k1,k2,k3,fun _=>rfl,fun h=>(by cases h),fun h=>(by cases h)⟩
       case hop =>
        refine ⟨?c0,?_,?c2,?_,?_,?_,?_,?_,?c8,?_,?c10,?c11,?c12,?c13,?c14,trivial⟩
        all_goals first | rw [if_neg (by decide)] | rw [if_pos (by decide)]
        all_goals try intro ac W fL hsz hfi hms hdn hS0 hdep hbase hund
        all_goals try have hS:(fun b1 b2 b3 W=>TV n₀ J wz wr.heap.size wy.heap.size #[.int .u8 (y.toNat:Int),.int .i64 xt] y (ws ++ [y]) (pre ++ S) b1 b2 b3 W) (fL 11) (fL 12) (fL 13) W:=hS0
        all_goals try (have hfl11:fL 11=true:=hms 11 (by decide);rw [hfl11] at hS)
        all_goals try (have hfl11:fL 11=false:=(by first | exact hfi | exact hdn 11 (by decide) (by decide));rw [hfl11] at hS)
        all_goals try (have hfl12:fL 12=true:=hms 12 (by decide);rw [hfl12] at hS)
        all_goals try (have hfl12:fL 12=false:=(by first | exact hfi | exact hdn 12 (by decide) (by decide));rw [hfl12] at hS)
        all_goals try (have hfl13:fL 13=true:=hms 13 (by decide);rw [hfl13] at hS)
        all_goals try (have hfl13:fL 13=false:=(by first | exact hfi | exact hdn 13 (by decide) (by decide));rw [hfl13] at hS)
        all_goals try have hh4:=gdA ac 4 (.pointer (some ⟨gV,0,none⟩)) (hbase 4 (by kernel_rfl))
        all_goals try have hh9:=gdA ac 9 (.pointer (some ⟨wr.heap.size,0,none⟩)) (hbase 9 (by kernel_rfl))
        all_goals try (have h1:ac.tmps.getD 1 undef=.slice aw ws.length cw:=hbase 1 (by kernel_rfl);have hh1:=h1;rw [Array.getD_eq_getD_getElem?] at hh1)
        all_goals try (have d72:ac.tmps.getD 72 undef=.slice aw ws.length ws.length:=hdep 8 (by decide);have dd72:=d72;rw [Array.getD_eq_getD_getElem?] at dd72)
        all_goals try (have d75:ac.tmps.getD 75 undef=.slice (some ⟨wy.heap.size,0,none⟩) 1 1:=hdep 11 (by decide);have dd75:=d75;rw [Array.getD_eq_getD_getElem?] at dd75)
        all_goals try have d76:(RowC (wy.heap.size+1) (ws ++ [y]).length) (ac.tmps.getD 76 undef) W:=hdep 12 (by decide)
        all_goals try have d77:(PV true n₀ J Jx wz pre S q2) (ac.tmps.getD 77 undef) W:=hdep 13 (by decide)
        all_goals try (have hdep:=depL hdep;simp [DepL,slotOf,vq] at hdep)
        all_goals try clear hbase hms hdn hund
        case c0 =>
         have hS1:(fun b1 b2 b3 W=>TV n₀ J wz wr.heap.size wy.heap.size #[.int .u8 (y.toNat:Int),.int .i64 xt] y (ws ++ [y]) (pre ++ S) b1 b2 b3 W) ((upd fL 0) 11) ((upd fL 0) 12) ((upd fL 0) 13) W:=hS0
         have hvv:=(HV.out.kp hS.2.1).cells.2.2
         refine opOk_run rfl (.inl ⟨_,W,?_,rfl,Ext.refl _,hS1⟩)
         clear hsz hS hS0 hS1 hfi;simp [go_sem,Act.eval, *]
        case c2 =>
         have hS1:(fun b1 b2 b3 W=>TV n₀ J wz wr.heap.size wy.heap.size #[.int .u8 (y.toNat:Int),.int .i64 xt] y (ws ++ [y]) (pre ++ S) b1 b2 b3 W) ((upd fL 2) 11) ((upd fL 2) 12) ((upd fL 2) 13) W:=hS0
         obtain ⟨v0,v1⟩:=cells2 hS.2.2.1
         refine opOk_run rfl (.inl ⟨_,W,?_,rfl,Ext.refl _,hS1⟩)
         clear hsz hS hS0 hS1 hfi;simp [go_sem,Act.eval, *]
        case c8 =>
         have hS1:(fun b1 b2 b3 W=>TV n₀ J wz wr.heap.size wy.heap.size #[.int .u8 (y.toNat:Int),.int .i64 xt] y (ws ++ [y]) (pre ++ S) b1 b2 b3 W) ((upd fL 8) 11) ((upd fL 8) 12) ((upd fL 8) 13) W:=hS0
         have hsl:=slice_full aw ws.length cw hcw HAN.out
         refine opOk_run rfl (.inl ⟨_,W,?_,rfl,Ext.refl _,hS1⟩)
         clear hsz hS hS0 hS1 hfi;simp [go_sem,Act.eval, *]
        case c10 =>
         have hS1:(fun b1 b2 b3 W=>TV n₀ J wz wr.heap.size wy.heap.size #[.int .u8 (y.toNat:Int),.int .i64 xt] y (ws ++ [y]) (pre ++ S) b1 b2 b3 W) ((upd fL 10) 11) ((upd fL 10) 12) ((upd fL 10) 13) W:=hS0
         obtain ⟨v0,v1⟩:=cells2 hS.2.2.1
         refine opOk_run rfl (.inl ⟨_,W,?_,rfl,Ext.refl _,hS1⟩)
         clear hsz hS hS0 hS1 hfi;simp [go_sem,Act.eval, *]
        case c11 =>
         have hs75:W.heap.size=wy.heap.size:=hS.2.2.2.1 rfl
         have hx75:Ext W (W.alloc (.cells #[.int .u8 (y.toNat:Int)] 5)):=(Below.refl _ _).alloc (Nat.le_refl _) _
         obtain ⟨k1,k2,k3⟩:=TV.keep HJ.out hn hS hx75
         refine opOk_run rfl (.inl ⟨.slice (some ⟨W.heap.size,0,none⟩) 1 1,W.alloc (.cells #[.int .u8 (y.toNat:Int)] 5),?_,(by show _=_;rw [hs75]),hx75,?_⟩)
         · clear hsz hS hS0 hfi k1 k2 k3 hx75;simp [go_sem,Act.eval, *]
         ·
          show TV n₀ J wz wr.heap.size wy.heap.size #[.int .u8 (y.toNat:Int),.int .i64 xt] y (ws ++ [y]) (pre ++ S) (upd fL 11 11) (upd fL 11 12) (upd fL 11 13) _
          rw [show upd fL 11 11=true from if_pos rfl,show upd fL 11 12=fL 12 from if_neg (by decide),show upd fL 11 13=fL 13 from if_neg (by decide),hfl12,hfl13]
          exact ⟨k1,k2,k3,fun _=>(by rw [World.size_alloc,hs75];rfl),fun _=>(by rw [← hs75];exact heap_alloc_new _ _),fun h=>(by cases h)⟩
        case c12 =>
         have hs76:W.heap.size=wy.heap.size+1:=hS.2.2.2.1 rfl
         have hr76:=hS.2.2.2.2.1 rfl
         have hlt76:=(Array.getElem?_eq_some_iff.1 hr76).1
         refine opOk_run rfl ((opres_app_byte (HB.out.kp hS.2.1) (by omega) hr76 rfl (eval_tmp d72) (eval_tmp d75)).mono ?_)
         rintro v w' ⟨hrc,hrb,hxx⟩
         rw [hs76] at hrc hrb
         obtain ⟨k1,k2,k3⟩:=TV.keep HJ.out hn hS hxx
         refine ⟨hrc,hxx,?_⟩
         show TV n₀ J wz wr.heap.size wy.heap.size #[.int .u8 (y.toNat:Int),.int .i64 xt] y (ws ++ [y]) (pre ++ S) (upd fL 12 11) (upd fL 12 12) (upd fL 12 13) _
         rw [show upd fL 12 12=true from if_pos rfl,show upd fL 12 11=fL 11 from if_neg (by decide),show upd fL 12 13=fL 13 from if_neg (by decide),hfl11,hfl13]
         exact ⟨k1,k2,k3,fun h=>(by cases h),fun _=>(Below.block hxx _ hlt76).trans hr76,fun _=>hrb⟩
        case c13 =>
         obtain ⟨c76,e76,hc76⟩:=d76
         have ee76:=e76;rw [Array.getD_eq_getD_getElem?] at ee76
         have hb76:=hS.2.2.2.2.2 rfl
         have hcl:=IH.out xt (ws ++ [y]) (some ⟨wy.heap.size+1,0,none⟩) c76 (pre ++ S) W (by simp;omega) (by omega) hb76 hc76 (HV.out.kp hS.2.1) (Nat.le_trans hn hS.2.1.1.size) (HW.out.trans hS.2.1.1) hS.1 (by rw [HQ2.out];exact hNN)
         rw [HQ2.out] at hcl
         have hkk:=hS.2.1
         refine opOk_run rfl (.inr ⟨60,#[.int .i64 xt,.slice (some ⟨wy.heap.size+1,0,none⟩) (ws ++ [y]).length c76,.pointer (some ⟨gD,0,none⟩),.pointer (some ⟨gY,0,none⟩),.pointer (some ⟨gV,0,none⟩)],W,by (clear hsz hS hS0 hfi hcl hkk hb76;simp [go_sem,Act.eval, *]),?_⟩)
         refine hcl.mono ?_
         clear hcl
         have hfin77:∀ w',TV n₀ J wz wr.heap.size wy.heap.size #[.int .u8 (y.toNat:Int),.int .i64 xt] y (ws ++ [y]) (pre ++ S) (upd fL 13 11) (upd fL 13 12) (upd fL 13 13) w':=fun w'=>by
          rw [show upd fL 13 13=true from if_pos rfl];trivial
         rintro e w' (⟨rfl,h1,h2,h3⟩ | ⟨rfl,h1,h2⟩ | ⟨rfl,p,h1,h2⟩)
         · exact ⟨_,rfl,.inl ⟨rfl,h1,by rw [← List.append_assoc];exact h2,hkk.trans h3⟩,trivial,hfin77 _⟩
         · exact ⟨_,rfl,.inr ⟨rfl,.inl ⟨h1,by rw [← List.append_assoc];exact h2⟩⟩,trivial,hfin77 _⟩
         · exact ⟨_,rfl,.inr ⟨rfl,.inr ⟨p,h1,by rw [← List.append_assoc];exact h2⟩⟩,trivial,hfin77 _⟩
        case c14 =>
         have hS1:(fun b1 b2 b3 W=>TV n₀ J wz wr.heap.size wy.heap.size #[.int .u8 (y.toNat:Int),.int .i64 xt] y (ws ++ [y]) (pre ++ S) b1 b2 b3 W) ((upd fL 14) 11) ((upd fL 14) 12) ((upd fL 14) 13) W:=hS0
         rcases d77 with ⟨e77,h77⟩ | ⟨e77,h77⟩
         ·
          rw [Array.getD_eq_getD_getElem?] at e77
          refine opOk_run rfl (.inl ⟨.bool false,W,?_,.inl ⟨rfl,h77⟩,Ext.refl _,hS1⟩)
          clear hsz hS hS0 hS1 hfi h77;simp [go_sem,Act.eval, *]
         ·
          rw [Array.getD_eq_getD_getElem?] at e77
          refine opOk_run rfl (.inl ⟨.bool true,W,?_,.inr ⟨rfl,h77⟩,Ext.refl _,hS1⟩)
          clear hsz hS hS0 hS1 hfi h77;simp [go_sem,Act.eval, *]
        all_goals (refine opOk_run rfl (.inl ⟨_,W,?_,rfl,Ext.refl _,hS0⟩);clear hsz hS hS0 hfi;simp [go_sem,Act.eval, *];done)
       case hlast =>
        intro h;exact absurd rfl h
       case hfin =>
        intro _ ac W hsz hdf fL hf hS0 hv hbase
        have hS:(fun b1 b2 b3 W=>TV n₀ J wz wr.heap.size wy.heap.size #[.int .u8 (y.toNat:Int),.int .i64 xt] y (ws ++ [y]) (pre ++ S) b1 b2 b3 W) (fL 11) (fL 12) (fL 13) W:=hS0
        clear hS0
        rw [hf 11 (by decide),hf 12 (by decide),hf 13 (by decide)] at hS
        obtain ⟨sx,hsx,hsA⟩:=act_puts [64,65,66,67,68,69,70,71,72,73,74,75,76,77,78] (by kernel_rfl) hsz hdf hbase
        have hr78:PV false n₀ J Jx wz pre S q2 (sx 78) W:=by rw [hsx 78];exact hv 14 (by decide)
        rw [hsA]
        simp only [List.foldl]
        simp only [Act.put,List.setIfInBounds_toArray,List.set_cons_succ,List.set_cons_zero]
        clear hsA hsx hv hbase hsz hdf hf
        obtain ⟨v78,hv78⟩:∃ v78,sx 78=v78:=⟨_,rfl⟩
        rw [hv78] at hr78 ⊢
        clear hv78
        rcases hr78 with ⟨rfl,h1,h2,h3⟩ | ⟨rfl,hbad⟩
        ·
         have HJ9:=Lib.hid h2;have HK9:=Lib.hid h3
         have harm9:=HARM.out
         rw [if_pos h1] at harm9
         have hs9:S ++ q2.1 ++ (armsL (visitL D m) ws (X.drop (j+1))).1=L1 ++ FA.1:=by have:=HS1.out;rw [harm9] at this;rw [List.append_assoc];exact this
         have hs9b:(armsL (visitL D m) ws (X.drop (j+1))).2=FA.2:=by have:=HS2.out;rw [harm9] at this;exact this
         have HS9:=Lib.hid hs9;have HS9b:=Lib.hid hs9b
         clear hS h1 h2 h3 harm9 hs9 hs9b
         go_wp2_with fail
         go_roundw
         case rel=>exact ⟨j+1,S ++ q2.1,by omega,by go_num,HJ9.out,HK9.out,HS9.out,HS9b.out⟩
         case measure=>simp [intOf];omega
        ·
         have HBAD:=Lib.hid hbad
         clear hS hbad
         go_wp2_with fail
         go_ret
         rcases HBAD.out with ⟨h1,h2⟩ | ⟨p,h1,h2⟩
         ·
          refine .inr (.inl ⟨rfl,?_,?_⟩)
          · rw [HQ3.out];have:=HS2.out;rw [HARM.out,if_neg (by rw [h1];decide)] at this;exact this.symm
          · rw [HQ3.out];have:=HS1.out;rw [HARM.out,if_neg (by rw [h1];decide)] at this;rw [← this];exact h2
         ·
          refine .inr (.inr ⟨rfl,S ++ p,?_,h2⟩)
          rw [HQ3.out]
          exact ((List.prefix_append_right_inj _).2 h1).trans HPF.out
      ·
       obtain rfl:j=X.length:=by omega
       have h1:=HS1.out;have h2:=HS2.out
       rw [List.drop_length,armsL] at h1 h2
       have HA1:=Lib.hid h1;have HA2:=Lib.hid h2
       clear h1 h2
       go_wp2_with fail
       go_ret
       refine .inl ⟨rfl,?_,?_,HKS.out⟩
       · rw [HQ3.out];exact HA2.out.symm
       ·
        rw [HQ3.out]
        simp only
        rw [← HA1.out,List.append_nil];exact HJS.out
    ·
     go_wp2_with fail
     go_ret
     rw [HQ3.out]
     exact .inr (.inr ⟨rfl,L1,List.prefix_append _ _,hj2⟩)
end Go.Proofs.YthjmdgejnakcmaaDoor
namespace Go.Proofs.YthjmdgejnakcmaaDoor
open Go.RowKit Go.WideShapes
set_option linter.unusedVariables false
set_option linter.unusedSimpArgs false
def w2b (W:World) (l gD:Nat):World:=(W.alloc (Obj.cells #[.func (.yield l) #[] #[]] 128)).alloc (Obj.cells #[.func (.func 60) #[] #[.pointer (some ⟨gD,0,none⟩),.pointer (some ⟨W.heap.size,0,none⟩),.pointer (some ⟨W.heap.size+1,0,none⟩)]] 129)
theorem w2b_ext (W:World) (l gD:Nat):Ext W (w2b W l gD):=((Below.refl _ W).alloc (Nat.le_refl _) _).alloc (by simp only [World.size_alloc];omega) _
theorem w2b_by {W:World} {l gD:Nat} {aD:Option Addr} {nD cD:Nat} (h:W.heap[gD]? = some (.cells #[.slice aD nD cD] 38 (0,0))):VBy l gD W.heap.size (W.heap.size+1) aD nD cD (w2b W l gD):=by
 refine ⟨(Below.block (w2b_ext W l gD) gD (Array.getElem?_eq_some_iff.1 h).1).trans h,?_,?_⟩
 · exact skip (by simp only [World.size_alloc];omega) (heap_alloc_new _ _)
 ·
  have h:=heap_alloc_new (W.alloc (Obj.cells #[.func (.yield l) #[] #[]] 128)) (Obj.cells #[.func (.func 60) #[] #[.pointer (some ⟨gD,0,none⟩),.pointer (some ⟨W.heap.size,0,none⟩),.pointer (some ⟨W.heap.size+1,0,none⟩)]] 129)
  simp only [World.size_alloc] at h
  exact h
set_option maxHeartbeats 800000 in
theorem all1_stops (n gD n₀:Nat) (aD:Option Addr) (cD:Nat) (D:List Nd) (wW w:World) (hWB:wW.heap.size≤n₀) (hn:n₀≤w.heap.size) (hb:Below n₀ wW w) (hg:w.heap[gD]? = some (.cells #[.slice aD D.length cD] 38 (0,0))) (hD:DawgS wW aD D) (hDl:D.length≤9223372036854775807) (hC:CsOk D) :
  SeqStopsK Fence.wide n Tryd.prog 59 #[.pointer (some ⟨gD,0,none⟩)] (fun x:ByteArray × Bool=>#[Value.string x.1,Value.bool x.2]) (Kp n₀) (fun ys=>ys=(visitL D 22 0 []).1) (fun pre=>pre <+: (visitL D 22 0 []).1) (visitL D 22 0 []).1.length w:=by
 intro l J Jx W hW hJ hJx hY h0
 refine callsIn_wide.2 ?_
 show Calls _ _ #[.func (.yield l) #[] #[],.pointer (some ⟨gD,0,none⟩)] _ _
 have hgW:W.heap[gD]? = some (.cells #[.slice aD D.length cD] 38 (0,0)):=(hW.block gD (Array.getElem?_eq_some_iff.1 hg).1).trans hg
 have hnW:n₀≤W.heap.size:=Nat.le_trans hn hW.size
 have hVI:=vis_any l gD W.heap.size (W.heap.size+1) n₀ (visitL D 22 0 []).1.length aD cD D wW hWB hD hDl hC J Jx (JExt.of hJ) (JExt.of hJx) (fun pre x W h1 h2=>YieldAt.anyD 8 (hY pre x W h1 h2)) 22 0 [] none 0 [] (w2b W l gD) rfl (by omega) (ByteR.nil _) (Nat.le_refl _) (w2b_by hgW) (Nat.le_trans hnW (w2b_ext W l gD).size) ((hb.trans (hW.mono hn)).trans ((w2b_ext W l gD).mono hnW)) ((JExt.of hJ) _ _ _ h0 (w2b_ext W l gD)) (by simp)
 have HVI:=Lib.hid hVI
 clear hVI hJ hJx hY h0 hD hC
 have hsf:∀ (fn:Fn) (x y:Array Value) (a:Addr) (m:Mode) (w:World),(store a (.func fn x y) m).run Tryd.prog w=stored Tryd.prog w a (.func fn x y) m:=fun fn x y a m w=>run_store Tryd.prog w a (.func fn x y) m rfl
 go_enter Tryd.func59,Tryd.ntmps59
 go_upto_region 3 with fail
 clear hsf
 have hvv:=(w2b_by (l:=l) hgW).cells.2.2
 change Code.wp _ _ _ _ (w2b W l gD)
 obtain ⟨wz,hwz⟩:∃ wz,w2b W l gD=wz:=⟨_,rfl⟩
 rw [hwz] at HVI hvv ⊢
 clear hwz
 go_wp2_with (first
  | (go_at_call 60;refine HVI.out.mono ?_;rintro e w6 (⟨rfl,h1,h2,h3⟩ | ⟨rfl,h1,h2⟩ | ⟨rfl,p,h1,h2⟩)))
 ·
  go_end0
  exact ⟨⟨_,rfl⟩,.inl ⟨_,rfl,by simpa using h2⟩⟩
 ·
  go_end0
  exact ⟨⟨_,rfl⟩,.inl ⟨_,rfl,by simpa using h2⟩⟩
 ·
  go_end0
  exact ⟨⟨_,rfl⟩,.inr ⟨p,h1,by simpa using h2⟩⟩
theorem all_any (a:Option Addr) (n c:Nat) (w:World):Calls Tryd.prog 51 #[.slice a n c] w fun e w'=>e=.returned (.func (.func 59) #[] #[.pointer (some ⟨w.heap.size,0,none⟩)])∧w'=w.alloc (.cells #[.slice a n c] 38):=by
 have hmf:∀ (fn:Fn) (first cap:Array Value) (w:World),(Instr.makeFunc fn first cap).run Tryd.prog w=.ok (.func fn first cap) w:=fun _ _ _ _=>rfl
 go_enter Tryd.func51,Tryd.ntmps51
 go_wp2
 go_ret
 exact ⟨rfl,rfl⟩
end Go.Proofs.YthjmdgejnakcmaaDoor
namespace Go.Proofs.YthjmdgejnakcmaaDoor
open Go.RowKit Go.WideShapes
set_option linter.unusedVariables false
set_option linter.unusedSimpArgs false
attribute [local go_sem] Oper.semAt_some
def colOk (l:List (ByteArray × Bool)):Prop:=(∀ x∈l,x.2=true)∧l.length≤200
theorem colOk.pre {l m:List (ByteArray × Bool)} (h:colOk l) (hp:m <+: l):colOk m:=⟨fun x hx=>h.1 x (hp.subset hx),Nat.le_trans hp.length_le h.2⟩
def fstS (l:List (ByteArray × Bool)):List ByteArray:=l.map Prod.fst
def colI (w:World) (pre:List (ByteArray × Bool)) (W:World):Prop :=
 (((colOk pre∧Boxed W w.heap.size 42 (.slice none 0 0))∧Boxed W (w.heap.size+1) 4 (.bool false))∧(∃ v,Boxed W (w.heap.size+1+1) 42 v∧OwnG rowStr W w.heap.size v (fstS pre)∧True))∧Below w.heap.size w W
def colX (w:World) (c:Code) (pre:List (ByteArray × Bool)) (W:World):Prop :=
 (((c=.ret∧¬ colOk pre)∧Boxed W w.heap.size 42 (.slice none 0 0))∧Boxed W (w.heap.size+1) 4 (.bool false))∧Below w.heap.size w W
theorem colI_own (w:World) (B:Nat) (hB:w.heap.size≤B):OwnFrom B (colI w) :=
 OwnFrom.and (OwnFrom.and (OwnFrom.and (OwnFrom.and (ownFrom_pure _ _) (Own.from (boxed_own _ _ (fun _=>.slice none 0 0)) _)) (Own.from (boxed_own _ _ (fun _=>.bool false)) _))
  (Own.from (holdsRow_own w.heap.size (w.heap.size+1+1) 42 9 1 (fun pre=>(fstS pre).length) (fun pre=>(fstS pre).flatMap rowStr.enc) (fun _ _=>True)) _)) (ownFrom_below (Nat.le_refl _) hB)
theorem colX_own (w:World) (B:Nat) (hB:w.heap.size≤B) (c:Code):OwnFrom B (colX w c) :=
 OwnFrom.and (OwnFrom.and (OwnFrom.and (ownFrom_pure _ _) (Own.from (boxed_own _ _ (fun _=>.slice none 0 0)) _)) (Own.from (boxed_own _ _ (fun _=>.bool false)) _)) (ownFrom_below (Nat.le_refl _) hB)
theorem kp_app {W w1:World} {n₀ B:Nat} {v v':Value} {k:Nat} {xs:List Value} {tmp:Obj} (hv:Boxed W B 42 v) (hrow:W.ownsRow n₀ 9 1 v k xs) (hgrow:(W.alloc tmp).grownBy w1 v.ownBlock) (hb:Below n₀ W (w1.setCell ⟨B,0,none⟩ v')):Kp n₀ W (w1.setCell ⟨B,0,none⟩ v'):=by
 refine ⟨hb,fun q cs t fz hq h1 h2 h3=>?_⟩
 have hqB:q≠B:=fun e=>by
  subst e
  have h4:W.heap[q]? = _:=hv
  rw [hq] at h4;injection h4 with h4;injection h4 with _ h5;exact h2 h5
 have hlt:=(Array.getElem?_eq_some_iff.1 hq).1
 rw [Below.heap_setCell _ _ _ _ hqB,hgrow.block q (by rw [World.size_alloc];omega) ?_]
 · exact Below.heap_alloc _ _ _ hlt
 ·
  intro e
  rcases hrow.2 with ⟨rfl,_⟩ | ⟨g,cap,cur,rfl,_,hgb,_⟩
  · cases e
  ·
   injection e with e
   rw [e] at hq
   rw [show W.heap[g]? = some (.cells cs t fz) from hq] at hgb
   injection hgb with hgb;injection hgb with _ h5;exact h1 h5
def colP (l:List (ByteArray × Bool)) (w:World) (e:Ending) (w':World):Prop :=
 (colOk l∧∃ v,e=.returned (.tuple #[v,.bool true])∧OwnG rowStr w' w.heap.size v (fstS l)∧Below w.heap.size w w')∨(¬ colOk l∧e=.returned (.tuple #[.slice none 0 0,.bool false])∧Below w.heap.size w w')
set_option maxHeartbeats 2000000 in
set_option maxRecDepth 100000 in
theorem
    collect_any (D:List Nd) (a:Option Addr) (c:Nat) (w:World) (hD:DawgS w a D) (hDl:D.length≤9223372036854775807) (hC:CsOk D) :
  Calls Tryd.prog 40 #[.slice a D.length c] w (colP (visitL D 22 0 []).1 w):=by
 obtain ⟨i0,hi,hz0,hz1,hz2⟩:=info_parts rowStr_ok.info
 obtain ⟨LL,hLL⟩:∃ LL,(visitL D 22 0 []).1=LL:=⟨_,rfl⟩
 refine (callsIn_wide (n:=9)).1 ?_
 refine callsIn_of_wp_marks Tryd.func40 rfl trivial ?_ rfl
 simp only [Tryd.ntmps40,List.size_toArray,List.length_cons,List.length_nil,Nat.reduceAdd,Nat.reduceSub,Array.replicate_succ,Array.replicate_zero,List.push_toArray,List.append_toArray,List.nil_append,List.cons_append]
 have hfn:Fence.wide.fn 51:=trivial
 gi_wp2_with (gi_at_call 51;refine (callsIn_wide.2 (all_any _ _ _ _)).mono ?_;rintro e w' ⟨rfl,rfl⟩)
 obtain ⟨w4,hw4⟩:∃ w4,(((w.alloc (Obj.cells #[Value.slice none 0 0] 42)).alloc (Obj.cells #[Value.bool false] 4)).alloc (Obj.cells #[Value.slice none 0 0] 42)).alloc (Obj.cells #[.slice a D.length c] 38)=w4:=⟨_,rfl⟩
 have hB0:Below w.heap.size w w4:=by
  rw [← hw4]
  exact ((((Below.refl _ w).alloc (Nat.le_refl _) _).alloc (by simp only [World.size_alloc];omega) _).alloc (by simp only [World.size_alloc];omega) _).alloc (by simp only [World.size_alloc];omega) _
 have hs4:w4.heap.size=w.heap.size+4:=by rw [← hw4];simp only [World.size_alloc]
 have b2:Boxed w4 w.heap.size 42 (.slice none 0 0):=by
  rw [← hw4];exact (((Boxed.new w _ _).alloc _).alloc _).alloc _
 have b3:Boxed w4 (w.heap.size+1) 4 (.bool false):=by
  rw [← hw4]
  have h:=Boxed.new (w.alloc (Obj.cells #[Value.slice none 0 0] 42)) 4 (.bool false)
  rw [World.size_alloc] at h
  exact (h.alloc _).alloc _
 have b4:Boxed w4 (w.heap.size+1+1) 42 (.slice none 0 0):=by
  rw [← hw4]
  have h:=Boxed.new ((w.alloc (Obj.cells #[Value.slice none 0 0] 42)).alloc (Obj.cells #[Value.bool false] 4)) 42 (.slice none 0 0)
  simp only [World.size_alloc] at h
  exact h.alloc _
 have b5:Boxed w4 (w.heap.size+1+1+1) 38 (.slice a D.length c):=by
  rw [← hw4]
  have h:=Boxed.new (((w.alloc (Obj.cells #[Value.slice none 0 0] 42)).alloc (Obj.cells #[Value.bool false] 4)).alloc (Obj.cells #[Value.slice none 0 0] 42)) 38 (.slice a D.length c)
  simp only [World.size_alloc] at h
  exact h
 rw [hw4]
 clear hw4
 refine wpIn_rangeFunc_ownF (w0:=w4) rfl (by omega) (gf:=59) (lb:=#[.pointer (some ⟨w.heap.size+1+1+1,0,none⟩)]) rfl trivial (enters_of Tryd.func59 (by kernel_rfl) rfl)
  (all1_stops 8 (w.heap.size+1+1+1) w.heap.size a c D w w4 (Nat.le_refl _) (by omega) hB0 b5 hD hDl hC) (fun h k=>h.trans k) (Kp.obj (by omega)) (Below.refl _ _) (fun _=>rfl)
  (colI w) (colX w) (colI_own w _ (by omega)) (fun c=>colX_own w _ (by omega) c) ⟨⟨⟨⟨⟨fun x hx=>by (cases hx),by simp⟩,b2⟩,b3⟩,_,b4,OwnG.nil rowStr _ _,trivial⟩,hB0⟩
  (fun x=>{ tmps:=#[.slice a D.length c,undef,.pointer (some ⟨w.heap.size,0,none⟩),.pointer (some ⟨w.heap.size+1,0,none⟩),.pointer (some ⟨w.heap.size+1+1,0,none⟩),.string x.1,.bool x.2,.slice a D.length c,.func (.func 59) #[] #[.pointer (some ⟨w.heap.size+1+1+1,0,none⟩)],.string x.1,.bool x.2,undef,undef,undef,undef,undef,undef,undef,undef,undef,undef,undef,undef],defers:=[] }) ?assign ?body ?done ?stop
 case assign =>
  intro l x W K hK
  gi_wp2
  exact hK
 case body =>
  rintro l pre ⟨s,ok⟩ W ⟨⟨⟨⟨hok,hb2⟩,hb3⟩,v,hv,hrow, -⟩,hB⟩ -
  have hws:w.heap.size≤W.heap.size:=hB.size
  have e1:=hb2.cell;have e2:=hb2.frozen;have e3:=hb3.cell;have e4:=hb3.frozen;have e5:=hv.cell;have e6:=hv.frozen
  have hleave:∀ ac,¬ colOk (pre ++ [(s,ok)])→ownPostK (Kp w.heap.size) (colI w) (colX w) (pre ++ [(s,ok)]) W Exit.ret ac ((W.setCell ⟨w.heap.size,0,none⟩ (.slice none 0 0)).setCell ⟨w.heap.size+1,0,none⟩ (.bool false)):=fun ac hno=>by
   refine ⟨(KeepsOthers.setCell _ _ _).trans (KeepsOthers.setCell _ _ _),⟨⟨⟨rfl,hno⟩,?_⟩,?_⟩,?_⟩
   · exact (hb2.set _).kept (grownBy_setCell' _ _ _) (by simp)
   · exact (hb3.kept (grownBy_setCell' _ _ _) (by simp)).set _
   · exact (hB.setCell (p:=⟨w.heap.size,0,none⟩) (Nat.le_refl _) _).setCell (p:=⟨w.heap.size+1,0,none⟩) (by show w.heap.size≤w.heap.size+1;omega) _
  obtain ⟨a0,c0,rfl, -, -⟩:=hrow.form
  have HPL:Hid ((fstS pre).length=pre.length):=by show _=_;simp [fstS]
  cases ok with
  | false =>
   gi_wp2
   exact hleave _ (fun h=>by have:=h.1 (s,false) (by simp);cases this)
  | true =>
   by_cases h200:pre.length=200
   ·
    have HH:=Lib.hid h200
    have h2:(((fstS pre).length:Int) == 200)=true:=by rw [HPL.out,h200];rfl
    clear h200
    gi_wp2
    exact hleave _ (fun h=>by have:=h.2;have:=HH.out;simp at *;omega)
   ·
    have
       h2:(((fstS pre).length:Int) == 200)=false:=by rw [HPL.out];simp;omega
    have hle:(fstS pre).length<200:=by rw [HPL.out];have:=hok.2;omega
    clear h200
    gi_wp2_with (first
     | (
       gi_at_builtin;refine wpListIn_append_own _ rfl _ _ 42 rfl w.heap.size 9 i0 (.string ⟨#[]⟩) 1 16 Tryd.underlying42 hi hz0 hz1 hz2 rfl (by decide) _ _ _ rfl (hrow.alloc _) ⟨W.heap.size,0,none⟩ 1 1 [.string s] rfl rfl (cell_one_new _ _ _) (by simp [Value.oneCell']) (by unfold maxLen;omega) (by omega) (by simp;omega) ?_;intro v' w3 hown' hg3 hnil3
       have hown2:OwnG rowStr w3 w.heap.size v' (fstS pre ++ [s]):=by unfold OwnG;rw [List.length_append,List.flatMap_append];exact hown'
       have hg3':(W.alloc (.cells #[.string s] 9)).grownBy w3 (Value.slice a0 (fstS pre).length c0).ownBlock:=hg3
       obtain ⟨g1,c1,rfl⟩:=ownsRow_succ hown'
       obtain ⟨p1,p2,p3,p4,p5⟩:=Boxed.appended hv (by decide) hrow hws (by omega) hown2 hg3'
       have q1:=p1.cell;have q2:=p1.frozen
       have r2:=(((hb2.alloc (.cells #[.string s] 9)).kept hg3' (hb2.not_row (by decide) hrow)).kept (grownBy_setCell' w3 (w.heap.size+1+1) (.slice (some ⟨g1,0,none⟩) ((fstS pre).length+1) c1)) (by simp;omega))
       have r3:=(((hb3.alloc (.cells #[.string s] 9)).kept hg3' (hb3.not_row (by decide) hrow)).kept (grownBy_setCell' w3 (w.heap.size+1+1) (.slice (some ⟨g1,0,none⟩) ((fstS pre).length+1) c1)) (by simp))
       have r4:=kp_app hv hrow hg3' p5
       have HR:=Lib.hid (And.intro p2 (And.intro p3 (And.intro p4 (And.intro p5 (And.intro r2 (And.intro r3 r4))))))
       clear p1 p2 p3 p4 p5 r2 r3 r4 hg3' hg3 hnil3 hown2 hown'))
    obtain ⟨p2,p3,p4,p5,r2,r3,r4⟩:=HR.out
    have hfs:fstS (pre ++ [(s,true)])=fstS pre ++ [s]:=by simp [fstS]
    refine ⟨p4,r4,⟨⟨⟨⟨fun x hx=>?_,?_⟩,r2⟩,r3⟩,_,p2,?_,trivial⟩,hB.trans p5⟩
    ·
     rcases List.mem_append.1 hx with hx | hx
     · exact hok.1 x hx
     · obtain rfl:=List.mem_singleton.1 hx;rfl
    · have:=HPL.out;simp;omega
    · rw [hfs];exact p3
 case done =>
  rintro D' ys W hD' rfl ⟨⟨⟨⟨hok,hb2⟩,hb3⟩,v,hv,hrow, -⟩,hB⟩ hK
  rw [hLL] at hok hrow
  obtain ⟨a0,c0,rfl, -, -⟩:=hrow.form
  have hws:w.heap.size≤W.heap.size:=hB.size
  have e1:=hb2.cell;have e2:=hb2.frozen;have e3:=hb3.cell;have e4:=hb3.frozen;have e5:=hv.cell;have e6:=hv.frozen
  gi_wp2
  obtain ⟨W2,hW2⟩:∃ W2,(W.setCell ⟨w.heap.size,0,none⟩ (.slice a0 (fstS LL).length c0)).setCell ⟨w.heap.size+1,0,none⟩ (.bool true)=W2:=⟨_,rfl⟩
  have hK2:W2.heap[D']? = some (.deferred (some [])):=by
   rw [← hW2];exact ((KeepsOthers.setCell W _ _).trans (KeepsOthers.setCell _ _ _)).same D' _ hK rfl
  have r2:Boxed W2 w.heap.size 42 (.slice a0 (fstS LL).length c0):=by
   rw [← hW2];exact (hb2.set _).kept (grownBy_setCell' _ _ _) (by simp)
  have r3:Boxed W2 (w.heap.size+1) 4 (.bool true):=by
   rw [← hW2];exact (hb3.kept (grownBy_setCell' _ _ _) (by simp)).set _
  have hB2:Below w.heap.size w W2:=by
   rw [← hW2];exact (hB.setCell (p:=⟨w.heap.size,0,none⟩) (Nat.le_refl _) _).setCell (p:=⟨w.heap.size+1,0,none⟩) (by show w.heap.size≤w.heap.size+1;omega) _
  have hr1:OwnG rowStr (W.setCell ⟨w.heap.size,0,none⟩ (.slice a0 (fstS LL).length c0)) w.heap.size (.slice a0 (fstS LL).length c0) (fstS LL):=hrow.grown (grownBy_setCell' _ _ _) fun q hq=>fun e=>by
   have:=hb2.not_row (e:=9) (by decide) hrow;injection e with e;exact this (by rw [hq,e])
  have hr2:OwnG rowStr W2 w.heap.size (.slice a0 (fstS LL).length c0) (fstS LL):=by
   rw [← hW2]
   refine hr1.grown (grownBy_setCell' _ _ _) fun q hq=>fun e=>?_
   have:=hb3.not_row (e:=9) (by decide) hrow;injection e with e;exact this (by rw [hq,e])
  have hr3:OwnG rowStr (W2.putObj D' (.deferred none)) w.heap.size (.slice a0 (fstS LL).length c0) (fstS LL):=ownsRow_putObj hr2 _ hK2 rfl
  rw [hW2]
  clear hW2
  refine ⟨by simp,.inl ⟨_,_,rfl,run_takeDeferred hK2,?_⟩⟩
  have f2:=(r2.kept (grownBy_putObj' W2 D' (.deferred none)) (fun e=>by injection e with e;omega)).cell
  have f3:=(r3.kept (grownBy_putObj' W2 D' (.deferred none)) (fun e=>by injection e with e;omega)).cell
  refine ⟨.tuple #[.slice a0 (fstS LL).length c0,.bool true],by simp [results,Tryd.f40,go_sem,f2,f3],by rw [hLL];exact .inl ⟨hok,_,rfl,hr3,hB2.trans (belowK_b (w:=w) (Nat.le_refl _) W2 D' _ _ (by omega) hK2 rfl rfl)⟩⟩
 case stop =>
  rintro D' c' pre W hD' hpre ⟨⟨⟨⟨rfl,hno⟩,hb2⟩,hb3⟩,hB⟩ hK
  gi_wp2
  refine ⟨by simp,.inl ⟨_,_,rfl,run_takeDeferred hK,?_⟩⟩
  have f2:=(hb2.kept (grownBy_putObj' W D' (.deferred none)) (fun e=>by injection e with e;omega)).cell
  have f3:=(hb3.kept (grownBy_putObj' W D' (.deferred none)) (fun e=>by injection e with e;omega)).cell
  refine ⟨.tuple #[.slice none 0 0,.bool false],by simp [results,Tryd.f40,go_sem,f2,f3],.inr ⟨fun h=>hno (h.pre hpre),rfl,hB.trans (belowK_b (w:=w) (Nat.le_refl _) W D' _ _ (by omega) hK rfl rfl)⟩⟩
end Go.Proofs.YthjmdgejnakcmaaDoor
namespace Go.Proofs.YthjmdgejnakcmaaDoor
open Go.RowKit Go.WideShapes
set_option linter.unusedVariables false
set_option linter.unusedSimpArgs false
theorem collect_yes (D:List Nd) (a:Option Addr) (c:Nat) (w:World) (hD:DawgS w a D) (hDl:D.length≤9223372036854775807) (hC:CsOk D) (h:colOk (visitL D 22 0 []).1) :
  Calls Tryd.prog 40 #[.slice a D.length c] w fun e w'=>∃ a1 c1,e=.returned (.tuple #[.slice a1 (fstS (visitL D 22 0 []).1).length c1,.bool true])∧OwnG rowStr w' w.heap.size (.slice a1 (fstS (visitL D 22 0 []).1).length c1) (fstS (visitL D 22 0 []).1)∧Below w.heap.size w w':=by
 refine (collect_any D a c w hD hDl hC).mono ?_
 rintro e w1 (⟨-,v,rfl,ho,hb⟩ | ⟨hn, -, -⟩)
 ·
  obtain ⟨a1,c1,rfl, -, -⟩:=ho.form
  exact ⟨a1,c1,rfl,ho,hb⟩
 · exact absurd h hn
theorem collect_no (D:List Nd) (a:Option Addr) (c:Nat) (w:World) (hD:DawgS w a D) (hDl:D.length≤9223372036854775807) (hC:CsOk D) (h:¬ colOk (visitL D 22 0 []).1) :
  Calls Tryd.prog 40 #[.slice a D.length c] w fun e w'=>e=.returned (.tuple #[.slice none 0 0,.bool false])∧Below w.heap.size w w':=by
 refine (collect_any D a c w hD hDl hC).mono ?_
 rintro e w1 (⟨hn, -⟩ | ⟨hn,rfl,hb⟩)
 · exact absurd hn h
 · exact ⟨rfl,hb⟩
theorem build_yes (L:List ByteArray) (n:Nat) (a:Option Addr) (cap:Nat) (w:World) (hR:StrS w a L) (hL:n=L.length) (hn:n≤9223372036854775807) (hc:n≤cap) (hT:Tab w) (h:Dict L) :
  Calls Tryd.prog 8 #[.slice a n cap] w fun e w'=>∃ a c,e=.returned (.tuple #[.slice a (ofF (restAt 0 L)).length c,.int .i64 0])∧(ofF (restAt 0 L)).length≤c∧(ofF (restAt 0 L)).length≤4200∧DawgS w' a (ofF (restAt 0 L))∧Below w.heap.size w w':=by
 refine (build_any L n a cap w hR hL hn hc hT).mono ?_
 rintro e w1 (⟨-,h⟩ | ⟨hn, -⟩)
 · exact h
 · exact absurd h hn
noncomputable def wordsF (D:List Nd):List ByteArray:=@ite _ (colOk (visitL D 22 0 []).1) (Classical.propDecidable _) (fstS (visitL D 22 0 []).1) []
theorem wordsF_yes {D:List Nd} (h:colOk (visitL D 22 0 []).1):wordsF D=fstS (visitL D 22 0 []).1:=if_pos h
theorem wordsF_no {D:List Nd} (h:¬ colOk (visitL D 22 0 []).1):wordsF D=[]:=if_neg h
theorem words_any (D:List Nd) (a:Option Addr) (c:Nat) (w:World) (hD:DawgS w a D) (hDl:D.length≤9223372036854775807) (hC:CsOk D) :
  Calls Tryd.prog 28 #[.slice a D.length c] w fun e w'=>∃ a1 c1,e=.returned (.slice a1 (wordsF D).length c1)∧StrS w' a1 (wordsF D)∧(wordsF D).length≤c1∧Below w.heap.size w w':=by
 have HD:=Lib.hid hD;clear hD
 by_cases h:colOk (visitL D 22 0 []).1
 ·
  have HY:=Lib.hid (wordsF_yes h)
  have HH:=Lib.hid h
  clear h
  go_enter Tryd.func28,Tryd.ntmps28
  go_wp2_with (first
   | (go_at_call 40;refine (collect_yes D a c w HD.out hDl hC HH.out).mono ?_;rintro e w1 ⟨a1,c1,rfl,ho,hb⟩;have HO:=Lib.hid ho;have HB:=Lib.hid hb;clear ho hb))
  go_ret
  have:=HO.out.strs
  rw [HY.out]
  exact ⟨_,_,rfl,this.1,this.2.2,HB.out⟩
 ·
  have HY:=Lib.hid (wordsF_no h)
  have HH:Hid (¬ colOk (visitL D 22 0 []).1):=h
  clear h
  go_enter Tryd.func28,Tryd.ntmps28
  go_wp2_with (first
   | (go_at_call 40;refine (collect_no D a c w HD.out hDl hC HH.out).mono ?_;rintro e w1 ⟨rfl,hb⟩;have HB:=Lib.hid hb;clear hb))
  go_ret
  rw [HY.out]
  exact ⟨_,_,rfl,StrS.nil _ _,Nat.le_refl _,HB.out⟩
def toB (l:Wd):ByteArray:=⟨l.toArray⟩
section
variable {wW w0 w w':World} {B gB gn:Nat} {vb0:Option Nat} {N0:List NV} {fin:Bool} {vA va:Value} {A A2:List Ar} {v vr:Value} {N:List NV} {D:List Nd} {S:List SV} {R:List Rst}
end
end Go.Proofs.YthjmdgejnakcmaaDoor
namespace Go.Proofs.YthjmdgejnakcmaaDoor
open Go.RowKit Go.WideShapes
set_option linter.unusedVariables false
set_option linter.unusedSimpArgs false
theorem ofF_len {L:List ByteArray} (hd:Dict L):(ofF (restAt 0 L)).length≤4200:=by
 have hle:=ofF_le hd.okR.1
 have hln:(restAt 0 L).length=L.length:=by simp [restAt]
 have:=hd.2.1
 omega
def tagW (ws:Wd) (l:Wd):ByteArray × Bool:=(toB (ws ++ l),true)
theorem catG_cons (c:Nat) (g:Rst) (G:List (Nat × Rst)):catG ((c,g) :: G)=g.map (UInt8.ofNat c :: ·) ++ catG G:=rfl
theorem armsL_cat {Mt:List Rst} {n:Nat} {rec:Int→List UInt8→List (ByteArray × Bool) × Bool} {ws:Wd}:∀ {G:List (Nat × Rst)} {X:List Ar},Arcs Mt n G X →
  (∀ (c t:Nat) (g:Rst),(c,g)∈G→t<n→Mt[t]? = some g→rec (t:Int) (ws ++ [UInt8.ofNat c])=(g.map (tagW (ws ++ [UInt8.ofNat c])),true))→armsL rec ws X=((catG G).map (tagW ws),true):=by
 intro G X hA
 induction hA with
 | nil=>intro _;rfl
 | @cons c t g G X h1 h2 h3 _ ih =>
  intro hr
  have h:=hr c t g (by simp) h2 h3
  have ih2:=ih fun c t g hg=>hr c t g (List.mem_cons_of_mem _ hg)
  have e:UInt8.ofNat (c:Int).toNat=UInt8.ofNat c:=by rw [Int.toNat_natCast]
  rw [armsL]
  simp only [e,h,if_pos,ih2]
  rw [catG_cons,List.map_append,List.map_map]
  have:(tagW ws ∘ fun x=>UInt8.ofNat c :: x)=tagW (ws ++ [UInt8.ofNat c]):=by
   funext l
   simp [tagW]
  rw [this]
theorem grp_ne {r:Rst} (h:OkR r) (hf:finR r=false):grp r≠[]:=by
 intro e
 have:=recon h.1 h.2.1
 rw [hf,e] at this
 simp [catG] at this
 exact h.2.2 this
theorem OkR.fst {r:Rst} (h:OkR r):∃ s,s∈r:=List.exists_mem_of_ne_nil _ h.2.2
theorem
    visit_tab {Mt:List Rst} {E:List Nd} (hT:GTab Mt E):∀ (m k:Nat) (r:Rst) (ws:Wd),Mt[k]? = some r→(∀ s∈r,s.length<m)→(∀ s∈r,ws.length+s.length≤20)→visitL E m (k:Int) ws=(r.map (tagW ws),true)
 | 0,k,r,ws,hk,hm,_=>by
  exfalso
  have hok:=hT.ok r (List.mem_of_getElem? hk)
  obtain ⟨s,hs⟩:=hok.fst
  have:=hm s hs;omega
 | m
   +
    1,k,r,ws,hk,hm,hw=>by
  have hok:=hT.ok r (List.mem_of_getElem? hk)
  have hkE:k<E.length:=by rw [← hT.len];exact (List.getElem?_eq_some_iff.1 hk).1
  obtain ⟨r',h1,h2,h3⟩:=hT.nd k hkE
  obtain rfl:r=r':=by rw [hk] at h1;injection h1
  have hgd:E.getD (k:Int).toNat default=E[k]:=by rw [Int.toNat_natCast,List.getD_eq_getElem?_getD,List.getElem?_eq_getElem hkE];rfl
  have hne:¬ ((E[k].fin=false)∧E[k].arcs=[]):=by
   rintro ⟨a,b⟩
   rw [h2] at a
   have:=h3.len
   rw [b] at this
   exact grp_ne hok a (List.eq_nil_of_length_eq_zero this.symm)
  obtain ⟨s0,hs0⟩:=hok.fst
  have hfail:failV E (k:Int) ws=false:=by
   unfold failV
   rw [hgd]
   have:=hw s0 hs0
   have e1:¬ (k:Int)<0:=by omega
   have e2:¬ (E.length:Int)≤k:=by omega
   have e3:¬ 20<ws.length:=by omega
   simp only [e1,e2,e3,decide_false,Bool.or_false,Bool.false_or,Bool.and_eq_false_iff,Bool.not_eq_false']
   by_cases hf:E[k].fin=true
   · exact .inl hf
   · exact .inr (decide_eq_false fun h=>hne ⟨by simpa using hf,h⟩)
  rw [visitL,if_neg (by rw [hfail];simp),hgd]
  have hA:=armsL_cat (rec:=visitL E m) (ws:=ws) h3 fun c t g hg ht hM=>by
   obtain ⟨g1,g2,g3,g4⟩:=grp_mem hg
   simp only at g3
   refine visit_tab hT m t g _ hM (fun s hs=>?_) (fun s hs=>?_)
   ·
    rw [g3] at hs
    obtain ⟨b,_,h5⟩:=afterL_mem.1 hs
    have:=hm _ h5
    simp at this;omega
   ·
    rw [g3] at hs
    obtain ⟨b,_,h5⟩:=afterL_mem.1 hs
    have:=hw _ h5
    simp at this ⊢;omega
  rw [hA,h2]
  have hre:r.map (tagW ws)=(if finR r=true then [((⟨ws.toArray⟩:ByteArray),true)] else []) ++ (catG (grp r)).map (tagW ws):=by
   have hrc:=recon hok.1 hok.2.1
   refine (congrArg (List.map (tagW ws)) hrc).trans ?_
   rw [List.map_append]
   congr 1
   split
   · simp [tagW,toB]
   · rfl
  rw [hre]
theorem visit_of {L:List ByteArray} (hd:Dict L):(visitL (ofF (restAt 0 L)) 22 0 []).1=L.map fun s=>(s,true):=by
 obtain ⟨Mt,hgt,h0⟩:=of_tab hd.okR.1 hd.okR.2
 have h:=visit_tab hgt 22 0 (restAt 0 L) [] h0 (fun s hs=>by have:=hd.okR.2 s hs;omega) (fun s hs=>by have:=hd.okR.2 s hs;simp;omega)
 have e:((0:Nat):Int)=0:=rfl
 rw [e] at h
 rw [h]
 show (restAt 0 L).map (tagW [])=_
 unfold restAt
 rw [List.map_map]
 congr 1
theorem col_of {L:List ByteArray} (hd:Dict L):colOk (visitL (ofF (restAt 0 L)) 22 0 []).1:=by
 rw [visit_of hd]
 refine ⟨fun x hx=>?_,by rw [List.length_map];exact hd.2.1⟩
 obtain ⟨s,_,rfl⟩:=List.mem_map.1 hx
 rfl
theorem fst_of {L:List ByteArray} (hd:Dict L):fstS (visitL (ofF (restAt 0 L)) 22 0 []).1=L:=by
 rw [visit_of hd]
 unfold fstS
 rw [List.map_map]
 exact List.map_id'' (fun _=>rfl) _
theorem words_of {L:List ByteArray} (hd:Dict L):wordsF (ofF (restAt 0 L))=L:=by rw [wordsF_yes (col_of hd),fst_of hd]
end Go.Proofs.YthjmdgejnakcmaaDoor
namespace Go.Proofs.YthjmdgejnakcmaaDoor
set_option linter.unusedVariables false
set_option linter.unusedSimpArgs false
theorem csOk_of {L:List ByteArray} (hd:Dict L):CsOk (ofF (restAt 0 L)):=fun i hi x hx=>by
 obtain ⟨Mt,hgt, -⟩:=of_tab hd.okR.1 hd.okR.2
 obtain ⟨r,_,_,h3⟩:=hgt.nd i hi
 obtain ⟨⟨p1,p2,p3⟩,p4⟩:=h3.mem x hx
 have:=ofF_len hd
 exact ⟨p1,by omega,by omega,by omega⟩
theorem ofF_pos {L:List ByteArray} (hd:Dict L):0<(ofF (restAt 0 L)).length:=by
 obtain ⟨Mt,hgt,h0⟩:=of_tab hd.okR.1 hd.okR.2
 rw [← hgt.len];exact (List.getElem?_eq_some_iff.1 h0).1
end Go.Proofs.YthjmdgejnakcmaaDoor
namespace Go.Proofs.YthjmdgejnakcmaaDoor
open Go.RowKit Go.WideShapes
set_option linter.unusedVariables false
set_option linter.unusedSimpArgs false
theorem dict_mk {L:List ByteArray} (h1:1≤L.length) (h2:L.length≤200) (h3:(List.range L.length).all (fun i=>wordB (L.getD i ⟨#[]⟩) && (i == 0 || Op.bytesLess (L.getD (i - 1) ⟨#[]⟩).data.toList (L.getD i ⟨#[]⟩).data.toList))=true):Dict L:=by
 refine ⟨h1,h2,fun i hi _=>?_⟩
 have h:=List.all_eq_true.1 h3 i (List.mem_range.2 hi)
 rw [List.getD_eq_getElem?_getD,List.getElem?_eq_getElem hi] at h
 simp only [Option.getD_some,Bool.and_eq_true,Bool.or_eq_true,beq_iff_eq] at h
 refine ⟨h.1,fun h0=>?_⟩
 rcases h.2 with h' | h'
 · omega
 ·
  rw [List.getD_eq_getElem?_getD,List.getElem?_eq_getElem (by omega)] at h'
  rw [ltS,ByteArray.toList_eq,ByteArray.toList_eq]
  exact h'
theorem strS_row {w:World} {g:Nat} {cs:Array Value} {t:TypeId} {fz:Nat × Nat} {L:List ByteArray} (h:w.heap[g]? = some (.cells cs t fz)) (hcs:cs.toList=L.map Value.string):StrS w (some ⟨g,0,none⟩) L:=fun k hk=>by
 refine ⟨g,0,rfl,(Array.getElem?_eq_some_iff.1 h).1,?_⟩
 rw [cell_of_row _ _ _ _ _ _ h,← Array.getElem?_toList,hcs]
 simp [hk]
structure AutS (w:World) (a:Option Addr) (n c:Nat) (L:List ByteArray):Prop where
 dict:Dict L
 len:n=(ofF (restAt 0 L)).length
 cap:n≤c
 rows:DawgS w a (ofF (restAt 0 L))
theorem AutS.later {w w1:World} {a:Option Addr} {n c:Nat} {L:List ByteArray} (h:AutS w a n c L) (hb:Below w.heap.size w w1):AutS w1 a n c L:=⟨h.dict,h.len,h.cap,h.rows.later hb (Nat.le_refl _)⟩
theorem AutS.go {w w1:World} {a:Option Addr} {n c:Nat} {L:List ByteArray} (h:AutS w a n c L) (hb:Below w.heap.size w w1):AutS w1 a n c L:=h.later hb
theorem AutS.small {w:World} {a:Option Addr} {n c:Nat} {L:List ByteArray} (h:AutS w a n c L):n≤4200∧1≤n:=by
 have h1:=ofF_len h.dict;have h2:=ofF_pos h.dict;have h3:=h.len;omega
theorem AutS.big {w:World} {a:Option Addr} {n c:Nat} {L:List ByteArray} (h:AutS w a n c L):(ofF (restAt 0 L)).length≤9223372036854775807:=by
 have h1:=ofF_len h.dict;omega
theorem build_d {L:List ByteArray} {n:Nat} {a:Option Addr} {cap:Nat} {w:World} (hd:Dict L) (hR:StrS w a L) (hL:n=L.length) (hc:n≤cap) (hT:Tab w) :
  Calls Tryd.prog 8 #[.slice a n cap] w fun e w'=>∃ a n c,e=.returned (.tuple #[.slice a n c,.int .i64 0])∧AutS w' a n c L∧Below w.heap.size w w':=by
 refine (build_yes L n a cap w hR hL (by have:=hd.2.1;omega) hc hT hd).mono ?_
 rintro e w1 ⟨a1,c1,rfl,hc1,h2,h3,hb⟩
 exact ⟨a1,_,c1,rfl,⟨hd,rfl,hc1,h3⟩,hb⟩
end Go.Proofs.YthjmdgejnakcmaaDoor
namespace Go.Proofs.YthjmdgejnakcmaaDoor
set_option linter.unusedVariables false
set_option linter.unusedSimpArgs false
open Go.ChangeShapes Go.WideShapes Go.ChangeAt Go.RowKit
structure BytA where
 a:Option Addr
 len:Nat
 cap:Nat
 Z:Nat→Int
def BytA.val (x:BytA):Value:=.slice x.a x.len x.cap
structure BytOk (w:World) (x:BytA):Prop where
 by':IsBytes w x.a x.len x.Z
 le:x.len≤9223372036854775807
section
variable {H:Type} {enc:TypeId × Value→H} {w:World} {base:Nat} {spare:Nat→Bool} {held:Bool} {d:DataW H} {p:List MemPlace} {r:Reach} {b0:Nat} {v:Value}
open Go.Deep in
theorem
    slice_bytes {fuel:Nat} {cs:List Value} {x:DataW H × List MemPlace} (h:DataW.trod enc Tryd.prog w base spare held fuel 22 cs=some x):∃ a len cap Z,cs=[.slice a len cap]∧IsBytes w a len Z∧len≤9223372036854775807:=by
 rcases open_slice1 Tryd.underlying22 (by kernel_rfl) h with ⟨h0,_⟩ | ⟨ad,l,c,m,n,V,D,Pl,h0,hba,hl,hcm,hmm,_,hel⟩
 · exact ⟨none,0,0,fun _=>0,h0,.inl rfl,by omega⟩
 ·
  have hlm:l≤m:=by rw [hmm];split <;> omega
  have hle:l≤9223372036854775807:=by unfold maxLen at hcm;omega
  have key:∀ i,i<l→∃ z,w.cell? (ad.add i)=some (.int .u8 z)∧0≤z∧z≤255:=fun i hi=>by
   obtain ⟨h1,h2⟩:=hel i (by omega)
   obtain ⟨z,hz,_,hw⟩:=DataW.trod_int Tryd.underlying5 h2
   have:V i=.int .u8 z:=List.head_eq_of_cons_eq hz
   rw [this] at h1
   exact ⟨z,h1,bounds_u8 hw⟩
  by_cases h9:l=0
  · exact ⟨some ad,l,c,fun _=>0,h0,.inl h9,hle⟩
  ·
   obtain ⟨Z,hZ⟩:=choose_lt (α:=Int) key
   obtain ⟨b,o,sp⟩:=ad
   have hs:=World.cell?_spot (hZ 0 (by omega)).1
   obtain rfl:sp=none:=by simpa [Addr.add] using hs
   refine ⟨some ⟨b,o,none⟩,l,c,Z,h0,.inr ⟨b,o,rfl,hle,?_,fun i hi=>?_⟩,hle⟩
   ·
    have:=World.block_lt_of_cell? w _ (hZ 0 (by omega)).1
    rwa [addr_block] at this
   ·
    have hk:=hZ i hi
    rw [addr_add] at hk
    exact hk
set_option maxRecDepth 100000 in
theorem open_bytes (hv:Value.okWide Tryd.prog w r b0 22 v) (h:DataW.Trod enc Tryd.prog w base spare held 22 v d p):∃ x:BytA,v=x.val∧BytOk w x:=by
 obtain ⟨a,len,cap,rfl⟩:=okWide_slice Tryd.underlying22 hv
 obtain ⟨f,hf⟩:=h
 have hf2:DataW.trod enc Tryd.prog w base spare held f 22 [.slice a len cap]=some (d,p):=by simpa [Value.cells] using hf
 obtain ⟨a1,l1,c1,Z,h0,h1,h2⟩:=slice_bytes hf2
 cases h0
 exact ⟨⟨a,len,cap,Z⟩,rfl,h1,h2⟩
end
end Go.Proofs.YthjmdgejnakcmaaDoor
namespace Go.Proofs.YthjmdgejnakcmaaDoor
open Go.ChangeShapes Go.WideShapes Go.ChangeAt Go.RowKit
set_option linter.unusedVariables false
set_option linter.unusedSimpArgs false
theorem gPow:Tryd.prog.globalNamed "internal/strconv.uint64pow10" = some 0:=by kernel_rfl
theorem gPowT:(Tryd.prog.globals[0]?).map (·.type)=some 153:=by kernel_rfl
theorem laid_tab {W:World} (h:laidMetH Tryd.prog [("math/bits.deBruijn32tab",Rows.laid_math_bits_deBruijn32tab),("math/bits.deBruijn64tab",Rows.laid_math_bits_deBruijn64tab),("internal/strconv.uint64pow10",Rows.laid_internal_strconv_uint64pow10)] W):Tab W:=by
 obtain ⟨ps,h1,_⟩:laidMet Tryd.prog [("math/bits.deBruijn32tab",Rows.laid_math_bits_deBruijn32tab),("math/bits.deBruijn64tab",Rows.laid_math_bits_deBruijn64tab),("internal/strconv.uint64pow10",Rows.laid_internal_strconv_uint64pow10)] W:=h
 obtain ⟨_,_,_,_,_,q1,_,_,_,_,h2,_⟩:=h1
 obtain ⟨_,_,_,_,_,q2,_,_,_,_,h3,_⟩:=h2
 obtain ⟨g',t',cs,fuel,p,q,hg',ht',hvar,hd,_,_⟩:=h3
 obtain rfl:=Option.some.inj (gPow.symm.trans hg')
 obtain rfl:=Option.some.inj (gPowT.symm.trans ht')
 have hd2:DataW.trod (fun _=>()) Tryd.prog W 0 (fun _=>true) false fuel 153 cs.toList=some (Lib.tabData .u64 Lib.pow10Tab,p):=hd
 show W.var? Tryd.prog "internal/strconv.uint64pow10" = _
 rw [hvar,← Lib.cells_of_tab Tryd.underlying153 Tryd.underlying141 (by kernel_rfl) (by kernel_rfl) hd2]
def putCells (w:World) (g:Nat) (cs:Array Value):World :=
 { w
   with heap:=w.heap.modify g fun
   | .cells _ t f=>.cells cs t f
   | o=>o }
noncomputable def laidWorld (os:Os):World :=
 putCells (putCells (putCells (World.holding Tryd.prog os ⟨#[],#[],[]⟩) 0 #[.int .u64 1,.int .u64 10,.int .u64 100,.int .u64 1000,.int .u64 10000,.int .u64 100000,.int .u64 1000000,.int .u64 10000000,.int .u64 100000000,.int .u64 1000000000,.int .u64 10000000000,.int .u64 100000000000,.int .u64 1000000000000,.int .u64 10000000000000,.int .u64 100000000000000,.int .u64 1000000000000000,.int .u64 10000000000000000,.int .u64 100000000000000000,.int .u64 1000000000000000000,.int .u64 10000000000000000000])
  1 #[.int .u8 0,.int .u8 1,.int .u8 28,.int .u8 2,.int .u8 29,.int .u8 14,.int .u8 24,.int .u8 3,.int .u8 30,.int .u8 22,.int .u8 20,.int .u8 15,.int .u8 25,.int .u8 17,.int .u8 4,.int .u8 8,.int .u8 31,.int .u8 27,.int .u8 13,.int .u8 23,.int .u8 21,.int .u8 19,.int .u8 16,.int .u8 7,.int .u8 26,.int .u8 12,.int .u8 18,.int .u8 6,.int .u8 11,.int .u8 5,.int .u8 10,.int .u8 9])
  2 #[.int .u8 0,.int .u8 1,.int .u8 56,.int .u8 2,.int .u8 57,.int .u8 49,.int .u8 28,.int .u8 3,.int .u8 61,.int .u8 58,.int .u8 42,.int .u8 50,.int .u8 38,.int .u8 29,.int .u8 17,.int .u8 4,.int .u8 62,.int .u8 47,.int .u8 59,.int .u8 36,.int .u8 45,.int .u8 43,.int .u8 51,.int .u8 22,.int .u8 53,.int .u8 39,.int .u8 33,.int .u8 30,.int .u8 24,.int .u8 18,.int .u8 12,.int .u8 5,.int .u8 63,.int .u8 55,.int .u8 48,.int .u8 27,.int .u8 60,.int .u8 41,.int .u8 37,.int .u8 16,.int .u8 46,.int .u8 35,.int .u8 44,.int .u8 21,.int .u8 52,.int .u8 32,.int .u8 23,.int .u8 11,.int .u8 54,.int .u8 26,.int .u8 40,.int .u8 15,.int .u8 34,.int .u8 20,.int .u8 31,.int .u8 10,.int .u8 25,.int .u8 14,.int .u8 19,.int .u8 9,.int .u8 13,.int .u8 8,.int .u8 7,.int .u8 6]
theorem laid_met (os:Os) (args:Array Value):laidMet Tryd.prog [("math/bits.deBruijn32tab",Rows.laid_math_bits_deBruijn32tab),("math/bits.deBruijn64tab",Rows.laid_math_bits_deBruijn64tab),("internal/strconv.uint64pow10",Rows.laid_internal_strconv_uint64pow10)] ((laidWorld os).forCall (fun _ _=>0) ⟨#[],args,[]⟩).memory :=
 laidMet_of_run' 8 (by kernel_rfl) (by kernel_rfl)
end Go.Proofs.YthjmdgejnakcmaaDoor
