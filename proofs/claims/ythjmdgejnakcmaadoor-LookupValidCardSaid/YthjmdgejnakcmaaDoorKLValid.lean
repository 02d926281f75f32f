/- LookupValid: the arguments opened, the plain facts, the walk. -/
import Derived.Deep.Slices
import Derived.Test.YthjmdgejnakcmaaDoorMK6
import Derived.Test.YthjmdgejnakcmaaDoorMD4
namespace Go.Proofs.YthjmdgejnakcmaaDoor
open Go.RowKit Go.WideShapes Go.ChangeShapes Go.ChangeAt Fl
set_option linter.unusedVariables false
set_option linter.unusedSimpArgs false
instance:Inhabited Ch:=⟨⟨0,0⟩⟩
structure SltA where
 a:Option Addr
 len:Nat
 cap:Nat
 L:List Slt
def SltA.val (x:SltA):Value:=.slice x.a x.len x.cap
structure SltOk (w:World) (x:SltA):Prop where
 s:SlotS w x.a x.L
 len:x.L.length=x.len
 le:x.len≤9223372036854775807
structure ChcA where
 k:Int
 c:Int
def ChcA.val (x:ChcA):Value:=.agg #[.int .u8 x.k,.int .i64 x.c]
structure ChcOk (w:World) (x:ChcA):Prop where
 k0:0≤x.k
 k1:x.k≤255
section
variable {H:Type} {enc:TypeId × Value→H} {w:World} {base:Nat} {spare:Nat→Bool} {held:Bool} {d:DataW H} {p:List MemPlace} {r:Reach} {b0:Nat} {v:Value}
theorem trod_struct2 {P:Program} {t:TypeId} {f0 f1:Field} {fuel:Nat} {cs:List Value} {x:DataW H × List MemPlace} (ht:P.underlying t=some (.struct #[f0,f1])) (h:DataW.trod enc P w base spare held fuel t cs=some x) :
  ∃ y0 y1 n,cs.length=P.cellsOf t∧DataW.trod enc P w base spare held n f0.type ((cs.drop f0.offset).take (P.cellsOf f0.type))=some y0∧DataW.trod enc P w base spare held n f1.type ((cs.drop f1.offset).take (P.cellsOf f1.type))=some y1:=by
 obtain ⟨xs,n,_,rfl,hl,hlen,hf⟩:=DataW.trod_struct ht h
 match xs,hlen with
 | [y0,y1],_ =>
  exact ⟨y0,y1,n,hl,hf 0 f0 rfl,hf 1 f1 rfl⟩
set_option maxRecDepth 100000 in
theorem trod_chc {fuel:Nat} {cs:List Value} {x:DataW H × List MemPlace} (h:DataW.trod enc Tryd.prog w base spare held fuel 25 cs=some x) (hsz:cs.length=2):∃ (k c:Int),cs=[.int .u8 k,.int .i64 c]∧0≤k∧k≤255:=by
 obtain ⟨y0,y1,n,hl,h0,h1⟩:=trod_struct2 Tryd.underlying25 h
 match cs,hsz with
 | [c0,c1],_ =>
  obtain ⟨k,e0,_,w0⟩:=DataW.trod_int Tryd.underlying5 h0
  obtain ⟨c,e1,_,w1⟩:=DataW.trod_int Tryd.underlying3 h1
  obtain rfl:c0=.int .u8 k:=List.head_eq_of_cons_eq e0
  obtain rfl:c1=.int .i64 c:=List.head_eq_of_cons_eq e1
  exact ⟨k,c,rfl,(bounds_u8 w0).1,(bounds_u8 w0).2⟩
set_option maxRecDepth 100000 in
open Go.Deep in
theorem
    slice_chs {fuel:Nat} {cs:List Value} {x:DataW H × List MemPlace} (h:DataW.trod enc Tryd.prog w base spare held fuel 28 cs=some x):∃ (a:Option Addr) (cap:Nat) (X:Slt),cs=[.slice a X.length cap]∧ArcS w a (chA X)∧X.length≤9223372036854775807:=by
 rcases open_slice Tryd.underlying28 h with ⟨h0,_⟩ | ⟨ad,l,c,m,n,D,Pl,h0,hba,hl,hcm,hmm,_,hel⟩
 · exact ⟨none,0,[],h0,fun k hk=>by simp [chA] at hk,by decide⟩
 ·
  have hlm:l≤m:=by rw [hmm];split <;> omega
  have hle:l≤9223372036854775807:=by unfold maxLen at hcm;omega
  have hC:Tryd.prog.cellsOf 25=2:=by kernel_rfl
  have key:∀ i,i<l→∃ q:Ch,(w.cell? ⟨ad.block,ad.off+i*2,none⟩=some (.int .u8 (q.key.toNat:Int))∧w.cell? ⟨ad.block,ad.off+i*2+1,none⟩=some (.int .i64 q.cost))∧(i=0→ad.spot=none)∧ad.block<w.heap.size:=by
   intro i hi
   obtain ⟨cs',hcs,htr⟩:=hel i (by omega)
   rw [hC] at hcs
   obtain ⟨_,hl',hg⟩:=World.cells?_some hcs
   obtain ⟨k,q,rfl,hk0,hk1⟩:=trod_chc htr hl'
   have hat:∀ j,j<2→∀ u,[Value.int .u8 k,.int .i64 q][j]? = some u→w.cell? ⟨ad.block,ad.off+i*2+j,none⟩=some u:=by
    intro j hj u hu
    have h1:=hg j hj
    rw [hu] at h1
    have hspot:=World.cell?_spot h1
    have e:(ad.add (i*2)).add j=⟨ad.block,ad.off+i*2+j,none⟩:=by
     rw [addr_spot _ _ hspot,addr_block,addr_off]
    rwa [e] at h1
   have hkk:(((UInt8.ofNat k.toNat).toNat:Nat):Int)=k:=by rw [UInt8.toNat_ofNat'];omega
   refine ⟨⟨UInt8.ofNat k.toNat,q⟩,⟨?_,hat 1 (by omega) _ rfl⟩,fun hi0=>?_,?_⟩
   · rw [hkk];exact hat 0 (by omega) _ rfl
   ·
    subst hi0
    have h1:=hg 0 (by omega)
    have hspot:=World.cell?_spot (v:=.int .u8 k) h1
    simpa [Addr.add] using hspot
   ·
    have:=World.cells?_block hcs (by omega)
    rwa [addr_block] at this
  by_cases h9:l=0
  ·
   subst h9
   exact ⟨some ad,c,[],h0,fun k hk=>by simp [chA] at hk,by decide⟩
  ·
   obtain ⟨Q,hQ⟩:=choose_lt (α:=Ch) (n:=l) (fun i hi=>key i hi)
   have hsp:=(hQ 0 (by omega)).2.1 rfl
   obtain ⟨b,o,sp⟩:=ad
   simp only at hsp
   subst hsp
   have hXl:((List.range l).map Q).length=l:=by simp
   refine ⟨some ⟨b,o,none⟩,c,(List.range l).map Q,by rw [hXl];exact h0,fun k hk=>?_,by rw [hXl];exact hle⟩
   have hk2:k<l:=by rw [chA_len,hXl] at hk;exact hk
   have e1:(chA ((List.range l).map Q))[k]=⟨((Q k).key.toNat:Int),(Q k).cost⟩:=by simp [chA]
   rw [e1]
   exact ⟨b,o,rfl,(hQ 0 (by omega)).2.2,(hQ k hk2).1.1,(hQ k hk2).1.2⟩
set_option maxRecDepth 100000 in
open Go.Deep in
theorem open_slts (hv:Value.okWide Tryd.prog w r b0 23 v) (h:DataW.Trod enc Tryd.prog w base spare held 23 v d p):∃ x:SltA,v=x.val∧SltOk w x:=by
 obtain ⟨a,len,cap,rfl⟩:=okWide_slice Tryd.underlying23 hv
 obtain ⟨f,hf⟩:=h
 have hf2:DataW.trod enc Tryd.prog w base spare held f 23 [.slice a len cap]=some (d,p):=by simpa [Value.cells] using hf
 rcases open_slice1 Tryd.underlying23 (by kernel_rfl) hf2 with ⟨h0,_⟩ | ⟨ad,l,c,m,n,V,D,Pl,h0,hba,hl,hcm,hmm,_,hel⟩
 ·
  cases h0
  exact ⟨⟨none,0,0,[]⟩,rfl,fun k hk=>by simp at hk,rfl,by show 0≤_;omega⟩
 ·
  cases h0
  have hlm:len≤m:=by rw [hmm];split <;> omega
  have hle:len≤9223372036854775807:=by unfold maxLen at hcm;omega
  have key:∀ i,i<len→∃ q:Option Addr × Nat × Slt,w.cell? (ad.add i)=some (.slice q.1 q.2.2.length q.2.1)∧ArcS w q.1 (chA q.2.2)∧q.2.2.length≤9223372036854775807:=fun i hi=>by
   obtain ⟨h1,h2⟩:=hel i (by omega)
   obtain ⟨a1,c1,X,hz,g1,g2⟩:=slice_chs h2
   have:V i=.slice a1 X.length c1:=List.head_eq_of_cons_eq hz
   rw [this] at h1
   exact ⟨(a1,c1,X),h1,g1,g2⟩
  by_cases h9:len=0
  ·
   subst h9
   exact ⟨⟨some ad,0,cap,[]⟩,rfl,fun k hk=>by simp at hk,rfl,by show 0≤_;omega⟩
  ·
   obtain ⟨Q,hQ⟩:=choose_lt (α:=Option Addr × Nat × Slt) key
   obtain ⟨b,o,sp⟩:=ad
   have hs:=World.cell?_spot (hQ 0 (by omega)).1
   obtain rfl:sp=none:=by simpa [Addr.add] using hs
   refine ⟨⟨some ⟨b,o,none⟩,len,cap,(List.range len).map fun i=>(Q i).2.2⟩,rfl,fun k hk=>?_,by simp,hle⟩
   have hk2:k<len:=by simpa using hk
   have hk3:=hQ k hk2
   have hb:=World.block_lt_of_cell? w _ hk3.1
   rw [addr_block] at hb
   rw [addr_add] at hk3
   have e1:((List.range len).map fun i=>(Q i).2.2)[k]'(by simpa using hk2)=(Q k).2.2:=by simp
   exact ⟨b,o,rfl,hb,(Q k).1,(Q k).2.1,by rw [e1];exact hk3.1,by rw [e1];exact hk3.2.2,by rw [e1];exact hk3.2.1⟩
set_option maxRecDepth 100000 in
theorem open_chc (hv:Value.okWide Tryd.prog w r b0 25 v) (h:DataW.Trod enc Tryd.prog w base spare held 25 v d p):∃ x:ChcA,v=x.val∧ChcOk w x:=by
 obtain ⟨cs,rfl,hsz⟩:∃ cs,v=.agg cs∧cs.size=2:=by
  unfold Value.okWide at hv
  rw [Tryd.underlying25] at hv
  obtain ⟨cs,h,h2,_⟩:=hv
  exact ⟨cs,h,h2.trans (by kernel_rfl)⟩
 obtain ⟨f,hf⟩:=h
 obtain ⟨l⟩:=cs
 have hf2:DataW.trod enc Tryd.prog w base spare held f 25 l=some (d,p):=by simpa [Value.cells] using hf
 obtain ⟨k,c,rfl,h0,h1⟩:=trod_chc hf2 (by simpa using hsz)
 exact ⟨⟨k,c⟩,rfl,h0,h1⟩
end
theorem slot_okV {z:Int} (z0:0≤z):okS (slotF z)=true:=by
 have h1:z % 7=0∨z % 7=1∨z % 7=2∨z % 7=3∨z % 7=4∨z % 7=5∨z % 7=6:=by omega
 have h3:List.range 3=[0,1,2]:=rfl
 unfold slotF slTo
 rw [h3]
 rcases h1 with h1 | h1 | h1 | h1 | h1 | h1 | h1 <;> simp [slHas,slC,h1,List.filter_cons,okS,okC,kyA,chA,List.range_succ] <;> omega
theorem slots_okV {Z:Nat→Int} {n:Nat} (hZ:∀ i,i<n→0≤Z i):(slotsF Z n).all okS=true:=by
 rw [List.all_eq_true]
 intro s hs
 obtain ⟨i,hi,rfl⟩:=List.mem_map.1 hs
 exact slot_okV (hZ i (List.mem_range.1 hi))
theorem okS_len {s:Slt} (h:okS s=true):1≤s.length∧s.length≤8:=by
 unfold okS at h
 simp only [Bool.and_eq_true,decide_eq_true_eq] at h
 exact ⟨h.1,h.2.1⟩
def moreV (L:List Slt) (k:Nat) (h:Ch):List Slt:=L.modify k fun s=>s ++ [h]
theorem moreV_len {L:List Slt} {k:Nat} {h:Ch}:(moreV L k h).length=L.length:=by unfold moreV;rw [List.length_modify]
theorem own_someV {α:Type} {T:RowT α} {w:World} {B:Nat} {v:Value} {L:List α} (h:OwnG T w B v L) (hl:0<L.length):∃ g c,v=.slice (some ⟨g,0,none⟩) L.length c:=by
 rcases h.blk with ⟨_,e⟩ | ⟨g,c,e,_⟩
 · rw [e] at hl;exact absurd hl (Nat.lt_irrefl _)
 · exact ⟨g,c,e⟩
theorem cells_allV {α:Type} {T:RowT α} {w:World} {B g n c:Nat} {Ls:List α} (h:OwnG T w B (.slice (some ⟨g,0,none⟩) n c) Ls) :
  ∀ j u,(Ls.flatMap T.enc)[j]? = some u→w.cell? ((⟨g,0,none⟩:Addr).add j)=some u:=fun j u hj=>World.ownsRow.cells (g:=g) h rfl j u hj
theorem step_append_g {α:Type} {T:RowT α} (hT:T.Ok) {w:World} {B:Nat} {v:Value} {L:List α} {ops:Array Oper} {o:Oper} {a:Act} {K:Act→World→Prop} {Q:Exit→Act→World→Prop} {E:Prop} (hgd:o.guard=none) (s x:Operand)
  (ho:o.op=.call { callee:=.builtin .append,args:=#[s,x],argTypes:=#[T.sl,T.sl] }) (hs:a.eval s=v) (hown:OwnG T w B v L) (ad:Addr) (c:Nat) (news:List α) (hx:a.eval x=.slice (some ad) news.length c)
  (hn:∀ j u,(news.flatMap T.enc)[j]? = some u→w.cell? (ad.add j)=some u) (hl:L.length+news.length≤1000000000000) (hB:B≤w.heap.size)
  (h:∀ v' w',OwnG T w' B v' (L ++ news)→w.grownBy w' v.ownBlock→(v'.ownBlock=v.ownBlock∨v'.ownBlock=some w.heap.size)→K (a.put o.dst v') w'):if Region.wanted o (yielded ops a.tmps)=true then Oper.wp Tryd.prog o a w K Q else E:=by
 have hw:Region.wanted o (yielded ops a.tmps)=true:=by simp [Region.wanted,hgd]
 rw [if_pos hw]
 obtain ⟨v',w',hr,h1,h2,h3⟩:=hown.run_append hT o.type ad c news hn hl hB
 unfold Oper.wp
 simp only [execOp,ho,resolve,invoke,builtin,Sem.run_bind,Sem.run_pure,Result.andThen_ok,List.map_toArray,List.map_cons,List.map_nil,hs,hx,hr]
 exact h v' w' h1 h2 h3
theorem qc_cells {w:World} {g:Nat} {q:UInt8} {cc:Int} (hh:w.heap[g]? = some (.cells #[.int .u8 (q.toNat:Int),.int .i64 cc] 25 (0,0))) :
  ∀ j u,([(⟨q,cc⟩:Ch)].flatMap rowCh.enc)[j]? = some u→w.cell? ((⟨g,0,none⟩:Addr).add j)=some u:=fun j u hj=>by
 match j,hj with
 | 0,hj=>cases hj;show World.cell? _ ⟨g,0,none⟩=_;rw [cell_of_row _ _ _ _ _ (0,0) hh];rfl
 | 1,hj=>cases hj;show World.cell? _ ⟨g,1,none⟩=_;rw [cell_of_row _ _ _ _ _ (0,0) hh];rfl
theorem one_moreV {w:World} {B g n c:Nat} {s:Slt} (h:OwnG rowCh w B (.slice (some ⟨g,0,none⟩) n c) s) (q:UInt8) (cc:Int) :
  OwnG rowCh (w.alloc (.cells #[.int .u8 (q.toNat:Int),.int .i64 cc] 25)) B (.slice (some ⟨g,0,none⟩) n c) s ∧
   (∀ j u,([(⟨q,cc⟩:Ch)].flatMap rowCh.enc)[j]? = some u→(w.alloc (.cells #[.int .u8 (q.toNat:Int),.int .i64 cc] 25)).cell? ((⟨w.heap.size,0,none⟩:Addr).add j)=some u) ∧
   Ext w (w.alloc (.cells #[.int .u8 (q.toNat:Int),.int .i64 cc] 25)):=by
 have hx:Ext w (w.alloc (.cells #[.int .u8 (q.toNat:Int),.int .i64 cc] 25)):=(Below.refl _ _).alloc (Nat.le_refl _) _
 refine ⟨h.later hx (Nat.le_refl _),fun j u hj=>?_,hx⟩
 have hh:(w.alloc (.cells #[.int .u8 (q.toNat:Int),.int .i64 cc] 25)).heap[w.heap.size]? = some (.cells #[.int .u8 (q.toNat:Int),.int .i64 cc] 25 (0,0)):=heap_alloc_new _ _
 match j,hj with
 | 0,hj=>cases hj;show World.cell? _ ⟨w.heap.size,0,none⟩=_;rw [cell_of_row _ _ _ _ _ (0,0) hh];rfl
 | 1,hj=>cases hj;show World.cell? _ ⟨w.heap.size,1,none⟩=_;rw [cell_of_row _ _ _ _ _ (0,0) hh];rfl
theorem flat_sltsV (M:List SV):M.flatMap rowSlts.enc=M.map svS:=by
 induction M with
 | nil=>rfl
 | cons x r ih=>rw [List.flatMap_cons,ih];rfl
theorem row_keptV {w8 w8' w9:World} {B g7 c7 n g8 m c8 k:Nat} {LL:List SV} {s:Slt} {vv:Value} (h:OwnG rowSlts w8 B (.slice (some ⟨g7,0,none⟩) n c7) LL) (h8:OwnG rowCh w8 B (.slice (some ⟨g8,0,none⟩) m c8) s) (hx:Ext w8 w8') (hg:w8'.grownBy w9 (Value.slice (some ⟨g8,0,none⟩) m c8).ownBlock) (hk:k<LL.length) (hv:svS LL[k]=vv) :
  OwnG rowSlts w9 B (.slice (some ⟨g7,0,none⟩) n c7) LL∧w9.cell? ⟨g7,k,none⟩=some vv∧w9.frozen? ⟨g7,k,none⟩=false∧∃ cs,w9.heap[g7]? = some (.cells cs rowSlts.e (0,0)):=by
 have h1:OwnG rowSlts w9 B (.slice (some ⟨g7,0,none⟩) n c7) LL:=(h.later hx (Nat.le_refl _)).grown hg fun q hq e=>by
  injection e with e
  have e2:q=g8:=e
  obtain ⟨cs1,h1⟩:=ownG_obj h hq
  obtain ⟨cs2,h2⟩:=ownG_obj h8 (g:=g8) rfl
  rw [e2,h2] at h1
  injection h1 with h1
  injection h1 with _ h3
  exact absurd h3 (by decide)
 obtain ⟨cs,hcs⟩:=ownG_obj h1 (g:=g7) rfl
 have h2:=h1.cell rowSlts_ok hk (j:=0) (by decide)
 have e1:k*rowSlts.k+0=k:=by show k*1+0=_;omega
 rw [e1] at h2
 have h3:w9.cell? ⟨g7,k,none⟩=some (svS LL[k]):=h2
 rw [hv] at h3
 exact ⟨h1,h3,by simp [World.frozen?,hcs],cs,hcs⟩
theorem div2V (n:Nat):(n:Int).tdiv 2=((n / 2:Nat):Int):=by rw [Int.tdiv_eq_ediv_of_nonneg (by omega)];omega
theorem slots_outV {w w0:World} {B:Nat} {v:Value} {Z:Nat→Int} {a:Option Addr} {n m:Nat} (hZ:IsBytes w0 a n Z) (hm:m≤n) (h:SltsG w B v (slotsF Z m)) (hnn:v≠.slice none 0 0):∃ (L:List Slt) (LL:List SV) (gL cL:Nat),v=.slice (some ⟨gL,0,none⟩) L.length cL∧SltsR w B (.slice (some ⟨gL,0,none⟩) L.length cL) LL L∧L.all okS=true∧L.length=m:=by
 have hok:(slotsF Z m).all okS=true:=slots_okV fun i hi=>by
  obtain ⟨b,o,_,_,_,h1,_⟩:=hZ.at (k:=i) (by omega)
  exact h1
 obtain ⟨Ls,hr⟩:=h
 rcases hr.own.blk with ⟨e,_⟩ | ⟨g,c,e,_⟩
 · exact absurd e hnn
 ·
  rw [hr.len] at e
  subst e
  exact ⟨_,Ls,g,c,rfl,hr,hok,slotsF_len _ _⟩
set_option maxHeartbeats 12800000 in
set_option maxRecDepth 100000 in
theorem
    lookupValid_view (x:BytA) (y:SltA) (z:ChcA) (w:World) (hx:BytOk w x) (hy:SltOk w y) (hz:ChcOk w z) (hT:Tab w) :
  Calls Tryd.prog 3 #[x.val,y.val,z.val] w fun e w'=>e=.returned (.bool true)∧Below w.heap.size w w':=by
 obtain ⟨ya,yl,yc,yZ⟩:=x
 obtain ⟨hyb,hyl⟩:=hx
 obtain ⟨ra,rl,rc,R⟩:=y
 obtain ⟨hrs,hrl,hrle⟩:=hy
 obtain ⟨ck,cc⟩:=z
 obtain ⟨hk0,hk1⟩:=hz
 simp only at hyb hyl hrs hrl hrle hk0 hk1
 obtain ⟨q,rfl⟩:∃ q:UInt8,ck=(q.toNat:Int):=⟨UInt8.ofNat ck.toNat,by rw [UInt8.toNat_ofNat'];omega⟩
 subst hrl
 have HYB:=Lib.hid hyb;have HRS:=Lib.hid hrs;have HT:=Lib.hid hT
 clear hyb hrs hT
 simp only [BytA.val,SltA.val,ChcA.val]
 go_enter Tryd.func3,Tryd.ntmps3
 go_wp2_with fail
 obtain ⟨w1,hw1⟩:∃ w1,w.alloc (.cells #[.int .u8 (q.toNat:Int),.int .i64 cc] 25)=w1:=⟨_,rfl⟩
 rw [hw1]
 have HX1:Hid (Ext w w1):=by show Ext _ _;rw [← hw1];exact (Below.refl _ _).alloc (Nat.le_refl _) _
 have hbx:w1.heap[w.heap.size]? = some (.cells #[.int .u8 (q.toNat:Int),.int .i64 cc] 25 (0,0)):=by rw [← hw1];exact heap_alloc_new _ _
 have HBX:Hid (∀ W,Ext w1 W→W.heap[w.heap.size]? = some (.cells #[.int .u8 (q.toNat:Int),.int .i64 cc] 25 (0,0))):=fun W hx=>(Below.block hx _ (Array.getElem?_eq_some_iff.1 hbx).1).trans hbx
 clear hw1 hbx
 obtain ⟨gx,hgx⟩:∃ gx,w.heap.size=gx:=⟨_,rfl⟩
 rw [hgx] at HBX ⊢
 clear hgx
 refine (sanity_any w1 (HT.out.later HX1.out)).mono ?_
 rintro e w2 ⟨rfl,hb2⟩
 have HX12:Hid (Ext w1 w2):=hb2
 have HX2:Hid (Ext w w2):=Ext.trans HX1.out hb2
 clear hb2
 by_cases h45:45<R.length
 ·
  have h45I:(45:Int)<(R.length:Int):=by omega
  go_wp2_with fail
  go_ret
  exact ⟨rfl,HX2.out⟩
 have h45I:¬ (45:Int)<(R.length:Int):=by omega
 go_wp2_with fail
 go_loopg [8] R.length (fun g v8 wr=>∃ i:Nat,v8=.int .i64 (i:Int)∧i≤R.length∧g=R.length - i∧Ext w2 wr)
 case atStart=>exact ⟨0,rfl,Nat.zero_le _,rfl,Ext.refl _⟩
 case round =>
  obtain ⟨i,rfl,hi,hgk,hxr⟩:=hrel
  have HXR:=Lib.hid hxr;have HGK:=Lib.hid hgk
  clear hxr hgk
  by_cases hlt:i<R.length
  ·
   obtain ⟨b1,o1,ha1,hb1,aa,c1,q0,hle,harc⟩:=(SlotS.later HRS.out (Ext.trans HX2.out HXR.out) (Nat.le_refl _)).at hlt
   have hi1:=idx_slots ra b1 o1 R.length rc i ha1 hlt
   clear harc ha1
   by_cases h10:10<R[i].length
   ·
    have h10I:(10:Int)<(R[i].length:Int):=by omega
    go_wp2_with fail
    go_ret
    exact ⟨rfl,Ext.trans HX2.out HXR.out⟩
   ·
    have h10I:¬ (10:Int)<(R[i].length:Int):=by omega
    go_wp2_with fail
    go_roundg (R.length - (i+1))
    case measure=>have:=HGK.out;omega
    case rel=>exact ⟨i+1,by go_num,by omega,rfl,HXR.out⟩
  ·
   obtain rfl:i=R.length:=by omega
   have hltI:¬ (R.length:Int)<(R.length:Int):=by omega
   have HXW:Hid (Ext w wr):=Ext.trans HX2.out HXR.out
   have HX1W:Hid (Ext w1 wr):=Ext.trans HX12.out HXR.out
   obtain ⟨w3,hw3⟩:∃ w3:World,w3=wr:=⟨wr,rfl⟩
   subst hw3
   go_wp2_with fail
   refine (slots_any yZ ya yl yc 40 w3 (HYB.out.later HXW.out (Nat.le_refl _)) hyl (by decide)).mono ?_
   rintro e wp ⟨vL,rfl,hsl,hnn,hbp⟩
   obtain ⟨L,LL,gL,cL,rfl,hls,hokL,hLm⟩:=slots_outV HYB.out (Nat.min_le_left _ _) hsl hnn
   have hL40:L.length≤40:=by omega
   have hLL:=hls.len
   have HLS:Hid (∀ W,Ext wp W→SltsR W 0 (.slice (some ⟨gL,0,none⟩) L.length cL) LL L):=fun W hx=>(hls.mono (Nat.zero_le _)).later hx (Nat.le_refl _)
   have HOKL:Hid (validB L=true):=by show _=_;unfold validB;rw [decide_eq_true hL40,hokL];rfl
   have HOKA:=Lib.hid hokL
   have HWP:Hid (Ext w wp):=Ext.trans HXW.out hbp
   have HX1P:Hid (Ext w1 wp):=Ext.trans HX1W.out hbp
   clear hsl hnn hbp hls hokL hLm
   have HOE:Hid (OwnG rowSlts (wp.alloc (.cells #[] 28)) wp.heap.size (.slice (some ⟨wp.heap.size,0,none⟩) 0 0) []):=OwnG.empty rowSlts (heap_alloc_new _ _) (Nat.le_refl _)
   have HA0:Hid (Ext wp (wp.alloc (.cells #[] 28))):=(Below.refl _ _).alloc (Nat.le_refl _) _
   have HCE:=Lib.hid (cells_allV (HLS.out _ HA0.out).own)
   go_upto_region 11 with (at_builtin;go_loud (refine wpList_append_g (v:=.slice (some ⟨wp.heap.size,0,none⟩) 0 0) rowSlts_ok rfl _ _ rfl rfl HOE.out ⟨gL,0,none⟩ cL LL (by rw [hLL];rfl) HCE.out (by simp only [List.length_nil];omega) (by simp only [World.size_alloc];omega) ?_);intro v17 w17 hown7 hgrow7 hat7;have HO7:=Lib.hid hown7;have HG7:=Lib.hid hgrow7;clear hown7 hgrow7 hat7)
   have HX17:Hid (Ext wp w17):=Below.grown HA0.out HG7.out HA0.out.size fun q hq=>HOE.out.ge q hq
   have HO7b:Hid (OwnG rowSlts w17 wp.heap.size v17 LL):=HO7.out
   clear HOE HCE HG7 HO7 HA0
   have hel:∀ (k:Nat) (x:SV) (t:Slt),LL[k]? = some x→L[k]? = some t→ElS wp x t:=fun k x t h1 h2=>(HLS.out wp (Ext.refl _)).el k x t h1 h2
   have HEL:=Lib.hid hel
   have HW7:Hid (Ext w w17):=Ext.trans HWP.out HX17.out
   clear hel
   by_cases hL0:L.length=0
   ·
    obtain ⟨a7,c7,hv7, -, -⟩:=HO7b.out.form
    rw [hLL] at hv7
    subst hv7
    have HSB:Hid (SlotS w17 a7 L):=fun k hk=>absurd hk (by omega)
    have hL0I:¬ (0:Int)<(L.length:Int):=by omega
    clear hL0
    have hva:=lvalid_any L (some ⟨gL,0,none⟩) cL w17 (HLS.out w17 HX17.out).slotS.1 (by omega)
    rw [HOKL.out] at hva
    have HVA:=Lib.hid hva
    clear hva
    go_wp2_with fail
    refine HVA.out.mono ?_
    rintro e wA ⟨rfl,hbA⟩
    have HXA:Hid (Ext w17 wA):=hbA
    clear hbA
    have hvbl:=lvalid_any L a7 c7 wA (SlotS.later HSB.out HXA.out (Nat.le_refl _)) (by omega)
    have HVBl:=Lib.hid hvbl
    clear hvbl
    go_wp2_with fail
    refine HVBl.out.mono ?_
    rintro e wB ⟨rfl,hbB⟩
    have HXB:Hid (Ext w17 wB):=Ext.trans HXA.out hbB
    clear hbB
    have hvbr:=rvalid_any L a7 c7 wB (SlotS.later HSB.out HXB.out (Nat.le_refl _)) (by omega)
    have HVBr:=Lib.hid hvbr
    clear hvbr
    go_wp2_with fail
    refine HVBr.out.mono ?_
    rintro e wC ⟨rfl,hbC⟩
    have HXC:Hid (Ext w17 wC):=Ext.trans HXB.out hbC
    clear hbC
    go_wp2_with fail
    refine (lvalid_any R ra rc wC (SlotS.later HRS.out (Ext.trans HW7.out HXC.out) (Nat.le_refl _)) hrle).mono ?_
    rintro e wD ⟨rfl,hbD⟩
    have HXD:Hid (Ext w17 wD):=Ext.trans HXC.out hbD
    clear hbD
    go_wp2_with fail
    refine (rvalid_any R ra rc wD (SlotS.later HRS.out (Ext.trans HW7.out HXD.out) (Nat.le_refl _)) hrle).mono ?_
    rintro e wE ⟨rfl,hbE⟩
    have HXE:Hid (Ext w17 wE):=Ext.trans HXD.out hbE
    clear hbE
    go_wp2_with fail
    go_ret
    exact ⟨rfl,Ext.trans HW7.out HXE.out⟩
   ·
    obtain ⟨
        g7,c7,hv7⟩:=own_someV HO7b.out (by omega)
    rw [hLL] at hv7
    subst hv7
    have hL0I:(0:Int)<(L.length:Int):=by omega
    obtain ⟨k,hkd⟩:∃ k,L.length / 2=k:=⟨_,rfl⟩
    have hk:k<L.length:=by omega
    have hdiv:=div2V L.length
    rw [hkd] at hdiv
    go_upto_region 13 with fail
    clear hdiv
    obtain ⟨s,hs⟩:∃ s,L[k]=s:=⟨_,rfl⟩
    have hkL:k<LL.length:=by omega
    have hok:okS s=true:=by rw [← hs];exact List.all_eq_true.1 HOKA.out _ (List.getElem_mem hk)
    obtain ⟨hs1,hs8⟩:=okS_len hok
    have hel:=HEL.out k _ s (List.getElem?_eq_getElem hkL) (by rw [List.getElem?_eq_getElem hk,hs])
    obtain ⟨gk,ck8,hsv⟩:∃ gk ck8,svS LL[k]=.slice (some ⟨gk,0,none⟩) s.length ck8:=own_someV hel (by omega)
    have hcl:w17.cell? ⟨g7,k,none⟩=some (.slice (some ⟨gk,0,none⟩) s.length ck8):=by
     have h:=HO7b.out.cell rowSlts_ok hkL (j:=0) (by decide)
     have e1:k*rowSlts.k+0=k:=by show k*1+0=_;omega
     rw [e1] at h
     have h2:w17.cell? ⟨g7,k,none⟩=some (svS LL[k]):=h
     rw [hsv] at h2
     exact h2
    have hg7:g7<w17.heap.size:=HO7b.out.lt _ rfl
    have hix7:=idx_slts g7 L.length c7 k hk
    obtain ⟨x0,x1⟩:=chc_cells (Ext.refl _) (HBX.out w17 (Ext.trans HX1P.out HX17.out))
    have hgx:gx<w17.heap.size:=(Array.getElem?_eq_some_iff.1 (HBX.out w17 (Ext.trans HX1P.out HX17.out))).1
    have xE:∀ W o,Ext W (World.alloc W o):=fun W o=>(Below.refl _ _).alloc (Nat.le_refl _) _
    have HSV:=Lib.hid hsv;have HSS:=Lib.hid hs;have HEL2:=Lib.hid hel;have hs12:1≤s.length:=hs1
    have HXE1:Hid (Ext w17 (w17.alloc (.cells #[] 25)).drew):=Ext.trans (xE _ _) (drew_ext _)
    have HXE2:Hid (Ext w17 ((w17.alloc (.cells #[] 25)).alloc (.cells #[.int .u8 (q.toNat:Int),.int .i64 cc] 25)).drew):=Ext.trans (xE _ _) (Ext.trans (xE _ _) (drew_ext _))
    have HXE3:Hid (Ext w17 ((w17.alloc (.cells #[.int .u8 (q.toNat:Int),.int .i64 cc] 25)).alloc (.cells #[] 25)).drew):=Ext.trans (xE _ _) (Ext.trans (xE _ _) (drew_ext _))
    have HOC1:Hid (OwnG rowCh (w17.alloc (.cells #[] 25)).drew wp.heap.size (.slice (some ⟨w17.heap.size,0,none⟩) 0 0) []):=(OwnG.empty rowCh (heap_alloc_new _ _) HX17.out.size).later (drew_ext _) (Nat.le_refl _)
    have HOC2:Hid (OwnG rowCh ((w17.alloc (.cells #[] 25)).alloc (.cells #[.int .u8 (q.toNat:Int),.int .i64 cc] 25)).drew wp.heap.size (.slice (some ⟨w17.heap.size,0,none⟩) 0 0) []):=(OwnG.empty rowCh (heap_alloc_new _ _) HX17.out.size).later (Ext.trans (xE _ _) (drew_ext _)) (Nat.le_refl _)
    have HOC3:Hid (OwnG rowCh ((w17.alloc (.cells #[.int .u8 (q.toNat:Int),.int .i64 cc] 25)).alloc (.cells #[] 25)).drew wp.heap.size (.slice (some ⟨w17.heap.size+1,0,none⟩) 0 0) []):=by
     have h:=heap_alloc_new (w17.alloc (.cells #[.int .u8 (q.toNat:Int),.int .i64 cc] 25)) (.cells #[] 25)
     rw [World.size_alloc] at h
     exact (OwnG.empty rowCh h (by have:=HX17.out.size;omega)).later (drew_ext _) (Nat.le_refl _)
    have HQ2:Hid ((((w17.alloc (.cells #[] 25)).alloc (.cells #[.int .u8 (q.toNat:Int),.int .i64 cc] 25)).drew).heap[w17.heap.size+1]? = some (.cells #[.int .u8 (q.toNat:Int),.int .i64 cc] 25 (0,0))):=by
     have h:=heap_alloc_new (w17.alloc (.cells #[] 25)) (.cells #[.int .u8 (q.toNat:Int),.int .i64 cc] 25)
     rw [World.size_alloc] at h
     exact h
    have HQ3:Hid ((((w17.alloc (.cells #[.int .u8 (q.toNat:Int),.int .i64 cc] 25)).alloc (.cells #[] 25)).drew).heap[w17.heap.size]? = some (.cells #[.int .u8 (q.toNat:Int),.int .i64 cc] 25 (0,0))):=(Below.block (xE (w17.alloc (.cells #[.int .u8 (q.toNat:Int),.int .i64 cc] 25)) (.cells #[] 25)) _ (by rw [World.size_alloc];omega)).trans (heap_alloc_new _ _)
    have HCC1:Hid (∀ j u,(s.flatMap rowCh.enc)[j]? = some u→((w17.alloc (.cells #[] 25)).drew).cell? ((⟨gk,0,none⟩:Addr).add j)=some u):=by
     have h:=OwnG.later HEL2.out (Ext.trans HX17.out HXE1.out) (Nat.le_refl _)
     have h1:OwnG rowCh (w17.alloc (.cells #[] 25)).drew 0 (.slice (some ⟨gk,0,none⟩) s.length ck8) s:=by rw [← HSV.out];exact h
     exact cells_allV h1
    have HCC2:Hid (∀ j u,(s.flatMap rowCh.enc)[j]? = some u→(((w17.alloc (.cells #[] 25)).alloc (.cells #[.int .u8 (q.toNat:Int),.int .i64 cc] 25)).drew).cell? ((⟨gk,0,none⟩:Addr).add j)=some u):=by
     have h:=OwnG.later HEL2.out (Ext.trans HX17.out HXE2.out) (Nat.le_refl _)
     have h1:OwnG rowCh ((w17.alloc (.cells #[] 25)).alloc (.cells #[.int .u8 (q.toNat:Int),.int .i64 cc] 25)).drew 0 (.slice (some ⟨gk,0,none⟩) s.length ck8) s:=by rw [← HSV.out];exact h
     exact cells_allV h1
    have HCC3:Hid (∀ j u,(s.flatMap rowCh.enc)[j]? = some u→(((w17.alloc (.cells #[.int .u8 (q.toNat:Int),.int .i64 cc] 25)).alloc (.cells #[] 25)).drew).cell? ((⟨gk,0,none⟩:Addr).add j)=some u):=by
     have h:=OwnG.later HEL2.out (Ext.trans HX17.out HXE3.out) (Nat.le_refl _)
     have h1:OwnG rowCh ((w17.alloc (.cells #[.int .u8 (q.toNat:Int),.int .i64 cc] 25)).alloc (.cells #[] 25)).drew 0 (.slice (some ⟨gk,0,none⟩) s.length ck8) s:=by rw [← HSV.out];exact h
     exact cells_allV h1
    clear hel hs hsv hok xE
    go_cut [] (fun wx=>∃ wz:World,wz=wx∧Ext wp wz∧∃ LLn:List SV,SltsR wz wp.heap.size (.slice (some ⟨g7,0,none⟩) L.length c7) LLn (moreV L k ⟨q,cc⟩))
    case first =>
     go_region_law (first | (refine step_append_g rowCh_ok rfl (.tmp 43) (.tmp 47) rfl (by simp [Act.eval,Act.put]) HOC1.out ⟨gk,0,none⟩ ck8 s (by simp [Act.eval,Act.put]) HCC1.out (by simp only [List.length_nil];omega) (by have:=HX17.out.size;simp only [World.size_alloc,World.size_drew];omega) ?_;intro v18 w18 hown8 hgrow8 hat8;obtain ⟨g8,c8,hv8⟩:=own_someV (L:=s) hown8 hs12;subst hv8;have HO8:Hid (OwnG rowCh w18 wp.heap.size (.slice (some ⟨g8,0,none⟩) s.length c8) s):=hown8;have HX8:Hid (Ext w17 w18):=Below.grown HXE1.out hgrow8 HXE1.out.size (fun q9 hq9=>by injection hq9 with hq9;subst hq9;show w17.heap.size≤w17.heap.size;omega);obtain ⟨y0,y1⟩:=chc_cells (Ext.refl _) (HBX.out w18 (Ext.trans HX1P.out (Ext.trans HX17.out HX8.out)));have HR8:=Lib.hid (HO7b.out.later HX8.out (Nat.le_refl _));have hgx8:gx<w18.heap.size:=Nat.lt_of_lt_of_le hgx HX8.out.size;have HO8b:=Lib.hid (one_moreV HO8.out q cc);clear hown8 hgrow8 hat8) | (refine step_append_g rowCh_ok rfl (.tmp 43) (.tmp 47) rfl (by simp [Act.eval,Act.put]) HOC2.out ⟨gk,0,none⟩ ck8 s (by simp [Act.eval,Act.put]) HCC2.out (by simp only [List.length_nil];omega) (by have:=HX17.out.size;simp only [World.size_alloc,World.size_drew];omega) ?_;intro v18 w18 hown8 hgrow8 hat8;obtain ⟨g8,c8,hv8⟩:=own_someV (L:=s) hown8 hs12;subst hv8;have HO8:Hid (OwnG rowCh w18 wp.heap.size (.slice (some ⟨g8,0,none⟩) s.length c8) s):=hown8;have HX8:Hid (Ext w17 w18):=Below.grown HXE2.out hgrow8 HXE2.out.size (fun q9 hq9=>by injection hq9 with hq9;subst hq9;show w17.heap.size≤w17.heap.size;omega);obtain ⟨y0,y1⟩:=chc_cells (Ext.refl _) (HBX.out w18 (Ext.trans HX1P.out (Ext.trans HX17.out HX8.out)));have HR8:=Lib.hid (HO7b.out.later HX8.out (Nat.le_refl _));have hgx8:gx<w18.heap.size:=Nat.lt_of_lt_of_le hgx HX8.out.size;have HO8b:Hid (OwnG rowCh w18 wp.heap.size (.slice (some ⟨g8,0,none⟩) s.length c8) s∧(∀ j u,([(⟨q,cc⟩:Ch)].flatMap rowCh.enc)[j]? = some u→w18.cell? ((⟨(w17.heap.size+1),0,none⟩:Addr).add j)=some u)∧Ext w18 w18):=⟨hown8,qc_cells ((hgrow8.block (w17.heap.size+1) (by simp only [World.size_alloc,World.size_drew];omega) (fun e=>by injection e with e;have e2:(w17.heap.size+1)=w17.heap.size:=e;omega)).trans HQ2.out),Ext.refl _⟩;clear hown8 hgrow8 hat8) | (refine step_append_g rowCh_ok rfl (.tmp 43) (.tmp 47) rfl (by simp [Act.eval,Act.put]) HOC3.out ⟨gk,0,none⟩ ck8 s (by simp [Act.eval,Act.put]) HCC3.out (by simp only [List.length_nil];omega) (by have:=HX17.out.size;simp only [World.size_alloc,World.size_drew];omega) ?_;intro v18 w18 hown8 hgrow8 hat8;obtain ⟨g8,c8,hv8⟩:=own_someV (L:=s) hown8 hs12;subst hv8;have HO8:Hid (OwnG rowCh w18 wp.heap.size (.slice (some ⟨g8,0,none⟩) s.length c8) s):=hown8;have HX8:Hid (Ext w17 w18):=Below.grown HXE3.out hgrow8 HXE3.out.size (fun q9 hq9=>by injection hq9 with hq9;subst hq9;show w17.heap.size≤(w17.heap.size+1);omega);obtain ⟨y0,y1⟩:=chc_cells (Ext.refl _) (HBX.out w18 (Ext.trans HX1P.out (Ext.trans HX17.out HX8.out)));have HR8:=Lib.hid (HO7b.out.later HX8.out (Nat.le_refl _));have hgx8:gx<w18.heap.size:=Nat.lt_of_lt_of_le hgx HX8.out.size;have HO8b:Hid (OwnG rowCh w18 wp.heap.size (.slice (some ⟨g8,0,none⟩) s.length c8) s∧(∀ j u,([(⟨q,cc⟩:Ch)].flatMap rowCh.enc)[j]? = some u→w18.cell? ((⟨w17.heap.size,0,none⟩:Addr).add j)=some u)∧Ext w18 w18):=⟨hown8,qc_cells ((hgrow8.block w17.heap.size (by simp only [World.size_alloc,World.size_drew];omega) (fun e=>by injection e with e;have e2:w17.heap.size=(w17.heap.size+1):=e;omega)).trans HQ3.out),Ext.refl _⟩;clear hown8 hgrow8 hat8) | (refine step_append_g (v:=.slice (some ⟨g8,0,none⟩) s.length c8) rowCh_ok rfl (.tmp 48) (.tmp 50) rfl (by simp [Act.eval,Act.put]) HO8b.out.1 ⟨w18.heap.size,0,none⟩ 1 [⟨q,cc⟩] (by simp [Act.eval,Act.put]) HO8b.out.2.1 (by simp only [List.length_cons,List.length_nil];omega) (by have:=HX17.out.size;have:=HX8.out.size;(try simp only [World.size_alloc]);omega) ?_;intro v19 w19 hown9 hgrow9 hat9;obtain ⟨g9,c9,hv9⟩:=own_someV (L:=s ++ [⟨q,cc⟩]) hown9 (by simp);rw [List.length_append] at hv9;subst hv9;have HO9:Hid (OwnG rowCh w19 wp.heap.size (.slice (some ⟨g9,0,none⟩) (s.length+1) c9) (s ++ [⟨q,cc⟩])):=hown9;have HG9:=Lib.hid hgrow9;obtain ⟨hr9,hcl9,hfz9,cs9,hcs9⟩:=row_keptV HR8.out HO8.out HO8b.out.2.2 HG9.out hkL HSV.out;have HR9:=Lib.hid hr9;have HCS9:=Lib.hid hcs9;have HW9:Hid (Ext wp w19):=Below.grown (Ext.trans HX17.out (Ext.trans HX8.out HO8b.out.2.2)) HG9.out (by have:=HX17.out.size;have:=HX8.out.size;(try simp only [World.size_alloc]);omega) (fun q9 hq9=>HO8.out.ge q9 hq9);clear hown9 hgrow9 hat9 hcs9 hr9) | (refine step_append_g (v:=.slice (some ⟨g8,0,none⟩) s.length c8) rowCh_ok rfl (.tmp 48) (.tmp 50) rfl (by simp [Act.eval,Act.put]) HO8b.out.1 ⟨(w17.heap.size+1),0,none⟩ 1 [⟨q,cc⟩] (by simp [Act.eval,Act.put]) HO8b.out.2.1 (by simp only [List.length_cons,List.length_nil];omega) (by have:=HX17.out.size;have:=HX8.out.size;(try simp only [World.size_alloc]);omega) ?_;intro v19 w19 hown9 hgrow9 hat9;obtain ⟨g9,c9,hv9⟩:=own_someV (L:=s ++ [⟨q,cc⟩]) hown9 (by simp);rw [List.length_append] at hv9;subst hv9;have HO9:Hid (OwnG rowCh w19 wp.heap.size (.slice (some ⟨g9,0,none⟩) (s.length+1) c9) (s ++ [⟨q,cc⟩])):=hown9;have HG9:=Lib.hid hgrow9;obtain ⟨hr9,hcl9,hfz9,cs9,hcs9⟩:=row_keptV HR8.out HO8.out HO8b.out.2.2 HG9.out hkL HSV.out;have HR9:=Lib.hid hr9;have HCS9:=Lib.hid hcs9;have HW9:Hid (Ext wp w19):=Below.grown (Ext.trans HX17.out (Ext.trans HX8.out HO8b.out.2.2)) HG9.out (by have:=HX17.out.size;have:=HX8.out.size;(try simp only [World.size_alloc]);omega) (fun q9 hq9=>HO8.out.ge q9 hq9);clear hown9 hgrow9 hat9 hcs9 hr9) | (refine step_append_g (v:=.slice (some ⟨g8,0,none⟩) s.length c8) rowCh_ok rfl (.tmp 48) (.tmp 50) rfl (by simp [Act.eval,Act.put]) HO8b.out.1 ⟨w17.heap.size,0,none⟩ 1 [⟨q,cc⟩] (by simp [Act.eval,Act.put]) HO8b.out.2.1 (by simp only [List.length_cons,List.length_nil];omega) (by have:=HX17.out.size;have:=HX8.out.size;(try simp only [World.size_alloc]);omega) ?_;intro v19 w19 hown9 hgrow9 hat9;obtain ⟨g9,c9,hv9⟩:=own_someV (L:=s ++ [⟨q,cc⟩]) hown9 (by simp);rw [List.length_append] at hv9;subst hv9;have HO9:Hid (OwnG rowCh w19 wp.heap.size (.slice (some ⟨g9,0,none⟩) (s.length+1) c9) (s ++ [⟨q,cc⟩])):=hown9;have HG9:=Lib.hid hgrow9;obtain ⟨hr9,hcl9,hfz9,cs9,hcs9⟩:=row_keptV HR8.out HO8.out HO8b.out.2.2 HG9.out hkL HSV.out;have HR9:=Lib.hid hr9;have HCS9:=Lib.hid hcs9;have HW9:Hid (Ext wp w19):=Below.grown (Ext.trans HX17.out (Ext.trans HX8.out HO8b.out.2.2)) HG9.out (by have:=HX17.out.size;have:=HX8.out.size;(try simp only [World.size_alloc]);omega) (fun q9 hq9=>HO8.out.ge q9 hq9);clear hown9 hgrow9 hat9 hcs9 hr9))
     all_goals
      go_wp2_with fail
      go_meet
      refine ⟨_,rfl,HW9.out.setCell (show wp.heap.size≤g7 from HR9.out.ge g7 rfl) _,LL.set k ⟨some ⟨g9,0,none⟩,s.length+1,c9⟩,?_⟩
      refine ⟨HR9.out.setCell (by simp) ?_ (by show k<LL.length*1;omega) rowSlts_ok,by rw [List.length_set,moreV_len];exact hLL,fun j x t h1 h2=>?_⟩
      · rw [flat_sltsV,flat_sltsV,List.map_set];rfl
      ·
       unfold moreV at h2
       rw [List.getElem?_modify] at h2
       rw [List.getElem?_set] at h1
       by_cases e:k=j
       ·
        subst e
        rw [if_pos rfl,if_pos hkL] at h1
        cases h1
        rw [List.getElem?_eq_getElem hk,HSS.out] at h2
        simp at h2
        subst h2
        refine ElS.of (B:=wp.heap.size) ?_
        have h:=OwnG.keep HO9.out fun q9 hq9=>Below.heap_setCell w19 ⟨g7,k,none⟩ (.slice (some ⟨g9,0,none⟩) (s.length+1) c9) q9 (by
         show q9≠g7
         intro e
         obtain ⟨cs2,h2⟩:=ownG_obj HO9.out hq9
         rw [e,HCS9.out] at h2
         injection h2 with h2
         injection h2 with _ h3
         exact absurd h3 (by decide))
        exact h
       ·
        rw [if_neg e] at h1
        have h3:L[j]? = some t:=by
         cases e2:L[j]? with
         | none=>rw [e2] at h2;simp at h2
         | some u=>rw [e2] at h2;simp [e] at h2;rw [h2]
        exact (HLS.out _ (HW9.out.setCell (show wp.heap.size≤g7 from HR9.out.ge g7 rfl) _)).el j x t h1 h3
    case rest =>
     obtain ⟨wz,rfl,hxz,LLn,hmz⟩:=hcut
     have HXZ:=Lib.hid hxz
     have HMZ:=Lib.hid hmz
     have HW13:Hid (Ext w wz):=Ext.trans HWP.out hxz
     have hml:(moreV L k ⟨q,cc⟩).length=L.length:=moreV_len
     have HSB:Hid (SlotS wz (some ⟨g7,0,none⟩) (moreV L k ⟨q,cc⟩)):=hmz.slotS.1
     clear hxz hmz hml
     have hva:=lvalid_any L (some ⟨gL,0,none⟩) cL wz (HLS.out wz HXZ.out).slotS.1 (by omega)
     rw [HOKL.out] at hva
     have HVA:=Lib.hid hva
     clear hva
     go_wp2_with fail
     refine HVA.out.mono ?_
     rintro e wA ⟨rfl,hbA⟩
     have HXA:Hid (Ext wz wA):=hbA
     clear hbA
     have hvbl:=lvalid_any (moreV L k ⟨q,cc⟩) (some ⟨g7,0,none⟩) c7 wA (SlotS.later HSB.out HXA.out (Nat.le_refl _)) (by rw [moreV_len];omega)
     rw [moreV_len] at hvbl
     have HVBl:=Lib.hid hvbl
     clear hvbl
     go_wp2_with fail
     refine HVBl.out.mono ?_
     rintro e wB ⟨rfl,hbB⟩
     have HXB:Hid (Ext wz wB):=Ext.trans HXA.out hbB
     clear hbB
     have hvbr:=rvalid_any (moreV L k ⟨q,cc⟩) (some ⟨g7,0,none⟩) c7 wB (SlotS.later HSB.out HXB.out (Nat.le_refl _)) (by rw [moreV_len];omega)
     rw [moreV_len] at hvbr
     have HVBr:=Lib.hid hvbr
     clear hvbr
     go_wp2_with fail
     refine HVBr.out.mono ?_
     rintro e wC ⟨rfl,hbC⟩
     have HXC:Hid (Ext wz wC):=Ext.trans HXB.out hbC
     clear hbC
     go_wp2_with fail
     refine (lvalid_any R ra rc wC (SlotS.later HRS.out (Ext.trans HW13.out HXC.out) (Nat.le_refl _)) hrle).mono ?_
     rintro e wD ⟨rfl,hbD⟩
     have HXD:Hid (Ext wz wD):=Ext.trans HXC.out hbD
     clear hbD
     go_wp2_with fail
     refine (rvalid_any R ra rc wD (SlotS.later HRS.out (Ext.trans HW13.out HXD.out) (Nat.le_refl _)) hrle).mono ?_
     rintro e wE ⟨rfl,hbE⟩
     have HXE:Hid (Ext wz wE):=Ext.trans HXD.out hbE
     clear hbE
     go_wp2_with fail
     go_ret
     exact ⟨rfl,Ext.trans HW13.out HXE.out⟩
end Go.Proofs.YthjmdgejnakcmaaDoor
