/- Texts that the claims share: Next, Next2, Ref2, Made, AppE. -/
import Derived.Laws.AppendOwnNone
import Derived.Test.YthjmdgejnakcmaaGreatDoorMF1
import Derived.Test.YthjmdgejnakcmaaGreatDoorMA1
set_option linter.unusedVariables false
set_option linter.unusedSimpArgs false
namespace Go.Proofs.YthjmdgejnakcmaaGreatDoor.Fl
open Go.RowKit
theorem Hl {w:World} {ops:Array Oper} {rest:List Oper} {o:Oper} {a:Act} {Q:Exit→Act→World→Prop} (hgd:o.guard=none) (s x:Operand)
  (ho:o.op=.call { callee:=.builtin .append,args:=#[s,x],argTypes:=#[79,79] }) (base:Nat) (v:Value) (n:Nat) (xs:List Value) (hs:a.eval s=v) (hown:w.ownsRow base 3 1 v n xs)
  (B0:Nat) (vx:Value) (ys:List Nat) (hx:a.eval x=vx) (hch:Ch w B0 vx ys) (hl:n+ys.length≤1000) (hbase:base≤w.heap.size)
  (h:∀ v' w',w'.ownsRow base 3 1 v' (n+ys.length) (xs ++ G9 ys)→w.grownBy w' v.ownBlock→wpList Tryz.prog ops Q rest (a.put o.dst v') w'):wpList Tryz.prog ops Q (o :: rest) a w:=by
 obtain ⟨i0,hi,hz0,hz1,hz2⟩:=info_parts Id
 rcases id hch.2 with ⟨rfl,h0⟩ | ⟨g,cp,cur,rfl,_⟩
 ·
  obtain rfl:ys=[]:=List.eq_nil_of_length_eq_zero h0
  refine wpList_append_own_none hgd s x 79 ho base 3 i0 1 Tryz.underlying79 hi v n xs hs hown hx (h v w ?_ (World.grownBy.refl w _))
  simpa [G9] using hown
 ·
  refine wpList_append_own w hgd s x 79 ho base 3 i0 (.int .i64 0) 1 8 Tryz.underlying79 hi hz0 hz1 hz2 rfl (by decide) v n xs hs hown ⟨g,0,none⟩ ys.length cp (G9 ys) hx (by rw [LJ];omega)
   (fun j u hj=>World.ownsRow.cells (g:=g) hch rfl j u hj) (fun u hu=>by obtain ⟨k,_,rfl⟩:=AH.1 hu;rfl) (by unfold maxLen;omega) (by omega) hbase (fun v' w' h1 h2 _=>h v' w' h1 h2)
structure Wk where
 is:Nat→Bool
 ch:Nat→List Nat
def Wk.empty:Wk:=⟨fun _=>false,fun _=>[]⟩
def Wk.put (k:Wk) (t:Nat) (l:List Nat):Wk:=⟨fun j=>if j=t then true else k.is j,fun j=>if j=t then l else k.ch j⟩
def
  stepK (use:Rl→Bool) (K:Wk) (O:Wk) (i:Nat) (r:Rl):Wk :=
 if K.is r.frm.toNat && use r then
  (if !O.is r.dst.toNat || Ax (ints (K.ch r.frm.toNat ++ [i])) (ints (O.ch r.dst.toNat)) then O.put r.dst.toNat (K.ch r.frm.toNat ++ [i]) else O)
 else O
def C9 (use:Rl→Bool) (R:List Rl) (K:Wk):Nat→Wk
 | 0=>Wk.empty
 | k+1=>if h:k<R.length then stepK use K (C9 use R K k) k R[k] else C9 use R K k
def DW (use:Rl→Bool) (R:List Rl) (K:Wk):Wk:=C9 use R K R.length
def wkL (is:Nat→Bool) (vs:Nat→Value):List Value:=(List.range 8).map (fun i=>Value.bool (is i)) ++ (List.range 8).map vs
theorem Mi {is:Nat→Bool} {vs:Nat→Value} {i:Nat} (h:i<8):(wkL is vs)[i]? = some (.bool (is i)):=by
 rw [wkL,AI (by simpa using h),List.getElem?_map,List.getElem?_range h];rfl
theorem Mj {is:Nat→Bool} {vs:Nat→Value} {i:Nat} (h:i<8):(wkL is vs)[8+i]? = some (vs i):=by
 rw [wkL,AJ (by simp),List.getElem?_map]
 simp [h]
def Bv (w:World) (g:Nat) (is:Nat→Bool) (vs:Nat→Value):Prop:=w.heap[g]? = some (.cells (wkL is vs).toArray 190 (0,0))
theorem Bv.is {w:World} {g i:Nat} {is:Nat→Bool} {vs:Nat→Value} (h:Bv w g is vs) (hi:i<8):w.cell? ⟨g,i,none⟩=some (.bool (is i)):=by
 rw [cell_of_row w g i _ _ (0,0) h,List.getElem?_toArray,Mi hi]
theorem Bv.vs {w:World} {g i:Nat} {is:Nat→Bool} {vs:Nat→Value} (h:Bv w g is vs) (hi:i<8):w.cell? ⟨g,8+i,none⟩=some (vs i):=by
 rw [cell_of_row w g _ _ _ (0,0) h,List.getElem?_toArray,Mj hi]
theorem Bv.free {w:World} {g i:Nat} {is:Nat→Bool} {vs:Nat→Value} (h:Bv w g is vs):w.frozen? ⟨g,i,none⟩=false:=by unfold Bv at h;simp [World.frozen?,h]
theorem Bv.below {w w1:World} {g B:Nat} {is:Nat→Bool} {vs:Nat→Value} (h:Bv w g is vs) (hb:Below B w w1) (hg:g<B):Bv w1 g is vs:=(hb.block g hg).trans h
theorem Bv.lt {w:World} {g:Nat} {is:Nat→Bool} {vs:Nat→Value} (h:Bv w g is vs):g<w.heap.size:=(A5.1 h).1
theorem IR (is:Nat→Bool) (vs:Nat→Value):(wkL is vs).length=16:=by simp [wkL]
theorem RN {is is':Nat→Bool} {vs vs':Nat→Value} {l:List Value} (hl:l.length=16) (h1:∀ i,i<8→l[i]? = some (.bool (is i))) (h2:∀ i,i<8→l[8+i]? = some (vs i)):l=wkL is vs:=by
 apply List.ext_getElem?
 intro i
 by_cases h:i<8
 · rw [h1 i h,Mi h]
 ·
  by_cases h':i<16
  ·
   obtain ⟨j,rfl⟩:∃ j,i=8+j:=⟨i - 8,by omega⟩
   rw [h2 j (by omega),Mj (by omega)]
  · rw [AQ (by omega),AQ (by rw [IR];omega)]
theorem Bv.set {w:World} {g t:Nat} {is:Nat→Bool} {vs:Nat→Value} {v:Value} (h:Bv w g is vs) (ht:t<8) :
  Bv ((w.setCell ⟨g,t,none⟩ (.bool true)).setCell ⟨g,8+t,none⟩ v) g (fun j=>if j=t then true else is j) (fun j=>if j=t then v else vs j):=by
 unfold Bv at h ⊢
 simp only [World.setCell]
 rw [Array.getElem?_modify,if_pos rfl,Array.getElem?_modify,if_pos rfl,h]
 simp only [Option.map_some,Option.isSome_none,Bool.false_eq_true,if_false]
 congr 2
 apply Array.ext'
 simp only [Array.toList_setIfInBounds]
 refine RN (is':=is) (vs':=vs) (by simp [IR]) (fun i hi=>?_) (fun i hi=>?_)
 ·
  rw [List.getElem?_set_ne (by omega),List.getElem?_set]
  by_cases e:t=i
  · subst e;rw [if_pos rfl,IR,if_pos (by omega),if_pos rfl]
  · rw [if_neg e,Mi hi,if_neg (fun h=>e h.symm)]
 ·
  rw [List.getElem?_set]
  by_cases e:t=i
  · subst e;rw [if_pos rfl,List.length_set,IR,if_pos (by omega),if_pos rfl]
  · rw [if_neg (by omega),List.getElem?_set_ne (by omega),Mj hi,if_neg (fun h=>e h.symm)]
structure NX (B:Nat) (M:World) (g:Nat) (K O:Wk) (vK vO:Nat→Value) (wr:World):Prop where
 okK:∀ t,t<8→Ch wr 0 (vK t) (K.ch t)
 okO:∀ t,t<8→Ch wr B (vO t) (O.ch t)
 row:Bv wr g O.is vO
 bl:Below g M wr
 gB:B≤g
section
variable {B:Nat} {M:World} {g:Nat} {K O:Wk} {vK vO:Nat→Value} {wr w1:World}
theorem NX.below (h:NX B M g K O vK vO wr) (hb:Below wr.heap.size wr w1):NX B M g K O vK vO w1 :=
 ⟨fun t ht=>(h.okK t ht).below hb (h.okK t ht).lt,fun t ht=>(h.okO t ht).below hb (h.okO t ht).lt,h.row.below hb h.row.lt,h.bl.trans (hb.mono (by have:=h.row.lt;omega)),h.gB⟩
theorem Ke {w:World} {B g i:Nat} {v u:Value} {xs:List Nat} {is:Nat→Bool} {vs:Nat→Value} (h:Ch w B v xs) (hg:Bv w g is vs) (u2:Value) (i2:Nat):Ch ((w.setCell ⟨g,i,none⟩ u).setCell ⟨g,i2,none⟩ u2) B v xs:=by
 refine h.same fun b hb=>?_
 have hne:b≠g:=fun e=>by
  obtain ⟨cs',h2⟩:=h.own hb
  rw [e] at h2
  unfold Bv at hg
  rw [hg] at h2;cases h2
 rw [Below.heap_setCell _ _ _ _ hne,Below.heap_setCell _ _ _ _ hne]
theorem NX.store (h:NX B M g K O vK vO wr) {t:Nat} (ht:t<8) {v:Value} {l:List Nat} (hv:Ch wr B v l) :
  NX B M g K (O.put t l) vK (fun j=>if j=t then v else vO j) ((wr.setCell ⟨g,t,none⟩ (.bool true)).setCell ⟨g,8+t,none⟩ v):=by
 refine ⟨fun j hj=>Ke (h.okK j hj) h.row _ _,fun j hj=>?_,h.row.set ht,(h.bl.setCell (A3 _) _).setCell (A3 _) _,h.gB⟩
 show Ch _ _ (if j=t then v else vO j) (if j=t then l else O.ch j)
 by_cases e:j=t
 · rw [if_pos e,if_pos e];exact Ke hv h.row _ _
 · rw [if_neg e,if_neg e];exact Ke (h.okO j hj) h.row _ _
end
theorem OL {use:Rl→Bool} {K O:Wk} {i L:Nat} {r:Rl} (hK:∀ t,t<8→(K.ch t).length≤L) (hO:∀ t,t<8→(O.ch t).length≤L+1) (hf:r.frm.toNat<8):∀ t,t<8→((stepK use K O i r).ch t).length≤L+1:=by
 intro t ht
 unfold stepK
 split
 ·
  split
  ·
   show (if t=r.dst.toNat then K.ch r.frm.toNat ++ [i] else O.ch t).length≤L+1
   split
   · have:=hK _ hf;rw [AB];simp only [List.length_cons,List.length_nil];omega
   · exact hO t ht
  · exact hO t ht
 · exact hO t ht
theorem Ei {use:Rl→Bool} {R:List Rl} {K:Wk} {L:Nat} (hK:∀ t,t<8→(K.ch t).length≤L) (hf:∀ r∈R,r.frm.toNat<8):∀ k t,t<8→((C9 use R K k).ch t).length≤L+1
 | 0,t,_=>by simp [C9,Wk.empty]
 | k+1,t,ht=>by
  rw [C9]
  split
  · rename_i h;exact OL hK (Ei hK hf k) (hf _ (AG h)) t ht
  · exact Ei hK hf k t ht
def Bw (silent:Bool) (r:Rl):Bool:=!silent || CL r
theorem Mk (r:Rl):(CL r=true→(!r.inp.toList.isEmpty)=false)∧(CL r=false→(!r.inp.toList.isEmpty)=true):=by
 have:r.inp.toList.isEmpty=decide (r.inp.size=0):=by
  rw [ByteArray.toList_eq,Bool.eq_iff_iff,decide_eq_true_iff,List.isEmpty_iff,← ByteArray.size_data]
  constructor
  · intro h;rw [← Array.length_toList,h];rfl
  · intro h;exact List.eq_nil_of_length_eq_zero (by rw [Array.length_toList];exact h)
 unfold CL
 rw [this]
 cases decide (r.inp.size=0) <;> simp
theorem Aq {w:World} {g i:Nat} {y:Value} {cs cs':Array Value} {t:TypeId} {f:Nat × Nat} (h:w.heap[g]? = some (.cells cs t f)) (hc:cs.setIfInBounds i y=cs'):(w.setCell ⟨g,i,none⟩ y).heap[g]? = some (.cells cs' t f):=by
 simp only [World.setCell]
 rw [Array.getElem?_modify,if_pos rfl,h,← hc];rfl
theorem SN {w:World} {g:Nat} {x0 x1 x2 x3 x4 x5 x6 x7 x8 x9 x10 x11 x12 x13 x14 x15 y0 y1 y2 y3 y4 y5 y6 y7 y8 y9 y10 y11 y12 y13 y14 y15:Value} {t:TypeId} {f:Nat × Nat} (h:w.heap[g]? = some (.cells #[x0,x1,x2,x3,x4,x5,x6,x7,x8,x9,x10,x11,x12,x13,x14,x15] t f)) :
  ((((((((((((((((w.setCell ⟨g,0,none⟩ y0).setCell ⟨g,1,none⟩ y1).setCell ⟨g,2,none⟩ y2).setCell ⟨g,3,none⟩ y3).setCell ⟨g,4,none⟩ y4).setCell ⟨g,5,none⟩ y5).setCell ⟨g,6,none⟩ y6).setCell ⟨g,7,none⟩ y7).setCell ⟨g,8,none⟩ y8).setCell ⟨g,9,none⟩ y9).setCell ⟨g,10,none⟩ y10).setCell ⟨g,11,none⟩ y11).setCell ⟨g,12,none⟩ y12).setCell ⟨g,13,none⟩ y13).setCell ⟨g,14,none⟩ y14).setCell ⟨g,15,none⟩ y15).heap[g]? = some (.cells #[y0,y1,y2,y3,y4,y5,y6,y7,y8,y9,y10,y11,y12,y13,y14,y15] t f):=by
 have h0:=Aq (i:=0) (y:=y0) (cs':=#[y0,x1,x2,x3,x4,x5,x6,x7,x8,x9,x10,x11,x12,x13,x14,x15]) h rfl
 have h1:=Aq (i:=1) (y:=y1) (cs':=#[y0,y1,x2,x3,x4,x5,x6,x7,x8,x9,x10,x11,x12,x13,x14,x15]) h0 rfl
 have h2:=Aq (i:=2) (y:=y2) (cs':=#[y0,y1,y2,x3,x4,x5,x6,x7,x8,x9,x10,x11,x12,x13,x14,x15]) h1 rfl
 have h3:=Aq (i:=3) (y:=y3) (cs':=#[y0,y1,y2,y3,x4,x5,x6,x7,x8,x9,x10,x11,x12,x13,x14,x15]) h2 rfl
 have h4:=Aq (i:=4) (y:=y4) (cs':=#[y0,y1,y2,y3,y4,x5,x6,x7,x8,x9,x10,x11,x12,x13,x14,x15]) h3 rfl
 have h5:=Aq (i:=5) (y:=y5) (cs':=#[y0,y1,y2,y3,y4,y5,x6,x7,x8,x9,x10,x11,x12,x13,x14,x15]) h4 rfl
 have h6:=Aq (i:=6) (y:=y6) (cs':=#[y0,y1,y2,y3,y4,y5,y6,x7,x8,x9,x10,x11,x12,x13,x14,x15]) h5 rfl
 have h7:=Aq (i:=7) (y:=y7) (cs':=#[y0,y1,y2,y3,y4,y5,y6,y7,x8,x9,x10,x11,x12,x13,x14,x15]) h6 rfl
 have h8:=Aq (i:=8) (y:=y8) (cs':=#[y0,y1,y2,y3,y4,y5,y6,y7,y8,x9,x10,x11,x12,x13,x14,x15]) h7 rfl
 have h9:=Aq (i:=9) (y:=y9) (cs':=#[y0,y1,y2,y3,y4,y5,y6,y7,y8,y9,x10,x11,x12,x13,x14,x15]) h8 rfl
 have h10:=Aq (i:=10) (y:=y10) (cs':=#[y0,y1,y2,y3,y4,y5,y6,y7,y8,y9,y10,x11,x12,x13,x14,x15]) h9 rfl
 have h11:=Aq (i:=11) (y:=y11) (cs':=#[y0,y1,y2,y3,y4,y5,y6,y7,y8,y9,y10,y11,x12,x13,x14,x15]) h10 rfl
 have h12:=Aq (i:=12) (y:=y12) (cs':=#[y0,y1,y2,y3,y4,y5,y6,y7,y8,y9,y10,y11,y12,x13,x14,x15]) h11 rfl
 have h13:=Aq (i:=13) (y:=y13) (cs':=#[y0,y1,y2,y3,y4,y5,y6,y7,y8,y9,y10,y11,y12,y13,x14,x15]) h12 rfl
 have h14:=Aq (i:=14) (y:=y14) (cs':=#[y0,y1,y2,y3,y4,y5,y6,y7,y8,y9,y10,y11,y12,y13,y14,x15]) h13 rfl
 have h15:=Aq (i:=15) (y:=y15) (cs':=#[y0,y1,y2,y3,y4,y5,y6,y7,y8,y9,y10,y11,y12,y13,y14,y15]) h14 rfl
 exact h15
theorem No {w:World} {g:Nat} {y0 y1 y2 y3 y4 y5 y6 y7 y8 y9 y10 y11 y12 y13 y14 y15:Value} {t:TypeId} {f:Nat × Nat} (h:w.heap[g]? = some (.cells #[y0,y1,y2,y3,y4,y5,y6,y7,y8,y9,y10,y11,y12,y13,y14,y15] t f)) :
  w.cell? ⟨g,0,none⟩=some y0∧w.cell? ⟨g,1,none⟩=some y1∧w.cell? ⟨g,2,none⟩=some y2∧w.cell? ⟨g,3,none⟩=some y3∧w.cell? ⟨g,4,none⟩=some y4∧w.cell? ⟨g,5,none⟩=some y5∧w.cell? ⟨g,6,none⟩=some y6∧w.cell? ⟨g,7,none⟩=some y7∧w.cell? ⟨g,8,none⟩=some y8∧w.cell? ⟨g,9,none⟩=some y9∧w.cell? ⟨g,10,none⟩=some y10∧w.cell? ⟨g,11,none⟩=some y11∧w.cell? ⟨g,12,none⟩=some y12∧w.cell? ⟨g,13,none⟩=some y13∧w.cell? ⟨g,14,none⟩=some y14∧w.cell? ⟨g,15,none⟩=some y15:=by
 refine ⟨?_,?_,?_,?_,?_,?_,?_,?_,?_,?_,?_,?_,?_,?_,?_,?_⟩
 all_goals (rw [cell_of_row w g _ _ _ f h];rfl)
theorem Kf {w:World} {g b:Nat} {y0 y1 y2 y3 y4 y5 y6 y7 y8 y9 y10 y11 y12 y13 y14 y15:Value} (hb:b≠g):((((((((((((((((w.setCell ⟨g,0,none⟩ y0).setCell ⟨g,1,none⟩ y1).setCell ⟨g,2,none⟩ y2).setCell ⟨g,3,none⟩ y3).setCell ⟨g,4,none⟩ y4).setCell ⟨g,5,none⟩ y5).setCell ⟨g,6,none⟩ y6).setCell ⟨g,7,none⟩ y7).setCell ⟨g,8,none⟩ y8).setCell ⟨g,9,none⟩ y9).setCell ⟨g,10,none⟩ y10).setCell ⟨g,11,none⟩ y11).setCell ⟨g,12,none⟩ y12).setCell ⟨g,13,none⟩ y13).setCell ⟨g,14,none⟩ y14).setCell ⟨g,15,none⟩ y15).heap[b]? = w.heap[b]?:=by
 rw [Below.heap_setCell _ _ _ _ hb,Below.heap_setCell _ _ _ _ hb,Below.heap_setCell _ _ _ _ hb,Below.heap_setCell _ _ _ _ hb,Below.heap_setCell _ _ _ _ hb,Below.heap_setCell _ _ _ _ hb,Below.heap_setCell _ _ _ _ hb,Below.heap_setCell _ _ _ _ hb,Below.heap_setCell _ _ _ _ hb,Below.heap_setCell _ _ _ _ hb,Below.heap_setCell _ _ _ _ hb,Below.heap_setCell _ _ _ _ hb,Below.heap_setCell _ _ _ _ hb,Below.heap_setCell _ _ _ _ hb,Below.heap_setCell _ _ _ _ hb,Below.heap_setCell _ _ _ _ hb]
theorem Se (w:World) (o1 o2 o3:Obj):Bv ((((w.alloc o1).alloc o2).alloc o3).alloc (.cells #[.bool false,.bool false,.bool false,.bool false,.bool false,.bool false,.bool false,.bool false,.slice none 0 0,.slice none 0 0,.slice none 0 0,.slice none 0 0,.slice none 0 0,.slice none 0 0,.slice none 0 0,.slice none 0 0] 190)) (w.heap.size+1+1+1) Wk.empty.is (fun _=>.slice none 0 0):=by
 have h:=heap_alloc_new (((w.alloc o1).alloc o2).alloc o3) (.cells #[.bool false,.bool false,.bool false,.bool false,.bool false,.bool false,.bool false,.bool false,.slice none 0 0,.slice none 0 0,.slice none 0 0,.slice none 0 0,.slice none 0 0,.slice none 0 0,.slice none 0 0,.slice none 0 0] 190)
 unfold Bv
 have e:(wkL Wk.empty.is (fun _=>Value.slice none 0 0)).toArray=#[.bool false,.bool false,.bool false,.bool false,.bool false,.bool false,.bool false,.bool false,.slice none 0 0,.slice none 0 0,.slice none 0 0,.slice none 0 0,.slice none 0 0,.slice none 0 0,.slice none 0 0,.slice none 0 0]:=rfl
 rw [e]
 simpa using h
set_option maxHeartbeats 6400000 in
set_option maxRecDepth 100000 in
theorem
    next_any
         (S:Sch) (a:Option Addr) (cap:Nat) (K:Wk) (vK:Nat→Value) (silent:Bool) (L:Nat) (w:World) (hR:BJ w a S.rules) (hS:Fit S) (hK:∀ t,t<8→Ch w 0 (vK t) (K.ch t)) (hL:∀ t,t<8→(K.ch t).length≤L) (hL2:L≤100) :
  Calls Tryz.prog 109 #[.agg #[.int .i64 S.modes,.int .u8 S.acc,.slice a S.rules.length cap],.agg #[.bool (K.is 0),.bool (K.is 1),.bool (K.is 2),.bool (K.is 3),.bool (K.is 4),.bool (K.is 5),.bool (K.is 6),.bool (K.is 7),vK 0,vK 1,vK 2,vK 3,vK 4,vK 5,vK 6,vK 7],.bool silent] w fun e w'=>∃ (vO:Nat→Value),e=.returned (.agg (wkL (DW (Bw silent) S.rules K).is vO).toArray)∧(∀ t,t<8→Ch w' w.heap.size (vO t) ((DW (Bw silent) S.rules K).ch t))∧Below w.heap.size w w':=by
 have HR:=A0 hR;have HS:=A0 hS;have HK:=A0 hK;have HL:=A0 hL
 have hlen:=hS.len
 have hm1:=hS.m1
 clear hR hS hK hL
 have hform:∀ t,t<8→∃ b n c,vK t=.slice b n c:=fun t ht=>(HK.out t ht).form
 obtain ⟨b0,n0,c0,e0⟩:=hform 0 (by omega)
 obtain ⟨b1,n1,c1,e1⟩:=hform 1 (by omega)
 obtain ⟨b2,n2,c2,e2⟩:=hform 2 (by omega)
 obtain ⟨b3,n3,c3,e3⟩:=hform 3 (by omega)
 obtain ⟨b4,n4,c4,e4⟩:=hform 4 (by omega)
 obtain ⟨b5,n5,c5,e5⟩:=hform 5 (by omega)
 obtain ⟨b6,n6,c6,e6⟩:=hform 6 (by omega)
 obtain ⟨b7,n7,c7,e7⟩:=hform 7 (by omega)
 clear hform
 go_enter Tryz.func109,Tryz.ntmps109
 go_upto_region 3 with fail
 have HKR:Hid (Bv (((w.alloc (.cells #[.int .i64 S.modes,.int .u8 S.acc,.slice a S.rules.length cap] 32)).alloc (.cells #[.bool (K.is 0),.bool (K.is 1),.bool (K.is 2),.bool (K.is 3),.bool (K.is 4),.bool (K.is 5),.bool (K.is 6),.bool (K.is 7),.slice b0 n0 c0,.slice b1 n1 c1,.slice b2 n2 c2,.slice b3 n3 c3,.slice b4 n4 c4,.slice b5 n5 c5,.slice b6 n6 c6,.slice b7 n7 c7] 190)).alloc (.cells #[.bool false,.bool false,.bool false,.bool false,.bool false,.bool false,.bool false,.bool false,.slice none 0 0,.slice none 0 0,.slice none 0 0,.slice none 0 0,.slice none 0 0,.slice none 0 0,.slice none 0 0,.slice none 0 0] 190)) (w.heap.size+1) K.is vK):=by
  have h:=heap_alloc_new (w.alloc (.cells #[.int .i64 S.modes,.int .u8 S.acc,.slice a S.rules.length cap] 32)) (.cells #[.bool (K.is 0),.bool (K.is 1),.bool (K.is 2),.bool (K.is 3),.bool (K.is 4),.bool (K.is 5),.bool (K.is 6),.bool (K.is 7),.slice b0 n0 c0,.slice b1 n1 c1,.slice b2 n2 c2,.slice b3 n3 c3,.slice b4 n4 c4,.slice b5 n5 c5,.slice b6 n6 c6,.slice b7 n7 c7] 190)
  show Bv _ _ _ _
  unfold Bv
  have e:(wkL K.is vK).toArray=#[.bool (K.is 0),.bool (K.is 1),.bool (K.is 2),.bool (K.is 3),.bool (K.is 4),.bool (K.is 5),.bool (K.is 6),.bool (K.is 7),.slice b0 n0 c0,.slice b1 n1 c1,.slice b2 n2 c2,.slice b3 n3 c3,.slice b4 n4 c4,.slice b5 n5 c5,.slice b6 n6 c6,.slice b7 n7 c7]:=by
   rw [← e0,← e1,← e2,← e3,← e4,← e5,← e6,← e7];rfl
  rw [e,Below.heap_alloc _ _ _ (by simp)]
  simpa using h
 have HNX0:Hid (NX w.heap.size (((w.alloc (.cells #[.int .i64 S.modes,.int .u8 S.acc,.slice a S.rules.length cap] 32)).alloc (.cells #[.bool (K.is 0),.bool (K.is 1),.bool (K.is 2),.bool (K.is 3),.bool (K.is 4),.bool (K.is 5),.bool (K.is 6),.bool (K.is 7),.slice b0 n0 c0,.slice b1 n1 c1,.slice b2 n2 c2,.slice b3 n3 c3,.slice b4 n4 c4,.slice b5 n5 c5,.slice b6 n6 c6,.slice b7 n7 c7] 190)).alloc (.cells #[.bool false,.bool false,.bool false,.bool false,.bool false,.bool false,.bool false,.bool false,.slice none 0 0,.slice none 0 0,.slice none 0 0,.slice none 0 0,.slice none 0 0,.slice none 0 0,.slice none 0 0,.slice none 0 0] 190)) (w.heap.size+1+1+1) K Wk.empty vK (fun _=>.slice none 0 0) ((((w.alloc (.cells #[.int .i64 S.modes,.int .u8 S.acc,.slice a S.rules.length cap] 32)).alloc (.cells #[.bool (K.is 0),.bool (K.is 1),.bool (K.is 2),.bool (K.is 3),.bool (K.is 4),.bool (K.is 5),.bool (K.is 6),.bool (K.is 7),.slice b0 n0 c0,.slice b1 n1 c1,.slice b2 n2 c2,.slice b3 n3 c3,.slice b4 n4 c4,.slice b5 n5 c5,.slice b6 n6 c6,.slice b7 n7 c7] 190)).alloc (.cells #[.bool false,.bool false,.bool false,.bool false,.bool false,.bool false,.bool false,.bool false,.slice none 0 0,.slice none 0 0,.slice none 0 0,.slice none 0 0,.slice none 0 0,.slice none 0 0,.slice none 0 0,.slice none 0 0] 190)).alloc (.cells #[.bool false,.bool false,.bool false,.bool false,.bool false,.bool false,.bool false,.bool false,.slice none 0 0,.slice none 0 0,.slice none 0 0,.slice none 0 0,.slice none 0 0,.slice none 0 0,.slice none 0 0,.slice none 0 0] 190))) :=
  ⟨fun t ht=>(HK.out t ht).below (show Below w.heap.size w _ by go_grown) (HK.out t ht).lt,fun t ht=>Ch.nil _ _,Se _ _ _ _,by go_grown,by omega⟩
 clear e0 e1 e2 e3 e4 e5 e6 e7
 go_loopw [8] (fun i wr=>∃ (k:Nat) (vO:Nat→Value),k≤S.rules.length∧i=.int .i64 k∧NX w.heap.size (((w.alloc (.cells #[.int .i64 S.modes,.int .u8 S.acc,.slice a S.rules.length cap] 32)).alloc (.cells #[.bool (K.is 0),.bool (K.is 1),.bool (K.is 2),.bool (K.is 3),.bool (K.is 4),.bool (K.is 5),.bool (K.is 6),.bool (K.is 7),.slice b0 n0 c0,.slice b1 n1 c1,.slice b2 n2 c2,.slice b3 n3 c3,.slice b4 n4 c4,.slice b5 n5 c5,.slice b6 n6 c6,.slice b7 n7 c7] 190)).alloc (.cells #[.bool false,.bool false,.bool false,.bool false,.bool false,.bool false,.bool false,.bool false,.slice none 0 0,.slice none 0 0,.slice none 0 0,.slice none 0 0,.slice none 0 0,.slice none 0 0,.slice none 0 0,.slice none 0 0] 190)) (w.heap.size+1+1+1) K (C9 (Bw silent) S.rules K k) vK vO wr) (fun i _=>S.rules.length - (intOf i).toNat)
 case atStart=>exact ⟨0,_,by omega,rfl,HNX0.out⟩
 case round =>
  obtain ⟨k,vO,hk,rfl,hnx⟩:=hrel
  have HNX:=A0 hnx
  have hal:=hnx.bl
  have hB:Below w.heap.size w wr:=(show Below w.heap.size w (((w.alloc (.cells #[.int .i64 S.modes,.int .u8 S.acc,.slice a S.rules.length cap] 32)).alloc (.cells #[.bool (K.is 0),.bool (K.is 1),.bool (K.is 2),.bool (K.is 3),.bool (K.is 4),.bool (K.is 5),.bool (K.is 6),.bool (K.is 7),.slice b0 n0 c0,.slice b1 n1 c1,.slice b2 n2 c2,.slice b3 n3 c3,.slice b4 n4 c4,.slice b5 n5 c5,.slice b6 n6 c6,.slice b7 n7 c7] 190)).alloc (.cells #[.bool false,.bool false,.bool false,.bool false,.bool false,.bool false,.bool false,.bool false,.slice none 0 0,.slice none 0 0,.slice none 0 0,.slice none 0 0,.slice none 0 0,.slice none 0 0,.slice none 0 0,.slice none 0 0] 190)) by go_grown).trans (hal.mono (by omega))
  obtain ⟨hz, -, -⟩:=B7 hal rfl
  obtain ⟨-,hc,hf⟩:=B7 (hal.mono (show w.heap.size+1≤(w.heap.size+1+1+1) by omega)) rfl
  simp only [A6] at hz
  have hKrow:Bv wr (w.heap.size+1) K.is vK:=HKR.out.below hal (by omega)
  by_cases hlt:k<S.rules.length
  ·
   obtain ⟨
       b,
         o,ha,hb,q0,q1,q2,q3,q4⟩:=(HR.out.later hB (A3 _)).at hlt
   have hidx:=CV a b o S.rules.length cap k ha hlt
   have HA:=A0 ha;clear ha
   obtain ⟨f0,f1,t0,t1⟩:=HS.out.at0 k hlt
   have f8:S.rules[k].frm<8:=by omega
   have t8:S.rules[k].dst<8:=by omega
   have qk:=hKrow.is (i:=S.rules[k].frm.toNat) (by omega)
   have qv:=hKrow.vs (i:=S.rules[k].frm.toNat) (by omega)
   obtain ⟨bf,nf,cf,ef⟩:=(HK.out S.rules[k].frm.toNat (by omega)).form
   rw [ef] at qv
   have HEf:=A0 ef;clear ef
   obtain ⟨kf,hkf⟩:∃ kf,K.is S.rules[k].frm.toNat=kf:=⟨_,rfl⟩
   rw [hkf] at qk
   obtain ⟨O,hO⟩:∃ O,C9 (Bw silent) S.rules K k=O:=⟨_,rfl⟩
   have HO:=A0 hO
   have HN:Hid (C9 (Bw silent) S.rules K (k+1)=stepK (Bw silent) K O k S.rules[k]):=by show _=_;rw [C9,dif_pos hlt,hO]
   rw [hO] at HNX
   have HKF:=A0 hkf
   have HKrow:=A0 hKrow
   clear hkf hO hnx hKrow
   have hemp:=Mk S.rules[k]
   cases kf with
   | false =>
    have HN2:Hid (C9 (Bw silent) S.rules K (k+1)=O):=by show _=_;rw [HN.out,stepK,HKF.out,Bool.false_and,if_neg (by simp)]
    clear hemp
    go_wp2
    go_roundw
    case rel=>exact ⟨k+1,vO,by omega,by go_num,by rw [HN2.out];exact HNX.out.below (by go_grown)⟩
    case measure=>simp [intOf];omega
   | true =>
    have hrow:=HNX.out.row
    have qo:=hrow.is (i:=S.rules[k].dst.toNat) (by omega)
    have qov:=hrow.vs (i:=S.rules[k].dst.toNat) (by omega)
    obtain ⟨bo,no,co,eo⟩:=(HNX.out.okO S.rules[k].dst.toNat (by omega)).form
    rw [eo] at qov
    have HEo:=A0 eo;clear eo
    have hgl:=hrow.lt
    have hz1:=hrow.free (i:=S.rules[k].dst.toNat)
    have hz2:=hrow.free (i:=8+S.rules[k].dst.toNat)
    clear hrow
    obtain ⟨of,hof⟩:∃ of,O.is S.rules[k].dst.toNat=of:=⟨_,rfl⟩
    rw [hof] at qo
    have HOF:=A0 hof;clear hof
    have hL1:=HL.out S.rules[k].frm.toNat (by omega)
    have hOL:Hid ((O.ch S.rules[k].dst.toNat).length≤L+1):=by show _≤_;rw [← HO.out];exact Ei HL.out (fun r hr=>by obtain ⟨i,hi,rfl⟩:=List.mem_iff_getElem.1 hr;have:=HS.out.at0 i hi;omega) _ _ (by omega)
    have hOL1:=hOL.out
    have hcase:(silent=false∨silent=true∧CL S.rules[k]=true)∨(silent=true∧CL S.rules[k]=false):=by
     cases silent <;> cases CL S.rules[k] <;> simp
    rcases hcase with hcase | ⟨hs,he⟩
    ·
     have HU:Hid (Bw silent S.rules[k]=true):=by
      show _=_;unfold Bw
      rcases hcase with h | ⟨h1,h2⟩
      · rw [h];rfl
      · rw [h2];simp
     have HN2:Hid (C9 (Bw silent) S.rules K (k+1)=if !O.is S.rules[k].dst.toNat || Ax (ints (K.ch S.rules[k].frm.toNat ++ [k])) (ints (O.ch S.rules[k].dst.toNat)) then O.put S.rules[k].dst.toNat (K.ch S.rules[k].frm.toNat ++ [k]) else O):=by
      show _=_;rw [HN.out,stepK,HKF.out,HU.out,Bool.true_and,if_pos rfl]
     have hemp1:=fun h=>hemp.1 h
     have h7:World.ownsRow ((wr.alloc (.cells #[.int .i64 S.rules[k].frm,.int .i64 S.rules[k].dst,.string S.rules[k].inp,.string S.rules[k].out,.int .i64 S.rules[k].cost] 64)).alloc (.cells #[] 3)) (wr.heap.size+1) 3 1 (.slice (some ⟨wr.heap.size+1,0,none⟩) 0 0) 0 [] :=
      ⟨rfl,.inr ⟨_,0,#[],rfl,A3 _,by have:=heap_alloc_new (wr.alloc (.cells #[.int .i64 S.rules[k].frm,.int .i64 S.rules[k].dst,.string S.rules[k].inp,.string S.rules[k].out,.int .i64 S.rules[k].cost] 64)) (.cells #[] 3);simpa using this,A3 _,Nat.zero_le _,rfl,rfl⟩⟩
     have hchK:Ch ((wr.alloc (.cells #[.int .i64 S.rules[k].frm,.int .i64 S.rules[k].dst,.string S.rules[k].inp,.string S.rules[k].out,.int .i64 S.rules[k].cost] 64)).alloc (.cells #[] 3)) 0 (.slice bf nf cf) (K.ch S.rules[k].frm.toNat):=by
      have h:=HNX.out.okK S.rules[k].frm.toNat (by omega)
      rw [HEf.out] at h
      exact h.below (by go_grown) h.lt
     obtain ⟨i0,hi,iz0,iz1,iz2⟩:=info_parts Id
     have HCK:=A0 hchK;have H7:=A0 h7
     have hgE:w.heap.size+1+1+1+1≤wr.heap.size:=by omega
     clear hemp h7 hchK
     obtain ⟨bb,hbb⟩:∃ bb,Ax (ints (K.ch S.rules[k].frm.toNat ++ [k])) (ints (O.ch S.rules[k].dst.toNat))=bb:=⟨_,rfl⟩
     have HN3:Hid (C9 (Bw silent) S.rules K (k+1)=if !of || bb then O.put S.rules[k].dst.toNat (K.ch S.rules[k].frm.toNat ++ [k]) else O):=by
      show _=_;rw [HN2.out,HOF.out,hbb]
     have HBB:=A0 hbb
     clear hbb
     have HSo:Hid (∀ W,NX w.heap.size (((w.alloc (.cells #[.int .i64 S.modes,.int .u8 S.acc,.slice a S.rules.length cap] 32)).alloc (.cells #[.bool (K.is 0),.bool (K.is 1),.bool (K.is 2),.bool (K.is 3),.bool (K.is 4),.bool (K.is 5),.bool (K.is 6),.bool (K.is 7),.slice b0 n0 c0,.slice b1 n1 c1,.slice b2 n2 c2,.slice b3 n3 c3,.slice b4 n4 c4,.slice b5 n5 c5,.slice b6 n6 c6,.slice b7 n7 c7] 190)).alloc (.cells #[.bool false,.bool false,.bool false,.bool false,.bool false,.bool false,.bool false,.bool false,.slice none 0 0,.slice none 0 0,.slice none 0 0,.slice none 0 0,.slice none 0 0,.slice none 0 0,.slice none 0 0,.slice none 0 0] 190)) (w.heap.size+1+1+1) K O vK vO W→SlS W bo (ints (O.ch S.rules[k].dst.toNat))∧no=(ints (O.ch S.rules[k].dst.toNat)).length):=fun W h=>by
      have h2:=h.okO S.rules[k].dst.toNat (by omega)
      rw [HEo.out] at h2
      exact ⟨h2.sls.1,h2.sls.2.trans (B6 _).symm⟩
     have hcs:(of=false∨of=true∧bb=true)∨(of=true∧bb=false):=by cases of <;> cases bb <;> simp
     rcases hcase with hs | ⟨hs,he⟩
     all_goals
      subst hs
      try have hemp3:=hemp1 he
      clear hemp1
      rcases hcs with (hof | ⟨hof,hbb⟩) | ⟨hof,hbb⟩
     all_goals
      subst hof
      try subst hbb
      go_wp2_with (first | (at_builtin;refine Hl rfl _ _ rfl (wr.heap.size+1) (.slice (some ⟨wr.heap.size+1,0,none⟩) 0 0) 0 [] rfl H7.out 0 (.slice bf nf cf) (K.ch S.rules[k].frm.toNat) rfl HCK.out (by omega) (by simp) ?_;intro v1 w1 hown1 hgr1;have HO1:Hid (World.ownsRow w1 (wr.heap.size+1) 3 1 v1 (K.ch S.rules[k].frm.toNat).length (G9 (K.ch S.rules[k].frm.toNat))):=(by have h:=hown1;rw [Nat.zero_add,List.nil_append] at h;exact h);have hb1:Below wr.heap.size wr w1:=(by exact (((Below.refl _ wr).alloc (A3 _) _).alloc (by simp) _).grown hgr1 (by simp only [A6];omega) (fun q hq=>by (have hq2:some (wr.heap.size+1)=some q:=hq;injection hq2;omega)));have hz3:=hb1.size;have hb1r:Below (wr.heap.size+1) (wr.alloc (.cells #[.int .i64 S.rules[k].frm,.int .i64 S.rules[k].dst,.string S.rules[k].inp,.string S.rules[k].out,.int .i64 S.rules[k].cost] 64)) w1:=(by exact ((Below.refl _ _).alloc (by simp) _).grown hgr1 (by simp only [A6];omega) (fun q hq=>by (have hq2:some (wr.heap.size+1)=some q:=hq;injection hq2;omega)));have hsz1:=hb1r.size;have HB1:=A0 hb1;have HB1r:=A0 hb1r;clear hown1 hgr1 hb1 hb1r) | (at_builtin;refine wpList_append_own _ rfl _ _ 79 rfl (wr.heap.size+1) 3 i0 (.int .i64 0) 1 8 Tryz.underlying79 hi iz0 iz1 iz2 rfl (by decide) v1 (K.ch S.rules[k].frm.toNat).length (G9 (K.ch S.rules[k].frm.toNat)) rfl (World.ownsRow.alloc HO1.out _) ⟨w1.heap.size,0,none⟩ 1 1 [.int .i64 (k:Int)] rfl rfl (cell_one_new _ _ _) (by simp [Value.oneCell']) (by unfold maxLen;omega) (by omega) (by simp only [A6] at hsz1 ⊢;omega) ?_;intro v2 w2 hown2 hgr2 _;have HC2:=A0 (Nc hown2);have hb2:Below (wr.heap.size+1) (wr.alloc (.cells #[.int .i64 S.rules[k].frm,.int .i64 S.rules[k].dst,.string S.rules[k].inp,.string S.rules[k].out,.int .i64 S.rules[k].cost] 64)) w2:=(by exact (HB1r.out.alloc (by simp only [A6] at hsz1 ⊢;omega) _).grown hgr2 (by simp only [A6] at hsz1 ⊢;omega) (fun q hq=>by have:=HO1.out;exact Ch.ge (xs:=K.ch S.rules[k].frm.toNat) this q hq));obtain ⟨hzA,hcA,hfA⟩:=B7 hb2 rfl;have hzA2:wr.heap.size+1≤w2.heap.size:=(by simpa using hzA);have hbw2:Below wr.heap.size wr w2:=(by exact ((Below.refl _ wr).alloc (A3 _) _).trans (hb2.mono (by omega)));have HNX2:=A0 (HNX.out.below hbw2);obtain ⟨bA,nA,cA,hvA⟩:=HC2.out.form;subst hvA;have HCf:=A0 (HC2.out.mono (show w.heap.size≤wr.heap.size+1 by omega));have hB:=hB.trans (hbw2.mono (show w.heap.size≤wr.heap.size by omega));clear hown2 hgr2 hb2 hbw2) | (go_at_call 110;refine (before_any bA bo nA no cA co (ints (K.ch S.rules[k].frm.toNat ++ [k])) (ints (O.ch S.rules[k].dst.toNat)) _ (HC2.out.sls.2.trans (B6 _).symm) (HSo.out _ HNX2.out).2 HC2.out.sls.1 (HSo.out _ HNX2.out).1 (by rw [B6,AB];simp only [List.length_cons,List.length_nil];omega) (by rw [B6];omega)).mono ?_;rintro ee w3 ⟨he3,hb⟩;rw [HBB.out] at he3;subst he3;have HNX3:=A0 (HNX2.out.below hb);have HCg:=A0 (HCf.out.below hb HCf.out.lt);obtain ⟨hzB,hcB,hfB⟩:=BL hb rfl;have hB:=hB.trans (hb.mono (show w.heap.size≤w2.heap.size by have:=hB.size;omega));clear hb) | fail)
      first
       | (
         go_roundw
         case rel=>first | exact ⟨k+1,vO,by omega,by go_num,by rw [HN3.out];exact HNX3.out⟩ | exact ⟨k+1,_,by omega,by go_num,by rw [HN3.out];exact HNX3.out.store (by omega) HCg.out⟩ | exact ⟨k+1,_,by omega,by go_num,by rw [HN3.out];exact HNX2.out.store (by omega) HCf.out⟩
         case measure=>simp [intOf];omega)
       | fail
    ·
     have HN2:Hid (C9 (Bw silent) S.rules K (k+1)=O):=by show _=_;rw [HN.out,stepK,HKF.out];unfold Bw;rw [hs,he];rfl
     have hemp2:=hemp.2 he
     subst hs
     clear hemp he
     go_wp2
     go_roundw
     case rel=>exact ⟨k+1,vO,by omega,by go_num,by rw [HN2.out];exact HNX.out.below (by go_grown)⟩
     case measure=>simp [intOf];omega
  ·
   obtain rfl:k=S.rules.length:=by omega
   go_upto_region 12 with fail
   obtain ⟨O,hO⟩:∃ O,C9 (Bw silent) S.rules K S.rules.length=O:=⟨_,rfl⟩
   have HO:Hid (DW (Bw silent) S.rules K=O):=hO
   have HNX:Hid (NX w.heap.size (((w.alloc (.cells #[.int .i64 S.modes,.int .u8 S.acc,.slice a S.rules.length cap] 32)).alloc (.cells #[.bool (K.is 0),.bool (K.is 1),.bool (K.is 2),.bool (K.is 3),.bool (K.is 4),.bool (K.is 5),.bool (K.is 6),.bool (K.is 7),.slice b0 n0 c0,.slice b1 n1 c1,.slice b2 n2 c2,.slice b3 n3 c3,.slice b4 n4 c4,.slice b5 n5 c5,.slice b6 n6 c6,.slice b7 n7 c7] 190)).alloc (.cells #[.bool false,.bool false,.bool false,.bool false,.bool false,.bool false,.bool false,.bool false,.slice none 0 0,.slice none 0 0,.slice none 0 0,.slice none 0 0,.slice none 0 0,.slice none 0 0,.slice none 0 0,.slice none 0 0] 190)) (w.heap.size+1+1+1) K O vK vO wr):=by have:=HNX.out;rw [hO] at this;exact this
   clear hO hnx
   have hrow:=HNX.out.row
   obtain ⟨p0,m0,d0,g0⟩:=(HNX.out.okO 0 (by omega)).form
   obtain ⟨p1,m1,d1,g1⟩:=(HNX.out.okO 1 (by omega)).form
   obtain ⟨p2,m2,d2,g2⟩:=(HNX.out.okO 2 (by omega)).form
   obtain ⟨p3,m3,d3,g3⟩:=(HNX.out.okO 3 (by omega)).form
   obtain ⟨p4,m4,d4,g4⟩:=(HNX.out.okO 4 (by omega)).form
   obtain ⟨p5,m5,d5,g5⟩:=(HNX.out.okO 5 (by omega)).form
   obtain ⟨p6,m6,d6,g6⟩:=(HNX.out.okO 6 (by omega)).form
   obtain ⟨p7,m7,d7,g7⟩:=(HNX.out.okO 7 (by omega)).form
   have r0:=hrow.is (i:=0) (by omega)
   have r1:=hrow.is (i:=1) (by omega)
   have r2:=hrow.is (i:=2) (by omega)
   have r3:=hrow.is (i:=3) (by omega)
   have r4:=hrow.is (i:=4) (by omega)
   have r5:=hrow.is (i:=5) (by omega)
   have r6:=hrow.is (i:=6) (by omega)
   have r7:=hrow.is (i:=7) (by omega)
   have r8:=hrow.vs (i:=0) (by omega)
   rw [g0] at r8
   have r9:=hrow.vs (i:=1) (by omega)
   rw [g1] at r9
   have r10:=hrow.vs (i:=2) (by omega)
   rw [g2] at r10
   have r11:=hrow.vs (i:=3) (by omega)
   rw [g3] at r11
   have r12:=hrow.vs (i:=4) (by omega)
   rw [g4] at r12
   have r13:=hrow.vs (i:=5) (by omega)
   rw [g5] at r13
   have r14:=hrow.vs (i:=6) (by omega)
   rw [g6] at r14
   have r15:=hrow.vs (i:=7) (by omega)
   rw [g7] at r15
   simp only [Nat.reduceAdd] at r8 r9 r10 r11 r12 r13 r14 r15
   have hrb:wr.heap[w.heap.size+1+1]? = some (.cells #[.bool false,.bool false,.bool false,.bool false,.bool false,.bool false,.bool false,.bool false,.slice none 0 0,.slice none 0 0,.slice none 0 0,.slice none 0 0,.slice none 0 0,.slice none 0 0,.slice none 0 0,.slice none 0 0] 190 (0,0)):=by
    refine (hal.block (w.heap.size+1+1) (by omega)).trans ?_
    have:=heap_alloc_new ((w.alloc (.cells #[.int .i64 S.modes,.int .u8 S.acc,.slice a S.rules.length cap] 32)).alloc (.cells #[.bool (K.is 0),.bool (K.is 1),.bool (K.is 2),.bool (K.is 3),.bool (K.is 4),.bool (K.is 5),.bool (K.is 6),.bool (K.is 7),.slice b0 n0 c0,.slice b1 n1 c1,.slice b2 n2 c2,.slice b3 n3 c3,.slice b4 n4 c4,.slice b5 n5 c5,.slice b6 n6 c6,.slice b7 n7 c7] 190)) (.cells #[.bool false,.bool false,.bool false,.bool false,.bool false,.bool false,.bool false,.bool false,.slice none 0 0,.slice none 0 0,.slice none 0 0,.slice none 0 0,.slice none 0 0,.slice none 0 0,.slice none 0 0,.slice none 0 0] 190)
    simpa using this
   obtain ⟨s0,s1,s2,s3,s4,s5,s6,s7,s8,s9,s10,s11,s12,s13,s14,s15⟩:=No hrb
   have sf:∀ i,wr.frozen? ⟨w.heap.size+1+1,i,none⟩=false:=fun i=>by simp [World.frozen?,hrb]
   have hfin:=SN (y0:=.bool (O.is 0)) (y1:=.bool (O.is 1)) (y2:=.bool (O.is 2)) (y3:=.bool (O.is 3)) (y4:=.bool (O.is 4)) (y5:=.bool (O.is 5)) (y6:=.bool (O.is 6)) (y7:=.bool (O.is 7)) (y8:=.slice p0 m0 d0) (y9:=.slice p1 m1 d1) (y10:=.slice p2 m2 d2) (y11:=.slice p3 m3 d3) (y12:=.slice p4 m4 d4) (y13:=.slice p5 m5 d5) (y14:=.slice p6 m6 d6) (y15:=.slice p7 m7 d7) hrb
   have HFin:=A0 hfin
   have HRb:=A0 hrb
   have hEQ:Hid (#[.bool (O.is 0),.bool (O.is 1),.bool (O.is 2),.bool (O.is 3),.bool (O.is 4),.bool (O.is 5),.bool (O.is 6),.bool (O.is 7),.slice p0 m0 d0,.slice p1 m1 d1,.slice p2 m2 d2,.slice p3 m3 d3,.slice p4 m4 d4,.slice p5 m5 d5,.slice p6 m6 d6,.slice p7 m7 d7]=(wkL O.is vO).toArray):=by
    show _=_
    rw [← g0,← g1,← g2,← g3,← g4,← g5,← g6,← g7];rfl
   clear hrow hrb hfin g0 g1 g2 g3 g4 g5 g6 g7
   go_wp2
   obtain ⟨u0,u1,u2,u3,u4,u5,u6,u7,u8,u9,u10,u11,u12,u13,u14,u15⟩:=No HFin.out
   refine bodyPost_ret (v:=.agg #[.bool (O.is 0),.bool (O.is 1),.bool (O.is 2),.bool (O.is 3),.bool (O.is 4),.bool (O.is 5),.bool (O.is 6),.bool (O.is 7),.slice p0 m0 d0,.slice p1 m1 d1,.slice p2 m2 d2,.slice p3 m3 d3,.slice p4 m4 d4,.slice p5 m5 d5,.slice p6 m6 d6,.slice p7 m7 d7]) (by simp [results,Tryz.results109,go_sem,u0,u1,u2,u3,u4,u5,u6,u7,u8,u9,u10,u11,u12,u13,u14,u15]) rfl ⟨vO,?_,?_,?_⟩
   · rw [hEQ.out,HO.out]
   ·
    intro t ht
    rw [HO.out]
    refine (HNX.out.okO t ht).same fun q hq=>Kf fun e=>?_
    obtain ⟨cs',h2⟩:=(HNX.out.okO t ht).own hq
    rw [e,HRb.out] at h2;cases h2
   · exact ((((((((((((((((hB.setCell (by simp;omega) _)).setCell (by simp;omega) _).setCell (by simp;omega) _).setCell (by simp;omega) _).setCell (by simp;omega) _).setCell (by simp;omega) _).setCell (by simp;omega) _).setCell (by simp;omega) _).setCell (by simp;omega) _).setCell (by simp;omega) _).setCell (by simp;omega) _).setCell (by simp;omega) _).setCell (by simp;omega) _).setCell (by simp;omega) _).setCell (by simp;omega) _).setCell (by simp;omega) _
def inB (a b c:Int):Bool:=decide (b≤a) && decide (a≤c)
theorem Gb {a b c:Int} (h:b≤a) (h2:a≤c):inB a b c=true:=by simp [inB,h,h2]
theorem GC {a b c:Int} (h:¬ (b≤a∧a≤c)):inB a b c=false:=by
 unfold inB;rw [Bool.and_eq_false_iff];simp;omega
theorem F6 (a b c:Int) (w:World):Calls Tryz.prog 80 #[.int .i64 a,.int .i64 b,.int .i64 c] w fun e w'=>e=.returned (.bool (inB a b c))∧w'=w:=by
 by_cases h:b≤a
 ·
  by_cases h2:a≤c
  ·
   have H:=A0 (Gb h h2)
   go_enter Tryz.func80,Tryz.ntmps80
   go_wp2
   go_ret
   exact ⟨Ae (by rw [H.out];try (simp [h2])),rfl⟩
  ·
   have H:=A0 (GC (a:=a) (b:=b) (c:=c) (by omega))
   go_enter Tryz.func80,Tryz.ntmps80
   go_wp2
   go_ret
   exact ⟨Ae (by rw [H.out];try (simp;omega)),rfl⟩
 ·
  have H:=A0 (GC (a:=a) (b:=b) (c:=c) (by omega))
  go_enter Tryz.func80,Tryz.ntmps80
  go_wp2
  go_ret
  exact ⟨Ae (by rw [H.out];try (simp;omega)),rfl⟩
theorem Ld {c:Int}:(BX c == 1)=(decide (97≤c) && decide (c≤122)):=by
 unfold BX
 by_cases h:97≤c∧c≤122
 · simp [h]
 ·
  rw [if_neg h]
  have:(decide (97≤c) && decide (c≤122))=false:=by rw [Bool.and_eq_false_iff];simp;omega
  rw [this]
  split
  · rfl
  · split <;> rfl
theorem
    small_any (s:ByteArray) (w:World) (hs:s.size≤9223372036854775807) :
  Calls Tryz.prog 81 #[.string s] w fun e w'=>e=.returned (.bool (KR s))∧w=w':=by
 go_enter Tryz.func81,Tryz.ntmps81
 go_wp2
 go_loop [3] (fun i=>∃ k:Nat,k≤s.size∧i=.int .i64 k∧PY (s.data.toList.take k)=true) (fun i=>s.size - (intOf i).toNat)
 case atStart=>exact ⟨0,Nat.zero_le _,rfl,rfl⟩
 case round =>
  obtain ⟨k,hk,rfl,ht⟩:=hrel
  have HT:=A0 ht;clear ht
  by_cases hlt:k<s.size
  ·
   have b0:(0:Int)≤(s[k].toNat:Int):=by omega
   have b1:(s[k].toNat:Int)≤255:=by have:=s[k].toNat_lt;omega
   by_cases hc:(97:Int)≤(s[k].toNat:Int)∧(s[k].toNat:Int)≤122
   ·
    have HC:Hid ((BX (s[k].toNat:Int) == 1)=true):=by show _=true;rw [Ld];simp;omega
    obtain ⟨q1,q2⟩:=hc
    go_wp2
    go_round
    case rel=>exact ⟨k+1,by omega,by go_num,F2 s k hlt HT.out HC.out⟩
    case measure=>simp [intOf];omega
   ·
    have HC:Hid ((BX (s[k].toNat:Int) == 1)=false):=by show _=false;rw [Ld,Bool.and_eq_false_iff];simp;omega
    by_cases q1:(97:Int)≤(s[k].toNat:Int)
    ·
     have q2:(122:Int)<(s[k].toNat:Int):=by omega
     clear hc
     go_wp2
     go_ret
     exact ⟨Ae (Dp s k hlt HC.out).symm,rfl⟩
    ·
     clear hc
     go_wp2
     go_ret
     exact ⟨Ae (Dp s k hlt HC.out).symm,rfl⟩
  ·
   have HA:=A0 (F1 s k hlt)
   go_wp2
   go_ret
   exact ⟨Ae (by rw [KR,← HA.out];exact HT.out.symm),rfl⟩
theorem F7 {c:Int}:(BX c == 0)=(!(decide (97≤c) && decide (c≤122)) && (!(decide (65≤c) && decide (c≤90)) && !(decide (48≤c) && decide (c≤57)))):=by
 unfold BX
 by_cases h:97≤c∧c≤122
 · simp [h]
 ·
  by_cases h2:65≤c∧c≤90
  · rw [if_neg h,if_pos h2];simp [h2]
  ·
   by_cases h3:48≤c∧c≤57
   · rw [if_neg h,if_neg h2,if_pos h3];simp [h3]
   · rw [if_neg h,if_neg h2,if_neg h3];simp;omega
set_option maxHeartbeats 1600000 in
theorem
    plain_any (s:ByteArray) (w:World) (hs:s.size≤9223372036854775807) :
  Calls Tryz.prog 82 #[.string s] w fun e w'=>e=.returned (.bool (DE s))∧w=w':=by
 go_enter Tryz.func82,Tryz.ntmps82
 go_wp2
 go_loop [3] (fun i=>∃ k:Nat,k≤s.size∧i=.int .i64 k∧G7 (s.data.toList.take k)=true) (fun i=>s.size - (intOf i).toNat)
 case atStart=>exact ⟨0,Nat.zero_le _,rfl,rfl⟩
 case round
       =>
  obtain ⟨k,hk,rfl,ht⟩:=hrel
  have HT:=A0 ht;clear ht
  by_cases hlt:k<s.size
  ·
   have
      b0:(0:Int)≤(s[k].toNat:Int):=by omega
   have b1:(s[k].toNat:Int)≤255:=by have:=s[k].toNat_lt;omega
   rcases (show ((97:Int)≤(s[k].toNat:Int)∧(s[k].toNat:Int)≤122)∨((65:Int)≤(s[k].toNat:Int)∧(s[k].toNat:Int)≤90)∨((48:Int)≤(s[k].toNat:Int)∧(s[k].toNat:Int)≤57)∨((122:Int)<(s[k].toNat:Int))∨((90:Int)<(s[k].toNat:Int)∧(s[k].toNat:Int)<97)∨((57:Int)<(s[k].toNat:Int)∧(s[k].toNat:Int)<65)∨((s[k].toNat:Int)<48) by omega) with h | h | h | h | h | h | h
   all_goals first
    | (
      have HC:Hid ((!(BX (s[k].toNat:Int) == 0))=true):=by
       show _=true
       rw [F7];simp;omega
      go_wp2
      go_round
      case rel=>exact ⟨k+1,by omega,by go_num,F2 s k hlt HT.out HC.out⟩
      case measure=>simp [intOf];omega)
    | (
      have HC:Hid ((!(BX (s[k].toNat:Int) == 0))=false):=by
       show _=false
       rw [F7];simp;omega
      go_wp2
      go_ret
      exact ⟨Ae (Dp s k hlt HC.out).symm,rfl⟩)
  ·
   have HA:=A0 (F1 s k hlt)
   go_wp2
   go_ret
   exact ⟨Ae (by rw [DE,← HA.out];exact HT.out.symm),rfl⟩
theorem OM (m:Int) (r:Rl):EX m r=(inB r.frm 0 (m - 1) && (inB r.dst 0 (m - 1) && (decide ((r.inp.size:Int)≤4) && (KR r.inp && (decide ((r.out.size:Int)≤4) && (DE r.out && inB r.cost 0 1000)))))):=by
 unfold EX inB
 rw [show decide (r.frm≤m - 1)=decide (r.frm<m) from by rw [decide_eq_decide];omega,show decide (r.dst≤m - 1)=decide (r.dst<m) from by rw [decide_eq_decide];omega]
 simp only [Bool.and_assoc]
theorem K1 (r q:Rl):G8 r q=G8 q r:=by
 unfold G8
 rw [show decide (r.frm=q.frm)=decide (q.frm=r.frm) from by rw [decide_eq_decide];exact eq_comm,show decide (r.dst=q.dst)=decide (q.dst=r.dst) from by rw [decide_eq_decide];exact eq_comm,
  show decide (r.inp.toList=q.inp.toList)=decide (q.inp.toList=r.inp.toList) from by rw [decide_eq_decide];exact eq_comm,show decide (r.out.toList=q.out.toList)=decide (q.out.toList=r.out.toList) from by rw [decide_eq_decide];exact eq_comm,
  show decide (r.cost=q.cost)=decide (q.cost=r.cost) from by rw [decide_eq_decide];exact eq_comm]
set_option maxHeartbeats 3200000 in
theorem
    rright_any (S:Sch) (a:Option Addr) (cap i:Nat) (w:World) (hR:BJ w a S.rules) (hl:S.rules.length≤9223372036854775807) (hi:i<S.rules.length) (hm:1≤S.modes) (hm2:S.modes≤8) :
  Calls Tryz.prog 53 #[.agg #[.int .i64 S.modes,.int .u8 S.acc,.slice a S.rules.length cap],.int .i64 (i:Int)] w fun e w'=>e=.returned (.bool (D3 S S.rules[i] (S.rules.take i)))∧Below w.heap.size w w':=by
 have HR:=A0 hR;clear hR
 obtain ⟨b,o,ha,hbw,p0,p1,p2,p3,p4⟩:=HR.out.at hi
 have hidx0:=CV a b o S.rules.length cap i ha hi
 have HA:=A0 ha;clear ha
 generalize hr:S.rules[i]=r at *
 have HRI:=A0 hr;clear hr
 go_enter Tryz.func53,Tryz.ntmps53
 go_wp2
 go_loopg [6] i (fun g j wr=>∃ k:Nat,k≤i∧g=i - k∧j=.int .i64 k∧(S.rules.take k).any (G8 r)=false∧Below (w.heap.size+2) ((w.alloc (.cells #[.int .i64 S.modes,.int .u8 S.acc,.slice a S.rules.length cap] 32)).alloc (.cells #[.int .i64 r.frm,.int .i64 r.dst,.string r.inp,.string r.out,.int .i64 r.cost] 64)) wr)
 case atStart=>exact ⟨0,Nat.zero_le _,rfl,rfl,rfl,Below.refl _ _⟩
 case round =>
  obtain ⟨k,hk,rfl,rfl,hno,hal⟩:=hrel
  have HN:=A0 hno;clear hno
  have hB:Below w.heap.size w wr:=(((Below.refl _ _).alloc (A3 _) _).alloc (by simp) _).trans (hal.mono (by omega))
  obtain ⟨hz,hc,hf⟩:=B7 hal rfl
  by_cases hlt:k<i
  ·
   have hlt':k<S.rules.length:=by omega
   obtain ⟨b',o',ha',hb',q0,q1,q2,q3,q4⟩:=HR.out.at hlt'
   have hidx:=CV a b' o' S.rules.length cap k ha' hlt'
   have HA':=A0 ha';clear ha' hidx0
   have hcmp:=O6 S.rules[k] r
   by_cases hq:G8 r S.rules[k]=true
   ·
    have hq2:G8 S.rules[k] r=true:=by rw [K1];exact hq
    have HQ:Hid (D3 S r (S.rules.take i)=false):=by
     have:=SW (R:=S.rules.take i) (p:=G8 r) (k:=k) (by rw [AM];omega) (by rw [List.getElem_take];exact hq)
     show _=false
     simp [D3,this]
    clear hq
    go_wp2
    go_region
    go_wp2
    go_ret
    exact ⟨Ae HQ.out.symm,by go_grown⟩
   ·
    have hq':G8 r S.rules[k]=false:=by simpa using hq
    have hq2:G8 S.rules[k] r=false:=by rw [K1];exact hq'
    have HQ:=A0 hq'
    clear hq hq'
    go_wp2
    go_region
    go_wp2
    go_roundg (i - (k+1))
    case rel=>exact ⟨k+1,by omega,rfl,by go_num,PZ hlt' HN.out HQ.out,by go_grown⟩
    case measure=>omega
  ·
   obtain rfl:k=i:=by omega
   clear hlt
   have HG:Hid (D3 S r (S.rules.take k)=EX S.modes r):=by show _=_;simp [D3,HN.out]
   have HI:=A0 (OM S.modes r)
   go_wp2_with (first
    | (go_at_call 80;refine (F6 _ _ _ _).mono ?_;rintro e w' ⟨rfl,rfl⟩)
    | (go_at_call 81;refine (small_any _ _ (by omega)).mono ?_;rintro e w' ⟨rfl,rfl⟩)
    | (go_at_call 82;refine (plain_any _ _ (by omega)).mono ?_;rintro e w' ⟨rfl,rfl⟩))
   all_goals go_ret
   all_goals exact ⟨Ae (by rw [HG.out,HI.out];first | (simp [*];done) | (simp [*];omega)),by go_grown⟩
set_option maxHeartbeats 3200000 in
theorem
    rcheck_any (S:Sch) (a:Option Addr) (cap:Nat) (w:World) (hR:BJ w a S.rules) (h0:0≤S.acc) (h1:S.acc≤255) (hl:S.rules.length≤9223372036854775807) :
  Calls Tryz.prog 83 #[.agg #[.int .i64 S.modes,.int .u8 S.acc,.slice a S.rules.length cap]] w (O7 S w):=by
 by_cases hm:¬ (1≤S.modes∧S.modes≤8)
 ·
  have H:=A0 (GV (S:=S) (Ic (by unfold Cf;simp only [Bool.and_eq_false_iff,decide_eq_false_iff_not];omega)))
  have g1:inB S.modes 1 8=false:=GC hm
  clear hm
  go_enter Tryz.func83,Tryz.ntmps83
  go_wp2_with fail
  go_quiet ((go_at_call 80;exact Calls.quiet_of_same (F6 _ _ _ _)))
  go_wp2
  go_ret2
  exact ⟨-1,by rw [H.out];rfl,((Below.refl _ _).alloc (A3 _) _).trans (below_drewN _ _)⟩
 have hm':1≤S.modes∧S.modes≤8:=by omega
 clear hm
 obtain ⟨hm,hm2⟩:=hm'
 have g1:inB S.modes 1 8=true:=Gb hm hm2
 obtain ⟨p2,hp2⟩:∃ p,(2:Int) ^ S.modes.toNat=p:=⟨_,rfl⟩
 have hp0:0≤p2∧p2≤256:=by
  rw [← hp2];exact RA _ (by omega)
 have hw:wrap64 (2 ^ S.modes.toNat)=p2:=by rw [hp2];exact IntWalk.wrap64_in _ (by omega)
 have hw2:IntKind.i64.wrap (2 ^ S.modes.toNat)=p2:=by rw [hp2];exact IntWalk.i64_in _ (by omega)
 have hs:wrap64 (p2 - 1)=p2 - 1:=IntWalk.wrap64_in _ (by omega)
 have hs2:IntKind.i64.wrap (p2 - 1)=p2 - 1:=IntWalk.i64_in _ (by omega)
 by_cases hp:¬ (1≤S.acc∧S.acc≤p2 - 1)
 ·
  have H:=A0 (GV (S:=S) (Ic (by unfold Cf;rw [hp2];simp only [Bool.and_eq_false_iff,decide_eq_false_iff_not];omega)))
  have g2:inB S.acc 1 (p2 - 1)=false:=GC hp
  have HP2:=A0 hp2;clear hp2 hp
  go_enter Tryz.func83,Tryz.ntmps83
  go_wp2_with fail
  go_quiet ((go_at_call 80;exact Calls.quiet_of_same (F6 _ _ _ _)))
  go_wp2
  go_ret2
  exact ⟨-1,by rw [H.out];rfl,((Below.refl _ _).alloc (A3 _) _).trans (below_drewN _ _)⟩
 have hp':1≤S.acc∧S.acc≤p2 - 1:=by omega
 have g2:inB S.acc 1 (p2 - 1)=true:=Gb hp'.1 hp'.2
 by_cases hl64:64<S.rules.length
 ·
  have H:=A0 (GV (S:=S) (Ic (by unfold Cf;rw [hp2];simp only [Bool.and_eq_false_iff,decide_eq_false_iff_not];omega)))
  have hd:decide (64<(S.rules.length:Int))=true:=by simp;omega
  have HP2:=A0 hp2;clear hp2 hp hp'
  go_enter Tryz.func83,Tryz.ntmps83
  go_wp2_with fail
  go_quiet ((go_at_call 80;exact Calls.quiet_of_same (F6 _ _ _ _)))
  go_wp2
  go_ret2
  exact ⟨-1,by rw [H.out];rfl,((Below.refl _ _).alloc (A3 _) _).trans (below_drewN _ _)⟩
 have hd:decide (64<(S.rules.length:Int))=false:=by simp;omega
 have HH:Hid (Cf S=true):=by show _=true;unfold Cf;rw [hp2];simp only [Bool.and_eq_true,decide_eq_true_eq];omega
 have HP2:=A0 hp2;clear hp2 hp hp'
 have HR:=A0 hR;clear hR
 go_enter Tryz.func83,Tryz.ntmps83
 go_wp2_with fail
 go_quiet ((go_at_call 80;exact Calls.quiet_of_same (F6 _ _ _ _)))
 go_wp2
 clear hw hw2 hs hs2 g1 g2
 go_loopg [4] S.rules.length (fun g i wr=>∃ k:Nat,k≤S.rules.length∧g=S.rules.length - k∧i=.int .i64 k∧GU S k∧Below (w.heap.size+1) (w.alloc (.cells #[.int .i64 S.modes,.int .u8 S.acc,.slice a S.rules.length cap] 32)) wr)
 case atStart=>exact ⟨0,Nat.zero_le _,rfl,rfl,fun i _ h=>by omega,(below_drewN _ _)⟩
 case round =>
  obtain ⟨k,hk,rfl,rfl,hv,hal⟩:=hrel
  have HV:=A0 hv;clear hv
  have hB:Below w.heap.size w wr:=((Below.refl _ _).alloc (A3 _) _).trans (hal.mono (by omega))
  obtain ⟨hz,hc,hf⟩:=B7 hal rfl
  by_cases hlt:k<S.rules.length
  ·
   have HRw:Hid (BJ wr a S.rules):=HR.out.later hB (A3 _)
   by_cases hg:D3 S S.rules[k] (S.rules.take k)=true
   ·
    have HB:Hid (GU S (k+1)):=KT hlt HV.out hg
    go_wp2_with (go_at_call 53;refine (rright_any S a cap k _ HRw.out hl hlt hm hm2).mono ?_;rintro e w1 ⟨rfl,hb⟩;obtain ⟨hz1,hc1,hf1⟩:=BL hb rfl;have hB:=Al (B:=w.heap.size) (w:=w) (by go_grown) hb (A3 _))
    go_roundg (S.rules.length - (k+1))
    case rel=>exact ⟨k+1,by omega,rfl,by go_num,HB.out,hal.trans ((by assumption:Below wr.heap.size wr w1).mono (by simp at hz;omega))⟩
    case measure=>omega
   ·
    have hg':D3 S S.rules[k] (S.rules.take k)=false:=by simpa using hg
    have HB:Hid (KS S=20):=GV (SY hlt hg')
    clear hg
    go_wp2_with (go_at_call 53;refine (rright_any S a cap k _ HRw.out hl hlt hm hm2).mono ?_;rintro e w1 ⟨rfl,hb⟩;obtain ⟨hz1,hc1,hf1⟩:=BL hb rfl;have hB:=Al (B:=w.heap.size) (w:=w) (by go_grown) hb (A3 _))
    go_ret2
    exact ⟨k,by rw [HB.out];rfl,by go_grown⟩
  ·
   obtain rfl:k=S.rules.length:=by omega
   have HB:Hid (KS S=0):=O8 ⟨HH.out,HV.out⟩
   go_wp2
   go_ret2
   exact ⟨_,by rw [HB.out];rfl,hB⟩
theorem Bj (S:Sch) (a:Option Addr) (cap:Nat) (w:World) (hR:BJ w a S.rules) (h0:0≤S.acc) (h1:S.acc≤255) (hl:S.rules.length≤9223372036854775807) :
  Calls Tryz.prog 54 #[.agg #[.int .i64 S.modes,.int .u8 S.acc,.slice a S.rules.length cap]] w fun e w'=>e=.returned (.bool (validB S))∧Below w.heap.size w w':=by
 have HR:Hid (BJ (w.alloc (.cells #[.int .i64 S.modes,.int .u8 S.acc,.slice a S.rules.length cap] 32)) a S.rules):=hR.later ((Below.refl _ _).alloc (A3 _) _) (A3 _)
 have HE:Hid ((KS S == 0)=validB S):=by show _=_;unfold KS;cases validB S <;> rfl
 clear hR
 go_enter Tryz.func54,Tryz.ntmps54
 go_wp2_with (go_at_call 83;refine (rcheck_any S a cap _ HR.out h0 h1 hl).mono ?_;rintro e w1 ⟨i,rfl,hb⟩;have hB:=Al (B:=w.heap.size) (w:=w) (by go_grown) hb (A3 _);clear hb)
 go_ret
 exact ⟨Ae HE.out,hB⟩
def Rl.cells (r:Rl):List Value:=[.int .i64 r.frm,.int .i64 r.dst,.string r.inp,.string r.out,.int .i64 r.cost]
def B9 (R:List Rl):List Value:=R.flatMap Rl.cells
theorem C0 (R:List Rl):(B9 R).length=R.length*5:=by
 induction R with
 | nil=>rfl
 | cons r R ih=>rw [B9,List.flatMap_cons,AB];have:(R.flatMap Rl.cells).length=R.length*5:=ih;rw [this];simp [Rl.cells];omega
theorem GG:∀ {R:List Rl} {i j:Nat} (hi:i<R.length) (hj:j<5),(B9 R)[i*5+j]? = R[i].cells[j]?
 | r :: R,0,j,_,hj=>by
  rw [B9,List.flatMap_cons,Nat.zero_mul,Nat.zero_add,AI (by simp [Rl.cells];omega)];rfl
 | r :: R,i+1,j,hi,hj=>by
  rw [B9,List.flatMap_cons,AJ (by simp [Rl.cells];omega)]
  have:(i+1)*5+j - r.cells.length=i*5+j:=by simp [Rl.cells];omega
  rw [this]
  exact GG (R:=R) (by simpa using hi) hj
def CX (w:World) (B:Nat) (v:Value) (R:List Rl):Prop:=w.ownsRow B 64 5 v R.length (B9 R)
theorem
    CX.rules {w:World} {B:Nat} {v:Value} {R:List Rl} (h:CX w B v R):∃ a c,v=.slice a R.length c∧BJ w a R∧R.length≤c:=by
 rcases id h.2 with ⟨rfl,h0⟩ | ⟨g,cap,cur,rfl,h1,h2,h3,h4⟩
 ·
  obtain rfl:R=[]:=List.eq_nil_of_length_eq_zero h0
  exact ⟨none,0,rfl,.inl rfl,A3 _⟩
 ·
  refine ⟨some ⟨g,0,none⟩,cap,rfl,.inr ⟨g,0,rfl,(A5.1 h2).1,fun i hi=>?_⟩,h3⟩
  have hc:∀ j,j<5→w.cell? ⟨g,0+i*5+j,none⟩=R[i].cells[j]?:=fun j hj=>by
   have hg:=GG (R:=R) hi hj
   cases hq:R[i].cells[j]? with
   | none=>simp [Rl.cells] at hq;omega
   | some u =>
    rw [hq] at hg
    have:=World.ownsRow.cells (g:=g) h rfl (i*5+j) u hg
    rw [Addr.add_lit] at this
    rw [Nat.zero_add] at this ⊢
    exact this
  exact ⟨hc 0 (by omega),hc 1 (by omega),hc 2 (by omega),hc 3 (by omega),hc 4 (by omega)⟩
theorem CX.below {w w1:World} {B C:Nat} {v:Value} {R:List Rl} (h:CX w B v R) (hb:Below C w w1) (hv:∀ g,v.ownBlock=some g→g<C):CX w1 B v R:=by
 refine ⟨h.1,h.2.imp id ?_⟩
 rintro ⟨g,cap,cur,rfl,h1,h2,h3⟩
 exact ⟨g,cap,cur,rfl,h1,(hb.block g (hv g rfl)).trans h2,h3⟩
theorem CX.ge {w:World} {B:Nat} {v:Value} {R:List Rl} (h:CX w B v R):∀ g,v.ownBlock=some g→B≤g:=by
 intro g hg
 rcases h.2 with ⟨rfl,_⟩ | ⟨g',cap,cur,rfl,h1,h2,h3⟩
 · cases hg
 · cases hg;exact h1
theorem CX.lt {w:World} {B:Nat} {v:Value} {R:List Rl} (h:CX w B v R):∀ g,v.ownBlock=some g→g<w.heap.size:=by
 intro g hg
 rcases h.2 with ⟨rfl,_⟩ | ⟨g',cap,cur,rfl,h1,h2,h3⟩
 · cases hg
 · cases hg;exact (A5.1 h2).1
theorem CX.drop {w:World} {B:Nat} {a:Option Addr} {n c:Nat} {R:List Rl} {r:Rl} (h:CX w B (.slice a n c) (R ++ [r])):CX w B (.slice a R.length c) R:=by
 refine ⟨by rw [C0],.inr ?_⟩
 rcases h.2 with ⟨he,h0⟩ | ⟨g,cap,cur,he,h1,h2,h3,h4,h5,h6⟩
 · simp at h0
 ·
  injection he with e1 e2 e3
  subst e1 e3
  refine ⟨g,c,cur,rfl,h1,h2,by simp at h3;omega,h4,h5,?_⟩
  have:B9 (R ++ [r])=B9 R ++ r.cells:=by simp [B9]
  rw [this] at h6
  have h7:=congrArg (List.take (R.length*5)) h6
  have e7:List.take (R.length*5) (B9 R)=B9 R:=AF (by rw [C0];omega)
  rw [List.take_take,List.take_append_of_le_length (by rw [C0];omega),e7,show min (R.length*5) ((R ++ [r]).length*5)=R.length*5 by rw [AB];omega] at h7
  exact h7
def Hm (v0:Value) (r:Rl) (v:Value) (W:World):Prop:=∃ g,v=.slice (some ⟨g,0,none⟩) 1 1∧W.heap[g]? = some (.cells #[.int .i64 r.frm,.int .i64 r.dst,.string r.inp,.string r.out,.int .i64 r.cost] 64 (0,0))∧v0.ownBlock≠some g
theorem Kg (v0:Value) (r:Rl):Bp (Hm v0 r):=by
 rintro v w w' ⟨g,hv,hg,hne⟩ hx
 exact ⟨g,hv,(Below.block hx g (A5.1 hg).1).trans hg,hne⟩
theorem Kh (v0:Value) (r:Rl):∀ v w w',Hm v0 r v w→World.grownBy w w' v0.ownBlock→Hm v0 r v w':=by
 rintro v w w' ⟨g,hv,hg,hne⟩ hx
 exact ⟨g,hv,(hx.block g (A5.1 hg).1 (fun e=>hne e.symm)).trans hg,hne⟩
theorem I9:(Tryz.prog.info? 64).map (fun i=>(i.zero,i.size,i.bytes))=some (some (.agg #[.int .i64 0,.int .i64 0,.string ⟨#[]⟩,.string ⟨#[]⟩,.int .i64 0]),5,56):=by kernel_rfl
section
variable {w M0:World} {g ga:Nat} {T6 T4:Array Value} {mo ac:Int} {v:Value} {R:List Rl} {wr w1:World}
end
section
variable {w M0:World} {g ga:Nat} {T6 T4:Array Value} {mo ac:Int} {v:Value} {R:List Rl} {wr w1:World}
theorem CX.set {g i:Nat} {u:Value} {B:Nat} (h:CX wr B v R) (hg:g<B):CX (wr.setCell ⟨g,i,none⟩ u) B v R:=by
 refine ⟨h.1,h.2.imp id ?_⟩
 rintro ⟨b,cap,cur,rfl,h1,h2,h3⟩
 refine ⟨b,cap,cur,rfl,h1,?_,h3⟩
 rw [Below.heap_setCell _ _ _ _ (by show b≠g;omega)];exact h2
end
section
variable {w M0:World} {g ga:Nat} {T6 T4:Array Value} {mo ac:Int} {v v':Value} {R':List Rl} {wr w1:World} {row:Option Nat}
end
theorem G1 {W:World} {g:Nat} {r:Rl} {t:TypeId} (h:W.heap[g]? = some (.cells #[.int .i64 r.frm,.int .i64 r.dst,.string r.inp,.string r.out,.int .i64 r.cost] t (0,0))):∀ j u,r.cells[j]? = some u→W.cell? ((⟨g,0,none⟩:Addr).add j)=some u:=by
 intro j u hj
 have hc:=cell_of_row W g j _ _ (0,0) h
 have e:(⟨g,0,none⟩:Addr).add j=⟨g,j,none⟩:=by rw [Addr.add_lit,Nat.zero_add]
 rw [e,hc]
 simpa [Rl.cells] using hj
theorem Sf (r:Rl):∀ u∈r.cells,u.oneCell'=true:=by
 intro u hu
 simp only [Rl.cells,AU,List.not_mem_nil,or_false] at hu
 rcases hu with rfl | rfl | rfl | rfl | rfl <;> rfl
theorem Ml {A:Act} {W:World} {o:Oper} {s x:Operand} {B:Nat} {v u:Value} {R:List Rl} {r:Rl}
  (ho:o.op=.call { callee:=.builtin .append,args:=#[s,x],argTypes:=#[30,30] }) (hs:A.eval s=v) (hown:CX W B v R) (hx:A.eval x=u) (hu:Hm v r u W) (hl:R.length<1000) (hB:B≤W.heap.size) :
  Ep Tryz.prog A o W (fun v' w'=>CX w' B v' (R ++ [r])∧W.grownBy w' v.ownBlock):=by
 obtain ⟨i0,hi,hz0,hz1,hz2⟩:=info_parts I9
 obtain ⟨g,hv,hg,hne⟩:=hu
 obtain ⟨v',w',hr,h1,h2,h3⟩:=run_append_own (P:=Tryz.prog) (w:=W) B 30 o.type 64 i0 _ 5 56 Tryz.underlying30 hi hz0 hz1 hz2 rfl (by decide) v R.length (B9 R) hown ⟨g,0,none⟩ 1 1 r.cells rfl (G1 hg) (Sf r) (by unfold maxLen;omega) (by omega) hB
 refine .inl ⟨v',w',?_,?_,h2⟩
 ·
  unfold execOp
  simp only [ho,resolve,invoke,builtin,Sem.run_bind,Sem.run_pure,Result.andThen_ok,List.map_toArray,List.map_cons,List.map_nil,hs,hx,hv,hr]
 ·
  have e:B9 R ++ r.cells=B9 (R ++ [r]):=by simp [B9]
  have e2:(R ++ [r]).length=R.length+1:=by simp
  unfold CX
  rw [e2,← e]
  exact h1
theorem CX.ruls {w:World} {B:Nat} {b:Option Addr} {n c:Nat} {R:List Rl} (h:CX w B (.slice b n c) R):BJ w b R∧n=R.length∧R.length≤c:=by
 obtain ⟨a,c',he,h1,h2⟩:=h.rules
 injection he with e1 e2 e3
 subst e1 e3
 exact ⟨h1,e2,h2⟩
theorem CX.mono {w:World} {B C:Nat} {v:Value} {R:List Rl} (h:CX w B v R) (hC:C≤B):CX w C v R :=
 ⟨h.1,h.2.imp id fun ⟨g,cap,cur,hv,hg,h2⟩=>⟨g,cap,cur,hv,A8 hC hg,h2⟩⟩
theorem It {P:Program} {ops:Array Oper} {Q:Exit→Act→World→Prop} {L:Nat} {K:Act→World→Prop} {o:Oper} {A:Act} {W:World} {ty t:TypeId} {p v:Operand} {g:Nat} {x' y' z':Value} {n m:Int} {a:Option Addr} {k c:Nat}
  (ho:ops[L]? = some o) (hg:o.guard=none) (hop:o.op=.store ty p v) (hd:o.dst=none) (hp:A.eval p=.pointer (some ⟨g,0,none⟩)) (hv:A.eval v=.agg #[.int .i64 n,.int .u8 m,.slice a k c]) (hr:W.heap[g]? = some (.cells #[x',y',z'] t (0,0))) (hsz:(sizeOf ty).run P W=.ok 3 W)
  (hK:K A (((W.setCell ⟨g,0,none⟩ (.int .i64 n)).setCell ⟨g,1,none⟩ (.int .u8 m)).setCell ⟨g,2,none⟩ (.slice a k c))):wpOp P ops Q L K A W:=by
 unfold wpOp
 rw [ho]
 have hw:Region.wanted o (yielded ops A.tmps)=true:=by unfold Region.wanted;rw [hg]
 simp only [hw,if_pos]
 refine .inl ?_
 unfold Oper.wp execOp
 obtain ⟨c0,c1,c2⟩:=cells3 hr
 have hf:∀ i,W.frozen? ⟨g,i,none⟩=false:=fun i=>by simp [World.frozen?,hr]
 simp only [hop,hp,hv]
 simp [go_sem,hf,c0,c1,c2,hsz]
 rw [hd]
 exact hK
structure TX0 (wl:World) (B0 gt:Nat) (mo ac:Int) (v:Value) (wr:World):Prop where
 bl:Below B0 wl wr
 rep:wr.heap[gt]? = some (.cells #[.int .i64 mo,.int .u8 ac,v] 32 (0,0))
 ge:B0≤gt
structure TX (wl:World) (B0 gt:Nat) (mo ac:Int) (v:Value) (T:List Rl) (wr:World):Prop extends TX0 wl B0 gt mo ac v wr where
 own:CX wr B0 v T
section
variable {wl:World} {B0 gt:Nat} {mo ac:Int} {v v':Value} {T T':List Rl} {wr w1:World} {row:Option Nat}
theorem TX0.gs (h:TX0 wl B0 gt mo ac v wr):gt<wr.heap.size:=(A5.1 h.rep).1
theorem TX0.below (h:TX0 wl B0 gt mo ac v wr) (hb:Below wr.heap.size wr w1):TX0 wl B0 gt mo ac v w1 :=
 ⟨h.bl.trans (hb.mono (A8 h.ge (Nat.le_of_lt h.gs))),(hb.block gt h.gs).trans h.rep,h.ge⟩
theorem TX.below (h:TX wl B0 gt mo ac v T wr) (hb:Below wr.heap.size wr w1):TX wl B0 gt mo ac v T w1:=⟨h.toTX0.below hb,h.own.below hb h.own.lt⟩
theorem TX0.cells (h:TX0 wl B0 gt mo ac v wr):wr.cell? ⟨gt,0,none⟩=some (.int .i64 mo)∧wr.cell? ⟨gt,1,none⟩=some (.int .u8 ac)∧wr.cell? ⟨gt,2,none⟩=some v:=cells3 h.rep
theorem TX0.free (h:TX0 wl B0 gt mo ac v wr) (i:Nat):wr.frozen? ⟨gt,i,none⟩=false:=by simp [World.frozen?,h.rep]
theorem CX.ne_of {B:Nat} {cs:Array Value} (h:CX wr B v T) (hr:wr.heap[gt]? = some (.cells cs 32 (0,0))):∀ q,v.ownBlock=some q→q≠gt:=by
 intro q hq e
 subst e
 rcases h.2 with ⟨rfl,_⟩ | ⟨g',cap,cur,rfl,h1,h2,h3⟩
 · cases hq
 ·
  cases hq
  rw [hr] at h2
  injection h2 with h2
  injection h2 with _ h2 _
  exact absurd h2 (by decide)
theorem TX0.grown (h:TX0 wl B0 gt mo ac v wr) (hg:wr.grownBy w1 row) (hr:∀ k,row=some k→B0≤k) (hn:∀ k,row=some k→k≠gt):TX0 wl B0 gt mo ac v w1 :=
 ⟨h.bl.grown hg (A8 h.ge (Nat.le_of_lt h.gs)) hr,(hg.block gt h.gs (fun e=>hn gt e.symm rfl)).trans h.rep,h.ge⟩
theorem TX0.put (h:TX0 wl B0 gt mo ac v wr) (ho:CX wr B0 v' T'):TX wl B0 gt mo ac v' T' (wr.setCell ⟨gt,2,none⟩ v'):=by
 refine ⟨⟨h.bl.setCell h.ge _,Aq h.rep rfl,h.ge⟩,?_⟩
 have hne:=ho.ne_of h.rep
 refine ⟨ho.1,ho.2.imp id ?_⟩
 rintro ⟨b,cap,cur,rfl,h1,h2,h3⟩
 refine ⟨b,cap,cur,rfl,h1,?_,h3⟩
 rw [Below.heap_setCell _ _ _ _ (hne b rfl)];exact h2
end
end Go.Proofs.YthjmdgejnakcmaaGreatDoor.Fl
