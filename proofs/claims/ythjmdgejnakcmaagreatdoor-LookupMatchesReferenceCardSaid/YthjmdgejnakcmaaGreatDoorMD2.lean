/- Texts that the claims share: DNodeP, DTrie, DTab. -/
import Derived.Maps.Views
import Derived.Maps.OwnSet
import Derived.Maps.Own
import Derived.Test.YthjmdgejnakcmaaGreatDoorMD1
set_option linter.unusedVariables false
set_option linter.unusedSimpArgs false
namespace Go.Proofs.YthjmdgejnakcmaaGreatDoor
open Go.RowKit Go.WideShapes
def Au (s:ByteArray) (d:Nat):Int:=((s.data.toList.getD d 0).toNat:Int)
theorem Ix {s:ByteArray} {d:Nat} (h:d<s.size):Au s d=(s[d].toNat:Int):=by
 have h2:d<s.data.toList.length:=by simpa using h
 unfold Au
 rw [AP,AA h2];rfl
def addN (fin:Bool) (A:List Ar) (D:List Nd):Nat × List Nd :=
 if D.findIdx (fun x=>decide (BP x.fin x.arcs=BP fin A))<D.length then (D.findIdx (fun x=>decide (BP x.fin x.arcs=BP fin A)),D) else (D.length,D ++ [⟨fin,A⟩])
def Dz (d:Nat) (L:List ByteArray) (c:Int):Nat:=(L.takeWhile fun s=>decide (Au s d=c)).length
def Cu (rec:List ByteArray→List Nd→Nat × List Nd) (d:Nat):Nat→List ByteArray→List Ar→List Nd→List Ar × List Nd
 | 0,_,A,D=>(A,D)
 | _+1,[],A,D=>(A,D)
 | n+1,x :: r,A,D=>Cu rec d n ((x :: r).drop (Dz d (x :: r) (Au x d))) (A ++ [⟨Au x d,((rec ((x :: r).take (Dz d (x :: r) (Au x d))) D).1:Nat)⟩]) (rec ((x :: r).take (Dz d (x :: r) (Au x d))) D).2
def Lm (d:Nat) (L:List ByteArray):Bool:=match L with | []=>false | x :: _=>decide (x.size=d)
def Bk (d:Nat) (L:List ByteArray):List ByteArray:=if Lm d L=true then L.tail else L
def
  nodeW:Nat→Nat→List ByteArray→List Nd→Nat × List Nd
 | 0,_,_,D=>(0,D)
 | m+1,d,L,D =>
  addN (Lm d L) (Cu (nodeW m (d+1)) d (Bk d L).length (Bk d L) [] D).1 (Cu (nodeW m (d+1)) d (Bk d L).length (Bk d L) [] D).2
theorem Gk {d:Nat} {x:ByteArray} {r:List ByteArray}:1≤Dz d (x :: r) (Au x d):=by
 unfold Dz
 rw [List.takeWhile_cons,if_pos (by simp)]
 simp
theorem Nq {d:Nat} {L:List ByteArray} {c:Int}:Dz d L c≤L.length:=(List.takeWhile_prefix _).length_le
theorem Ln {rec:List ByteArray→List Nd→Nat × List Nd} {d:Nat} (hr:∀ L D,D.length≤(rec L D).2.length):∀ n L A D,D.length≤(Cu rec d n L A D).2.length
 | 0,_,_,_=>A3 _
 | _+1,[],_,_=>A3 _
 | n+1,x :: r,A,D=>by rw [Cu];exact A8 (hr _ _) (Ln hr n _ _ _)
theorem RQ (fin:Bool) (A:List Ar) (D:List Nd):D.length≤(addN fin A D).2.length:=by
 unfold addN;split <;> simp
theorem RT (fin:Bool) (A:List Ar) (D:List Nd):(addN fin A D).2.length≤D.length+1:=by
 unfold addN;split <;> simp
theorem RU (fin:Bool) (A:List Ar) (D:List Nd):(addN fin A D).1<(addN fin A D).2.length:=by
 unfold addN;split
 · assumption
 · simp
theorem Q5:∀ m d L D,D.length≤(nodeW m d L D).2.length
 | 0,_,_,_=>A3 _
 | m+1,d,L,D=>by rw [nodeW];exact A8 (Ln (Q5 m (d+1)) _ _ _ _) (RQ _ _ _)
theorem Lo {rec:List ByteArray→List Nd→Nat × List Nd} {d k:Nat} (hr:∀ L D,L≠[]→(rec L D).2.length≤D.length+L.length*k):∀ n L A D,(Cu rec d n L A D).2.length≤D.length+L.length*k
 | 0,_,_,_=>Nat.le_add_right _ _
 | _+1,[],_,_=>Nat.le_add_right _ _
 | n+1,x :: r,A,D=>by
  rw [Cu]
  have h1:=Gk (d:=d) (x:=x) (r:=r)
  have h2:=Nq (d:=d) (L:=x :: r) (c:=Au x d)
  have h3:=Lo (d:=d) hr n ((x :: r).drop (Dz d (x :: r) (Au x d))) (A ++ [⟨Au x d,((rec ((x :: r).take (Dz d (x :: r) (Au x d))) D).1:Nat)⟩]) (rec ((x :: r).take (Dz d (x :: r) (Au x d))) D).2
  have h4:=hr ((x :: r).take (Dz d (x :: r) (Au x d))) D (by intro h;have:=congrArg List.length h;rw [AM] at this;simp at this;omega)
  rw [List.length_drop] at h3
  rw [AM,Nat.min_eq_left h2] at h4
  have h5:((x :: r).length - Dz d (x :: r) (Au x d))*k+Dz d (x :: r) (Au x d)*k=(x :: r).length*k:=by rw [← Nat.add_mul];congr 1;omega
  omega
theorem K5 (d:Nat) (L:List ByteArray):(Bk d L).length≤L.length:=by
 unfold Bk;split <;> simp
theorem Iy:∀ m d L D,L≠[]→(nodeW m d L D).2.length≤D.length+L.length*m
 | 0,_,_,_,_=>Nat.le_add_right _ _
 | m+1,d,L,D,hL=>by
  rw [nodeW]
  have h1:=Lo (rec:=nodeW m (d+1)) (d:=d) (k:=m) (Iy m (d+1)) (Bk d L).length (Bk d L) [] D
  have h2:=RT (Lm d L) (Cu (nodeW m (d+1)) d (Bk d L).length (Bk d L) [] D).1 (Cu (nodeW m (d+1)) d (Bk d L).length (Bk d L) [] D).2
  have h3:(Bk d L).length*m≤L.length*m:=Nat.mul_le_mul_right _ (K5 d L)
  have h4:1≤L.length:=by cases L with | nil=>exact absurd rfl hL | cons=>simp
  have h5:L.length*(m+1)=L.length*m+L.length:=Nat.mul_succ _ _
  omega
theorem Q6 (m d:Nat) (L:List ByteArray) (D:List Nd):(nodeW (m+1) d L D).1<(nodeW (m+1) d L D).2.length:=by
 rw [nodeW];exact RU _ _ _
theorem OQ:∀ (m d:Nat) (L:List ByteArray) (D:List Nd),(nodeW m d L D).1≤(nodeW m d L D).2.length
 | 0,_,_,_=>Nat.zero_le _
 | m+1,d,L,D=>Nat.le_of_lt (Q6 m d L D)
structure Pre (d m:Nat) (L:List ByteArray):Prop where
 ne:L≠[]
 ge:∀ x∈L,d≤x.size
 lt:∀ x∈L,x.size<d+m
 asc:∀ x∈L,∀ c∈x.data.toList,c.toNat<128
 same:∀ x∈L,∀ y∈L,x.data.toList.take d=y.data.toList.take d
 inc:L.Pairwise fun x y=>ltS x y=true
theorem Lp:∀ {a b:List UInt8} {d:Nat},a.take d=b.take d→d≤a.length→Op.bytesLess a b=true→d<b.length
 | _,[],d,_,_,h=>by unfold Op.bytesLess at h;cases h
 | [],y :: ys,d,he,hd,h=>by simp at hd;subst hd;simp
 | x :: xs,y :: ys,0,he,hd,h=>by simp
 | x :: xs,y :: ys,d+1,he,hd,h=>by
  simp only [List.take_succ_cons,List.cons.injEq] at he
  obtain ⟨rfl,he⟩:=he
  have hx:¬ x<x:=by rw [UInt8.lt_iff_toNat_lt];omega
  simp [Op.bytesLess,hx] at h
  have:=Lp (d:=d) he (by simpa using hd) h
  simpa using this
theorem FY (x:ByteArray):x.size=x.data.toList.length:=by simp
theorem Pre.longer {d m:Nat} {x:ByteArray} {r:List ByteArray} (h:Pre d m (x :: r)):∀ y∈r,d<y.size:=by
 intro y hy
 have h1:=(AR.1 h.inc).1 y hy
 rw [ltS,ByteArray.toList_eq,ByteArray.toList_eq] at h1
 have h2:=h.ge x (by simp)
 rw [FY] at h2 ⊢
 exact Lp (h.same x (by simp) y (by simp [hy])) h2 h1
structure Rest (d m:Nat) (L:List ByteArray):Prop where
 gt:∀ x∈L,d<x.size
 lt:∀ x∈L,x.size<d+m
 asc:∀ x∈L,∀ c∈x.data.toList,c.toNat<128
 same:∀ x∈L,∀ y∈L,x.data.toList.take d=y.data.toList.take d
 inc:L.Pairwise fun x y=>ltS x y=true
theorem Pre.rest {d m:Nat} {L:List ByteArray} (h:Pre d m L):Rest d m (Bk d L):=by
 cases L with
 | nil=>exact absurd rfl h.ne
 | cons x r =>
  unfold Bk Lm
  by_cases e:x.size=d
  ·
   rw [if_pos (by simpa using e)]
   exact ⟨h.longer,fun y hy=>h.lt y (List.mem_cons_of_mem _ hy),fun y hy=>h.asc y (List.mem_cons_of_mem _ hy),fun y hy z hz=>h.same y (List.mem_cons_of_mem _ hy) z (List.mem_cons_of_mem _ hz),(AR.1 h.inc).2⟩
  ·
   rw [if_neg (by simpa using e)]
   refine ⟨fun y hy=>?_,h.lt,h.asc,h.same,h.inc⟩
   rcases AU.1 hy with rfl | hy
   · have:=h.ge y (by simp);omega
   · exact h.longer y hy
theorem Rest.drop {d m:Nat} {L:List ByteArray} (h:Rest d m L) (k:Nat):Rest d m (L.drop k) :=
 ⟨fun x hx=>h.gt x (List.mem_of_mem_drop hx),fun x hx=>h.lt x (List.mem_of_mem_drop hx),fun x hx=>h.asc x (List.mem_of_mem_drop hx),fun x hx y hy=>h.same x (List.mem_of_mem_drop hx) y (List.mem_of_mem_drop hy),h.inc.drop⟩
theorem Je {α:Type} {p:α→Bool} {L:List α} {x:α} (h:x∈L.take (L.takeWhile p).length):p x=true:=by
 have h2:L.take (L.takeWhile p).length=L.takeWhile p:=(List.prefix_iff_eq_take.1 (List.takeWhile_prefix p)).symm
 rw [h2] at h
 have h3:=List.all_takeWhile (p:=p) (l:=L)
 exact List.all_eq_true.1 h3 x h
theorem Iz {x y:ByteArray} {d:Nat} (hx:d<x.size) (hy:d<y.size) (h:x.data.toList.take d=y.data.toList.take d) (hb:Au x d=Au y d):x.data.toList.take (d+1)=y.data.toList.take (d+1):=by
 have h1:d<x.data.toList.length:=by rw [← FY];exact hx
 have h2:d<y.data.toList.length:=by rw [← FY];exact hy
 rw [AO h1,AO h2,h]
 congr 2
 have e:Au x d=(x.data.toList[d].toNat:Int):=by unfold Au;rw [AP,AA h1];rfl
 have e2:Au y d=(y.data.toList[d].toNat:Int):=by unfold Au;rw [AP,AA h2];rfl
 rw [e,e2] at hb
 exact UInt8.toNat_inj.1 (by omega)
theorem Rest.group {d m:Nat} {x:ByteArray} {r:List ByteArray} (h:Rest d (m+1) (x :: r)):Pre (d+1) m ((x :: r).take (Dz d (x :: r) (Au x d))):=by
 have hb:∀ y∈(x :: r).take (Dz d (x :: r) (Au x d)),Au y d=Au x d:=fun y hy=>by
  have:=Je hy
  simpa using this
 have hm:∀ y∈(x :: r).take (Dz d (x :: r) (Au x d)),y∈x :: r:=fun y hy=>List.mem_of_mem_take hy
 refine ⟨fun e=>?_,fun y hy=>h.gt y (hm y hy),fun y hy=>by have:=h.lt y (hm y hy);omega,fun y hy=>h.asc y (hm y hy),fun y hy z hz=>?_,h.inc.take⟩
 ·
  have:=Gk (d:=d) (x:=x) (r:=r)
  have h2:=congrArg List.length e
  rw [AM] at h2;simp at h2;omega
 · exact Iz (h.gt y (hm y hy)) (h.gt z (hm z hz)) (h.same y (hm y hy) z (hm z hz)) ((hb y hy).trans (hb z hz).symm)
open Go.RowKit Go.WideShapes Go.Maps Go.WideMaps
def Cv (D:List Nd) (l:List UInt8):Nat:=D.findIdx fun x=>decide (BP x.fin x.arcs=l)
def FC (w:World) (g:Nat) (D:List Nd):Prop:=∃ (n:Nat) (M:DataW Unit),w.ownsMap Tryz.prog 9 (plainElem Tryz.prog 3) g n M∧n≤D.length ∧
 ∀ s:ByteArray,s.size≤maxLen→Maps.has M (.string s.data.toList)=decide (Cv D s.data.toList<D.length)∧M.atKey (.string s.data.toList) (.lit (.int .i64 0))=.lit (.int .i64 (if Cv D s.data.toList<D.length then (Cv D s.data.toList:Int) else 0))
theorem Q7:Keyed Tryz.prog 9:=string_keyed Tryz.underlying9
theorem FC.new (w:World):FC (w.alloc (.map #[] 0)) w.heap.size [] :=
 ⟨0,.map [],World.ownsMap_made _ _ _ _,A3 _,fun s _=>⟨by simp [Cv,Maps.has],by simp [Cv,DataW.atKey]⟩⟩
theorem FC.kept {w w1:World} {g:Nat} {D:List Nd} (h:FC w g D) (hk:w1.heap[g]? = w.heap[g]?):FC w1 g D:=by
 obtain ⟨n,M,⟨es,clock,hb,h1,h2,h3⟩,h4⟩:=h
 exact ⟨n,M,⟨es,clock,hk.trans hb,h1,h2,h3⟩,h4⟩
theorem FC.obj {w:World} {g:Nat} {D:List Nd} (h:FC w g D):∃ es c,w.heap[g]? = some (.map es c):=by
 obtain ⟨n,M,⟨es,clock,hb,_⟩,_⟩:=h
 exact ⟨es,clock,hb⟩
theorem FC.look {w:World} {g:Nat} {D:List Nd} (h:FC w g D) (s:ByteArray) (hs:s.size≤maxLen) :
  (Instr.lookup 97 (.map (some g)) (.string s) true).run Tryz.prog w=.ok (.tuple #[.int .i64 (if Cv D s.data.toList<D.length then (Cv D s.data.toList:Int) else 0),.bool (decide (Cv D s.data.toList<D.length))]) w:=by
 obtain ⟨n,M,h1,_,h3⟩:=h
 obtain ⟨v,ps,hrun,hv⟩:=h1.look_ok Q7 Tryz.underlying97 (Tryz.zeroValue3 w) (plainElem_int (H:=Unit) Tryz.underlying3 (a:=0) (by decide)) (keyOf_string_mk Tryz.underlying9 hs)
 obtain ⟨e1,e2⟩:=h3 s hs
 rw [e2] at hv
 obtain ⟨a,rfl,hz,_⟩:=plainElem_int_inv Tryz.underlying3 hv
 rw [e1] at hrun
 have:a=if Cv D s.data.toList<D.length then (Cv D s.data.toList:Int) else 0:=by
  have:=congrArg Prod.fst hz
  simp only [DataW.lit.injEq,Lit.int.injEq,true_and] at this
  exact this.symm
 rw [← this]
 exact hrun
theorem Mr {D:List Nd} {nd:Nd} {l:List UInt8}:Cv (D ++ [nd]) l=if Cv D l<D.length then Cv D l else if BP nd.fin nd.arcs=l then D.length else D.length+1:=by
 unfold Cv
 rw [List.findIdx_append]
 split
 · rfl
 ·
  rw [List.findIdx_cons]
  by_cases h:BP nd.fin nd.arcs=l
  · simp [h]
  · simp [h];omega
theorem GH {w:World} {g:Nat} {D:List Nd} {ops:Array Oper} {rest:List Oper} {o:Oper} {a:Act} {Q:Exit→Act→World→Prop} (h:FC w g D) (nd:Nd) (s:ByteArray) (hk:BP nd.fin nd.arcs=s.data.toList) (hs:s.size≤maxLen) (hno:¬ Cv D s.data.toList<D.length) (hD:D.length<1000000)
  (hgd:o.guard=none) (m x v:Operand) (hop:o.op=Op.mapUpdate 97 m x v) (hm:a.eval m=.map (some g)) (hx:a.eval x=.string s) (hv:a.eval v=.int .i64 (D.length:Int))
  (hK:∀ w',FC w' g (D ++ [nd])→w.grownBy w' (some g)→wpList Tryz.prog ops Q rest (a.put o.dst undef) w'):wpList Tryz.prog ops Q (o :: rest) a w:=by
 obtain ⟨n,M,h1,h2,h3⟩:=h
 have hwf:(Lit.int .i64 (D.length:Int)).wf=true:=by simp [Lit.wf,IntKind.min,IntKind.max,IntKind.bits,IntKind.signed];omega
 refine wpList_mapUpdate_own w hgd m x v _ hop _ _ Q7 Tryz.underlying97 _ g n M hm h1 (by unfold maxLen;omega) _ _ _ hx hv (keyOf_string_mk Tryz.underlying9 hs) _ _ (plainElem_int (H:=Unit) Tryz.underlying3 hwf) ?_
 intro w' hown hgr
 refine hK w' ⟨n+1,_,hown,by rw [AB];simp;omega,fun t ht=>?_⟩ hgr
 have hM:IsMap M:=h1.isMap
 rw [Mr]
 by_cases e:t=s
 ·
  subst e
  have hkl:WideAt.IsKeyLit (.string t.data.toList):=trivial
  rw [Maps.has_put_same hM hkl,Maps.atKey_put_same hM hkl,if_neg hno,if_pos hk]
  simp
 ·
  have hne:Lit.string t.data.toList≠Lit.string s.data.toList:=fun h=>e (bytes_inj (by injection h))
  rw [Maps.has_put_other hne,Maps.atKey_put_other hne]
  obtain ⟨e1,e2⟩:=h3 t ht
  rw [e1,e2]
  have hk2:¬ BP nd.fin nd.arcs=t.data.toList:=fun h=>e (bytes_inj (by rw [← h,hk]))
  rw [if_neg hk2]
  by_cases hf:Cv D t.data.toList<D.length
  · simp [hf];omega
  · simp [hf]
structure BSt (w:World) (B gB gM:Nat) (v:Value) (N:List NV) (D:List Nd):Prop where
 rep:w.heap[gB]? = some (.cells #[v,.map (some gM)] 99 (0,0))
 own:Ab BG w B v N
 len:N.length=D.length
 arcs:∀ k (h:k<N.length) (h2:k<D.length),N[k].fin=D[k].fin∧Ab Bh w B (.slice N[k].a N[k].n N[k].c) D[k].arcs
 map:FC w gM D
 gB:B≤gB
 gM:B≤gM
structure Fr (gB gM:Nat) (vb:Option Nat) (w w':World):Prop where
 os:w'.os=w.os
 tape:w'.tape=w.tape
 output:w'.output=w.output
 size:w.heap.size≤w'.heap.size
 block:∀ q,q<w.heap.size→q≠gB→q≠gM→vb≠some q→w'.heap[q]? = w.heap[q]?
theorem Fr.refl (gB gM:Nat) (vb:Option Nat) (w:World):Fr gB gM vb w w:=⟨rfl,rfl,rfl,A3 _,fun _ _ _ _ _=>rfl⟩
def Cc (vb vb1:Option Nat) (n:Nat):Prop:=vb1=vb∨∀ q,vb1=some q→n≤q
theorem Cc.trans {a b c:Option Nat} {n m:Nat} (h:Cc a b n) (h2:Cc b c m) (hnm:n≤m):Cc a c n:=by
 rcases h2 with rfl | h2
 · exact h
 · exact .inr fun q hq=>A8 hnm (h2 q hq)
theorem Fr.trans {gB gM:Nat} {vb vb1:Option Nat} {a b c:World} (h:Fr gB gM vb a b) (h2:Fr gB gM vb1 b c) (hn:Cc vb vb1 a.heap.size):Fr gB gM vb a c :=
 ⟨h2.os.trans h.os,h2.tape.trans h.tape,h2.output.trans h.output,A8 h.size h2.size,fun q hq h3 h4 h5=>(h2.block q (A7 hq h.size) h3 h4 (by
  rcases hn with rfl | hn
  · exact h5
  · intro e;have:=hn q e;omega)).trans (h.block q hq h3 h4 h5)⟩
theorem Fr.of_below {gB gM:Nat} {vb:Option Nat} {w w':World} (h:Below w.heap.size w w'):Fr gB gM vb w w':=⟨h.os,h.tape,h.output,h.size,fun q hq _ _ _=>h.block q hq⟩
theorem BSt.keep {w w':World} {B gB gM:Nat} {v:Value} {N:List NV} {D:List Nd} (h:BSt w B gB gM v N D) (hk:∀ q,q<w.heap.size→(q=gB∨q=gM∨v.ownBlock=some q∨∃ x∈N,(Value.slice x.a x.n x.c).ownBlock=some q)→w'.heap[q]? = w.heap[q]?):BSt w' B gB gM v N D:=by
 obtain ⟨es,c,hm⟩:=h.map.obj
 refine ⟨(hk gB (A5.1 h.rep).1 (.inl rfl)).trans h.rep,h.own.keep fun g hg=>hk g (h.own.lt g hg) (.inr (.inr (.inl hg))),h.len,fun k h1 h2=>⟨(h.arcs k h1 h2).1,(h.arcs k h1 h2).2.keep fun g hg=>hk g ((h.arcs k h1 h2).2.lt g hg) (.inr (.inr (.inr ⟨N[k],AG h1,hg⟩)))⟩,h.map.kept (hk gM (A5.1 hm).1 (.inr (.inl rfl))),h.gB,h.gM⟩
theorem BSt.ext {w w':World} {B gB gM:Nat} {v:Value} {N:List NV} {D:List Nd} (h:BSt w B gB gM v N D) (hx:Ext w w'):BSt w' B gB gM v N D:=h.keep fun q hq _=>Below.block hx q hq
abbrev Wd:=List UInt8
abbrev Rst:=List (List UInt8)
def As (R:Rst) (c:Nat):Rst:=R.filterMap fun s=>match s with | []=>none | b :: t=>if b.toNat=c then some t else none
def E7 (R:Rst):Bool:=match R with | [] :: _=>true | _=>false
def Fo (lo n:Nat) (R:Rst):List (Nat × Rst):=(List.range' lo n).filterMap fun c=>if As R c=[] then none else some (c,As R c)
def grp (R:Rst):List (Nat × Rst):=Fo 33 94 R
def Ca (R:Rst):Prop:=R.Pairwise fun a b=>Op.bytesLess a b=true
def EB (lo n:Nat) (R:Rst):Prop:=∀ s∈R,∃ b t,s=b :: t∧lo≤b.toNat∧b.toNat<lo+n
def EE (R:Rst):Prop:=∀ s∈R,∀ b∈s,33≤UInt8.toNat b∧UInt8.toNat b<127
theorem Ds {a b:UInt8} {x y:Wd}:Op.bytesLess (a :: x) (b :: y)=true↔a.toNat<b.toNat∨(a=b∧Op.bytesLess x y=true):=by
 simp only [Op.bytesLess,Bool.or_eq_true,Bool.and_eq_true,decide_eq_true_eq,beq_iff_eq,UInt8.lt_iff_toNat_lt]
theorem Q8:∀ x:Wd,Op.bytesLess x x=false
 | []=>rfl
 | a :: x=>by
  have h:¬ a<a:=by rw [UInt8.lt_iff_toNat_lt];omega
  simp [Op.bytesLess,h,Q8 x]
theorem Lq:∀ (p:Wd) {x y:Wd},Op.bytesLess (p ++ x) (p ++ y)=Op.bytesLess x y
 | [],_,_=>rfl
 | a :: p,x,y=>by
  have h:¬ a<a:=by rw [UInt8.lt_iff_toNat_lt];omega
  simp [Op.bytesLess,h,Lq p]
theorem J0 {x:Wd}:Op.bytesLess x []=false:=by cases x <;> rfl
theorem Ca.tail {x:Wd} {R:Rst} (h:Ca (x :: R)):Ca R:=(AR.1 h).2
theorem Ca.nonempty {x:Wd} {R:Rst} (h:Ca (x :: R)):∀ s∈R,s≠[]:=fun s hs e=>by
 have:=(AR.1 h).1 s hs
 rw [e,J0] at this;cases this
theorem Q9 (R:Rst) (c:Nat):As ([] :: R) c=As R c:=rfl
theorem GI {b:UInt8} {t:Wd} {R:Rst} {c:Nat} (h:b.toNat=c):As ((b :: t) :: R) c=t :: As R c:=by simp [As,h]
theorem OR {b:UInt8} {t:Wd} {R:Rst} {c:Nat} (h:b.toNat≠c):As ((b :: t) :: R) c=As R c:=by simp [As,h]
theorem CS {R:Rst} {c:Nat} {t:Wd}:t∈As R c↔∃ b:UInt8,b.toNat=c∧b :: t∈R:=by
 unfold As
 rw [List.mem_filterMap]
 constructor
 ·
  rintro ⟨s,hs,h⟩
  cases s with
  | nil=>cases h
  | cons b u =>
   simp only at h
   split at h
   · injection h with h;subst h;exact ⟨b,by assumption,hs⟩
   · cases h
 ·
  rintro ⟨b,hb,h⟩
  exact ⟨_,h,by simp [hb]⟩
theorem Jf (P Q:Rst) (c:Nat):As (P ++ Q) c=As P c ++ As Q c:=List.filterMap_append
theorem
    afterL_sort {R:Rst} {c:Nat} (h:Ca R):Ca (As R c):=by
 unfold Ca As
 rw [List.pairwise_filterMap]
 refine List.Pairwise.imp ?_ h
 intro a b hab t ht u hu
 cases a with
 | nil=>cases ht
 | cons x a =>
  cases b with
  | nil=>cases hu
  | cons y b =>
   simp only at ht hu
   split at ht
   ·
    split at hu
    ·
     injection ht with ht;injection hu with hu
     subst ht hu
     rcases Ds.1 hab with h | ⟨_,h⟩
     · omega
     · exact h
    · cases hu
   · cases ht
theorem Ki {R:Rst} {c:Nat} (h:EE R):EE (As R c):=fun s hs b hb=>by
 obtain ⟨x,_,hx⟩:=CS.1 hs
 exact h _ hx b (List.mem_cons_of_mem _ hb)
theorem
    heads_split {b:UInt8} {n:Nat}:∀ {R:Rst},Ca R→EB b.toNat n R→As R b.toNat=(R.takeWhile fun s=>s.head? == some b).map List.tail ∧
  EB (b.toNat+1) (n - 1) (R.dropWhile fun s=>s.head? == some b)∧(R.takeWhile fun s=>s.head? == some b).map (fun s=>b :: s.tail)=(R.takeWhile fun s=>s.head? == some b)
 | [],_,_=>⟨rfl,fun s hs=>by simp at hs,rfl⟩
 | x
   :: r,hs,hh=>by
  obtain ⟨y,t,rfl,h1,h2⟩:=hh x (by simp)
  by_cases e:y=b
  ·
   subst e
   obtain ⟨i1,i2,i3⟩:=heads_split (R:=r) (hs.tail) fun s hsr=>hh s (List.mem_cons_of_mem _ hsr)
   simp only [List.takeWhile_cons,List.dropWhile_cons,List.head?_cons,beq_self_eq_true,if_true,List.map_cons,List.tail_cons]
   exact ⟨by rw [GI rfl,i1],i2,by rw [i3]⟩
  ·
   have hne:((y :: t).head? == some b)=false:=by simpa using e
   simp only [List.takeWhile_cons,List.dropWhile_cons,hne,Bool.false_eq_true,if_false]
   have hlt:b.toNat<y.toNat:=by
    have:y.toNat≠b.toNat:=fun h=>e (UInt8.toNat_inj.1 h)
    omega
   have hall:∀ s∈(y :: t) :: r,∃ c u,s=c :: u∧b.toNat+1≤c.toNat∧c.toNat<b.toNat+n:=fun s hsr=>by
    obtain ⟨c,u,rfl,h3,h4⟩:=hh s hsr
    refine ⟨c,u,rfl,?_,h4⟩
    rcases AU.1 hsr with h5 | h5
    · injection h5 with h5;subst h5;omega
    ·
     rcases Ds.1 ((AR.1 hs).1 _ h5) with h6 | ⟨h6,_⟩
     · omega
     · subst h6;omega
   refine ⟨?_,fun s hsr=>?_,rfl⟩
   ·
    rw [List.map_nil]
    unfold As
    rw [List.filterMap_eq_nil_iff]
    intro s hsr
    obtain ⟨c,u,rfl,h3,_⟩:=hall s hsr
    simp;omega
   ·
    obtain ⟨c,u,rfl,h3,h4⟩:=hall s hsr
    exact ⟨c,u,rfl,h3,by omega⟩
theorem Mu {lo n c:Nat} {R:Rst} (h:EB lo n R) (hc:c<lo∨lo+n≤c):As R c=[]:=by
 unfold As
 rw [List.filterMap_eq_nil_iff]
 intro s hs
 obtain ⟨b,t,rfl,h3,h4⟩:=h s hs
 simp;omega
theorem J1 {b:UInt8} {R:Rst} {c:Nat} (hc:c≠b.toNat):As (R.takeWhile fun s=>s.head? == some b) c=[]:=by
 unfold As
 rw [List.filterMap_eq_nil_iff]
 intro s hs
 have h:=List.all_takeWhile (p:=fun s:Wd=>s.head? == some b) (l:=R)
 have h2:=List.all_eq_true.1 h s hs
 cases s with
 | nil=>rfl
 | cons y t =>
  have:y=b:=by simpa using h2
  subst this
  simp;omega
theorem Lr {b:UInt8} {R:Rst} {c:Nat} (hc:c≠b.toNat):As R c=As (R.dropWhile fun s=>s.head? == some b) c:=by
 conv=>lhs;rw [← List.takeWhile_append_dropWhile (p:=fun s:Wd=>s.head? == some b) (l:=R)]
 rw [Jf,J1 hc];rfl
theorem Gl (lo n:Nat):Fo lo n []=[]:=by
 unfold Fo
 rw [List.filterMap_eq_nil_iff]
 intro c _;rfl
theorem Lt {α β:Type} {f g:α→Option β}:∀ {l:List α},(∀ x∈l,f x=g x)→l.filterMap f=l.filterMap g
 | [],_=>rfl
 | x :: r,h=>by rw [List.filterMap_cons,List.filterMap_cons,h x (by simp),Lt fun y hy=>h y (List.mem_cons_of_mem _ hy)]
theorem Mv {lo n:Nat} {R Q:Rst} (h:∀ c,lo≤c→c<lo+n→As R c=As Q c):Fo lo n R=Fo lo n Q:=by
 unfold Fo
 refine Lt fun c hc=>?_
 have:=List.mem_range'_1.1 hc
 rw [h c this.1 this.2]
theorem K6 {lo n:Nat} {b:UInt8} {t:Wd} {r:Rst} (hs:Ca ((b :: t) :: r)) (hh:EB lo n ((b :: t) :: r)) :
  Fo lo n ((b :: t) :: r)=(b.toNat,(((b :: t) :: r).takeWhile fun s=>s.head? == some b).map List.tail) :: Fo (b.toNat+1) (lo+n - (b.toNat+1)) (((b :: t) :: r).dropWhile fun s=>s.head? == some b):=by
 obtain ⟨b',t',e,h1,h2⟩:=hh (b :: t) (by simp)
 injection e with e1 e2
 subst e1 e2
 have hall:EB b.toNat (lo+n - b.toNat) ((b :: t) :: r):=fun s hsr=>by
  obtain ⟨c,u,rfl,h3,h4⟩:=hh s hsr
  refine ⟨c,u,rfl,?_,by omega⟩
  rcases AU.1 hsr with h5 | h5
  · injection h5 with h5;subst h5;exact A3 _
  ·
   rcases Ds.1 ((AR.1 hs).1 _ h5) with h6 | ⟨h6,_⟩
   · omega
   · subst h6;exact A3 _
 obtain ⟨i1,i2,_⟩:=heads_split hs hall
 have hr:List.range' lo n=List.range' lo (b.toNat - lo) ++ (b.toNat :: List.range' (b.toNat+1) (lo+n - (b.toNat+1))):=by
  have e1:b.toNat :: List.range' (b.toNat+1) (lo+n - (b.toNat+1))=List.range' b.toNat (lo+n - b.toNat):=by
   rw [show lo+n - b.toNat=(lo+n - (b.toNat+1))+1 from by omega,List.range'_succ]
  rw [e1]
  have:=List.range'_append (s:=lo) (m:=b.toNat - lo) (n:=lo+n - b.toNat) (step:=1)
  rw [show lo+1*(b.toNat - lo)=b.toNat from by omega,show b.toNat - lo+(lo+n - b.toNat)=n from by omega] at this
  exact this.symm
 have hne:As ((b :: t) :: r) b.toNat≠[]:=by rw [GI rfl];simp
 have hcg:=Mv (lo:=b.toNat+1) (n:=lo+n - (b.toNat+1)) (R:=(b :: t) :: r) (Q:=((b :: t) :: r).dropWhile fun s=>s.head? == some b) fun c h3 h4=>Lr (by omega)
 rw [← hcg,← i1]
 unfold Fo
 rw [hr,List.filterMap_append,List.filterMap_cons,if_neg hne]
 have hz:(List.range' lo (b.toNat - lo)).filterMap (fun c=>if As ((b :: t) :: r) c=[] then none else some (c,As ((b :: t) :: r) c))=[]:=by
  rw [List.filterMap_eq_nil_iff]
  intro c hc
  have:=List.mem_range'_1.1 hc
  rw [Mu hall (.inl (by omega)),if_pos rfl]
 rw [hz];rfl
def Fq (G:List (Nat × Rst)):Rst:=G.flatMap fun g=>g.2.map (UInt8.ofNat g.1 :: ·)
theorem Kj {b:UInt8} {R:Rst}:(R.dropWhile fun s=>s.head? == some b).length≤R.length:=(List.dropWhile_sublist _).length_le
theorem OS {b:UInt8} {R:Rst} (h:Ca R):Ca (R.dropWhile fun s=>s.head? == some b):=List.Pairwise.sublist (List.dropWhile_sublist _) h
theorem J2 {b:UInt8} {t:Wd} {r:Rst} {lo n:Nat} (hs:Ca ((b :: t) :: r)) (hh:EB lo n ((b :: t) :: r)):EB (b.toNat+1) (lo+n - (b.toNat+1)) (((b :: t) :: r).dropWhile fun s=>s.head? == some b):=by
 have hall:EB b.toNat (lo+n - b.toNat) ((b :: t) :: r):=fun s hsr=>by
  obtain ⟨c,u,rfl,h3,h4⟩:=hh s hsr
  refine ⟨c,u,rfl,?_,by omega⟩
  rcases AU.1 hsr with h5 | h5
  · injection h5 with h5;subst h5;exact A3 _
  ·
   rcases Ds.1 ((AR.1 hs).1 _ h5) with h6 | ⟨h6,_⟩
   · omega
   · subst h6;exact A3 _
 have:=(heads_split hs hall).2.1
 rwa [show lo+n - b.toNat - 1=lo+n - (b.toNat+1) from by omega] at this
theorem
    catG_grpR:∀ (k lo n:Nat) (R:Rst),R.length≤k→Ca R→EB lo n R→Fq (Fo lo n R)=R
 | _,_,_,[],_,_,_=>by rw [Gl];rfl
 | 0,_,_,_ :: _,h,_,_=>by simp at h
 | k
   +
    1,lo,n,x :: r,hk,hs,hh=>by
  obtain ⟨b,t,rfl,h1,h2⟩:=hh x (by simp)
  rw [K6 hs hh]
  have hall:EB b.toNat (lo+n - b.toNat) ((b :: t) :: r):=fun s hsr=>by
   obtain ⟨c,u,rfl,h3,h4⟩:=hh s hsr
   refine ⟨c,u,rfl,?_,by omega⟩
   rcases AU.1 hsr with h5 | h5
   · injection h5 with h5;subst h5;exact A3 _
   ·
    rcases Ds.1 ((AR.1 hs).1 _ h5) with h6 | ⟨h6,_⟩
    · omega
    · subst h6;exact A3 _
  obtain ⟨i1,i2,i3⟩:=heads_split hs hall
  have hd:(((b :: t) :: r).dropWhile fun s=>s.head? == some b)=r.dropWhile fun s=>s.head? == some b:=by simp [List.dropWhile_cons]
  have ih:=catG_grpR k (b.toNat+1) (lo+n - (b.toNat+1)) (((b :: t) :: r).dropWhile fun s=>s.head? == some b) (by rw [hd];have:=Kj (b:=b) (R:=r);simp at hk;omega) (OS hs) (J2 hs hh)
  unfold Fq at ih ⊢
  rw [List.flatMap_cons,ih]
  simp only [UInt8.ofNat_toNat,List.map_map]
  have:(fun s:Wd=>b :: s) ∘ List.tail=fun s:Wd=>b :: s.tail:=rfl
  rw [this,i3]
  exact List.takeWhile_append_dropWhile
theorem RV {R:Rst}:grp ([] :: R)=grp R:=rfl
theorem Lu {R:Rst} (hb:EE R) (hn:∀ s∈R,s≠[]):EB 33 94 R:=fun s hs=>by
 cases s with
 | nil=>exact absurd rfl (hn _ hs)
 | cons b t=>exact ⟨b,t,rfl,(hb _ hs b (by simp)).1,(hb _ hs b (by simp)).2⟩
theorem
    recon {R:Rst} (hs:Ca R) (hb:EE R):R=(if E7 R=true then [[]] else []) ++ Fq (grp R):=by
 cases R with
 | nil=>unfold grp;rw [Gl];rfl
 | cons x r =>
  cases x with
  | nil =>
   have h1:E7 ([] :: r)=true:=rfl
   rw [if_pos h1,RV]
   have:=catG_grpR r.length 33 94 r (A3 _) hs.tail (Lu (fun s h=>hb s (List.mem_cons_of_mem _ h)) hs.nonempty)
   unfold grp
   rw [this];rfl
  | cons b t =>
   have h1:E7 ((b :: t) :: r)=false:=rfl
   rw [h1]
   have hh:EB 33 94 ((b :: t) :: r):=Lu hb fun s h=>by
    rcases AU.1 h with rfl | h
    · simp
    · exact hs.nonempty s h
   have:=catG_grpR _ 33 94 _ (A3 _) hs hh
   unfold grp
   rw [this];simp
theorem OT {R Q:Rst} (hs:Ca R) (hb:EE R) (hs2:Ca Q) (hb2:EE Q) (hf:E7 R=E7 Q) (hg:grp R=grp Q):R=Q:=by
 rw [recon hs hb,recon hs2 hb2,hf,hg]
theorem Gm {R:Rst} {g:Nat × Rst} (h:g∈grp R):33≤g.1∧g.1<127∧g.2=As R g.1∧g.2≠[]:=by
 unfold grp Fo at h
 obtain ⟨c,hc,h2⟩:=List.mem_filterMap.1 h
 have:=List.mem_range'_1.1 hc
 split at h2
 · cases h2
 ·
  injection h2 with h2;subst h2
  exact ⟨this.1,this.2,rfl,by assumption⟩
theorem Kk (R:Rst):(grp R).length≤94:=by
 have:=List.length_filterMap_le (fun c=>if As R c=[] then none else some (c,As R c)) (List.range' 33 94)
 simpa [grp,Fo] using this
def RW (l:List UInt8):Nat:=l.foldl (fun a c=>a*10+(c.toNat - 48)) 0
theorem
    decD (u:Nat):RW (Lib.decDigits u)=u∧∀ c∈Lib.decDigits u,48≤c.toNat:=by
 induction u using Nat.strongRecOn with
 | _
   u
    ih =>
  rw [Lib.decDigits]
  have h1:∀ k,k<10→(UInt8.ofNat (48+k)).toNat=48+k:=fun k hk=>by
   rw [UInt8.toNat_ofNat'];omega
  split
  ·
   rename_i h
   refine ⟨?_,fun c hc=>?_⟩
   · simp only [RW,List.foldl_cons,List.foldl_nil,h1 u h];omega
   · obtain rfl:=AD.1 hc;rw [h1 u h];omega
  ·
   rename_i h
   obtain ⟨i1,i2⟩:=ih (u / 10) (by omega)
   have h2:=h1 (u % 10) (by omega)
   refine ⟨?_,fun c hc=>?_⟩
   ·
    unfold RW at i1 ⊢
    rw [List.foldl_append,i1]
    simp only [List.foldl_cons,List.foldl_nil,h2];omega
   ·
    rcases AV.1 hc with hc | hc
    · exact i2 c hc
    · obtain rfl:=AD.1 hc;rw [h2];omega
theorem K7 {l r:List UInt8} (h:∀ c∈l,48≤c.toNat) (hr:r=[]∨∃ q,r=32 :: q):(l ++ r).takeWhile (fun c=>decide (48≤UInt8.toNat c))=l∧(l ++ r).dropWhile (fun c=>decide (48≤UInt8.toNat c))=r:=by
 induction l with
 | nil =>
  rcases hr with rfl | ⟨q,rfl⟩
  · exact ⟨rfl,rfl⟩
  ·
   have:(decide (48≤UInt8.toNat (32:UInt8)))=false:=rfl
   simp [List.takeWhile_cons,List.dropWhile_cons]
 | cons c l ih =>
  have hc:=h c (by simp)
  obtain ⟨i1,i2⟩:=ih fun d hd=>h d (List.mem_cons_of_mem _ hd)
  simp only [List.cons_append,List.takeWhile_cons,List.dropWhile_cons,hc,decide_true,if_true]
  exact ⟨by rw [i1],i2⟩
theorem K8 (X:List Ar):X.flatMap DG=[]∨∃ q,X.flatMap DG=32 :: q:=by
 cases X with
 | nil=>exact .inl rfl
 | cons x r=>exact .inr ⟨_,rfl⟩
def Lv (x:Ar):Prop:=0≤x.c∧x.c<256∧0≤x.t
theorem J3:∀ {X Y:List Ar},(∀ x∈X,Lv x)→(∀ x∈Y,Lv x)→X.flatMap DG=Y.flatMap DG→X=Y
 | [],[],_,_,_=>rfl
 | [],y :: s,_,_,h=>by rw [List.flatMap_nil,List.flatMap_cons,DG] at h;cases h
 | x :: r,[],_,_,h=>by rw [List.flatMap_nil,List.flatMap_cons,DG] at h;cases h
 | x
   :: r,y :: s,hX,hY,h=>by
  rw [List.flatMap_cons,List.flatMap_cons,DG,DG] at h
  simp only [List.cons_append,List.cons.injEq,true_and] at h
  obtain ⟨h1,h2⟩:=h
  obtain ⟨x0,x1,x2⟩:=hX x (by simp)
  obtain ⟨y0,y1,y2⟩:=hY y (by simp)
  have e1:Lib.itoa x.t=Lib.decDigits x.t.toNat:=by rw [Lib.itoa,if_neg (by omega)]
  have e2:Lib.itoa y.t=Lib.decDigits y.t.toNat:=by rw [Lib.itoa,if_neg (by omega)]
  rw [e1,e2] at h2
  obtain ⟨a1,a2⟩:=K7 (decD x.t.toNat).2 (K8 r)
  obtain ⟨b1,b2⟩:=K7 (decD y.t.toNat).2 (K8 s)
  rw [h2] at a1 a2
  have h3:Lib.decDigits x.t.toNat=Lib.decDigits y.t.toNat:=a1.symm.trans b1
  have h4:r.flatMap DG=s.flatMap DG:=a2.symm.trans b2
  have h5:=J3 (fun z hz=>hX z (List.mem_cons_of_mem _ hz)) (fun z hz=>hY z (List.mem_cons_of_mem _ hz)) h4
  have h6:x.t=y.t:=by
   have:=congrArg RW h3
   rw [(decD _).1,(decD _).1] at this;omega
  have h7:x.c=y.c:=by
   have:=congrArg UInt8.toNat h1
   rw [UInt8.toNat_ofNat',UInt8.toNat_ofNat'] at this
   omega
  obtain ⟨xc,xt⟩:=x
  obtain ⟨yc,yt⟩:=y
  simp only at h6 h7
  rw [h5,h6,h7]
theorem QA {f g:Bool} {X Y:List Ar} (hX:∀ x∈X,Lv x) (hY:∀ x∈Y,Lv x) (h:BP f X=BP g Y):f=g∧X=Y:=by
 unfold BP at h
 have hT:Lib.formatBool true=[116,114,117,101]:=by decide
 have hF:Lib.formatBool false=[102,97,108,115,101]:=by decide
 cases f <;> cases g <;> simp only [hT,hF,List.cons_append,List.nil_append,List.cons.injEq] at h
 · exact ⟨rfl,J3 hX hY h.2.2.2.2.2⟩
 · exact absurd h.1 (by decide)
 · exact absurd h.1 (by decide)
 · exact ⟨rfl,J3 hX hY h.2.2.2.2⟩
inductive Cq (R:List Rst) (n:Nat):List (Nat × Rst)→List Ar→Prop
 | nil:Cq R n [] []
 | cons {c t:Nat} {g:Rst} {G:List (Nat × Rst)} {X:List Ar}:c<256→t<n→R[t]? = some g→Cq R n G X→Cq R n ((c,g) :: G) (⟨(c:Int),(t:Int)⟩ :: X)
theorem Cq.mono {R R':List Rst} {n n':Nat} {G:List (Nat × Rst)} {X:List Ar} (h:Cq R n G X) (hR:R <+: R') (hn:n≤n'):Cq R' n' G X:=by
 induction h with
 | nil=>exact .nil
 | cons h1 h2 h3 _ ih =>
  refine .cons h1 (by omega) ?_ ih
  obtain ⟨E,rfl⟩:=hR
  obtain ⟨hl,he⟩:=List.getElem?_eq_some_iff.1 h3
  rw [AI hl];exact h3
theorem Cq.snoc {R:List Rst} {n:Nat} {G:List (Nat × Rst)} {X:List Ar} {c t:Nat} {g:Rst} (h:Cq R n G X) (hc:c<256) (ht:t<n) (hg:R[t]? = some g):Cq R n (G ++ [(c,g)]) (X ++ [⟨(c:Int),(t:Int)⟩]):=by
 induction h with
 | nil=>exact .cons hc ht hg .nil
 | cons h1 h2 h3 _ ih=>exact .cons h1 h2 h3 ih
theorem Cq.len {R:List Rst} {n:Nat} {G:List (Nat × Rst)} {X:List Ar} (h:Cq R n G X):X.length=G.length:=by
 induction h with
 | nil=>rfl
 | cons _ _ _ _ ih=>simp [ih]
theorem Cq.mem {R:List Rst} {n:Nat} {G:List (Nat × Rst)} {X:List Ar} (h:Cq R n G X):∀ x∈X,Lv x∧x.t<(n:Int):=by
 induction h with
 | nil=>intro x hx;cases hx
 | cons h1 h2 h3 _ ih =>
  intro x hx
  rcases AU.1 hx with rfl | hx
  · exact ⟨⟨by simp,by simp;omega,by simp⟩,by simp;omega⟩
  · exact ih x hx
theorem K9 {R:List Rst} (h:R.Nodup) {i j:Nat} {g:Rst} (hi:R[i]? = some g) (hj:R[j]? = some g):i=j:=by
 obtain ⟨h1,e1⟩:=List.getElem?_eq_some_iff.1 hi
 obtain ⟨h2,e2⟩:=List.getElem?_eq_some_iff.1 hj
 exact (List.getElem_inj h).1 (e1.trans e2.symm)
theorem Cq.inj {R:List Rst} (hR:R.Nodup) {n n':Nat} {G:List (Nat × Rst)} {X Y:List Ar} (h:Cq R n G X) (h2:Cq R n' G Y):X=Y:=by
 induction h generalizing Y with
 | nil=>cases h2;rfl
 | cons h1 h3 h4 _ ih =>
  cases h2 with
  | cons k1 k2 k3 k4=>rw [K9 hR h4 k3,ih k4]
theorem Cq.groups {R:List Rst} {n n':Nat} {G G':List (Nat × Rst)} {X:List Ar} (h:Cq R n G X) (h2:Cq R n' G' X):G=G':=by
 induction h generalizing G' with
 | nil=>cases h2;rfl
 | @cons c t g G X h1 h3 h4 _ ih =>
  generalize hY:(⟨(c:Int),(t:Int)⟩ :: X:List Ar)=Y at h2
  cases h2 with
  | nil=>cases hY
  | @cons c' t' g' G' X' k1 k2 k3 k4 =>
   injection hY with e1 e2
   injection e1 with e3 e4
   obtain rfl:c=c':=by omega
   obtain rfl:t=t':=by omega
   subst e2
   rw [h4] at k3;injection k3 with k3
   rw [k3,ih k4]
structure Gn (D:List Nd) (R:List Rst):Prop where
 len:R.length=D.length
 nodup:R.Nodup
 ok:∀ r∈R,Ca r∧EE r∧r≠[]
 nd:∀ k (h:k<D.length) (h2:k<R.length),D[k].fin=E7 R[k]∧Cq R k (grp R[k]) D[k].arcs
theorem Gn.nil:Gn [] []:=⟨rfl,List.nodup_nil,fun r h=>(by cases h),fun k h=>(by simp at h)⟩
theorem Gn.down {D:List Nd} {R:List Rst} (h:Gn D R):∀ i (h:i<D.length),(∀ x∈D[i].arcs,0≤x.t∧x.t<(i:Int))∧D[i].arcs.length≤1000:=fun i hi=>by
 obtain ⟨h1,h2⟩:=h.nd i hi (by rw [h.len];exact hi)
 refine ⟨fun x hx=>⟨(h2.mem x hx).1.2.2,(h2.mem x hx).2⟩,?_⟩
 rw [h2.len];have:=Kk (R[i]'(by rw [h.len];exact hi));omega
theorem
    addN_tab {D:List Nd} {R:List Rst} (h:Gn D R) {r:Rst} (hs:Ca r) (hb:EE r) (hne:r≠[]) {fin:Bool} {A:List Ar} (hf:fin=E7 r) (hA:Cq R D.length (grp r) A) :
  ∃ R',Gn (addN fin A D).2 R'∧R <+: R'∧R'[(addN fin A D).1]? = some r:=by
 unfold addN
 by_cases hk:D.findIdx (fun x=>decide (BP x.fin x.arcs=BP fin A))<D.length
 ·
  rw [if_pos hk]
  refine ⟨R,h,List.prefix_refl _,?_⟩
  have hkR:D.findIdx (fun x=>decide (BP x.fin x.arcs=BP fin A))<R.length:=by rw [h.len];exact hk
  have h1:=List.findIdx_getElem (w:=hk)
  obtain ⟨h2,h3⟩:=h.nd _ hk hkR
  obtain ⟨h4,h5⟩:=QA (fun x hx=>(h3.mem x hx).1) (fun x hx=>(hA.mem x hx).1) (of_decide_eq_true h1)
  rw [h5] at h3
  have h6:=h3.groups hA
  obtain ⟨o1,o2,_⟩:=h.ok _ (AG hkR)
  rw [AA hkR]
  exact congrArg some (OT o1 o2 hs hb (by rw [← h2,h4,hf]) h6)
 ·
  rw [if_neg hk]
  have hno:r ∉ R:=fun hr=>by
   obtain ⟨k,hkR,he⟩:=List.getElem_of_mem hr
   have hkD:k<D.length:=by rw [← h.len];exact hkR
   obtain ⟨h2,h3⟩:=h.nd k hkD hkR
   rw [he] at h2 h3
   have h4:=h3.inj h.nodup hA
   apply hk
   refine List.findIdx_lt_length_of_exists ⟨D[k],AG hkD,?_⟩
   simp [h2,h4,hf]
  have hpre:R <+: R ++ [r]:=List.prefix_append _ _
  refine ⟨R ++ [r],⟨by simp [h.len],?_,fun x hx=>?_,fun k hk1 hk2=>?_⟩,hpre,?_⟩
  ·
   rw [List.nodup_append]
   exact ⟨h.nodup,by simp,fun a ha b hb e=>by
    obtain rfl:=AD.1 hb
    subst e;exact hno ha⟩
  ·
   rcases AV.1 hx with hx | hx
   · exact h.ok x hx
   · obtain rfl:=AD.1 hx;exact ⟨hs,hb,hne⟩
  ·
   by_cases hkD:k<D.length
   ·
    have hkR:k<R.length:=by rw [h.len];exact hkD
    simp only [List.getElem_append_left hkD,List.getElem_append_left hkR]
    obtain ⟨h2,h3⟩:=h.nd k hkD hkR
    exact ⟨h2,h3.mono hpre (A3 _)⟩
   ·
    obtain rfl:k=D.length:=by simp at hk1;omega
    have e1:(D ++ [(⟨fin,A⟩:Nd)])[D.length]=⟨fin,A⟩:=by simp
    have e2:(R ++ [r])[D.length]=r:=by simp [← h.len]
    rw [e1,e2]
    exact ⟨hf,hA.mono hpre (A3 _)⟩
  · rw [← h.len];simp
def Ah (d:Nat) (L:List ByteArray):Rst:=L.map fun s=>s.data.toList.drop d
def EF (L:List ByteArray):Prop:=∀ s∈L,∀ b∈s.data.toList,33≤UInt8.toNat b∧UInt8.toNat b<127
theorem FD {d:Nat} {L:List ByteArray} (hsame:∀ x∈L,∀ y∈L,x.data.toList.take d=y.data.toList.take d) (hinc:L.Pairwise fun x y=>ltS x y=true):Ca (Ah d L):=by
 unfold Ca Ah
 rw [AS]
 refine List.Pairwise.imp_of_mem ?_ hinc
 intro a b ha hb hab
 rw [ltS,ByteArray.toList_eq,ByteArray.toList_eq,← List.take_append_drop d a.data.toList,← List.take_append_drop d b.data.toList,hsame a ha b hb,Lq] at hab
 exact hab
theorem Ek {d:Nat} {L:List ByteArray} (h:EF L):EE (Ah d L):=fun s hs b hb=>by
 obtain ⟨x,hx,rfl⟩:=AH.1 hs
 exact h x hx b (List.mem_of_mem_drop hb)
theorem FZ {s:ByteArray} {d:Nat} (h:d<s.size):∃ b:UInt8,s.data.toList.drop d=b :: s.data.toList.drop (d+1)∧Au s d=(b.toNat:Int):=by
 have h2:d<s.data.toList.length:=by simpa using h
 refine ⟨s.data.toList[d],AE h2,?_⟩
 unfold Au;rw [AP,AA h2];rfl
theorem
    tw_rest {d:Nat} {b:UInt8}:∀ {L:List ByteArray},(∀ x∈L,d<x.size)→((Ah d L).takeWhile fun s=>s.head? == some b)=Ah d (L.take (Dz d L (b.toNat:Int)))∧((Ah d L).dropWhile fun s=>s.head? == some b)=Ah d (L.drop (Dz d L (b.toNat:Int)))
 | [],_=>⟨rfl,rfl⟩
 | x
   :: r,h=>by
  obtain ⟨y,e1,e2⟩:=FZ (h x (by simp))
  obtain ⟨i1,i2⟩:=tw_rest (d:=d) (b:=b) (L:=r) fun z hz=>h z (List.mem_cons_of_mem _ hz)
  unfold Ah Dz at *
  rw [List.map_cons,List.takeWhile_cons,List.dropWhile_cons,List.takeWhile_cons,e1]
  by_cases e:y=b
  ·
   subst e
   have:Au x d=(y.toNat:Int):=e2
   simp only [List.head?_cons,beq_self_eq_true,if_true,this,decide_true,List.length_cons,List.take_succ_cons,List.drop_succ_cons,List.map_cons,e1]
   exact ⟨by rw [i1],i2⟩
  ·
   have hne:((y :: List.drop (d+1) x.data.toList).head? == some b)=false:=by simpa using e
   have hne2:decide (Au x d=(b.toNat:Int))=false:=by
    rw [e2]
    refine decide_eq_false fun h=>e (UInt8.toNat_inj.1 (by omega))
   rw [hne,hne2]
   simp [e1]
theorem OU {d:Nat} {L:List ByteArray}:(Ah d L).map List.tail=Ah (d+1) L:=by
 unfold Ah
 rw [List.map_map]
 refine List.map_congr_left fun s _=>?_
 simp
theorem KA {rec:List ByteArray→List Nd→Nat × List Nd} {d m:Nat} (hr:∀ L D R,Pre (d+1) m L→EF L→Gn D R→∃ R',Gn (rec L D).2 R'∧R <+: R'∧R'[(rec L D).1]? = some (Ah (d+1) L)) :
  ∀ n lo k L A D R G0,L.length≤n→Rest d (m+1) L→EF L→EB lo k (Ah d L)→Gn D R→Cq R D.length G0 A→lo+k≤256 →
  ∃ R',Gn (Cu rec d n L A D).2 R'∧R <+: R'∧Cq R' (Cu rec d n L A D).2.length (G0 ++ Fo lo k (Ah d L)) (Cu rec d n L A D).1
 | 0,lo,k,L,A,D,R,G0,hl,_,_,_,hT,hA,_=>by
  obtain rfl:L=[]:=List.eq_nil_of_length_eq_zero (by omega)
  rw [Cu]
  exact ⟨R,hT,List.prefix_refl _,by show Cq R D.length (G0 ++ Fo lo k []) A;rw [Gl,List.append_nil];exact hA⟩
 | n+1,lo,k,[],A,D,R,G0,hl,_,_,_,hT,hA,_=>by
  rw [Cu]
  exact ⟨R,hT,List.prefix_refl _,by show Cq R D.length (G0 ++ Fo lo k []) A;rw [Gl,List.append_nil];exact hA⟩
 | n
   + 1,lo,k,x :: r,A,D,R,G0,hl,hR,hB,hH,hT,hA,hk=>by
  rw [Cu]
  obtain ⟨b,e1,e2⟩:=FZ (hR.gt x (by simp))
  have hs:=FD hR.same hR.inc
  obtain ⟨t1,t2⟩:=tw_rest (b:=b) hR.gt
  rw [← e2] at t1 t2
  obtain ⟨g,hg⟩:∃ g,Dz d (x :: r) (Au x d)=g:=⟨_,rfl⟩
  have hg1:=Gk (d:=d) (x:=x) (r:=r)
  have hpre:=hR.group
  rw [hg] at t1 t2 hg1 hpre ⊢
  have hBt:EF ((x :: r).take g):=fun s hs=>hB s (List.mem_of_mem_take hs)
  have hBd:EF ((x :: r).drop g):=fun s hs=>hB s (List.mem_of_mem_drop hs)
  obtain ⟨R1,hT1,hp1,hi1⟩:=hr _ D R hpre hBt hT
  have hL:Ah d (x :: r)=(b :: x.data.toList.drop (d+1)) :: Ah d r:=by unfold Ah;rw [List.map_cons,e1]
  have hgr:=K6 (lo:=lo) (n:=k) (b:=b) (t:=x.data.toList.drop (d+1)) (r:=Ah d r) (by rw [← hL];exact hs) (by rw [← hL];exact hH)
  have hHd:=J2 (lo:=lo) (n:=k) (b:=b) (t:=x.data.toList.drop (d+1)) (r:=Ah d r) (by rw [← hL];exact hs) (by rw [← hL];exact hH)
  rw [← hL,t2] at hHd
  rw [← hL,t1,t2,OU] at hgr
  have hlt:(rec ((x :: r).take g) D).1<(rec ((x :: r).take g) D).2.length:=by
   rw [← hT1.len]
   exact (List.getElem?_eq_some_iff.1 hi1).1
  have hblt:b.toNat<256:=b.toNat_lt
  have hge:D.length≤(rec ((x :: r).take g) D).2.length:=by
   rw [← hT1.len,← hT.len];exact hp1.length_le
  have hA1:=(hA.mono hp1 hge).snoc hblt hlt hi1
  rw [← e2] at hA1
  have hlo:b.toNat+1≤lo+k:=by
   obtain ⟨b',t',e,h3,h4⟩:=hH (b :: x.data.toList.drop (d+1)) (by rw [hL];simp)
   injection e with e _
   subst e;omega
  obtain ⟨R2,hT2,hp2,hA2⟩:=KA hr n (b.toNat+1) (lo+k - (b.toNat+1)) ((x :: r).drop g) _ _ R1 _ (by rw [List.length_drop];simp at hl ⊢;omega) (hR.drop g) hBd hHd hT1 hA1 (by omega)
  refine ⟨R2,hT2,hp1.trans hp2,?_⟩
  rw [hgr,List.append_cons G0]
  exact hA2
theorem
    nodeW_tab:∀ m d L D R,Pre d m L→EF L→Gn D R→∃ R',Gn (nodeW m d L D).2 R'∧R <+: R'∧R'[(nodeW m d L D).1]? = some (Ah d L)
 | 0,d,L,D,R,hP,_,_=>by
  exfalso
  obtain ⟨x,hx⟩:=List.exists_mem_of_ne_nil _ hP.ne
  have:=hP.ge x hx;have:=hP.lt x hx;omega
 | m
   +
    1,d,L,D,R,hP,hB,hT=>by
  rw [nodeW]
  have hRest:=hP.rest
  have hsub:∀ s∈Bk d L,s∈L:=fun s hs=>by
   unfold Bk at hs
   split at hs
   · exact List.mem_of_mem_tail hs
   · exact hs
  have hBr:EF (Bk d L):=fun s hs=>hB s (hsub s hs)
  have hH:EB 33 94 (Ah d (Bk d L)):=fun s hs=>by
   obtain ⟨x,hx,rfl⟩:=AH.1 hs
   obtain ⟨b,e1,_⟩:=FZ (hRest.gt x hx)
   have:=Ek (d:=d) hBr _ hs b (by rw [e1];simp)
   exact ⟨b,_,e1,this.1,this.2⟩
  obtain ⟨R1,hT1,hp1,hA1⟩:=KA (rec:=nodeW m (d+1)) (d:=d) (m:=m) (fun L D R h1 h2 h3=>nodeW_tab m (d+1) L D R h1 h2 h3) (Bk d L).length 33 94 (Bk d L) [] D R [] (A3 _) hRest hBr hH hT .nil (by omega)
  have hs:=FD hP.same hP.inc
  have hbb:=Ek (d:=d) hB
  have hcase:Lm d L=E7 (Ah d L)∧grp (Ah d L)=Fo 33 94 (Ah d (Bk d L)):=by
   cases hL:L with
   | nil=>exact absurd hL hP.ne
   | cons x r =>
    have hxge:=hP.ge x (by rw [hL];simp)
    unfold Bk Lm
    by_cases e:x.size=d
    ·
     have e0:x.data.toList.drop d=[]:=List.drop_of_length_le (by simp;omega)
     have e1:Ah d (x :: r)=[] :: Ah d r:=by unfold Ah;rw [List.map_cons,e0]
     rw [if_pos (by simpa using e),e1]
     exact ⟨by simpa [E7] using e,rfl⟩
    ·
     obtain ⟨b,e1,_⟩:=FZ (s:=x) (d:=d) (by omega)
     have e2:Ah d (x :: r)=(b :: x.data.toList.drop (d+1)) :: Ah d r:=by unfold Ah;rw [List.map_cons,e1]
     rw [if_neg (by simpa using e)]
     exact ⟨by rw [e2];simpa [E7] using e,rfl⟩
  rw [List.nil_append,← hcase.2] at hA1
  obtain ⟨R2,hT2,hp2,hi2⟩:=addN_tab hT1 hs hbb (fun h=>hP.ne (List.map_eq_nil_iff.1 h)) hcase.1 hA1
  exact ⟨R2,hT2,hp1.trans hp2,hi2⟩
end Go.Proofs.YthjmdgejnakcmaaGreatDoor
