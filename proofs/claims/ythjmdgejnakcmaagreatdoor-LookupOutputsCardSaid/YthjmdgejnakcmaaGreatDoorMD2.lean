/- Texts that the claims share: DNodeP, DTrie, DTab. -/
import Derived.Maps.Views
import Derived.Maps.OwnSet
import Derived.Maps.Own
import Derived.Test.YthjmdgejnakcmaaGreatDoorMD1
set_option linter.unusedVariables false
set_option linter.unusedSimpArgs false
namespace Go.Proofs.YthjmdgejnakcmaaGreatDoor
open Go.RowKit Go.WideShapes
def BD (s:ByteArray) (d:Nat):Int:=((s.data.toList.getD d 0).toNat:Int)
theorem Jq {s:ByteArray} {d:Nat} (h:d<s.size):BD s d=(s[d].toNat:Int):=by
 have h2:d<s.data.toList.length:=by simpa using h
 unfold BD;rw [Ab,AE h2];rfl
def addN (fin:Bool) (A:List Ar) (D:List Nd):Nat × List Nd :=
 if D.findIdx (fun x=>decide (Bs x.fin x.arcs=Bs fin A))<D.length then (D.findIdx (fun x=>decide (Bs x.fin x.arcs=Bs fin A)),D) else (D.length,D ++ [⟨fin,A⟩])
def Ea (d:Nat) (L:List ByteArray) (c:Int):Nat:=(L.takeWhile fun s=>decide (BD s d=c)).length
def DU (rec:List ByteArray→List Nd→Nat × List Nd) (d:Nat):Nat→List ByteArray→List Ar→List Nd→List Ar × List Nd
 | 0,_,A,D=>(A,D)
 | _+1,[],A,D=>(A,D)
 | n+1,x :: r,A,D=>DU rec d n ((x :: r).drop (Ea d (x :: r) (BD x d))) (A ++ [⟨BD x d,((rec ((x :: r).take (Ea d (x :: r) (BD x d))) D).1:Nat)⟩]) (rec ((x :: r).take (Ea d (x :: r) (BD x d))) D).2
def NC (d:Nat) (L:List ByteArray):Bool:=match L with | []=>false | x :: _=>decide (x.size=d)
def C9 (d:Nat) (L:List ByteArray):List ByteArray:=if NC d L=true then L.tail else L
def
  nodeW:Nat→Nat→List ByteArray→List Nd→Nat × List Nd
 | 0,_,_,D=>(0,D)
 | m+1,d,L,D =>
  addN (NC d L) (DU (nodeW m (d+1)) d (C9 d L).length (C9 d L) [] D).1 (DU (nodeW m (d+1)) d (C9 d L).length (C9 d L) [] D).2
theorem Hw {d:Nat} {x:ByteArray} {r:List ByteArray}:1≤Ea d (x :: r) (BD x d):=by
 unfold Ea;rw [List.takeWhile_cons,if_pos (by simp)];simp
theorem P9 {d:Nat} {L:List ByteArray} {c:Int}:Ea d L c≤L.length:=(List.takeWhile_prefix _).length_le
theorem ND {rec:List ByteArray→List Nd→Nat × List Nd} {d:Nat} (hr:∀ L D,D.length≤(rec L D).2.length):∀ n L A D,D.length≤(DU rec d n L A D).2.length
 | 0,_,_,_=>A7 _
 | _+1,[],_,_=>A7 _
 | n+1,x :: r,A,D=>by rw [DU];exact AC (hr _ _) (ND hr n _ _ _)
theorem T7 (fin:Bool) (A:List Ar) (D:List Nd):D.length≤(addN fin A D).2.length:=by
 unfold addN;split <;> simp
theorem T8 (fin:Bool) (A:List Ar) (D:List Nd):(addN fin A D).2.length≤D.length+1:=by
 unfold addN;split <;> simp
theorem T9 (fin:Bool) (A:List Ar) (D:List Nd):(addN fin A D).1<(addN fin A D).2.length:=by
 unfold addN;split
 · assumption
 · simp
theorem Rb:∀ m d L D,D.length≤(nodeW m d L D).2.length
 | 0,_,_,_=>A7 _
 | m+1,d,L,D=>by rw [nodeW];exact AC (ND (Rb m (d+1)) _ _ _ _) (T7 _ _ _)
theorem NE {rec:List ByteArray→List Nd→Nat × List Nd} {d k:Nat} (hr:∀ L D,L≠[]→(rec L D).2.length≤D.length+L.length*k):∀ n L A D,(DU rec d n L A D).2.length≤D.length+L.length*k
 | 0,_,_,_=>Nat.le_add_right _ _
 | _+1,[],_,_=>Nat.le_add_right _ _
 | n+1,x :: r,A,D=>by
  rw [DU];have h1:=Hw (d:=d) (x:=x) (r:=r);have h2:=P9 (d:=d) (L:=x :: r) (c:=BD x d);have h3:=NE (d:=d) hr n ((x :: r).drop (Ea d (x :: r) (BD x d))) (A ++ [⟨BD x d,((rec ((x :: r).take (Ea d (x :: r) (BD x d))) D).1:Nat)⟩]) (rec ((x :: r).take (Ea d (x :: r) (BD x d))) D).2;have h4:=hr ((x :: r).take (Ea d (x :: r) (BD x d))) D (by intro h;have:=congrArg List.length h;rw [AV] at this;simp at this;omega);rw [List.length_drop] at h3;rw [AV,Nat.min_eq_left h2] at h4;have h5:((x :: r).length - Ea d (x :: r) (BD x d))*k+Ea d (x :: r) (BD x d)*k=(x :: r).length*k:=by rw [← Nat.add_mul];congr 1;omega
  omega
theorem LF (d:Nat) (L:List ByteArray):(C9 d L).length≤L.length:=by
 unfold C9;split <;> simp
theorem Jr:∀ m d L D,L≠[]→(nodeW m d L D).2.length≤D.length+L.length*m
 | 0,_,_,_,_=>Nat.le_add_right _ _
 | m+1,d,L,D,hL=>by
  rw [nodeW];have h1:=NE (rec:=nodeW m (d+1)) (d:=d) (k:=m) (Jr m (d+1)) (C9 d L).length (C9 d L) [] D;have h2:=T8 (NC d L) (DU (nodeW m (d+1)) d (C9 d L).length (C9 d L) [] D).1 (DU (nodeW m (d+1)) d (C9 d L).length (C9 d L) [] D).2;have h3:(C9 d L).length*m≤L.length*m:=Nat.mul_le_mul_right _ (LF d L);have h4:1≤L.length:=by cases L with | nil=>exact absurd rfl hL | cons=>simp
  have h5:L.length*(m+1)=L.length*m+L.length:=Nat.mul_succ _ _;omega
theorem Rd (m d:Nat) (L:List ByteArray) (D:List Nd):(nodeW (m+1) d L D).1<(nodeW (m+1) d L D).2.length:=by
 rw [nodeW];exact T9 _ _ _
theorem Px:∀ (m d:Nat) (L:List ByteArray) (D:List Nd),(nodeW m d L D).1≤(nodeW m d L D).2.length
 | 0,_,_,_=>Nat.zero_le _
 | m+1,d,L,D=>Nat.le_of_lt (Rd m d L D)
structure Pre (d m:Nat) (L:List ByteArray):Prop where
 ne:L≠[]
 ge:∀ x∈L,d≤x.size
 lt:∀ x∈L,x.size<d+m
 asc:∀ x∈L,∀ c∈x.data.toList,c.toNat<128
 same:∀ x∈L,∀ y∈L,x.data.toList.take d=y.data.toList.take d
 inc:L.Pairwise fun x y=>ltS x y=true
theorem NF:∀ {a b:List UInt8} {d:Nat},a.take d=b.take d→d≤a.length→Op.bytesLess a b=true→d<b.length
 | _,[],d,_,_,h=>by unfold Op.bytesLess at h;cases h
 | [],y :: ys,d,he,hd,h=>by simp at hd;subst hd;simp
 | x :: xs,y :: ys,0,he,hd,h=>by simp
 | x :: xs,y :: ys,d+1,he,hd,h=>by
  simp only [List.take_succ_cons,List.cons.injEq] at he;obtain ⟨rfl,he⟩:=he;have hx:¬ x<x:=by rw [UInt8.lt_iff_toNat_lt];omega
  simp [Op.bytesLess,hx] at h;have:=NF (d:=d) he (by simpa using hd) h;simpa using this
theorem GJ (x:ByteArray):x.size=x.data.toList.length:=by simp
theorem Pre.longer {d m:Nat} {x:ByteArray} {r:List ByteArray} (h:Pre d m (x :: r)):∀ y∈r,d<y.size:=by
 intro y hy;have h1:=(Ah.1 h.inc).1 y hy;rw [ltS,ByteArray.toList_eq,ByteArray.toList_eq] at h1;have h2:=h.ge x (by simp);rw [GJ] at h2 ⊢;exact NF (h.same x (by simp) y (by simp [hy])) h2 h1
structure Rest (d m:Nat) (L:List ByteArray):Prop where
 gt:∀ x∈L,d<x.size
 lt:∀ x∈L,x.size<d+m
 asc:∀ x∈L,∀ c∈x.data.toList,c.toNat<128
 same:∀ x∈L,∀ y∈L,x.data.toList.take d=y.data.toList.take d
 inc:L.Pairwise fun x y=>ltS x y=true
theorem Pre.rest {d m:Nat} {L:List ByteArray} (h:Pre d m L):Rest d m (C9 d L):=by
 cases L with
 | nil=>exact absurd rfl h.ne
 | cons x r =>
  unfold C9 NC;by_cases e:x.size=d
  ·rw [if_pos (by simpa using e)];exact ⟨h.longer,fun y hy=>h.lt y (List.mem_cons_of_mem _ hy),fun y hy=>h.asc y (List.mem_cons_of_mem _ hy),fun y hy z hz=>h.same y (List.mem_cons_of_mem _ hy) z (List.mem_cons_of_mem _ hz),(Ah.1 h.inc).2⟩
  ·rw [if_neg (by simpa using e)];refine ⟨fun y hy=>?_,h.lt,h.asc,h.same,h.inc⟩;rcases Aj.1 hy with rfl | hy
   · have:=h.ge y (by simp);omega
   · exact h.longer y hy
theorem Rest.drop {d m:Nat} {L:List ByteArray} (h:Rest d m L) (k:Nat):Rest d m (L.drop k) :=
 ⟨fun x hx=>h.gt x (List.mem_of_mem_drop hx),fun x hx=>h.lt x (List.mem_of_mem_drop hx),fun x hx=>h.asc x (List.mem_of_mem_drop hx),fun x hx y hy=>h.same x (List.mem_of_mem_drop hx) y (List.mem_of_mem_drop hy),h.inc.drop⟩
theorem Ka {α:Type} {p:α→Bool} {L:List α} {x:α} (h:x∈L.take (L.takeWhile p).length):p x=true:=by
 have h2:L.take (L.takeWhile p).length=L.takeWhile p:=(List.prefix_iff_eq_take.1 (List.takeWhile_prefix p)).symm;rw [h2] at h;have h3:=List.all_takeWhile (p:=p) (l:=L);exact List.all_eq_true.1 h3 x h
theorem Jt {x y:ByteArray} {d:Nat} (hx:d<x.size) (hy:d<y.size) (h:x.data.toList.take d=y.data.toList.take d) (hb:BD x d=BD y d):x.data.toList.take (d+1)=y.data.toList.take (d+1):=by
 have h1:d<x.data.toList.length:=by rw [← GJ];exact hx
 have h2:d<y.data.toList.length:=by rw [← GJ];exact hy
 rw [AZ h1,AZ h2,h];congr 2;have e:BD x d=(x.data.toList[d].toNat:Int):=by unfold BD;rw [Ab,AE h1];rfl
 have e2:BD y d=(y.data.toList[d].toNat:Int):=by unfold BD;rw [Ab,AE h2];rfl
 rw [e,e2] at hb;exact UInt8.toNat_inj.1 (by omega)
theorem Rest.group {d m:Nat} {x:ByteArray} {r:List ByteArray} (h:Rest d (m+1) (x :: r)):Pre (d+1) m ((x :: r).take (Ea d (x :: r) (BD x d))):=by
 have hb:∀ y∈(x :: r).take (Ea d (x :: r) (BD x d)),BD y d=BD x d:=fun y hy=>by
  have:=Ka hy;simpa using this
 have hm:∀ y∈(x :: r).take (Ea d (x :: r) (BD x d)),y∈x :: r:=fun y hy=>List.mem_of_mem_take hy;refine ⟨fun e=>?_,fun y hy=>h.gt y (hm y hy),fun y hy=>by have:=h.lt y (hm y hy);omega,fun y hy=>h.asc y (hm y hy),fun y hy z hz=>?_,h.inc.take⟩
 ·have:=Hw (d:=d) (x:=x) (r:=r);have h2:=congrArg List.length e;rw [AV] at h2;simp at h2;omega
 · exact Jt (h.gt y (hm y hy)) (h.gt z (hm z hz)) (h.same y (hm y hy) z (hm z hz)) ((hb y hy).trans (hb z hz).symm)
open Go.RowKit Go.WideShapes Go.Maps Go.WideMaps
def DV (D:List Nd) (l:List UInt8):Nat:=D.findIdx fun x=>decide (Bs x.fin x.arcs=l)
def Fo (w:World) (g:Nat) (D:List Nd):Prop:=∃ (n:Nat) (M:DataW Unit),w.ownsMap Tryz.prog 9 (plainElem Tryz.prog 3) g n M∧n≤D.length ∧
 ∀ s:ByteArray,s.size≤maxLen→Maps.has M (.string s.data.toList)=decide (DV D s.data.toList<D.length)∧M.atKey (.string s.data.toList) (.lit (.int .i64 0))=.lit (.int .i64 (if DV D s.data.toList<D.length then (DV D s.data.toList:Int) else 0))
theorem Re:Keyed Tryz.prog 9:=string_keyed Tryz.underlying9
theorem Fo.new (w:World):Fo (w.alloc (.map #[] 0)) w.heap.size [] :=
 ⟨0,.map [],World.ownsMap_made _ _ _ _,A7 _,fun s _=>⟨by simp [DV,Maps.has],by simp [DV,DataW.atKey]⟩⟩
theorem Fo.kept {w w1:World} {g:Nat} {D:List Nd} (h:Fo w g D) (hk:w1.heap[g]? = w.heap[g]?):Fo w1 g D:=by
 obtain ⟨n,M,⟨es,clock,hb,h1,h2,h3⟩,h4⟩:=h;exact ⟨n,M,⟨es,clock,hk.trans hb,h1,h2,h3⟩,h4⟩
theorem Fo.obj {w:World} {g:Nat} {D:List Nd} (h:Fo w g D):∃ es c,w.heap[g]? = some (.map es c):=by
 obtain ⟨n,M,⟨es,clock,hb,_⟩,_⟩:=h;exact ⟨es,clock,hb⟩
theorem Fo.look {w:World} {g:Nat} {D:List Nd} (h:Fo w g D) (s:ByteArray) (hs:s.size≤maxLen) :
  (Instr.lookup 97 (.map (some g)) (.string s) true).run Tryz.prog w=.ok (.tuple #[.int .i64 (if DV D s.data.toList<D.length then (DV D s.data.toList:Int) else 0),.bool (decide (DV D s.data.toList<D.length))]) w:=by
 obtain ⟨n,M,h1,_,h3⟩:=h;obtain ⟨v,ps,ja,hv⟩:=h1.look_ok Re Tryz.underlying97 (Tryz.zeroValue3 w) (plainElem_int (H:=Unit) Tryz.underlying3 (a:=0) (by decide)) (keyOf_string_mk Tryz.underlying9 hs);obtain ⟨e1,e2⟩:=h3 s hs;rw [e2] at hv;obtain ⟨a,rfl,hz,_⟩:=plainElem_int_inv Tryz.underlying3 hv;rw [e1] at ja;have:a=if DV D s.data.toList<D.length then (DV D s.data.toList:Int) else 0:=by
  have:=congrArg Prod.fst hz;simp only [DataW.lit.injEq,Lit.int.injEq,true_and] at this;exact this.symm
 rw [← this];exact ja
theorem OM {D:List Nd} {nd:Nd} {l:List UInt8}:DV (D ++ [nd]) l=if DV D l<D.length then DV D l else if Bs nd.fin nd.arcs=l then D.length else D.length+1:=by
 unfold DV;rw [List.findIdx_append];split
 · rfl
 ·rw [List.findIdx_cons];by_cases h:Bs nd.fin nd.arcs=l
  · simp [h]
  · simp [h];omega
theorem Gs {w:World} {g:Nat} {D:List Nd} {ops:Array Oper} {rest:List Oper} {o:Oper} {a:Act} {Q:Exit→Act→World→Prop} (h:Fo w g D) (nd:Nd) (s:ByteArray) (hk:Bs nd.fin nd.arcs=s.data.toList) (hs:s.size≤maxLen) (jg:¬ DV D s.data.toList<D.length) (hD:D.length<1000000)
  (jd:o.guard=none) (m x v:Operand) (jh:o.op=Op.mapUpdate 97 m x v) (hm:a.eval m=.map (some g)) (hx:a.eval x=.string s) (hv:a.eval v=.int .i64 (D.length:Int))
  (hK:∀ w',Fo w' g (D ++ [nd])→w.grownBy w' (some g)→wpList Tryz.prog ops Q rest (a.put o.dst undef) w'):wpList Tryz.prog ops Q (o :: rest) a w:=by
 obtain ⟨n,M,h1,h2,h3⟩:=h;have ji:(Lit.int .i64 (D.length:Int)).wf=true:=by simp [Lit.wf,IntKind.min,IntKind.max,IntKind.bits,IntKind.signed];omega
 refine wpList_mapUpdate_own w jd m x v _ jh _ _ Re Tryz.underlying97 _ g n M hm h1 (by unfold maxLen;omega) _ _ _ hx hv (keyOf_string_mk Tryz.underlying9 hs) _ _ (plainElem_int (H:=Unit) Tryz.underlying3 ji) ?_;intro w' ja je;refine hK w' ⟨n+1,_,ja,by rw [AF];simp;omega,fun t ht=>?_⟩ je;have hM:IsMap M:=h1.isMap;rw [OM];by_cases e:t=s
 ·subst e;have jb:WideAt.IsKeyLit (.string t.data.toList):=trivial;rw [Maps.has_put_same hM jb,Maps.atKey_put_same hM jb,if_neg jg,if_pos hk];simp
 ·have jc:Lit.string t.data.toList≠Lit.string s.data.toList:=fun h=>e (bytes_inj (by injection h));rw [Maps.has_put_other jc,Maps.atKey_put_other jc];obtain ⟨e1,e2⟩:=h3 t ht;rw [e1,e2];have jf:¬ Bs nd.fin nd.arcs=t.data.toList:=fun h=>e (bytes_inj (by rw [← h,hk]));rw [if_neg jf];by_cases hf:DV D t.data.toList<D.length
  · simp [hf];omega
  · simp [hf]
structure BSt (w:World) (B gB gM:Nat) (v:Value) (N:List NV) (D:List Nd):Prop where
 rep:w.heap[gB]? = some (.cells #[v,.map (some gM)] 99 (0,0))
 own:As Bj w B v N
 len:N.length=D.length
 arcs:∀ k (h:k<N.length) (h2:k<D.length),N[k].fin=D[k].fin∧As C5 w B (.slice N[k].a N[k].n N[k].c) D[k].arcs
 map:Fo w gM D
 gB:B≤gB
 gM:B≤gM
structure Fr (gB gM:Nat) (vb:Option Nat) (w w':World):Prop where
 os:w'.os=w.os
 tape:w'.tape=w.tape
 output:w'.output=w.output
 size:w.heap.size≤w'.heap.size
 block:∀ q,q<w.heap.size→q≠gB→q≠gM→vb≠some q→w'.heap[q]? = w.heap[q]?
theorem Fr.refl (gB gM:Nat) (vb:Option Nat) (w:World):Fr gB gM vb w w:=⟨rfl,rfl,rfl,A7 _,fun _ _ _ _ _=>rfl⟩
def DG (vb vb1:Option Nat) (n:Nat):Prop:=vb1=vb∨∀ q,vb1=some q→n≤q
theorem DG.trans {a b c:Option Nat} {n m:Nat} (h:DG a b n) (h2:DG b c m) (ja:n≤m):DG a c n:=by
 rcases h2 with rfl | h2
 · exact h
 · exact .inr fun q hq=>AC ja (h2 q hq)
theorem Fr.trans {gB gM:Nat} {vb vb1:Option Nat} {a b c:World} (h:Fr gB gM vb a b) (h2:Fr gB gM vb1 b c) (hn:DG vb vb1 a.heap.size):Fr gB gM vb a c :=
 ⟨h2.os.trans h.os,h2.tape.trans h.tape,h2.output.trans h.output,AC h.size h2.size,fun q hq h3 h4 h5=>(h2.block q (AB hq h.size) h3 h4 (by
  rcases hn with rfl | hn
  · exact h5
  · intro e;have:=hn q e;omega)).trans (h.block q hq h3 h4 h5)⟩
theorem Fr.of_below {gB gM:Nat} {vb:Option Nat} {w w':World} (h:Below w.heap.size w w'):Fr gB gM vb w w':=⟨h.os,h.tape,h.output,h.size,fun q hq _ _ _=>h.block q hq⟩
theorem BSt.keep {w w':World} {B gB gM:Nat} {v:Value} {N:List NV} {D:List Nd} (h:BSt w B gB gM v N D) (hk:∀ q,q<w.heap.size→(q=gB∨q=gM∨v.ownBlock=some q∨∃ x∈N,(Value.slice x.a x.n x.c).ownBlock=some q)→w'.heap[q]? = w.heap[q]?):BSt w' B gB gM v N D:=by
 obtain ⟨es,c,hm⟩:=h.map.obj;refine ⟨(hk gB (A9.1 h.rep).1 (.inl rfl)).trans h.rep,h.own.keep fun g hg=>hk g (h.own.lt g hg) (.inr (.inr (.inl hg))),h.len,fun k h1 h2=>⟨(h.arcs k h1 h2).1,(h.arcs k h1 h2).2.keep fun g hg=>hk g ((h.arcs k h1 h2).2.lt g hg) (.inr (.inr (.inr ⟨N[k],AO h1,hg⟩)))⟩,h.map.kept (hk gM (A9.1 hm).1 (.inr (.inl rfl))),h.gB,h.gM⟩
theorem BSt.ext {w w':World} {B gB gM:Nat} {v:Value} {N:List NV} {D:List Nd} (h:BSt w B gB gM v N D) (hx:Ext w w'):BSt w' B gB gM v N D:=h.keep fun q hq _=>Below.block hx q hq
abbrev Wd:=List UInt8
abbrev Rst:=List (List UInt8)
def B8 (R:Rst) (c:Nat):Rst:=R.filterMap fun s=>match s with | []=>none | b :: t=>if b.toNat=c then some t else none
def F8 (R:Rst):Bool:=match R with | [] :: _=>true | _=>false
def GU (lo n:Nat) (R:Rst):List (Nat × Rst):=(List.range' lo n).filterMap fun c=>if B8 R c=[] then none else some (c,B8 R c)
def grp (R:Rst):List (Nat × Rst):=GU 33 94 R
def DD (R:Rst):Prop:=R.Pairwise fun a b=>Op.bytesLess a b=true
def Ep (lo n:Nat) (R:Rst):Prop:=∀ s∈R,∃ b t,s=b :: t∧lo≤b.toNat∧b.toNat<lo+n
def Ev (R:Rst):Prop:=∀ s∈R,∀ b∈s,33≤UInt8.toNat b∧UInt8.toNat b<127
theorem EQ {a b:UInt8} {x y:Wd}:Op.bytesLess (a :: x) (b :: y)=true↔a.toNat<b.toNat∨(a=b∧Op.bytesLess x y=true):=by
 simp only [Op.bytesLess,Bool.or_eq_true,Bool.and_eq_true,decide_eq_true_eq,beq_iff_eq,UInt8.lt_iff_toNat_lt]
theorem Rg:∀ x:Wd,Op.bytesLess x x=false
 | []=>rfl
 | a :: x=>by
  have h:¬ a<a:=by rw [UInt8.lt_iff_toNat_lt];omega
  simp [Op.bytesLess,h,Rg x]
theorem NG:∀ (p:Wd) {x y:Wd},Op.bytesLess (p ++ x) (p ++ y)=Op.bytesLess x y
 | [],_,_=>rfl
 | a :: p,x,y=>by
  have h:¬ a<a:=by rw [UInt8.lt_iff_toNat_lt];omega
  simp [Op.bytesLess,h,NG p]
theorem Ju {x:Wd}:Op.bytesLess x []=false:=by cases x <;> rfl
theorem DD.tail {x:Wd} {R:Rst} (h:DD (x :: R)):DD R:=(Ah.1 h).2
theorem DD.nonempty {x:Wd} {R:Rst} (h:DD (x :: R)):∀ s∈R,s≠[]:=fun s hs e=>by
 have:=(Ah.1 h).1 s hs;rw [e,Ju] at this;cases this
theorem Rh (R:Rst) (c:Nat):B8 ([] :: R) c=B8 R c:=rfl
theorem Gt {b:UInt8} {t:Wd} {R:Rst} {c:Nat} (h:b.toNat=c):B8 ((b :: t) :: R) c=t :: B8 R c:=by simp [B8,h]
theorem Py {b:UInt8} {t:Wd} {R:Rst} {c:Nat} (h:b.toNat≠c):B8 ((b :: t) :: R) c=B8 R c:=by simp [B8,h]
theorem Do {R:Rst} {c:Nat} {t:Wd}:t∈B8 R c↔∃ b:UInt8,b.toNat=c∧b :: t∈R:=by
 unfold B8;rw [List.mem_filterMap];constructor
 ·rintro ⟨s,hs,h⟩;cases s with
  | nil=>cases h
  | cons b u =>
   simp only at h;split at h
   · injection h with h;subst h;exact ⟨b,by assumption,hs⟩
   · cases h
 ·rintro ⟨b,hb,h⟩;exact ⟨_,h,by simp [hb]⟩
theorem Kb (P Q:Rst) (c:Nat):B8 (P ++ Q) c=B8 P c ++ B8 Q c:=List.filterMap_append
theorem afterL_sort {R:Rst} {c:Nat} (h:DD R):DD (B8 R c):=by
 unfold DD B8;rw [List.pairwise_filterMap];refine List.Pairwise.imp ?_ h;intro a b ja t ht u hu;cases a with
 | nil=>cases ht
 | cons x a =>
  cases b with
  | nil=>cases hu
  | cons y b =>
   simp only at ht hu;split at ht
   ·split at hu
    ·injection ht with ht;injection hu with hu;subst ht hu;rcases EQ.1 ja with h | ⟨_,h⟩
     · omega
     · exact h
    · cases hu
   · cases ht
theorem Lv {R:Rst} {c:Nat} (h:Ev R):Ev (B8 R c):=fun s hs b hb=>by
 obtain ⟨x,_,hx⟩:=Do.1 hs;exact h _ hx b (List.mem_cons_of_mem _ hb)
theorem heads_split {b:UInt8} {n:Nat}:∀ {R:Rst},DD R→Ep b.toNat n R→B8 R b.toNat=(R.takeWhile fun s=>s.head? == some b).map List.tail ∧
  Ep (b.toNat+1) (n - 1) (R.dropWhile fun s=>s.head? == some b)∧(R.takeWhile fun s=>s.head? == some b).map (fun s=>b :: s.tail)=(R.takeWhile fun s=>s.head? == some b)
 | [],_,_=>⟨rfl,fun s hs=>by simp at hs,rfl⟩
 | x
   :: r,hs,hh=>by
  obtain ⟨y,t,rfl,h1,h2⟩:=hh x (by simp);by_cases e:y=b
  ·subst e;obtain ⟨i1,i2,i3⟩:=heads_split (R:=r) (hs.tail) fun s ja=>hh s (List.mem_cons_of_mem _ ja);simp only [List.takeWhile_cons,List.dropWhile_cons,List.head?_cons,beq_self_eq_true,if_true,List.map_cons,List.tail_cons];exact ⟨by rw [Gt rfl,i1],i2,by rw [i3]⟩
  ·have jc:((y :: t).head? == some b)=false:=by simpa using e
   simp only [List.takeWhile_cons,List.dropWhile_cons,jc,Bool.false_eq_true,if_false];have hlt:b.toNat<y.toNat:=by
    have:y.toNat≠b.toNat:=fun h=>e (UInt8.toNat_inj.1 h);omega
   have jb:∀ s∈(y :: t) :: r,∃ c u,s=c :: u∧b.toNat+1≤c.toNat∧c.toNat<b.toNat+n:=fun s ja=>by
    obtain ⟨c,u,rfl,h3,h4⟩:=hh s ja;refine ⟨c,u,rfl,?_,h4⟩;rcases Aj.1 ja with h5 | h5
    · injection h5 with h5;subst h5;omega
    ·rcases EQ.1 ((Ah.1 hs).1 _ h5) with h6 | ⟨h6,_⟩
     · omega
     · subst h6;omega
   refine ⟨?_,fun s ja=>?_,rfl⟩
   ·rw [List.map_nil];unfold B8;rw [List.filterMap_eq_nil_iff];intro s ja;obtain ⟨c,u,rfl,h3,_⟩:=jb s ja;simp;omega
   ·obtain ⟨c,u,rfl,h3,h4⟩:=jb s ja;exact ⟨c,u,rfl,h3,by omega⟩
theorem ON {lo n c:Nat} {R:Rst} (h:Ep lo n R) (hc:c<lo∨lo+n≤c):B8 R c=[]:=by
 unfold B8;rw [List.filterMap_eq_nil_iff];intro s hs;obtain ⟨b,t,rfl,h3,h4⟩:=h s hs;simp;omega
theorem Jv {b:UInt8} {R:Rst} {c:Nat} (hc:c≠b.toNat):B8 (R.takeWhile fun s=>s.head? == some b) c=[]:=by
 unfold B8;rw [List.filterMap_eq_nil_iff];intro s hs;have h:=List.all_takeWhile (p:=fun s:Wd=>s.head? == some b) (l:=R);have h2:=List.all_eq_true.1 h s hs;cases s with
 | nil=>rfl
 | cons y t =>
  have:y=b:=by simpa using h2
  subst this;simp;omega
theorem NH {b:UInt8} {R:Rst} {c:Nat} (hc:c≠b.toNat):B8 R c=B8 (R.dropWhile fun s=>s.head? == some b) c:=by
 conv=>lhs;rw [← List.takeWhile_append_dropWhile (p:=fun s:Wd=>s.head? == some b) (l:=R)]
 rw [Kb,Jv hc];rfl
theorem Hx (lo n:Nat):GU lo n []=[]:=by
 unfold GU;rw [List.filterMap_eq_nil_iff];intro c _;rfl
theorem NI {α β:Type} {f g:α→Option β}:∀ {l:List α},(∀ x∈l,f x=g x)→l.filterMap f=l.filterMap g
 | [],_=>rfl
 | x :: r,h=>by rw [List.filterMap_cons,List.filterMap_cons,h x (by simp),NI fun y hy=>h y (List.mem_cons_of_mem _ hy)]
theorem OO {lo n:Nat} {R Q:Rst} (h:∀ c,lo≤c→c<lo+n→B8 R c=B8 Q c):GU lo n R=GU lo n Q:=by
 unfold GU;refine NI fun c hc=>?_;have:=List.mem_range'_1.1 hc;rw [h c this.1 this.2]
theorem LG {lo n:Nat} {b:UInt8} {t:Wd} {r:Rst} (hs:DD ((b :: t) :: r)) (hh:Ep lo n ((b :: t) :: r)) :
  GU lo n ((b :: t) :: r)=(b.toNat,(((b :: t) :: r).takeWhile fun s=>s.head? == some b).map List.tail) :: GU (b.toNat+1) (lo+n - (b.toNat+1)) (((b :: t) :: r).dropWhile fun s=>s.head? == some b):=by
 obtain ⟨b',t',e,h1,h2⟩:=hh (b :: t) (by simp);injection e with e1 e2;subst e1 e2;have ja:Ep b.toNat (lo+n - b.toNat) ((b :: t) :: r):=fun s jb=>by
  obtain ⟨c,u,rfl,h3,h4⟩:=hh s jb;refine ⟨c,u,rfl,?_,by omega⟩;rcases Aj.1 jb with h5 | h5
  · injection h5 with h5;subst h5;exact A7 _
  ·rcases EQ.1 ((Ah.1 hs).1 _ h5) with h6 | ⟨h6,_⟩
   · omega
   · subst h6;exact A7 _
 obtain ⟨i1,i2,_⟩:=heads_split hs ja;have hr:List.range' lo n=List.range' lo (b.toNat - lo) ++ (b.toNat :: List.range' (b.toNat+1) (lo+n - (b.toNat+1))):=by
  have e1:b.toNat :: List.range' (b.toNat+1) (lo+n - (b.toNat+1))=List.range' b.toNat (lo+n - b.toNat):=by
   rw [show lo+n - b.toNat=(lo+n - (b.toNat+1))+1 from by omega,List.range'_succ]
  rw [e1];have:=List.range'_append (s:=lo) (m:=b.toNat - lo) (n:=lo+n - b.toNat) (step:=1);rw [show lo+1*(b.toNat - lo)=b.toNat from by omega,show b.toNat - lo+(lo+n - b.toNat)=n from by omega] at this;exact this.symm
 have jd:B8 ((b :: t) :: r) b.toNat≠[]:=by rw [Gt rfl];simp
 have jc:=OO (lo:=b.toNat+1) (n:=lo+n - (b.toNat+1)) (R:=(b :: t) :: r) (Q:=((b :: t) :: r).dropWhile fun s=>s.head? == some b) fun c h3 h4=>NH (by omega);rw [← jc,← i1];unfold GU;rw [hr,List.filterMap_append,List.filterMap_cons,if_neg jd];have hz:(List.range' lo (b.toNat - lo)).filterMap (fun c=>if B8 ((b :: t) :: r) c=[] then none else some (c,B8 ((b :: t) :: r) c))=[]:=by
  rw [List.filterMap_eq_nil_iff];intro c hc;have:=List.mem_range'_1.1 hc;rw [ON ja (.inl (by omega)),if_pos rfl]
 rw [hz];rfl
def Kd (G:List (Nat × Rst)):Rst:=G.flatMap fun g=>g.2.map (UInt8.ofNat g.1 :: ·)
theorem Lw {b:UInt8} {R:Rst}:(R.dropWhile fun s=>s.head? == some b).length≤R.length:=(List.dropWhile_sublist _).length_le
theorem Pz {b:UInt8} {R:Rst} (h:DD R):DD (R.dropWhile fun s=>s.head? == some b):=List.Pairwise.sublist (List.dropWhile_sublist _) h
theorem Jw {b:UInt8} {t:Wd} {r:Rst} {lo n:Nat} (hs:DD ((b :: t) :: r)) (hh:Ep lo n ((b :: t) :: r)):Ep (b.toNat+1) (lo+n - (b.toNat+1)) (((b :: t) :: r).dropWhile fun s=>s.head? == some b):=by
 have ja:Ep b.toNat (lo+n - b.toNat) ((b :: t) :: r):=fun s jb=>by
  obtain ⟨c,u,rfl,h3,h4⟩:=hh s jb;refine ⟨c,u,rfl,?_,by omega⟩;rcases Aj.1 jb with h5 | h5
  · injection h5 with h5;subst h5;exact A7 _
  ·rcases EQ.1 ((Ah.1 hs).1 _ h5) with h6 | ⟨h6,_⟩
   · omega
   · subst h6;exact A7 _
 have:=(heads_split hs ja).2.1
 rwa [show lo+n - b.toNat - 1=lo+n - (b.toNat+1) from by omega] at this
theorem catG_grpR:∀ (k lo n:Nat) (R:Rst),R.length≤k→DD R→Ep lo n R→Kd (GU lo n R)=R
 | _,_,_,[],_,_,_=>by rw [Hx];rfl
 | 0,_,_,_ :: _,h,_,_=>by simp at h
 | k
   +
    1,lo,n,x :: r,hk,hs,hh=>by
  obtain ⟨b,t,rfl,h1,h2⟩:=hh x (by simp);rw [LG hs hh];have ja:Ep b.toNat (lo+n - b.toNat) ((b :: t) :: r):=fun s jb=>by
   obtain ⟨c,u,rfl,h3,h4⟩:=hh s jb;refine ⟨c,u,rfl,?_,by omega⟩;rcases Aj.1 jb with h5 | h5
   · injection h5 with h5;subst h5;exact A7 _
   ·rcases EQ.1 ((Ah.1 hs).1 _ h5) with h6 | ⟨h6,_⟩
    · omega
    · subst h6;exact A7 _
  obtain ⟨i1,i2,i3⟩:=heads_split hs ja;have hd:(((b :: t) :: r).dropWhile fun s=>s.head? == some b)=r.dropWhile fun s=>s.head? == some b:=by simp [List.dropWhile_cons]
  have ih:=catG_grpR k (b.toNat+1) (lo+n - (b.toNat+1)) (((b :: t) :: r).dropWhile fun s=>s.head? == some b) (by rw [hd];have:=Lw (b:=b) (R:=r);simp at hk;omega) (Pz hs) (Jw hs hh);unfold Kd at ih ⊢;rw [List.flatMap_cons,ih];simp only [UInt8.ofNat_toNat,List.map_map];have:(fun s:Wd=>b :: s) ∘ List.tail=fun s:Wd=>b :: s.tail:=rfl;rw [this,i3];exact List.takeWhile_append_dropWhile
theorem TA {R:Rst}:grp ([] :: R)=grp R:=rfl
theorem NJ {R:Rst} (hb:Ev R) (hn:∀ s∈R,s≠[]):Ep 33 94 R:=fun s hs=>by
 cases s with
 | nil=>exact absurd rfl (hn _ hs)
 | cons b t=>exact ⟨b,t,rfl,(hb _ hs b (by simp)).1,(hb _ hs b (by simp)).2⟩
theorem recon {R:Rst} (hs:DD R) (hb:Ev R):R=(if F8 R=true then [[]] else []) ++ Kd (grp R):=by
 cases R with
 | nil=>unfold grp;rw [Hx];rfl
 | cons x r =>
  cases x with
  | nil =>
   have h1:F8 ([] :: r)=true:=rfl;rw [if_pos h1,TA];have:=catG_grpR r.length 33 94 r (A7 _) hs.tail (NJ (fun s h=>hb s (List.mem_cons_of_mem _ h)) hs.nonempty);unfold grp;rw [this];rfl
  | cons b t =>
   have h1:F8 ((b :: t) :: r)=false:=rfl;rw [h1];have hh:Ep 33 94 ((b :: t) :: r):=NJ hb fun s h=>by
    rcases Aj.1 h with rfl | h
    · simp
    · exact hs.nonempty s h
   have:=catG_grpR _ 33 94 _ (A7 _) hs hh;unfold grp;rw [this];simp
theorem Q0 {R Q:Rst} (hs:DD R) (hb:Ev R) (jb:DD Q) (ja:Ev Q) (hf:F8 R=F8 Q) (hg:grp R=grp Q):R=Q:=by
 rw [recon hs hb,recon jb ja,hf,hg]
theorem JF {R:Rst} {g:Nat × Rst} (h:g∈grp R):33≤g.1∧g.1<127∧g.2=B8 R g.1∧g.2≠[]:=by
 unfold grp GU at h;obtain ⟨c,hc,h2⟩:=List.mem_filterMap.1 h;have:=List.mem_range'_1.1 hc;split at h2
 · cases h2
 ·injection h2 with h2;subst h2;exact ⟨this.1,this.2,rfl,by assumption⟩
theorem Lx (R:Rst):(grp R).length≤94:=by
 have:=List.length_filterMap_le (fun c=>if B8 R c=[] then none else some (c,B8 R c)) (List.range' 33 94);simpa [grp,GU] using this
def TB (l:List UInt8):Nat:=l.foldl (fun a c=>a*10+(c.toNat - 48)) 0
theorem decD (u:Nat):TB (Lib.decDigits u)=u∧∀ c∈Lib.decDigits u,48≤c.toNat:=by
 induction u using Nat.strongRecOn with
 | _
   u
    ih =>
  rw [Lib.decDigits];have h1:∀ k,k<10→(UInt8.ofNat (48+k)).toNat=48+k:=fun k hk=>by
   rw [UInt8.toNat_ofNat'];omega
  split
  ·rename_i h;refine ⟨?_,fun c hc=>?_⟩
   · simp only [TB,List.foldl_cons,List.foldl_nil,h1 u h];omega
   · obtain rfl:=AJ.1 hc;rw [h1 u h];omega
  ·rename_i h;obtain ⟨i1,i2⟩:=ih (u / 10) (by omega);have h2:=h1 (u % 10) (by omega);refine ⟨?_,fun c hc=>?_⟩
   ·unfold TB at i1 ⊢;rw [List.foldl_append,i1];simp only [List.foldl_cons,List.foldl_nil,h2];omega
   ·rcases Ak.1 hc with hc | hc
    · exact i2 c hc
    · obtain rfl:=AJ.1 hc;rw [h2];omega
theorem LH {l r:List UInt8} (h:∀ c∈l,48≤c.toNat) (hr:r=[]∨∃ q,r=32 :: q):(l ++ r).takeWhile (fun c=>decide (48≤UInt8.toNat c))=l∧(l ++ r).dropWhile (fun c=>decide (48≤UInt8.toNat c))=r:=by
 induction l with
 | nil =>
  rcases hr with rfl | ⟨q,rfl⟩
  · exact ⟨rfl,rfl⟩
  ·have:(decide (48≤UInt8.toNat (32:UInt8)))=false:=rfl;simp [List.takeWhile_cons,List.dropWhile_cons]
 | cons c l ih =>
  have hc:=h c (by simp);obtain ⟨i1,i2⟩:=ih fun d hd=>h d (List.mem_cons_of_mem _ hd);simp only [List.cons_append,List.takeWhile_cons,List.dropWhile_cons,hc,decide_true,if_true];exact ⟨by rw [i1],i2⟩
theorem LI (X:List Ar):X.flatMap Dm=[]∨∃ q,X.flatMap Dm=32 :: q:=by
 cases X with
 | nil=>exact .inl rfl
 | cons x r=>exact .inr ⟨_,rfl⟩
def NK (x:Ar):Prop:=0≤x.c∧x.c<256∧0≤x.t
theorem Jy:∀ {X Y:List Ar},(∀ x∈X,NK x)→(∀ x∈Y,NK x)→X.flatMap Dm=Y.flatMap Dm→X=Y
 | [],[],_,_,_=>rfl
 | [],y :: s,_,_,h=>by rw [List.flatMap_nil,List.flatMap_cons,Dm] at h;cases h
 | x :: r,[],_,_,h=>by rw [List.flatMap_nil,List.flatMap_cons,Dm] at h;cases h
 | x
   :: r,y :: s,hX,hY,h=>by
  rw [List.flatMap_cons,List.flatMap_cons,Dm,Dm] at h;simp only [List.cons_append,List.cons.injEq,true_and] at h;obtain ⟨h1,h2⟩:=h;obtain ⟨x0,x1,x2⟩:=hX x (by simp);obtain ⟨y0,y1,y2⟩:=hY y (by simp);have e1:Lib.itoa x.t=Lib.decDigits x.t.toNat:=by rw [Lib.itoa,if_neg (by omega)]
  have e2:Lib.itoa y.t=Lib.decDigits y.t.toNat:=by rw [Lib.itoa,if_neg (by omega)]
  rw [e1,e2] at h2;obtain ⟨a1,a2⟩:=LH (decD x.t.toNat).2 (LI r);obtain ⟨b1,b2⟩:=LH (decD y.t.toNat).2 (LI s);rw [h2] at a1 a2;have h3:Lib.decDigits x.t.toNat=Lib.decDigits y.t.toNat:=a1.symm.trans b1;have h4:r.flatMap Dm=s.flatMap Dm:=a2.symm.trans b2;have h5:=Jy (fun z hz=>hX z (List.mem_cons_of_mem _ hz)) (fun z hz=>hY z (List.mem_cons_of_mem _ hz)) h4;have h6:x.t=y.t:=by
   have:=congrArg TB h3;rw [(decD _).1,(decD _).1] at this;omega
  have h7:x.c=y.c:=by
   have:=congrArg UInt8.toNat h1;rw [UInt8.toNat_ofNat',UInt8.toNat_ofNat'] at this;omega
  obtain ⟨xc,xt⟩:=x;obtain ⟨yc,yt⟩:=y;simp only at h6 h7;rw [h5,h6,h7]
theorem Ri {f g:Bool} {X Y:List Ar} (hX:∀ x∈X,NK x) (hY:∀ x∈Y,NK x) (h:Bs f X=Bs g Y):f=g∧X=Y:=by
 unfold Bs at h;have hT:Lib.formatBool true=[116,114,117,101]:=by decide
 have hF:Lib.formatBool false=[102,97,108,115,101]:=by decide
 cases f <;> cases g <;> simp only [hT,hF,List.cons_append,List.nil_append,List.cons.injEq] at h
 · exact ⟨rfl,Jy hX hY h.2.2.2.2.2⟩
 · exact absurd h.1 (by decide)
 · exact absurd h.1 (by decide)
 · exact ⟨rfl,Jy hX hY h.2.2.2.2⟩
inductive DY (R:List Rst) (n:Nat):List (Nat × Rst)→List Ar→Prop
 | nil:DY R n [] []
 | cons {c t:Nat} {g:Rst} {G:List (Nat × Rst)} {X:List Ar}:c<256→t<n→R[t]? = some g→DY R n G X→DY R n ((c,g) :: G) (⟨(c:Int),(t:Int)⟩ :: X)
theorem DY.mono {R R':List Rst} {n n':Nat} {G:List (Nat × Rst)} {X:List Ar} (h:DY R n G X) (hR:R <+: R') (hn:n≤n'):DY R' n' G X:=by
 induction h with
 | nil=>exact .nil
 | cons h1 h2 h3 _ ih =>
  refine .cons h1 (by omega) ?_ ih;obtain ⟨E,rfl⟩:=hR;obtain ⟨hl,he⟩:=List.getElem?_eq_some_iff.1 h3;rw [AQ hl];exact h3
theorem DY.snoc {R:List Rst} {n:Nat} {G:List (Nat × Rst)} {X:List Ar} {c t:Nat} {g:Rst} (h:DY R n G X) (hc:c<256) (ht:t<n) (hg:R[t]? = some g):DY R n (G ++ [(c,g)]) (X ++ [⟨(c:Int),(t:Int)⟩]):=by
 induction h with
 | nil=>exact .cons hc ht hg .nil
 | cons h1 h2 h3 _ ih=>exact .cons h1 h2 h3 ih
theorem DY.len {R:List Rst} {n:Nat} {G:List (Nat × Rst)} {X:List Ar} (h:DY R n G X):X.length=G.length:=by
 induction h with
 | nil=>rfl
 | cons _ _ _ _ ih=>simp [ih]
theorem DY.mem {R:List Rst} {n:Nat} {G:List (Nat × Rst)} {X:List Ar} (h:DY R n G X):∀ x∈X,NK x∧x.t<(n:Int):=by
 induction h with
 | nil=>intro x hx;cases hx
 | cons h1 h2 h3 _ ih =>
  intro x hx;rcases Aj.1 hx with rfl | hx
  · exact ⟨⟨by simp,by simp;omega,by simp⟩,by simp;omega⟩
  · exact ih x hx
theorem LJ {R:List Rst} (h:R.Nodup) {i j:Nat} {g:Rst} (hi:R[i]? = some g) (hj:R[j]? = some g):i=j:=by
 obtain ⟨h1,e1⟩:=List.getElem?_eq_some_iff.1 hi;obtain ⟨h2,e2⟩:=List.getElem?_eq_some_iff.1 hj;exact (List.getElem_inj h).1 (e1.trans e2.symm)
theorem DY.inj {R:List Rst} (hR:R.Nodup) {n n':Nat} {G:List (Nat × Rst)} {X Y:List Ar} (h:DY R n G X) (h2:DY R n' G Y):X=Y:=by
 induction h generalizing Y with
 | nil=>cases h2;rfl
 | cons h1 h3 h4 _ ih =>
  cases h2 with
  | cons k1 k2 k3 k4=>rw [LJ hR h4 k3,ih k4]
theorem DY.groups {R:List Rst} {n n':Nat} {G G':List (Nat × Rst)} {X:List Ar} (h:DY R n G X) (h2:DY R n' G' X):G=G':=by
 induction h generalizing G' with
 | nil=>cases h2;rfl
 | @cons c t g G X h1 h3 h4 _ ih =>
  generalize hY:(⟨(c:Int),(t:Int)⟩ :: X:List Ar)=Y at h2;cases h2 with
  | nil=>cases hY
  | @cons c' t' g' G' X' k1 k2 k3 k4 =>
   injection hY with e1 e2;injection e1 with e3 e4;obtain rfl:c=c':=by omega
   obtain rfl:t=t':=by omega
   subst e2;rw [h4] at k3;injection k3 with k3;rw [k3,ih k4]
structure Hy (D:List Nd) (R:List Rst):Prop where
 len:R.length=D.length
 nodup:R.Nodup
 ok:∀ r∈R,DD r∧Ev r∧r≠[]
 nd:∀ k (h:k<D.length) (h2:k<R.length),D[k].fin=F8 R[k]∧DY R k (grp R[k]) D[k].arcs
theorem Hy.nil:Hy [] []:=⟨rfl,List.nodup_nil,fun r h=>(by cases h),fun k h=>(by simp at h)⟩
theorem Hy.down {D:List Nd} {R:List Rst} (h:Hy D R):∀ i (h:i<D.length),(∀ x∈D[i].arcs,0≤x.t∧x.t<(i:Int))∧D[i].arcs.length≤1000:=fun i hi=>by
 obtain ⟨h1,h2⟩:=h.nd i hi (by rw [h.len];exact hi);refine ⟨fun x hx=>⟨(h2.mem x hx).1.2.2,(h2.mem x hx).2⟩,?_⟩;rw [h2.len];have:=Lx (R[i]'(by rw [h.len];exact hi));omega
theorem addN_tab {D:List Nd} {R:List Rst} (h:Hy D R) {r:Rst} (hs:DD r) (hb:Ev r) (je:r≠[]) {fin:Bool} {A:List Ar} (hf:fin=F8 r) (hA:DY R D.length (grp r) A) :
  ∃ R',Hy (addN fin A D).2 R'∧R <+: R'∧R'[(addN fin A D).1]? = some r:=by
 unfold addN;by_cases hk:D.findIdx (fun x=>decide (Bs x.fin x.arcs=Bs fin A))<D.length
 ·rw [if_pos hk];refine ⟨R,h,List.prefix_refl _,?_⟩;have ja:D.findIdx (fun x=>decide (Bs x.fin x.arcs=Bs fin A))<R.length:=by rw [h.len];exact hk
  have h1:=List.findIdx_getElem (w:=hk);obtain ⟨h2,h3⟩:=h.nd _ hk ja;obtain ⟨h4,h5⟩:=Ri (fun x hx=>(h3.mem x hx).1) (fun x hx=>(hA.mem x hx).1) (of_decide_eq_true h1);rw [h5] at h3;have h6:=h3.groups hA;obtain ⟨o1,o2,_⟩:=h.ok _ (AO ja);rw [AE ja];exact congrArg some (Q0 o1 o2 hs hb (by rw [← h2,h4,hf]) h6)
 ·rw [if_neg hk];have jf:r ∉ R:=fun hr=>by
   obtain ⟨k,ja,he⟩:=List.getElem_of_mem hr;have jc:k<D.length:=by rw [← h.len];exact ja
   obtain ⟨h2,h3⟩:=h.nd k jc ja;rw [he] at h2 h3;have h4:=h3.inj h.nodup hA;apply hk;refine List.findIdx_lt_length_of_exists ⟨D[k],AO jc,?_⟩;simp [h2,h4,hf]
  have jb:R <+: R ++ [r]:=List.prefix_append _ _;refine ⟨R ++ [r],⟨by simp [h.len],?_,fun x hx=>?_,fun k jd hk2=>?_⟩,jb,?_⟩
  ·rw [List.nodup_append];exact ⟨h.nodup,by simp,fun a ha b hb e=>by
    obtain rfl:=AJ.1 hb;subst e;exact jf ha⟩
  ·rcases Ak.1 hx with hx | hx
   · exact h.ok x hx
   · obtain rfl:=AJ.1 hx;exact ⟨hs,hb,je⟩
  ·by_cases jc:k<D.length
   ·have ja:k<R.length:=by rw [h.len];exact jc
    simp only [List.getElem_append_left jc,List.getElem_append_left ja];obtain ⟨h2,h3⟩:=h.nd k jc ja;exact ⟨h2,h3.mono jb (A7 _)⟩
   ·obtain rfl:k=D.length:=by simp at jd;omega
    have e1:(D ++ [(⟨fin,A⟩:Nd)])[D.length]=⟨fin,A⟩:=by simp
    have e2:(R ++ [r])[D.length]=r:=by simp [← h.len]
    rw [e1,e2];exact ⟨hf,hA.mono jb (A7 _)⟩
  · rw [← h.len];simp
def Ax (d:Nat) (L:List ByteArray):Rst:=L.map fun s=>s.data.toList.drop d
def Ew (L:List ByteArray):Prop:=∀ s∈L,∀ b∈s.data.toList,33≤UInt8.toNat b∧UInt8.toNat b<127
theorem Fp {d:Nat} {L:List ByteArray} (ja:∀ x∈L,∀ y∈L,x.data.toList.take d=y.data.toList.take d) (jb:L.Pairwise fun x y=>ltS x y=true):DD (Ax d L):=by
 unfold DD Ax;rw [Ai];refine List.Pairwise.imp_of_mem ?_ jb;intro a b ha hb jc;rw [ltS,ByteArray.toList_eq,ByteArray.toList_eq,← List.take_append_drop d a.data.toList,← List.take_append_drop d b.data.toList,ja a ha b hb,NG] at jc;exact jc
theorem FN {d:Nat} {L:List ByteArray} (h:Ew L):Ev (Ax d L):=fun s hs b hb=>by
 obtain ⟨x,hx,rfl⟩:=AP.1 hs;exact h x hx b (List.mem_of_mem_drop hb)
theorem GK {s:ByteArray} {d:Nat} (h:d<s.size):∃ b:UInt8,s.data.toList.drop d=b :: s.data.toList.drop (d+1)∧BD s d=(b.toNat:Int):=by
 have h2:d<s.data.toList.length:=by simpa using h
 refine ⟨s.data.toList[d],AK h2,?_⟩;unfold BD;rw [Ab,AE h2];rfl
theorem tw_rest {d:Nat} {b:UInt8}:∀ {L:List ByteArray},(∀ x∈L,d<x.size)→((Ax d L).takeWhile fun s=>s.head? == some b)=Ax d (L.take (Ea d L (b.toNat:Int)))∧((Ax d L).dropWhile fun s=>s.head? == some b)=Ax d (L.drop (Ea d L (b.toNat:Int)))
 | [],_=>⟨rfl,rfl⟩
 | x
   :: r,h=>by
  obtain ⟨y,e1,e2⟩:=GK (h x (by simp));obtain ⟨i1,i2⟩:=tw_rest (d:=d) (b:=b) (L:=r) fun z hz=>h z (List.mem_cons_of_mem _ hz);unfold Ax Ea at *;rw [List.map_cons,List.takeWhile_cons,List.dropWhile_cons,List.takeWhile_cons,e1];by_cases e:y=b
  ·subst e;have:BD x d=(y.toNat:Int):=e2;simp only [List.head?_cons,beq_self_eq_true,if_true,this,decide_true,List.length_cons,List.take_succ_cons,List.drop_succ_cons,List.map_cons,e1];exact ⟨by rw [i1],i2⟩
  ·have jb:((y :: List.drop (d+1) x.data.toList).head? == some b)=false:=by simpa using e
   have ja:decide (BD x d=(b.toNat:Int))=false:=by
    rw [e2];refine decide_eq_false fun h=>e (UInt8.toNat_inj.1 (by omega))
   rw [jb,ja];simp [e1]
theorem Q1 {d:Nat} {L:List ByteArray}:(Ax d L).map List.tail=Ax (d+1) L:=by
 unfold Ax;rw [List.map_map];refine List.map_congr_left fun s _=>?_;simp
theorem LK {rec:List ByteArray→List Nd→Nat × List Nd} {d m:Nat} (hr:∀ L D R,Pre (d+1) m L→Ew L→Hy D R→∃ R',Hy (rec L D).2 R'∧R <+: R'∧R'[(rec L D).1]? = some (Ax (d+1) L)) :
  ∀ n lo k L A D R G0,L.length≤n→Rest d (m+1) L→Ew L→Ep lo k (Ax d L)→Hy D R→DY R D.length G0 A→lo+k≤256 →
  ∃ R',Hy (DU rec d n L A D).2 R'∧R <+: R'∧DY R' (DU rec d n L A D).2.length (G0 ++ GU lo k (Ax d L)) (DU rec d n L A D).1
 | 0,lo,k,L,A,D,R,G0,hl,_,_,_,hT,hA,_=>by
  obtain rfl:L=[]:=List.eq_nil_of_length_eq_zero (by omega);rw [DU];exact ⟨R,hT,List.prefix_refl _,by show DY R D.length (G0 ++ GU lo k []) A;rw [Hx,List.append_nil];exact hA⟩
 | n+1,lo,k,[],A,D,R,G0,hl,_,_,_,hT,hA,_=>by
  rw [DU];exact ⟨R,hT,List.prefix_refl _,by show DY R D.length (G0 ++ GU lo k []) A;rw [Hx,List.append_nil];exact hA⟩
 | n
   + 1,lo,k,x :: r,A,D,R,G0,hl,hR,hB,hH,hT,hA,hk=>by
  rw [DU];obtain ⟨b,e1,e2⟩:=GK (hR.gt x (by simp));have hs:=Fp hR.same hR.inc;obtain ⟨t1,t2⟩:=tw_rest (b:=b) hR.gt;rw [← e2] at t1 t2;obtain ⟨g,hg⟩:∃ g,Ea d (x :: r) (BD x d)=g:=⟨_,rfl⟩
  have jm:=Hw (d:=d) (x:=x) (r:=r);have ja:=hR.group;rw [hg] at t1 t2 jm ja ⊢;have jk:Ew ((x :: r).take g):=fun s hs=>hB s (List.mem_of_mem_take hs);have jj:Ew ((x :: r).drop g):=fun s hs=>hB s (List.mem_of_mem_drop hs);obtain ⟨R1,jb,jd,jh⟩:=hr _ D R ja jk hT;have hL:Ax d (x :: r)=(b :: x.data.toList.drop (d+1)) :: Ax d r:=by unfold Ax;rw [List.map_cons,e1]
  have jg:=LG (lo:=lo) (n:=k) (b:=b) (t:=x.data.toList.drop (d+1)) (r:=Ax d r) (by rw [← hL];exact hs) (by rw [← hL];exact hH);have jf:=Jw (lo:=lo) (n:=k) (b:=b) (t:=x.data.toList.drop (d+1)) (r:=Ax d r) (by rw [← hL];exact hs) (by rw [← hL];exact hH);rw [← hL,t2] at jf;rw [← hL,t1,t2,Q1] at jg;have jo:(rec ((x :: r).take g) D).1<(rec ((x :: r).take g) D).2.length:=by
   rw [← jb.len];exact (List.getElem?_eq_some_iff.1 jh).1
  have jc:b.toNat<256:=b.toNat_lt;have jn:D.length≤(rec ((x :: r).take g) D).2.length:=by
   rw [← jb.len,← hT.len];exact jd.length_le
  have je:=(hA.mono jd jn).snoc jc jo jh;rw [← e2] at je;have hlo:b.toNat+1≤lo+k:=by
   obtain ⟨b',t',e,h3,h4⟩:=hH (b :: x.data.toList.drop (d+1)) (by rw [hL];simp);injection e with e _;subst e;omega
  obtain ⟨R2,jl,jp,ji⟩:=LK hr n (b.toNat+1) (lo+k - (b.toNat+1)) ((x :: r).drop g) _ _ R1 _ (by rw [List.length_drop];simp at hl ⊢;omega) (hR.drop g) jj jf jb je (by omega);refine ⟨R2,jl,jd.trans jp,?_⟩;rw [jg,List.append_cons G0];exact ji
theorem nodeW_tab:∀ m d L D R,Pre d m L→Ew L→Hy D R→∃ R',Hy (nodeW m d L D).2 R'∧R <+: R'∧R'[(nodeW m d L D).1]? = some (Ax d L)
 | 0,d,L,D,R,hP,_,_=>by
  exfalso;obtain ⟨x,hx⟩:=List.exists_mem_of_ne_nil _ hP.ne;have:=hP.ge x hx;have:=hP.lt x hx;omega
 | m
   +
    1,d,L,D,R,hP,hB,hT=>by
  rw [nodeW];have ja:=hP.rest;have jc:∀ s∈C9 d L,s∈L:=fun s hs=>by
   unfold C9 at hs;split at hs
   · exact List.mem_of_mem_tail hs
   · exact hs
  have je:Ew (C9 d L):=fun s hs=>hB s (jc s hs);have hH:Ep 33 94 (Ax d (C9 d L)):=fun s hs=>by
   obtain ⟨x,hx,rfl⟩:=AP.1 hs;obtain ⟨b,e1,_⟩:=GK (ja.gt x hx);have:=FN (d:=d) je _ hs b (by rw [e1];simp);exact ⟨b,_,e1,this.1,this.2⟩
  obtain ⟨R1,jf,jj,jd⟩:=LK (rec:=nodeW m (d+1)) (d:=d) (m:=m) (fun L D R h1 h2 h3=>nodeW_tab m (d+1) L D R h1 h2 h3) (C9 d L).length 33 94 (C9 d L) [] D R [] (A7 _) ja je hH hT .nil (by omega);have hs:=Fp hP.same hP.inc;have jh:=FN (d:=d) hB;have jb:NC d L=F8 (Ax d L)∧grp (Ax d L)=GU 33 94 (Ax d (C9 d L)):=by
   cases hL:L with
   | nil=>exact absurd hL hP.ne
   | cons x r =>
    have hxge:=hP.ge x (by rw [hL];simp);unfold C9 NC;by_cases e:x.size=d
    ·have e0:x.data.toList.drop d=[]:=List.drop_of_length_le (by simp;omega);have e1:Ax d (x :: r)=[] :: Ax d r:=by unfold Ax;rw [List.map_cons,e0]
     rw [if_pos (by simpa using e),e1];exact ⟨by simpa [F8] using e,rfl⟩
    ·obtain ⟨b,e1,_⟩:=GK (s:=x) (d:=d) (by omega);have e2:Ax d (x :: r)=(b :: x.data.toList.drop (d+1)) :: Ax d r:=by unfold Ax;rw [List.map_cons,e1]
     rw [if_neg (by simpa using e)];exact ⟨by rw [e2];simpa [F8] using e,rfl⟩
  rw [List.nil_append,← jb.2] at jd;obtain ⟨R2,jg,jk,ji⟩:=addN_tab jf hs jh (fun h=>hP.ne (List.map_eq_nil_iff.1 h)) jb.1 jd;exact ⟨R2,jg,jj.trans jk,ji⟩
end Go.Proofs.YthjmdgejnakcmaaGreatDoor
