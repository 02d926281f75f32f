/- Texts that the claims share: K24, K26, K25, K27, K28. -/
import Derived.Test.YthjmdgejnakcmaaGreatDoorMK5
import Derived.Test.YthjmdgejnakcmaaGreatDoorMD6
set_option linter.unusedVariables false
set_option linter.unusedSimpArgs false
namespace Go.Proofs.YthjmdgejnakcmaaGreatDoor
open Go.RowKit Go.WideShapes Fl
def KI:CH SV:=⟨143,146,1,24,.slice none 0 0,fun x=>[.slice x.a x.n x.c]⟩
theorem ML:KI.Ok:=⟨Tryz.underlying143,by kernel_rfl,rfl,by decide,fun _=>rfl,fun x u hu=>by obtain rfl:u=.slice x.a x.n x.c:=(AD.1 hu);rfl,by decide⟩
def JM:CH SV:=⟨146,79,1,24,.slice none 0 0,fun x=>[.slice x.a x.n x.c]⟩
theorem MM:JM.Ok:=⟨Tryz.underlying146,by kernel_rfl,rfl,by decide,fun _=>rfl,fun x u hu=>by obtain rfl:u=.slice x.a x.n x.c:=(AD.1 hu);rfl,by decide⟩
def EW (x:SV):Nat:=match x.a with | some a=>a.block | none=>0
structure FL (w:World) (B K:Nat) (x:SV):Prop where
 eq:svS x=.slice (some ⟨EW x,0,none⟩) K x.c
 own:Ab BD w B (svS x) (List.replicate K 1000000000)
theorem FL.ofOwn {w:World} {B K:Nat} {v:Value} (hK:0<K) (h:Ab BD w B v (List.replicate K 1000000000)):∃ x:SV,v=svS x∧FL w B K x:=by
 rcases h.blk with ⟨_,e⟩ | ⟨g,c,e,hB,hg,_⟩
 · have:=congrArg List.length e;simp at this;omega
 ·
  rw [AT] at e
  refine ⟨⟨some ⟨g,0,none⟩,K,c⟩,e,rfl,?_⟩
  rw [e] at h
  exact h
theorem FL.ge {w:World} {B K:Nat} {x:SV} (h:FL w B K x):B≤EW x:=h.own.ge _ (by rw [h.eq];rfl)
theorem FL.lt {w:World} {B K:Nat} {x:SV} (h:FL w B K x):EW x<w.heap.size:=h.own.lt _ (by rw [h.eq];rfl)
theorem FL.mono {w:World} {B C K:Nat} {x:SV} (h:FL w B K x) (hC:C≤B):FL w C K x:=⟨h.eq,h.own.mono hC⟩
theorem FL.kc {w w':World} {B K:Nat} {x:SV} (h:FL w B K x) (hk:Kc w w'):FL w' B K x:=⟨h.eq,h.own.kc hk⟩
theorem Ab.other {α β:Type} {T:CH α} {U:CH β} {w w':World} {B C:Nat} {v u:Value} {L:List α} {M:List β} (h:Ab T w B v L) (h2:Ab U w C u M) (he:T.e≠U.e) (hk:∀ q,q<w.heap.size→u.ownBlock≠some q→w'.heap[q]? = w.heap[q]?):Ab T w' B v L:=h.keep fun q hq=>hk q (h.lt q hq) fun e=>by
 obtain ⟨cs,h3⟩:=Ap h hq
 obtain ⟨cs2,h4⟩:=Ap h2 e
 rw [h4] at h3
 injection h3 with h3
 injection h3 with _ h5
 exact he h5.symm
structure Db (w:World) (B K:Nat) (RS:List SV):Prop where
 all:∀ x∈RS,FL w B K x
 inc:RS.Pairwise fun x y=>EW x<EW y
theorem Db.nil (w:World) (B K:Nat):Db w B K []:=⟨fun x h=>absurd h (List.not_mem_nil),List.Pairwise.nil⟩
theorem Db.push {w:World} {B Z K:Nat} {RS:List SV} {x:SV} (h:Db w B K RS) (hx:FL w Z K x) (hZ:∀ y∈RS,EW y<Z) (hB:B≤Z):Db w B K (RS ++ [x]):=by
 refine ⟨fun y hy=>?_,List.pairwise_append.2 ⟨h.inc,List.pairwise_singleton _ _,fun a ha b hb=>?_⟩⟩
 ·
  rcases AV.1 hy with hy | hy
  · exact h.all y hy
  · rw [AD.1 hy];exact hx.mono hB
 ·
  rw [AD.1 hb]
  exact A7 (hZ a ha) hx.ge
theorem Db.kc {w w':World} {B K:Nat} {RS:List SV} (h:Db w B K RS) (hk:Kc w w'):Db w' B K RS:=⟨fun x hx=>(h.all x hx).kc hk,h.inc⟩
theorem Db.other {β:Type} {U:CH β} {w w':World} {B C K:Nat} {RS:List SV} {u:Value} {M:List β} (h:Db w B K RS) (h2:Ab U w C u M) (he:BD.e≠U.e) (hk:∀ q,q<w.heap.size→u.ownBlock≠some q→w'.heap[q]? = w.heap[q]?):Db w' B K RS :=
 ⟨fun x hx=>⟨(h.all x hx).eq,(h.all x hx).own.other h2 he hk⟩,h.inc⟩
theorem Db.mono {w:World} {B C K:Nat} {RS:List SV} (h:Db w B K RS) (hC:C≤B):Db w C K RS:=⟨fun x hx=>(h.all x hx).mono hC,h.inc⟩
structure JN (w:World) (B Mo K:Nat) (x:SV) (RS:List SV):Prop where
 eq:svS x=.slice (some ⟨EW x,0,none⟩) Mo x.c
 own:Ab JM w B (svS x) RS
 len:RS.length=Mo
 rows:Db w B K RS
theorem JN.kc {w w':World} {B Mo K:Nat} {x:SV} {RS:List SV} (h:JN w B Mo K x RS) (hk:Kc w w'):JN w' B Mo K x RS:=⟨h.eq,h.own.kc hk,h.len,h.rows.kc hk⟩
theorem JN.mono {w:World} {B C Mo K:Nat} {x:SV} {RS:List SV} (h:JN w B Mo K x RS) (hC:C≤B):JN w C Mo K x RS:=⟨h.eq,h.own.mono hC,h.len,h.rows.mono hC⟩
structure Ex (w:World) (B Mo K:Nat) (PS:List SV) (RSS:List (List SV)):Prop where
 len:PS.length=RSS.length
 pl:∀ (j:Nat) (x:SV) (RS:List SV),PS[j]? = some x→RSS[j]? = some RS→JN w B Mo K x RS
 inc:RSS.flatten.Pairwise fun x y=>EW x<EW y
theorem Ex.nil (w:World) (B Mo K:Nat):Ex w B Mo K [] []:=⟨rfl,fun j x RS h=>by simp at h,List.Pairwise.nil⟩
theorem Ex.kc {w w':World} {B Mo K:Nat} {PS:List SV} {RSS:List (List SV)} (h:Ex w B Mo K PS RSS) (hk:Kc w w'):Ex w' B Mo K PS RSS:=⟨h.len,fun j x RS h1 h2=>(h.pl j x RS h1 h2).kc hk,h.inc⟩
theorem Ex.mem {w:World} {B Mo K:Nat} {PS:List SV} {RSS:List (List SV)} (h:Ex w B Mo K PS RSS) {y:SV} (hy:y∈RSS.flatten):EW y<w.heap.size:=by
 obtain ⟨RS,h1,h2⟩:=List.mem_flatten.1 hy
 obtain ⟨j,hj,e⟩:=List.mem_iff_getElem.1 h1
 have hj2:j<PS.length:=by rw [h.len];exact hj
 have hp:=h.pl j PS[j] RS (AA hj2) (by rw [AA hj,e])
 exact (hp.rows.all y h2).lt
theorem Ex.push {w:World} {B Z Mo K:Nat} {PS:List SV} {RSS:List (List SV)} {x:SV} {RS:List SV} (h:Ex w B Mo K PS RSS) (hx:JN w Z Mo K x RS) (hZ:∀ y∈RSS.flatten,EW y<Z) (hB:B≤Z):Ex w B Mo K (PS ++ [x]) (RSS ++ [RS]):=by
 have hl:=h.len
 refine ⟨by simp [hl],fun j y T h1 h2=>?_,?_⟩
 ·
  by_cases hj:j<PS.length
  ·
   rw [AI hj] at h1
   rw [AI (by omega)] at h2
   exact h.pl j y T h1 h2
  ·
   rw [AJ (by omega)] at h1
   rw [AJ (by omega)] at h2
   rw [hl] at h1
   cases e:j - RSS.length with
   | zero=>rw [e] at h1 h2;cases h1;cases h2;exact hx.mono hB
   | succ n=>rw [e] at h1;simp at h1
 ·
  rw [List.flatten_append]
  refine List.pairwise_append.2 ⟨h.inc,by simpa using hx.rows.inc,fun a ha b hb=>?_⟩
  have hb2:b∈RS:=by simpa using hb
  exact A7 (hZ a ha) (hx.rows.all b hb2).ge
theorem Ex.keep {w w':World} {B Mo K:Nat} {PS:List SV} {RSS:List (List SV)} (h:Ex w B Mo K PS RSS) (hk:∀ (q:Nat) (cs:Array Value) (t:TypeId) (f:Nat × Nat),w.heap[q]? = some (.cells cs t f)→t=JM.e∨t=BD.e→w'.heap[q]? = w.heap[q]?):Ex w' B Mo K PS RSS:=by
 refine ⟨h.len,fun j x RS h1 h2=>?_,h.inc⟩
 have hp:=h.pl j x RS h1 h2
 refine ⟨hp.eq,hp.own.keep fun q hq=>?_,hp.len,⟨fun y hy=>⟨(hp.rows.all y hy).eq,(hp.rows.all y hy).own.keep fun q hq=>?_⟩,hp.rows.inc⟩⟩
 ·
  obtain ⟨cs,h3⟩:=Ap hp.own hq
  exact hk q cs _ _ h3 (.inl rfl)
 ·
  obtain ⟨cs,h3⟩:=Ap (hp.rows.all y hy).own hq
  exact hk q cs _ _ h3 (.inr rfl)
def KJ (l:List SV) (j:Nat):Nat:=((l[j]?).map EW).getD 0
def KK (l:List SV) (j:Nat):Nat:=((l[j]?).map (·.c)).getD 0
def rowAt (RSS:List (List SV)) (j:Nat):List SV:=(RSS[j]?).getD []
theorem S4 {RSS:List (List SV)} (h:RSS.flatten.Pairwise fun x y=>EW x<EW y) {j j' m m':Nat} (hj:j<RSS.length) (hm:m<RSS[j].length) (hj':j'<RSS.length) (hm':m'<RSS[j'].length) (e:EW RSS[j][m]=EW RSS[j'][m']):j=j'∧m=m':=by
 obtain ⟨h1,h2⟩:=List.pairwise_flatten.1 h
 rcases Nat.lt_trichotomy j j' with hlt | rfl | hlt
 ·
  have:=List.pairwise_iff_getElem.1 h2 j j' hj hj' hlt _ (AG hm) _ (AG hm')
  omega
 ·
  refine ⟨rfl,?_⟩
  have hp:=h1 _ (AG hj)
  rcases Nat.lt_trichotomy m m' with hlt | rfl | hlt
  ·
   have:=List.pairwise_iff_getElem.1 hp m m' hm hm' hlt
   omega
  · rfl
  ·
   have:=List.pairwise_iff_getElem.1 hp m' m hm' hm hlt
   omega
 ·
  have:=List.pairwise_iff_getElem.1 h2 j' j hj' hj hlt _ (AG hm') _ (AG hm)
  omega
theorem Qp {w:World} {B Mo K g0 P c0:Nat} {PS:List SV} {RSS:List (List SV)} (h:Ex w B Mo K PS RSS) (ho:Ab KI w B (.slice (some ⟨g0,0,none⟩) P c0) PS) (hP:PS.length=P) :
  FK w B P Mo K g0 (KJ PS) (KK PS) (fun j m=>KJ (rowAt RSS j) m) (fun j m=>KK (rowAt RSS j) m) fun _=>[]:=by
 have hx:∀ j,(hj:j<P)→∃ (h1:j<PS.length) (h2:j<RSS.length),KJ PS j=EW PS[j]∧KK PS j=PS[j].c∧rowAt RSS j=RSS[j]∧JN w B Mo K PS[j] RSS[j]:=fun j hj=>by
  have h1:j<PS.length:=by omega
  have h2:j<RSS.length:=by rw [← h.len];exact h1
  refine ⟨h1,h2,?_,?_,?_,h.pl j _ _ (AA h1) (AA h2)⟩
  · unfold KJ;rw [AA h1];rfl
  · unfold KK;rw [AA h1];rfl
  · unfold rowAt;rw [AA h2];rfl
 have hy:∀ j m,(hj:j<P)→(hm:m<Mo)→∃ (h2:j<RSS.length) (h3:m<RSS[j].length),KJ (rowAt RSS j) m=EW RSS[j][m]∧KK (rowAt RSS j) m=RSS[j][m].c∧FL w B K RSS[j][m]:=fun j m hj hm=>by
  obtain ⟨h1,h2,_,_,e,hp⟩:=hx j hj
  have h3:m<RSS[j].length:=by rw [hp.len];exact hm
  refine ⟨h2,h3,?_,?_,hp.rows.all _ (AG h3)⟩
  · rw [e];unfold KJ;rw [AA h3];rfl
  · rw [e];unfold KK;rw [AA h3];rfl
 refine ⟨Ap ho rfl,fun j hj=>?_,fun j hj=>?_,fun j m hj hm=>?_,fun j m hj hm=>?_,fun j m j' m' hj hm hj' hm' e=>?_⟩
 ·
  obtain ⟨h1,h2,e1,e2,e3,hp⟩:=hx j hj
  rw [e1]
  exact Ap hp.own (by rw [hp.eq];rfl)
 ·
  obtain ⟨h1,h2,e1,e2,e3,hp⟩:=hx j hj
  have hc:=ho.cell ML h1 (j:=0) (by decide)
  have e4:j*KI.k+0=j:=by show j*1+0=j;omega
  rw [e4] at hc
  rw [hc,e1,e2]
  show some (svS PS[j])=_
  rw [hp.eq]
 ·
  obtain ⟨h1,h2,e1,e2,e3,hp⟩:=hx j hj
  obtain ⟨_,h3,f1,f2,hr⟩:=hy j m hj hm
  have ho2:=hp.own
  rw [hp.eq] at ho2
  have hc:=ho2.cell MM h3 (j:=0) (by decide)
  have e4:m*JM.k+0=m:=by show m*1+0=m;omega
  rw [e4] at hc
  rw [e1,f1,f2,hc]
  show some (svS RSS[j][m])=_
  rw [hr.eq]
 ·
  obtain ⟨_,h3,f1,f2,hr⟩:=hy j m hj hm
  have hr2:=hr.own
  rw [hr.eq] at hr2
  rw [f1,f2]
  have e:Fu K [] m=List.replicate K 1000000000:=by
   unfold Fu
   apply List.ext_getElem
   · simp
   · intro k h1 h2;simp [look_nil,EV]
  rw [e]
  exact hr2
 ·
  obtain ⟨h2,h3,f1,_,_⟩:=hy j m hj hm
  obtain ⟨h2',h3',f1',_,_⟩:=hy j' m' hj' hm'
  rw [f1,f1'] at e
  exact S4 h.inc h2 h3 h2' h3' e
def CF (i:Nat) (M:Nat→Ent) (j:Nat):Ent:=if i≤j then M j else []
theorem Fe {i j:Nat} {M:Nat→Ent} (h:i≤j):CF i M j=M j:=if_pos h
theorem Qq {i j:Nat} {M:Nat→Ent} {t:Stt} {c:Nat} (h:i≤j):CF i (C8 M j t c)=C8 (CF i M) j t c:=by
 funext k
 show (if i≤k then (if k=j then Co (M k) t c else M k) else [])=if k=j then Co (if i≤k then M k else []) t c else (if i≤k then M k else [])
 by_cases e:k=j
 · subst e;rw [if_pos h,if_pos rfl,if_pos rfl,if_pos h]
 · rw [if_neg e,if_neg e]
theorem P7 {i:Nat} {M:Nat→Ent}:nextM i (CF i M)=CF (i+1) M:=by
 funext k
 unfold nextM CF
 by_cases h:i<k
 · rw [if_pos h,if_pos (by omega),if_pos (by omega)]
 · rw [if_neg h,if_neg (by omega)]
theorem O0:CF 0 M0=M0:=by funext k;unfold CF;rw [if_pos (Nat.zero_le _)]
theorem S5:C8 (fun _=>[]) 0 (0,0) 0=M0:=by
 funext k
 unfold C8 M0
 split <;> rfl
def MN (P N C:Nat) (M:Nat→Ent):Nat:=((List.range P).map fun j=>pot N C (M j)).sum
theorem
    sum_lt {l:List Nat} {f g:Nat→Nat} {j:Nat} (hj:j∈l) (hle:∀ k∈l,f k≤g k) (hlt:f j<g j):(l.map f).sum<(l.map g).sum:=by
 induction l with
 | nil=>cases hj
 | cons x r ih =>
  rw [List.map_cons,List.map_cons,List.sum_cons,List.sum_cons]
  have hx:=hle x A9
  have hr:(r.map f).sum≤(r.map g).sum:=by
   clear ih hj hx
   induction r with
   | nil=>simp
   | cons y r ih =>
    rw [List.map_cons,List.map_cons,List.sum_cons,List.sum_cons]
    have h1:=hle y (by simp)
    have h2:=ih fun k hk=>hle k (by rcases AU.1 hk with rfl | h <;> simp [*])
    omega
  rcases AU.1 hj with rfl | hj
  · omega
  ·
   have:=ih hj fun k hk=>hle k (List.mem_cons_of_mem _ hk)
   omega
section
variable {R:List Rl} {L:List Slt} {X:List UInt8} {i N B D C P:Nat} {M Ms:Nat→Ent} {b:Bool}
structure Fv (R:List Rl) (L:List Slt) (X:List UInt8) (i N B D C P:Nat) (Ms M:Nat→Ent) (b:Bool) (ri k:Nat):Prop where
 inv:Inv R L (Ck X) i (CF i M)
 bnd:Bnd N i B D (CF i M)
 old:b=false→M=Ms
 new:b=true→MN P N C (CF i M)<MN P N C (CF i Ms)
 don:b=false→∀ (q:Nat) (r:Rl),R[q]? = some r→q<ri→∀ n,n<N→Eo R L X M i (r.frm.toNat,n) r
 cur:b=false→∀ (r:Rl),R[ri]? = some r→∀ n,n<k→Eo R L X M i (r.frm.toNat,n) r
theorem Fv.start (h1:Inv R L (Ck X) i (CF i M)) (h2:Bnd N i B D (CF i M)):Fv R L X i N B D C P M M false 0 0 :=
 ⟨h1,h2,fun _=>rfl,fun h=>(by cases h),fun _ q r _ hq=>absurd hq (Nat.not_lt_zero _),fun _ r _ n hn=>absurd hn (Nat.not_lt_zero _)⟩
theorem Fv.row {ri:Nat} (h:Fv R L X i N B D C P Ms M b ri N):Fv R L X i N B D C P Ms M b (ri+1) 0 where
 inv:=h.inv
 bnd:=h.bnd
 old:=h.old
 new:=h.new
 don hb q r hq hlt n hn:=by
  by_cases e:q=ri
  · subst e;exact h.cur hb r hq n hn
  · exact h.don hb q r hq (by omega) n hn
 cur _ r _ n hn:=absurd hn (Nat.not_lt_zero _)
theorem Fv.no {ri k:Nat} {r:Rl} (h:Fv R L X i N B D C P Ms M b ri k) (hr:R[ri]? = some r) (hn:Eo R L X M i (r.frm.toNat,k) r):Fv R L X i N B D C P Ms M b ri (k+1) where
 inv:=h.inv
 bnd:=h.bnd
 old:=h.old
 new:=h.new
 don:=h.don
 cur
   hb r' hr' n hlt:=by
  by_cases e:n=k
  ·
   subst e
   rw [hr] at hr'
   cases hr'
   exact hn
  · exact h.cur hb r' hr' n (by omega)
theorem
    Fv.put {ri k c n' d:Nat} {r:Rl} (h:Fv R L X i N B D C P Ms M b ri k) (hP:i+r.inp.size<P) (hN:n'<N) (hD:d≤D) (hC:∀ M',Bnd N i B D (CF i M')→∀ j,∀ p∈CF i M' j,p.2≤C)
  (hl:look (M i) (r.frm.toNat,k)=some c) (hs:Fz R L (Ck X) i (r.frm.toNat,k) r (r.dst.toNat,n') d) (hlt:∀ x,look (M (i+r.inp.size)) (r.dst.toNat,n')=some x→c+d<x) :
  Fv R L X i N B D C P Ms (C8 M (i+r.inp.size) (r.dst.toNat,n') (c+d)) true ri (k+1):=by
 have hw:=Qq (M:=M) (t:=(r.dst.toNat,n')) (c:=c+d) (Nat.le_add_right i r.inp.size)
 have hl2:look (CF i M i) (r.frm.toNat,k)=some c:=by rw [Fe (A3 _)];exact hl
 have hlt2:∀ x,look (CF i M (i+r.inp.size)) (r.dst.toNat,n')=some x→c+d<x:=fun x hx=>hlt x (by rw [Fe (Nat.le_add_right _ _)] at hx;exact hx)
 have hdst:r.dst.toNat<8:=by have:=BU.1 hs.2.1;omega
 have hb2:Bnd N i B D (CF i (C8 M (i+r.inp.size) (r.dst.toNat,n') (c+d))):=by
  rw [hw];exact h.bnd.put hl2 hD hdst hN hlt2
 have hsound:∀ j t c',look (CF i (C8 M (i+r.inp.size) (r.dst.toNat,n') (c+d)) j) t=some c'→Rt R L (Ck X) j t c':=fun j t c' hc=>by
  rw [hw,CW] at hc
  split at hc
  ·
   rename_i e
   obtain ⟨rfl,rfl⟩:=e
   cases hc
   exact (h.inv.sound i _ _ hl2).go hs
  · exact h.inv.sound j t c' hc
 have hinv:Inv R L (Ck X) i (CF i (C8 M (i+r.inp.size) (r.dst.toNat,n') (c+d))) :=
  h.inv.falls (by rw [hw];exact Jz fun x hx=>Nat.le_of_lt (hlt2 x hx)) hsound
 have hdrop:MN P N C (CF i (C8 M (i+r.inp.size) (r.dst.toNat,n') (c+d)))<MN P N C (CF i M):=by
  rw [hw]
  have hone:pot N C (Co (CF i M (i+r.inp.size)) (r.dst.toNat,n') (c+d))+1≤pot N C (CF i M (i+r.inp.size)) :=
   Nk (h.bnd.keys _) (h.bnd.rng _) hdst hN (by
    refine hC _ hb2 (i+r.inp.size) ((r.dst.toNat,n'),c+d) ?_
    rw [hw]
    refine Bb ?_
    rw [CW,if_pos ⟨rfl,rfl⟩]) hlt2
  refine sum_lt (j:=i+r.inp.size) (AX.2 hP) (fun k _=>?_) ?_
  ·
   unfold C8
   split
   · rename_i e;subst e;omega
   · exact A3 _
  ·
   unfold C8
   rw [if_pos rfl]
   omega
 refine ⟨hinv,hb2,fun e=>(by cases e),fun _=>?_,fun e=>(by cases e),fun e=>(by cases e)⟩
 cases b with
 | false=>rw [h.old rfl] at hdrop ⊢;exact hdrop
 | true=>exact Nat.lt_trans hdrop (h.new rfl)
theorem Fv.shut (h:Fv R L X i N B D C P Ms M false R.length 0):∀ t,Shut R L (Ck X) i (CF i M) t:=fun t c r t' d hc hst=>by
 have hr:=hst.1
 obtain ⟨q,hq,e⟩:=List.mem_iff_getElem.1 hr
 have hn:=(h.bnd.rng i) _ (Bb hc)
 have hf:r.frm.toNat=t.1:=by have:=hst.2.2.1;omega
 have hno:=h.don rfl q r (by rw [AA hq,e]) hq t.2 hn.2
 rw [hf] at hno
 rw [Fe (A3 _)] at hc
 rw [Fe (Nat.le_add_right _ _)]
 exact hno c t' d hc hst
end
def Cz (acc:Int) (E:Ent) (n:Nat):Nat→Nat
 | 0=>1000000000
 | m+1=>if Cn acc m=true then min (Cz acc E n m) (EV (look E (m,n))) else Cz acc E n m
def MO (R:List Rl) (acc:Int) (L:List Slt) (X:List UInt8) (i v:Nat):Prop:=(v=1000000000∧∀ c,¬ Whole R acc L i X c)∨(v<1000000000∧Bi (Whole R acc L i X) v)
theorem Qr {acc:Int} {E:Ent} {n m k:Nat} (hk:k<m) (ha:Cn acc k=true):Cz acc E n m≤EV (look E (k,n)):=by
 induction m with
 | zero=>omega
 | succ m ih =>
  simp only [Cz]
  by_cases e:k=m
  · subst e;rw [if_pos ha];exact Nat.min_le_right _ _
  ·
   have:=ih (by omega)
   split
   · exact A8 (Nat.min_le_left _ _) this
   · exact this
theorem
    bestF_at {acc:Int} {E:Ent} {n:Nat}:∀ {m:Nat},Cz acc E n m=1000000000∨∃ k,k<m∧Cn acc k=true∧Cz acc E n m=EV (look E (k,n))
 | 0=>.inl rfl
 | m
   +
    1=>by
  simp only [Cz]
  have ih:=bestF_at (acc:=acc) (E:=E) (n:=n) (m:=m)
  split
  ·
   rename_i ha
   rcases Nat.le_total (Cz acc E n m) (EV (look E (m,n))) with h | h
   ·
    rw [Nat.min_eq_left h]
    exact ih.imp id fun ⟨k,h1,h2,h3⟩=>⟨k,by omega,h2,h3⟩
   ·
    rw [Nat.min_eq_right h]
    exact .inr ⟨m,Nat.lt_succ_self _,ha,rfl⟩
  · exact ih.imp id fun ⟨k,h1,h2,h3⟩=>⟨k,by omega,h2,h3⟩
theorem Sy {R:List Rl} {acc:Int} {L:List Slt} {X:List UInt8} {i Mo:Nat} {M:Nat→Ent} (hinv:Inv R L (Ck X) i M) (hs:∀ t,Shut R L (Ck X) i M t) (hF:∀ r∈R,r.dst<(Mo:Int)) (hM0:0<Mo) (hc:∀ p∈M i,p.2<1000000000):MO R acc L X i (Cz acc (M i) X.length Mo):=by
 have hmode:∀ m c,Rt R L (Ck X) i (m,X.length) c→m<Mo:=fun m c h=>by
  revert h
  generalize X.length=n
  intro h
  cases h with
  | start=>exact hM0
  | step _ hr hf _ _ _=>have:=hF _ hr;have:=BU.1 hf;omega
 have hall:∀ c,Whole R acc L i X c→∃ c',c'≤c∧Cz acc (M i) X.length Mo≤c'∧c'<1000000000:=fun c ⟨m,ha,hr⟩=>by
  have hrt:=rtW.2 hr
  obtain ⟨c',h1,h2⟩:=hinv.least hs hrt
  have h3:=Qr (E:=M i) (n:=X.length) (hmode m c hrt) ha
  rw [h1] at h3
  exact ⟨c',h2,h3,hc _ (Bb h1)⟩
 rcases bestF_at (acc:=acc) (E:=M i) (n:=X.length) (m:=Mo) with h | ⟨k,hk,ha,h⟩
 ·
  refine .inl ⟨h,fun c hw=>?_⟩
  obtain ⟨c',h1,h2,h3⟩:=hall c hw
  omega
 ·
  cases e:look (M i) (k,X.length) with
  | none =>
   rw [e] at h
   have h:Cz acc (M i) X.length Mo=1000000000:=h
   refine .inl ⟨h,fun c hw=>?_⟩
   obtain ⟨c',h1,h2,h3⟩:=hall c hw
   omega
  | some x =>
   rw [e] at h
   have h:Cz acc (M i) X.length Mo=x:=h
   have hx:=hc _ (Bb e)
   rw [h]
   refine .inr ⟨hx,⟨k,ha,rtW.1 (hinv.sound i _ _ e)⟩,fun c hw=>?_⟩
   obtain ⟨c',h1,h2,h3⟩:=hall c hw
   omega
def G4 (Mo:Nat) (acc:Int) (aS:Option Addr) (nS cS:Nat):Array Value:=#[.int .i64 (Mo:Int),.int .u8 acc,.slice aS nS cS]
def Qs (Mo:Nat) (acc:Int) (aS:Option Addr) (nS cS:Nat) (aL:Option Addr) (nL cL:Nat) (X:ByteArray) (v:Value):Array Value:=#[.int .i64 (Mo:Int),.int .u8 acc,.slice aS nS cS,.slice aL nL cL,.string X,v]
structure BuQ (w:World) (B gs gt:Nat) (Mo:Nat) (acc:Int) (aS:Option Addr) (nS cS:Nat) (aL:Option Addr) (nL cL:Nat) (X:ByteArray) (j:Nat) (v:Value) (PS:List SV) (RSS:List (List SV)) (wr:World):Prop where
 tab:wr.heap[gt]? = some (.cells (Qs Mo acc aS nS cS aL nL cL X v) 145 (0,0))
 sch:wr.heap[gs]? = some (.cells (G4 Mo acc aS nS cS) 32 (0,0))
 own:Ab KI wr B v PS
 len:PS.length=j
 all:Ex wr B Mo (X.size+1) PS RSS
 bl:Below w.heap.size w wr
 sz:B≤wr.heap.size
theorem BuQ.next {w wo wr wa w16:World} {B gs gt Mo:Nat} {acc:Int} {aS:Option Addr} {nS cS:Nat} {aL:Option Addr} {nL cL:Nat} {X:ByteArray} {j:Nat} {v:Value} {PS:List SV} {RSS:List (List SV)} {x:SV} {RS:List SV} {a16:Option Addr} {n16 c16:Nat}
  (h:BuQ w B gs gt Mo acc aS nS cS aL nL cL X j v PS RSS wo) (hb:Below wo.heap.size wo wr) (hp:JN wr wo.heap.size Mo (X.size+1) x RS) (hxa:Ext wr wa) (ho:Ab KI w16 B (.slice a16 n16 c16) (PS ++ [x])) (hg:wa.grownBy w16 v.ownBlock) (hgt:w.heap.size≤gt) (hwB:w.heap.size≤B) :
  BuQ w B gs gt Mo acc aS nS cS aL nL cL X (j+1) (.slice a16 n16 c16) (PS ++ [x]) (RSS ++ [RS]) (w16.setCell ⟨gt,5,none⟩ (.slice a16 n16 c16)):=by
 have hka:Ext wo wa:=Ext.trans hb hxa
 have hT:wa.heap[gt]? = some (.cells (Qs Mo acc aS nS cS aL nL cL X v) 145 (0,0)):=(hka.block _ (A5.1 h.tab).1).trans h.tab
 have hS:wa.heap[gs]? = some (.cells (G4 Mo acc aS nS cS) 32 (0,0)):=(hka.block _ (A5.1 h.sch).1).trans h.sch
 have hO:=h.own.later hka (A3 _)
 have hty:∀ {q:Nat} {cs:Array Value} {t:TypeId} {f:Nat × Nat},wa.heap[q]? = some (.cells cs t f)→t≠KI.e→w16.heap[q]? = wa.heap[q]?:=fun {q cs t f} hq ht=>hg.block q (A5.1 hq).1 fun e=>by
  obtain ⟨cs2,h2⟩:=Ap hO e.symm
  rw [h2] at hq
  injection hq with hq
  injection hq with _ h3
  exact ht h3.symm
 have hT6:=(hty hT (by decide)).trans hT
 have hS6:=(hty hS (by decide)).trans hS
 have hne:∀ q,q≠gt→(w16.setCell ⟨gt,5,none⟩ (.slice a16 n16 c16)).heap[q]? = w16.heap[q]?:=fun q hq=>Below.heap_setCell _ _ _ _ hq
 have hng:∀ {q:Nat} {cs:Array Value} {t:TypeId} {f:Nat × Nat},w16.heap[q]? = some (.cells cs t f)→t≠145→q≠gt:=fun {q cs t f} hq ht e=>by
  rw [e,hT6] at hq
  injection hq with hq
  injection hq with _ h3
  exact ht h3.symm
 have hall1:Ex wr B Mo (X.size+1) (PS ++ [x]) (RSS ++ [RS]):=(h.all.kc (Kc.of hb (A3 _))).push hp (fun y hy=>h.all.mem hy) h.sz
 have hall2:=hall1.kc (Kc.of hxa (A3 _))
 have hall3:Ex w16 B Mo (X.size+1) (PS ++ [x]) (RSS ++ [RS]):=hall2.keep fun q cs t f hq ht=>hty hq (by rcases ht with rfl | rfl <;> decide)
 have hbl:Below w.heap.size w w16:=(h.bl.trans (hka.mono h.bl.size)).grown hg (A8 h.bl.size hka.size) fun q hq=>A8 hwB (hO.ge q hq)
 refine ⟨?_,(hne _ (hng hS6 (by decide))).trans hS6,ho.keep fun q hq=>?_,by rw [AB,h.len];rfl,hall3.keep fun q cs t f hq ht=>hne q (hng hq (by rcases ht with rfl | rfl <;> decide)),hbl.setCell (show w.heap.size≤(⟨gt,5,none⟩:Addr).block from hgt) _,?_⟩
 · rw [heap_setCell_same _ gt 5 _ _ _ hT6];rfl
 ·
  obtain ⟨cs2,h2⟩:=Ap ho hq
  exact hne q (hng h2 (by decide))
 ·
  rw [World.size_setCell]
  exact A8 h.sz (A8 hka.size hg.size)
theorem S6 (A:Int) (m:Nat) (h0:0≤A) (hA:A≤255):(bits .and .u8 (A / 2 ^ m) 1 == 1)=Cn A m:=by
 obtain ⟨n,rfl⟩:=Int.eq_ofNat_of_zero_le h0
 have hd:((n:Int) / 2 ^ m)=((n / 2 ^ m:Nat):Int):=by simp
 have hlt:n / 2 ^ m<256:=Nat.lt_of_le_of_lt (Nat.div_le_self _ _) (by omega)
 have h1:bits .and .u8 (((n / 2 ^ m:Nat):Int)) ((1:Nat):Int)=((n / 2 ^ m &&& 1:Nat):Int):=u8_and_nat _ _ hlt (by omega)
 unfold Cn
 rw [hd,show (1:Int)=((1:Nat):Int) from rfl,h1,Nat.and_one_is_mod,Bool.eq_iff_iff]
 simp only [beq_iff_eq]
 omega
structure Sz (Z P Mo g0:Nat) (gp:Nat→Nat) (gb:Nat→Nat→Nat):Prop where
 z0:g0<Z
 z1:∀ j,j<P→gp j<Z
 z2:∀ j m,j<P→m<Mo→gb j m<Z
theorem FK.lts {w:World} {B P Mo K g0:Nat} {gp cp:Nat→Nat} {gb ck:Nat→Nat→Nat} {M:Nat→Ent} (h:FK w B P Mo K g0 gp cp gb ck M):Sz w.heap.size P Mo g0 gp gb :=
 ⟨by obtain ⟨cs,h1⟩:=h.t0;exact (A5.1 h1).1,fun j hj=>by obtain ⟨cs,h1⟩:=h.t1 j hj;exact (A5.1 h1).1,fun j m hj hm=>(h.own j m hj hm).lt _ rfl⟩
theorem FK.bel {w w':World} {Z B P Mo K g0:Nat} {gp cp:Nat→Nat} {gb ck:Nat→Nat→Nat} {M:Nat→Ent} (h:FK w B P Mo K g0 gp cp gb ck M) (hz:Sz Z P Mo g0 gp gb) (hb:Below Z w w'):FK w' B P Mo K g0 gp cp gb ck M:=by
 refine ⟨h.t0.imp fun _ h1=>(hb.block _ hz.z0).trans h1,fun j hj=>(h.t1 j hj).imp fun _ h1=>(hb.block _ (hz.z1 j hj)).trans h1,fun j hj=>(hb.cell (p:=⟨g0,j,none⟩) hz.z0).trans (h.r0 j hj),fun j m hj hm=>(hb.cell (p:=⟨gp j,m,none⟩) (hz.z1 j hj)).trans (h.r1 j m hj hm),fun j m hj hm=>(h.own j m hj hm).keep fun q hq=>?_,h.inj⟩
 cases hq
 exact hb.block _ (hz.z2 j m hj hm)
structure MmQ (w:World) (B Z gs gt:Nat) (Mo:Nat) (acc:Int) (aS:Option Addr) (nS cS:Nat) (aL:Option Addr) (nL cL:Nat) (X:ByteArray) (g0 c0:Nat) (gp cp:Nat→Nat) (gb ck:Nat→Nat→Nat) (M:Nat→Ent) (wr:World):Prop where
 tb:FK wr B (nL+1) Mo (X.size+1) g0 gp cp gb ck M
 tab:IM wr gt Mo acc aS nS cS aL nL cL X g0 (nL+1) c0
 sch:wr.heap[gs]? = some (.cells (G4 Mo acc aS nS cS) 32 (0,0))
 bl:Below w.heap.size w wr
 zl:Z≤wr.heap.size
section
variable {w:World} {B Z gs gt Mo:Nat} {acc:Int} {aS:Option Addr} {nS cS:Nat} {aL:Option Addr} {nL cL:Nat} {X:ByteArray} {g0 c0:Nat} {gp cp:Nat→Nat} {gb ck:Nat→Nat→Nat} {M:Nat→Ent} {wr w':World}
theorem MmQ.ext (h:MmQ w B Z gs gt Mo acc aS nS cS aL nL cL X g0 c0 gp cp gb ck M wr) (hx:Ext wr w'):MmQ w B Z gs gt Mo acc aS nS cS aL nL cL X g0 c0 gp cp gb ck M w' :=
 ⟨h.tb.kc (Kc.of hx (A3 _)),(hx.block _ (A5.1 h.tab).1).trans h.tab,(hx.block _ (A5.1 h.sch).1).trans h.sch,h.bl.trans (Below.mono hx h.bl.size),A8 h.zl (Below.size hx)⟩
theorem MmQ.bel (h:MmQ w B Z gs gt Mo acc aS nS cS aL nL cL X g0 c0 gp cp gb ck M wr) (hz:Sz Z (nL+1) Mo g0 gp gb) (h1:gs<Z) (h2:gt<Z) (h3:w.heap.size≤Z) (hx:Below Z wr w'):MmQ w B Z gs gt Mo acc aS nS cS aL nL cL X g0 c0 gp cp gb ck M w' :=
 ⟨h.tb.bel hz hx,(hx.block _ h2).trans h.tab,(hx.block _ h1).trans h.sch,h.bl.trans (hx.mono h3),A8 h.zl hx.size⟩
theorem MmQ.put (h:MmQ w B Z gs gt Mo acc aS nS cS aL nL cL X g0 c0 gp cp gb ck M wr) (hwB:w.heap.size≤B) {j m k c:Nat} (hj:j<nL+1) (hm:m<Mo) (hk:k<X.size+1) :
  MmQ w B Z gs gt Mo acc aS nS cS aL nL cL X g0 c0 gp cp gb ck (C8 M j (m,k) c) (wr.setCell ⟨gb j m,k,none⟩ (.int .i64 (c:Int))):=by
 obtain ⟨cs,hcs⟩:=Ap (h.tb.own j m hj hm) (g:=gb j m) rfl
 have hne:∀ q,q≠gb j m→(wr.setCell ⟨gb j m,k,none⟩ (.int .i64 (c:Int))).heap[q]? = wr.heap[q]?:=fun q hq=>Below.heap_setCell _ _ _ _ hq
 have hty:∀ {q:Nat} {ds:Array Value} {t:TypeId},wr.heap[q]? = some (.cells ds t (0,0))→t≠BD.e→q≠gb j m:=fun {q ds t} hq ht e=>by
  rw [e,hcs] at hq
  injection hq with hq
  injection hq with _ h3
  exact ht h3.symm
 exact ⟨h.tb.put hj hm hk,(hne _ (hty h.tab (by decide))).trans h.tab,(hne _ (hty h.sch (by decide))).trans h.sch,h.bl.setCell (show w.heap.size≤(⟨gb j m,k,none⟩:Addr).block from A8 hwB ((h.tb.own j m hj hm).ge _ rfl)) _,by rw [World.size_setCell];exact h.zl⟩
end
def Qt (R:List Rl) (acc:Int) (L:List Slt) (X:List UInt8) (B:Nat) (e:Ending) (w':World):Prop :=
 ∃ a c outs,e=.returned (.slice a (L.length+1) c)∧Ab BD w' B (.slice a (L.length+1) c) outs∧outs.length=L.length+1∧∀ (q:Nat) (h:q<outs.length),MO R acc L X q outs[q]
set_option maxHeartbeats 12800000 in
set_option maxRecDepth 100000 in
theorem
    costs_any
         (R:List Rl) (Mo:Nat) (acc:Int) (aS:Option Addr) (cS:Nat) (aL:Option Addr) (L:List Slt) (cL C:Nat) (X:ByteArray) (w:World) (hR:BJ w aS R) (hRl:R.length≤1000) (hO:∀ r∈R,r.out.size≤1000000) (hF:I8 R) (hMo:∀ r∈R,r.frm<(Mo:Int)∧r.dst<(Mo:Int)) (hM0:0<Mo) (hM8:Mo≤8)
  (hL:Bc w aL L) (haL:(∀ b,aL=some b→∃ b' o',b=⟨b',o',none⟩)∧(aL=none→L=[])) (hLc:L.length≤cL) (hLl:L.length≤1000) (hBs:Bq C L) (hCc:C≤1000000) (hD:Hw L) (hXl:X.size≤1000) (ha0:0≤acc) (ha1:acc≤255) (hcost:∀ i,i≤L.length→i*((8*(X.size+1)+1)*(1000+4*C))+(8*(X.size+1)+1)*(1000+4*C)≤900000000) :
  Calls Tryz.prog 37 #[.agg #[.int .i64 (Mo:Int),.int .u8 acc,.slice aS R.length cS],.slice aL L.length cL,.string X] w fun e w'=>Qt R acc L (bts X) w.heap.size e w'∧Below w.heap.size w w':=by
 have HR:=A0 hR;have HO:=A0 hO;have HF:=A0 hF;have HMO:=A0 hMo;have HL:=A0 hL;have HAL:=A0 haL;have HBS:=A0 hBs;have HD:=A0 hD;have HCO:=A0 hcost
 clear hR hO hF hMo hL haL hBs hD hcost
 go_enter Tryz.func37,Tryz.ntmps37
 go_wp2_with fail
 obtain ⟨w1,hw1⟩:∃ w1,w.alloc (.cells #[.int .i64 (Mo:Int),.int .u8 acc,.slice aS R.length cS] 32)=w1:=⟨_,rfl⟩
 rw [hw1]
 obtain ⟨w2,hw2⟩:∃ w2,w1.alloc (.cells #[.int .i64 (Mo:Int),.int .u8 acc,.slice aS R.length cS,.slice aL L.length cL,.string X,.slice none 0 0] 145)=w2:=⟨_,rfl⟩
 rw [hw2]
 have HZ1:Hid (w1.heap.size=w.heap.size+1):=by show _=_;rw [← hw1,A6]
 have hx1:Ext w w1:=by rw [← hw1];exact (Below.refl _ _).alloc (A3 _) _
 have hx2:Ext w1 w2:=by rw [← hw2];exact (Below.refl _ _).alloc (A3 _) _
 have hg1:w1.heap[w.heap.size]? = some (.cells (G4 Mo acc aS R.length cS) 32 (0,0)):=by rw [← hw1];exact heap_alloc_new _ _
 have HBU:Hid (BuQ w w2.heap.size w.heap.size (w.heap.size+1) Mo acc aS R.length cS aL L.length cL X 0 (.slice none 0 0) [] [] w2) :=
  ⟨by rw [← hw2,← HZ1.out];exact heap_alloc_new _ _,(hx2.block _ (A5.1 hg1).1).trans hg1,Ab.nil _ _ _,rfl,Ex.nil _ _ _ _,Ext.trans hx1 hx2,A3 _⟩
 have HZ2:Hid (w.heap.size+2≤w2.heap.size):=by show _≤_;rw [← hw2,A6,HZ1.out];exact A3 _
 obtain ⟨B,hB⟩:∃ B,w2.heap.size=B:=⟨_,rfl⟩
 obtain ⟨gt,hgt⟩:∃ gt,w.heap.size+1=gt:=⟨_,rfl⟩
 obtain ⟨gs,hgs⟩:∃ gs,w.heap.size=gs:=⟨_,rfl⟩
 rw [hB,hgt] at HBU
 rw [hB] at HZ2
 rw [hgt]
 rw [hgs] at HBU HZ2 ⊢
 have HGT:=A0 hgt
 rw [hgs] at HGT
 have HGS:=A0 hgs
 clear hw1 hw2 hx1 hx2 hg1 hB hgt hgs HZ1
 have hlt62:L.length+1≤1001:=by omega
 have HWT:Hid (w.heap.size≤gt):=by show _≤_;have:=HGT.out;have:=HGS.out;omega
 have HWB:Hid (w.heap.size≤B):=by show _≤_;have:=HZ2.out;have:=HGS.out;omega
 go_loopg [8] (L.length+1) (fun g v8 wr=>∃ (j:Nat) (v:Value) (PS:List SV) (RSS:List (List SV)),v8=.int .i64 (j:Int)∧j≤L.length+1∧g=L.length+1 - j∧BuQ w B gs gt Mo acc aS R.length cS aL L.length cL X j v PS RSS wr)
 case atStart=>exact ⟨0,_,_,_,rfl,Nat.zero_le _,rfl,HBU.out⟩
 case round =>
  clear HBU
  obtain ⟨j,v,PS,RSS,rfl,hj,hgk,hbu⟩:=hrel
  have HBU:=A0 hbu;have HGK:=A0 hgk
  clear hbu hgk
  by_cases hlt:j<L.length+1
  ·
   have hltI
        : (j:Int)≤(L.length:Int):=by omega
   have hgsl:=(A5.1 HBU.out.sch).1
   have hgtl:=(A5.1 HBU.out.tab).1
   obtain ⟨wo,hwo⟩:∃ wo:World,wo=wr:=⟨wr,rfl⟩
   subst hwo
   have hsc0:wo.cell? ⟨gs,0,none⟩=some (.int .i64 (Mo:Int)):=by rw [cell_of_row wo gs _ _ _ (0,0) HBU.out.sch];rfl
   have HSC:=A0 hsc0
   clear hsc0
   go_wp2_with fail
   have HRW:Hid (Ab JM (wo.alloc (.cells #[] 79)) wo.heap.size (.slice (some ⟨wo.heap.size,0,none⟩) 0 0) []):=Ab.empty JM (heap_alloc_new _ _) (A3 _)
   have HBW:Hid (Below wo.heap.size wo (wo.alloc (.cells #[] 79))):=(Below.refl _ _).alloc (A3 _) _
   go_loopg [9,10] Mo (fun g v9 v10 wr=>∃ (m:Nat) (RS:List SV),v10=.int .i64 (m:Int)∧m≤Mo∧g=Mo - m∧Ab JM wr wo.heap.size v9 RS∧RS.length=m∧Db wr wo.heap.size (X.size+1) RS∧Below wo.heap.size wo wr)
   case atStart=>exact ⟨0,[],rfl,Nat.zero_le _,rfl,HRW.out,rfl,Db.nil _ _ _,HBW.out⟩
   case round =>
    clear HRW HBW
    obtain ⟨m,RS,rfl,hm,hgk,hrw,hRSl,hrows,hbw⟩:=hrel
    obtain ⟨a9,c9,hv9, -, -⟩:=hrw.form
    subst hv9
    have HRW:=A0 hrw;have HROWS:=A0 hrows;have HBW:=A0 hbw;have HGK2:=A0 hgk;have HRL:=A0 hRSl
    have sc0:=(HBW.out.cell (p:=⟨gs,0,none⟩) hgsl).trans HSC.out
    clear hrw hrows hbw hgk hRSl
    by_cases hmlt:m<Mo
    ·
     obtain ⟨wq,hwq⟩:∃ wq:World,wq=wr:=⟨wr,rfl⟩
     subst hwq
     go_wp2_with fail
     clear sc0
     have HIN:Hid (Ab BD (wq.alloc (.cells #[] 3)) wq.heap.size (.slice (some ⟨wq.heap.size,0,none⟩) 0 0) []):=Ab.empty BD (heap_alloc_new _ _) (A3 _)
     have HBI:Hid (Below wq.heap.size wq (wq.alloc (.cells #[] 3))):=(Below.refl _ _).alloc (A3 _) _
     go_loopg [11,12] (X.size+1) (fun g v11 v12 wr=>∃ k:Nat,v12=.int .i64 (k:Int)∧k≤X.size+1∧g=X.size+1 - k∧Ab BD wr wq.heap.size v11 (List.replicate k 1000000000)∧Below wq.heap.size wq wr)
     case atStart=>exact ⟨0,rfl,Nat.zero_le _,rfl,HIN.out,HBI.out⟩
     case round =>
      clear HIN HBI
      obtain ⟨k,rfl,hk,hgk,hin,hbi⟩:=hrel
      obtain ⟨a11,c11,hv11, -, -⟩:=hin.form
      rw [AT] at hv11
      subst hv11
      have HIN:=A0 hin;have HBI:=A0 hbi;have HGK3:=A0 hgk
      clear hin hbi hgk
      by_cases hklt:k<X.size+1
      ·
       have hkI:(k:Int)≤(X.size:Int):=by omega
       go_wp2_with fail
       refine (Bm _).mono ?_
       rintro e wf ⟨rfl,rfl⟩
       go_wp2_with (at_builtin;go_loud (refine Aj (v:=.slice a11 k c11) ES rfl _ _ rfl rfl (HIN.out.later ((Below.refl _ _).alloc (A3 _) _) (A3 _)) ⟨wr.heap.size,0,none⟩ 1 [1000000000] rfl (An (heap_alloc_new _ _)) (by rw [AT];simp only [AC];omega) (by have:=HBI.out.size;simp only [A6];omega) ?_);intro v16 w16 hown16 hgrow16 hat16;have HO16:=A0 hown16;have HG16:=A0 hgrow16;clear hown16 hgrow16 hat16)
       go_roundg (X.size+1 - (k+1))
       case measure=>have:=HGK3.out;omega
       case rel=>exact ⟨k+1,by go_num,by omega,rfl,by rw [List.replicate_succ'];exact HO16.out,(HBI.out.trans (((Below.refl _ _).alloc (A3 _) _).mono HBI.out.size)).grown HG16.out (by have:=HBI.out.size;simp only [A6];omega) fun q hq=>HIN.out.ge q hq⟩
      ·
       obtain rfl:k=X.size+1:=by omega
       have hkI:¬ (((X.size+1:Nat):Int)≤(X.size:Int)):=by omega
       have hri:FL wr wq.heap.size (X.size+1) ⟨a11,X.size+1,c11⟩:=by
        obtain ⟨⟨xa,xn,xc⟩,hx,hri⟩:=FL.ofOwn (Nat.succ_pos _) HIN.out
        injection hx with e1 e2 e3
        subst e1 e2 e3
        exact hri
       have HRI:=A0 hri
       clear hri
       have HRW1:=A0 (HRW.out.later HBI.out (A3 _))
       have HBW1:Hid (Below wo.heap.size wo wr):=HBW.out.trans (HBI.out.mono HBW.out.size)
       have HROWS1:=A0 (HROWS.out.kc (Kc.of HBI.out (A3 _)))
       have HLT:Hid (∀ y∈RS,EW y<wq.heap.size):=fun y hy=>(HROWS.out.all y hy).lt
       have hRl8:RS.length≤8:=by have:=HRL.out;omega
       go_wp2_with (at_builtin;go_loud (refine Aj (v:=.slice a9 RS.length c9) MM rfl _ _ rfl rfl (HRW1.out.later ((Below.refl _ _).alloc (A3 _) _) (A3 _)) ⟨wr.heap.size,0,none⟩ 1 [⟨a11,X.size+1,c11⟩] rfl (An (heap_alloc_new _ _)) (by simp only [AC];omega) (by have:=HBW1.out.size;simp only [A6];omega) ?_);intro v16 w16 hown16 hgrow16 hat16;have HO16:=A0 hown16;have HG16:=A0 hgrow16;clear hown16 hgrow16 hat16)
       go_roundg (Mo - (m+1))
       case measure=>have:=HGK2.out;omega
       case rel =>
        have hxa:Ext wr (wr.alloc (.cells #[.slice a11 (X.size+1) c11] 79)):=(Below.refl _ _).alloc (A3 _) _
        have hp:=(HROWS1.out.push HRI.out HLT.out HBW.out.size).kc (Kc.of hxa (A3 _))
        have hp2:=hp.other (HRW1.out.later hxa (A3 _)) (by decide) (fun q hq hne=>HG16.out.block q hq (Ne.symm hne))
        exact ⟨m+1,RS ++ [⟨a11,X.size+1,c11⟩],by go_num,by omega,rfl,HO16.out,by rw [AB,HRL.out];rfl,hp2,(HBW1.out.trans (hxa.mono HBW1.out.size)).grown HG16.out (A8 HBW1.out.size hxa.size) fun q hq=>HRW1.out.ge q hq⟩
    ·
     obtain rfl:m=Mo:=by omega
     obtain ⟨av,cv,hv, -, -⟩:=HBU.out.own.form
     subst hv
     have hpl:JN wr wo.heap.size m (X.size+1) ⟨a9,RS.length,c9⟩ RS:=by
      have ho:=HRW.out
      rcases ho.blk with ⟨_,e⟩ | ⟨g9,c9',e9,h1,h2,h3⟩
      · have:=HRL.out;rw [e] at this;simp at this;omega
      ·
       injection e9 with e1 e2 e3
       subst e1 e3
       exact ⟨by rw [HRL.out];rfl,ho,HRL.out,HROWS.out⟩
     have HPL:=A0 hpl
     have hPl:PS.length≤1001:=by have:=HBU.out.len;omega
     have HOW1:=A0 (HBU.out.own.later HBW.out (A3 _))
     have HALL1:=A0 (HBU.out.all.kc (Kc.of HBW.out (A3 _)))
     have HLT:Hid (∀ y∈RSS.flatten,EW y<wo.heap.size):=fun y hy=>HBU.out.all.mem hy
     have HTAB1:Hid (wr.heap[gt]? = some (.cells (Qs m acc aS R.length cS aL L.length cL X (.slice av PS.length cv)) 145 (0,0))):=(HBW.out.block _ hgtl).trans HBU.out.tab
     have hgt1:=(A5.1 HTAB1.out).1
     have hcl:wr.cell? ⟨gt,5,none⟩=some (.slice av PS.length cv):=by rw [cell_of_row wr gt _ _ _ (0,0) HTAB1.out];rfl
     have HBs:Hid (B≤wr.heap.size):=A8 HBU.out.sz HBW.out.size
     have HNG:Hid ((.slice av PS.length cv:Value).ownBlock≠some gt):=fun e=>by
      obtain ⟨cs,h1⟩:=Ap HOW1.out e
      rw [HTAB1.out] at h1
      injection h1 with h1
      injection h1 with _ h2
      exact absurd h2 (by decide)
     clear hpl
     go_wp2_with (at_builtin;go_loud (refine Aj (v:=.slice av PS.length cv) ML rfl _ _ rfl rfl (HOW1.out.later ((Below.refl _ _).alloc (A3 _) _) (A3 _)) ⟨wr.heap.size,0,none⟩ 1 [⟨a9,RS.length,c9⟩] rfl (An (heap_alloc_new _ _)) (by simp only [AC];omega) (by have:=HBs.out;simp only [A6];omega) ?_);intro v16 w16 hown16 hgrow16 hat16;obtain ⟨a16,c16,hv16, -, -⟩:=hown16.form;subst hv16;have htb16:=(hgrow16.block gt (by simp only [A6];omega) (fun e=>HNG.out e.symm)).trans ((Below.heap_alloc _ _ _ hgt1).trans HTAB1.out);have hcl16:w16.cell? ⟨gt,5,none⟩=some (.slice av PS.length cv):=by { rw [cell_of_row w16 gt _ _ _ (0,0) htb16];rfl };have hfz16:w16.frozen? ⟨gt,5,none⟩=false:=by { simp [World.frozen?,htb16] };have HTB16:=A0 htb16;have HO16:=A0 hown16;have HG16:=A0 hgrow16;clear hown16 hgrow16 hat16 htb16)
     go_roundg (L.length+1 - (j+1))
     case measure=>have:=HGK.out;omega
     case rel =>
      have hnx:=HBU.out.next HBW.out HPL.out ((Below.refl _ _).alloc (A3 _) _) HO16.out HG16.out HWT.out HWB.out
      rw [AB] at hnx
      exact ⟨j+1,_,_,_,by go_num,by omega,rfl,hnx⟩
  ·
   obtain rfl:j=L.length+1:=by omega
   have hltI:¬ (((L.length+1:Nat):Int)≤(L.length:Int)):=by omega
   obtain ⟨g0,c0,rfl⟩:∃ g0 c0,v=.slice (some ⟨g0,0,none⟩) (L.length+1) c0:=by
    rcases HBU.out.own.blk with ⟨_,e⟩ | ⟨g,c,e,_⟩
    · have:=HBU.out.len;rw [e] at this;simp at this
    · rw [HBU.out.len] at e;exact ⟨g,c,e⟩
   obtain ⟨gp,cp,gb,ck,htb⟩:∃ gp cp gb ck,FK wr B (L.length+1) Mo (X.size+1) g0 gp cp gb ck fun _=>[]:=⟨_,_,_,_,Qp HBU.out.all HBU.out.own HBU.out.len⟩
   have HMM:Hid (∀ Z,Z≤wr.heap.size→MmQ w B Z gs gt Mo acc aS R.length cS aL L.length cL X g0 c0 gp cp gb ck (fun _=>[]) wr):=fun Z hz=>⟨htb,HBU.out.tab,HBU.out.sch,HBU.out.bl,hz⟩
   have HTZ:=A0 htb.lts
   have hgsl:=(A5.1 HBU.out.sch).1
   have hgtl:=(A5.1 HBU.out.tab).1
   have hL0:0<L.length+1:=Nat.succ_pos _
   have hX0:0<X.size+1:=Nat.succ_pos _
   have c5:wr.cell? ⟨gt,5,none⟩=some (.slice (some ⟨g0,0,none⟩) (L.length+1) c0):=by rw [cell_of_row wr gt _ _ _ (0,0) HBU.out.tab];rfl
   have r0:=htb.r0 0 hL0
   have r1:=htb.r1 0 0 hL0 hM0
   have r2:=htb.at hL0 hM0 hX0
   obtain ⟨csb,hcsb⟩:=Ap (htb.own 0 0 hL0 hM0) (g:=gb 0 0) rfl
   have hfz:wr.frozen? ⟨gb 0 0,0,none⟩=false:=by simp [World.frozen?,hcsb]
   have x3:=L5 g0 (L.length+1) c0 0 hL0
   have x2:=L6 (gp 0) Mo (cp 0) 0 hM0
   have x1:=DT (gb 0 0) (X.size+1) (ck 0 0) 0 hX0
   simp only [Int.natCast_zero] at x3 x2 x1
   clear hcsb htb
   go_wp2_with fail
   have HSB:Hid (wr.heap.size=(wr.setCell ⟨gb 0 0,0,none⟩ (.int .i64 0)).heap.size):=(World.size_setCell ..).symm
   have HM1:Hid (MmQ w B wr.heap.size gs gt Mo acc aS R.length cS aL L.length cL X g0 c0 gp cp gb ck M0 (wr.setCell ⟨gb 0 0,0,none⟩ (.int .i64 0))):=by
    have h:=(HMM.out wr.heap.size (A3 _)).put HWB.out (c:=0) hL0 hM0 hX0
    rw [S5] at h
    exact h
   obtain ⟨Z,hZ⟩:∃ Z,wr.heap.size=Z:=⟨_,rfl⟩
   obtain ⟨wz,hwz⟩:∃ wz,wr.setCell ⟨gb 0 0,0,none⟩ (.int .i64 0)=wz:=⟨_,rfl⟩
   rw [hZ] at HM1 HTZ hgsl hgtl HSB ⊢
   rw [hwz] at HM1 HSB ⊢
   clear HMM r0 r1 r2 hfz x3 x2 x1 c5 hZ hwz
   have HM2:=A0 (HM1.out.ext ((Below.refl _ wz).alloc (A3 _) (.cells #[] 3)))
   have HOU:Hid (Ab BD (wz.alloc (.cells #[] 3)) Z (.slice (some ⟨Z,0,none⟩) 0 0) []):=by
    show Ab _ _ _ _ _
    rw [HSB.out];exact Ab.empty BD (heap_alloc_new _ _) (A3 _)
   have HIV:Hid (Inv R L (Ck (bts X)) 0 (CF 0 M0)):=by show Inv _ _ _ _ _;rw [O0];exact TM _ _ _
   have HBN:Hid (Bnd (X.size+1) 0 (0*((8*(X.size+1)+1)*(1000+4*C))) (1000+4*C) (CF 0 M0)):=by show Bnd _ _ _ _ _;rw [O0,Nat.zero_mul];exact TN hX0
   have HWZ:Hid (w.heap.size≤Z):=A8 (by have:=HGS.out;show w.heap.size≤gs;omega) (Nat.le_of_lt hgsl)
   clear HM1
   go_loopg [13,14] (L.length+1) (fun g v13 v14 wr=>∃ (i:Nat) (M:Nat→Ent) (outs:List Nat),v14=.int .i64 (i:Int)∧i≤L.length+1∧g=L.length+1 - i∧MmQ w B Z gs gt Mo acc aS R.length cS aL L.length cL X g0 c0 gp cp gb ck M wr ∧
    Inv R L (Ck (bts X)) i (CF i M)∧Bnd (X.size+1) i (i*((8*(X.size+1)+1)*(1000+4*C))) (1000+4*C) (CF i M)∧Ab BD wr Z v13 outs∧outs.length=i∧∀ (q:Nat) (h:q<outs.length),MO R acc L (bts X) q outs[q])
   case atStart=>exact ⟨0,_,[],rfl,Nat.zero_le _,rfl,HM2.out,HIV.out,HBN.out,HOU.out,rfl,fun q h=>absurd h (Nat.not_lt_zero _)⟩
   case round =>
    clear HM2 HIV HBN HOU
    obtain ⟨i,M,outs,rfl,hi,hgk,hmm,hinv,hbnd,hown,hol,hcs⟩:=hrel
    obtain ⟨a13,c13,hv13, -, -⟩:=hown.form
    subst hv13
    have HM:=A0 hmm;have HINV:=A0 hinv;have HBND:=A0 hbnd;have HOU:=A0 hown;have HOL:=A0 hol;have HCS:=A0 hcs;have HGKM:=A0 hgk
    clear hmm hinv hbnd hown hol hcs hgk HGK
    by_cases hil:i<L.length+1
    ·
     have hilI
          :
           (i:Int)≤(L.length:Int):=by omega
     have hiL:i≤L.length:=by omega
     have HCB:Hid (∀ M',Bnd (X.size+1) i (i*((8*(X.size+1)+1)*(1000+4*C))) (1000+4*C) (CF i M')→∀ j,∀ p∈CF i M' j,p.2≤900000000):=fun M' hb j p hp=>by
      have h1:=HCO.out i hiL
      by_cases e:j=i
      ·
       subst e
       have h2:=hb.here_le (BO (hb.keys j) (t:=p.1) (c:=p.2) hp)
       have h3:8*(X.size+1)*(1000+4*C)≤(8*(X.size+1)+1)*(1000+4*C):=Nat.mul_le_mul_right _ (Nat.le_succ _)
       omega
      ·
       have h2:=hb.next j e p hp
       omega
     go_wp2_with fail
     go_loopg [15] (MN (L.length+1) (X.size+1) 900000000 (CF i M)+1) (fun g v15 wr=>∃ (b:Bool) (M':Nat→Ent),v15=.bool b∧g=MN (L.length+1) (X.size+1) 900000000 (CF i M')+(if b=true then 1 else 0)∧MmQ w B Z gs gt Mo acc aS R.length cS aL L.length cL X g0 c0 gp cp gb ck M' wr ∧
      Inv R L (Ck (bts X)) i (CF i M')∧Bnd (X.size+1) i (i*((8*(X.size+1)+1)*(1000+4*C))) (1000+4*C) (CF i M')∧(b=false→∀ t,Shut R L (Ck (bts X)) i (CF i M') t)∧Ab BD wr Z (.slice a13 outs.length c13) outs)
     case atStart=>exact ⟨true,M,rfl,rfl,HM.out,HINV.out,HBND.out,fun e=>(by cases e),HOU.out⟩
     case round =>
      clear HM HINV HBND HOU
      obtain ⟨b,M,rfl,hgk,hmm,hinv,hbnd,hsh,hown⟩:=hrel
      have HM:=A0 hmm;have HINV:=A0 hinv;have HBND:=A0 hbnd;have HOU:=A0 hown;have HSH:=A0 hsh;have HGKC:=A0 hgk
      clear hmm hinv hbnd hown hsh hgk
      cases b with
      | true =>
       go_wp2_with fail
       go_loopg [15,16] R.length (fun g v15 v16 wr=>∃ (ri:Nat) (b:Bool) (M2:Nat→Ent),v15=.bool b∧v16=.int .i64 (ri:Int)∧ri≤R.length∧g=R.length - ri∧MmQ w B Z gs gt Mo acc aS R.length cS aL L.length cL X g0 c0 gp cp gb ck M2 wr ∧
        Fv R L (bts X) i (X.size+1) (i*((8*(X.size+1)+1)*(1000+4*C))) (1000+4*C) 900000000 (L.length+1) M M2 b ri 0∧Ab BD wr Z (.slice a13 outs.length c13) outs)
       case atStart=>exact ⟨0,false,M,rfl,rfl,Nat.zero_le _,rfl,HM.out,Fv.start HINV.out HBND.out,HOU.out⟩
       case round =>
        clear HM HOU
        obtain ⟨ri,b,M2,rfl,rfl,hri,hgk,hmm,hpas,hown⟩:=hrel
        have HM:=A0 hmm;have HPS:=A0 hpas;have HOU:=A0 hown;have HGKR:=A0 hgk
        have hsc2:wr.cell? ⟨gs,2,none⟩=some (.slice aS R.length cS):=by rw [cell_of_row wr gs _ _ _ (0,0) hmm.sch];rfl
        clear hmm hpas hown hgk
        by_cases hrl:ri<R.length
        ·
         have HRI:Hid (R[ri]? = some R[ri]):=AA hrl
         have hrm:R[ri]∈R:=AG hrl
         have hfr:=HF.out _ hrm
         have hmo:=HMO.out _ hrm
         have hou:=HO.out _ hrm
         have hrk:∀ W,Below w.heap.size w W→BJ W aS R:=fun W hb=>BJ.kp HR.out (Kc.of hb (A3 _))
         have HRK:=A0 hrk
         have hidx:∀ (b1 o1:Nat),aS=some ⟨b1,o1,none⟩→_:=fun b1 o1 ha1=>CV aS b1 o1 R.length cS ri ha1 hrl
         have HIDX:=A0 hidx
         clear hrk hidx
         go_wp2_with fail
         clear hsc2
         go_loopg [15,17] (X.size+1) (fun g v15 v17 wr=>∃ (k:Nat) (b:Bool) (M3:Nat→Ent),v15=.bool b∧v17=.int .i64 (k:Int)∧k≤X.size+1∧g=X.size+1 - k∧MmQ w B Z gs gt Mo acc aS R.length cS aL L.length cL X g0 c0 gp cp gb ck M3 wr ∧
          Fv R L (bts X) i (X.size+1) (i*((8*(X.size+1)+1)*(1000+4*C))) (1000+4*C) 900000000 (L.length+1) M M3 b ri k∧Ab BD wr Z (.slice a13 outs.length c13) outs)
         case atStart=>exact ⟨0,b,M2,rfl,rfl,Nat.zero_le _,rfl,HM.out,HPS.out,HOU.out⟩
         case round =>
          clear HM HPS HOU
          obtain ⟨k,b,M3,rfl,rfl,hk,hgk,hmm,hpas,hown⟩:=hrel
          have HM:=A0 hmm;have HPS:=A0 hpas;have HOU:=A0 hown;have HGKK:=A0 hgk
          clear hmm hpas hown hgk
          by_cases hkl:k<X.size+1
          ·
           have hkI:(k:Int)≤(X.size:Int):=by omega
           obtain ⟨b1,o1,ha1,hb1,r0,r1,r2,r3,r4⟩:=(HRK.out wr HM.out.bl).at hrl
           have hi1:=HIDX.out b1 o1 ha1
           have hsc2:wr.cell? ⟨gs,2,none⟩=some (.slice aS R.length cS):=by rw [cell_of_row wr gs _ _ _ (0,0) HM.out.sch];rfl
           obtain ⟨r,hr⟩:∃ r,R[ri]=r:=⟨_,rfl⟩
           rw [hr] at r0 r1 r2 r3 r4
           have HRE:=A0 hr
           have hff:=hfr;have hmm2:=hmo;have hoo:=hou;have hmem:=hrm
           rw [hr] at hff hmm2 hoo hmem
           obtain ⟨frm,dst,inp,out,cost⟩:=r
           have hfi:=BU.1 hff
           simp only at r0 r1 r2 r3 r4 hfi hmm2 hoo
           obtain ⟨m,rfl⟩:∃ m:Nat,frm=(m:Int):=⟨frm.toNat,by omega⟩
           obtain ⟨m2,rfl⟩:∃ m2:Nat,dst=(m2:Int):=⟨dst.toNat,by omega⟩
           obtain ⟨cr,rfl⟩:∃ cr:Nat,cost=(cr:Int):=⟨cost.toNat,by omega⟩
           have hap:=apply_any R L X M3 C gt (Mo:Int) acc aS R.length cS aL cL g0 c0 Mo B gp cp gb ck i m m2 k cr inp out wr hmem hff (by omega) (by omega) hoo hiL (by omega) hLl hXl hLc HM.out.tab HM.out.tb (HL.out.kp (Kc.of HM.out.bl (A3 _))) HAL.out HBS.out hCc HD.out
            (fun c hc=>HCB.out M3 HPS.out.bnd i ((m,k),c) (by rw [Fe (A3 _)];exact Bb hc))
           have HAP:=A0 hap
           have HMI:Hid (m<8∧m2<Mo∧inp.size≤4∧cr≤1000):=⟨by omega,by omega,hfi.2.2.2.2.1,by omega⟩
           clear ha1 hr hff hmm2 hoo hmem hfi hap
           go_wp2_with fail
           refine HAP.out.mono ?_
           clear HAP r0 r1 r2 r3 r4 hi1 hsc2
           rintro e w9 (⟨rfl,hx,hns⟩ | ⟨rfl,c,n',d,W,hlk,hst,hn',hlt',hxW,rfl⟩)
           ·
            have HX9:=A0 hx;have HNS:=A0 hns
            clear hx hns
            go_wp2_with fail
            go_roundg (X.size+1 - (k+1))
            case measure=>have:=HGKK.out;omega
            case rel=>exact ⟨k+1,b,M3,rfl,by go_num,by omega,rfl,HM.out.ext HX9.out,HPS.out.no (r:=⟨(m:Int),(m2:Int),inp,out,(cr:Int)⟩) (by rw [HRI.out,HRE.out]) HNS.out,HOU.out.later HX9.out (A3 _)⟩
           ·
            have hjd:i+inp.size<L.length+1∧d≤1000+4*C:=by
             obtain ⟨_,_,_,lc,n2,h1,_,_,rfl⟩:=hst
             have h2:=Dq h1
             have h3:=letsC_le (HBS.out.drop i) h1
             rw [BB] at h2 h3
             rw [List.length_drop] at h2
             simp only at h2 h3 ⊢
             have h4:=HMI.out
             have h5:inp.size*C≤4*C:=Nat.mul_le_mul_right C h4.2.2.1
             have h6:((cr:Int)).toNat=cr:=Int.toNat_natCast cr
             rw [h6]
             omega
            have hn2:n'<X.size+1:=by rw [BB] at hn';omega
            have HP2:=A0 (HPS.out.put (r:=⟨(m:Int),(m2:Int),inp,out,(cr:Int)⟩) hjd.1 hn2 hjd.2 HCB.out hlk hst hlt')
            have HM9:=A0 ((HM.out.ext hxW).put HWB.out (c:=c+d) hjd.1 HMI.out.2.1 hn2)
            have HO9:Hid (Ab BD (W.setCell ⟨gb (i+inp.size) m2,n',none⟩ (.int .i64 ((c+d:Nat):Int))) Z (.slice a13 outs.length c13) outs):=by
             refine (HOU.out.later hxW (A3 _)).keep fun q hq=>Below.heap_setCell _ _ _ _ ?_
             have h1:=HOU.out.ge q hq
             have h2:=HTZ.out.z2 (i+inp.size) m2 hjd.1 HMI.out.2.1
             show q≠gb (i+inp.size) m2
             omega
            have e9:W.setCell ⟨gb (i+(⟨(m:Int),(m2:Int),inp,out,(cr:Int)⟩:Rl).inp.size) (⟨(m:Int),(m2:Int),inp,out,(cr:Int)⟩:Rl).dst.toNat,n',none⟩ (.int .i64 ((c+d:Nat):Int))=W.setCell ⟨gb (i+inp.size) m2,n',none⟩ (.int .i64 ((c+d:Nat):Int)):=rfl
            rw [e9]
            obtain ⟨w9,hw9⟩:∃ w9,W.setCell ⟨gb (i+inp.size) m2,n',none⟩ (.int .i64 ((c+d:Nat):Int))=w9:=⟨_,rfl⟩
            rw [hw9] at HM9 HO9 ⊢
            clear hw9 e9 hlk hst hlt' hxW hn' hjd hn2
            go_wp2_with fail
            go_roundg (X.size+1 - (k+1))
            case measure=>have:=HGKK.out;omega
            case rel=>exact ⟨k+1,true,_,rfl,by go_num,by omega,rfl,HM9.out,HP2.out,HO9.out⟩
          ·
           obtain rfl:k=X.size+1:=by omega
           have hkI:¬ (((X.size+1:Nat):Int)≤(X.size:Int)):=by omega
           go_wp2_with fail
           go_roundg (R.length - (ri+1))
           case measure=>have:=HGKR.out;omega
           case rel=>exact ⟨ri+1,b,M3,rfl,by go_num,by omega,rfl,HM.out,HPS.out.row,HOU.out⟩
        ·
         obtain rfl:ri=R.length:=by omega
         cases b with
         | false =>
          go_wp2_with fail
          go_roundg (MN (L.length+1) (X.size+1) 900000000 (CF i M))
          case measure=>have:=HGKC.out;simp at this;omega
          case rel=>exact ⟨false,M2,rfl,by rw [HPS.out.old rfl];rfl,HM.out,HPS.out.inv,HPS.out.bnd,fun _=>HPS.out.shut,HOU.out⟩
         | true =>
          go_wp2_with fail
          go_roundg (MN (L.length+1) (X.size+1) 900000000 (CF i M2)+1)
          case measure=>have:=HGKC.out;have:=HPS.out.new rfl;simp at *;omega
          case rel=>exact ⟨true,M2,rfl,rfl,HM.out,HPS.out.inv,HPS.out.bnd,fun e=>(by cases e),HOU.out⟩
      | false
          =>
       have HSH2:=A0 (HSH.out rfl)
       go_wp2_with fail
       refine (Bm _).mono ?_
       rintro e wf ⟨rfl,rfl⟩
       have hsc0:wr.cell? ⟨gs,0,none⟩=some (.int .i64 (Mo:Int)):=by rw [cell_of_row wr gs _ _ _ (0,0) HM.out.sch];rfl
       have hsc1:wr.cell? ⟨gs,1,none⟩=some (.int .u8 acc):=by rw [cell_of_row wr gs _ _ _ (0,0) HM.out.sch];rfl
       obtain ⟨c3,c4,c5⟩:=HM.out.tab.cells
       have rr0:=HM.out.tb.r0 i hil
       have xx3:=L5 g0 (L.length+1) c0 i hil
       have HRR:=A0 HM.out.tb.r1
       go_wp2_with fail
       have hkx:X.size<X.size+1:=Nat.lt_succ_self _
       obtain ⟨wo,hwo⟩:∃ wo:World,wo=wr:=⟨wr,rfl⟩
       subst hwo
       go_loopg [18,19] Mo (fun g v18 v19 wr=>∃ m:Nat,v18=.int .i64 (Cz acc (M i) X.size m:Int)∧v19=.int .i64 (m:Int)∧m≤Mo∧g=Mo - m∧wr=wo)
       case atStart=>exact ⟨0,rfl,rfl,Nat.zero_le _,rfl,rfl⟩
       case round =>
        obtain ⟨m,rfl,rfl,hm,hgk,rfl⟩:=hrel
        have HGKB:=A0 hgk
        clear hgk
        by_cases hmo:m<Mo
        ·
         have rr1:=HRR.out i m hil hmo
         have rr2:=HM.out.tb.at hil hmo hkx
         rw [L4] at rr2
         have xx2:=L6 (gp i) Mo (cp i) m hmo
         have xx1:=DT (gb i m) (X.size+1) (ck i m) X.size hkx
         have hsh:=S6 acc m ha0 ha1
         obtain ⟨tn,htn⟩:∃ tn,EV (look (M i) (m,X.size))=tn:=⟨_,rfl⟩
         obtain ⟨bn,hbn⟩:∃ bn,Cz acc (M i) X.size m=bn:=⟨_,rfl⟩
         have HBS1:Hid (Cz acc (M i) X.size (m+1)=if Cn acc m=true then min bn tn else bn):=by show _=_;simp only [Cz];rw [htn,hbn]
         rw [htn] at rr2
         rw [hbn]
         clear htn hbn
         cases hab:Cn acc m with
         | false =>
          rw [hab] at hsh
          have HE:Hid (Cz acc (M i) X.size (m+1)=bn):=by show _=_;rw [HBS1.out,hab];rfl
          clear hab
          go_wp2_with fail
          go_roundg (Mo - (m+1))
          case measure=>have:=HGKB.out;omega
          case rel=>exact ⟨m+1,by rw [HE.out],by go_num,by omega,rfl,rfl⟩
         | true =>
          rw [hab] at hsh
          have HE:Hid (Value.int .i64 (min (bn:Int) (tn:Int))=.int .i64 (Cz acc (M i) X.size (m+1):Int)):=by show _=_;rw [HBS1.out,hab];simp;omega
          clear hab
          go_wp2_with fail
          go_roundg (Mo - (m+1))
          case measure=>have:=HGKB.out;omega
          case rel=>exact ⟨m+1,HE.out,by go_num,by omega,rfl,rfl⟩
        ·
         obtain rfl:m=Mo:=by omega
         have hbo:MO R acc L (bts X) i (Cz acc (M i) X.size m):=by
          have h:=Sy (acc:=acc) HINV.out HSH2.out (fun r hr=>(HMO.out r hr).2) hM0 (fun p hp=>by have:=HCB.out M HBND.out i p hp;omega)
          rw [Fe (A3 _),BB] at h
          exact h
         obtain ⟨bn,hbn⟩:∃ bn,Cz acc (M i) X.size m=bn:=⟨_,rfl⟩
         rw [hbn] at hbo ⊢
         have HBO:=A0 hbo
         have hol:=HOL.out
         have HZL:=HM.out.zl
         have HZL2:=A0 HZL
         clear hbo hbn HZL
         go_wp2_with (at_builtin;go_loud (refine Aj (v:=.slice a13 outs.length c13) ES rfl _ _ rfl rfl (HOU.out.later ((Below.refl _ _).alloc (A3 _) _) (A3 _)) ⟨wr.heap.size,0,none⟩ 1 [bn] rfl (An (heap_alloc_new _ _)) (by simp only [AC];omega) (by have:=HZL2.out;simp only [A6];omega) ?_);intro v16 w16 hown16 hgrow16 hat16;have HO16:=A0 hown16;have HG16:=A0 hgrow16;clear hown16 hgrow16 hat16)
         go_roundg (L.length+1 - (i+1))
         case measure=>have:=HGKM.out;omega
         case rel =>
          have hxa:Ext wr (wr.alloc (.cells #[.int .i64 (bn:Int)] 3)):=(Below.refl _ _).alloc (A3 _) _
          have hbz:Below Z wr w16:=(Below.mono hxa HZL2.out).grown HG16.out (A8 HZL2.out hxa.size) fun q hq=>HOU.out.ge q hq
          have hin:=HINV.out.nextM HSH2.out
          have hbn2:=HBND.out.nextM
          rw [P7] at hin hbn2
          refine ⟨i+1,M,outs ++ [bn],by go_num,by omega,rfl,HM.out.bel HTZ.out hgsl hgtl HWZ.out hbz,hin,by rw [Nat.succ_mul];exact hbn2,HO16.out,by rw [AB,HOL.out];rfl,fun q hq=>?_⟩
          by_cases e:q<outs.length
          · rw [List.getElem_append_left e];exact HCS.out q e
          ·
           have e2:q=outs.length:=by rw [AB] at hq;simp at hq;omega
           subst e2
           rw [List.getElem_append_right (A3 _)]
           have h:=HBO.out
           rw [← HOL.out] at h
           simpa using h
    ·
     obtain rfl:i=L.length+1:=by omega
     have hilI:¬ (((L.length+1:Nat):Int)≤(L.length:Int)):=by omega
     have hol:=HOL.out
     go_wp2_with fail
     go_ret
     exact ⟨⟨a13,c13,outs,rfl,by have h:=HOU.out;rw [HOL.out] at h;exact h.mono HWZ.out,HOL.out,HCS.out⟩,HM.out.bl⟩
structure Fw (R:List Rl) (acc:Int) (L:List Slt) (W:List (List UInt8)) (n i:Nat) (l:List (Nat × Nat)):Prop where
 sorted:l.Pairwise fun a b=>a.1<b.1
 mem:∀ k c,(k,c)∈l↔∃ h:k<W.length,k<n∧Bi (Whole R acc L i W[k]) c
 low:∀ p∈l,p.2≤900000000000
section
variable {R:List Rl} {acc:Int} {L:List Slt} {W:List (List UInt8)} {n i:Nat} {l:List (Nat × Nat)}
theorem Fw.nil:Fw R acc L W 0 i []:=⟨List.Pairwise.nil,fun k c=>⟨fun h=>(by cases h),fun ⟨_,h,_⟩=>absurd h (Nat.not_lt_zero _)⟩,fun p hp=>(by cases hp)⟩
theorem Fw.done (h:Fw R acc L W n i l) (hn:n=W.length):L3 R acc L W i l :=
 ⟨⟨h.sorted,fun k c=>by rw [h.mem];exact ⟨fun ⟨h1,_,h3⟩=>⟨h1,h3⟩,fun ⟨h1,h3⟩=>⟨h1,by omega,h3⟩⟩⟩,h.low⟩
theorem Fw.len (h:Fw R acc L W n i l):l.length≤n:=by
 have h1:(l.map (·.1)).Nodup:=by
  unfold List.Nodup
  rw [AS]
  exact h.sorted.imp fun h=>by omega
 have h2:∀ x∈l.map (·.1),x<n:=fun x hx=>by
  obtain ⟨⟨k,c⟩,hp,rfl⟩:=AH.1 hx
  exact ((h.mem k c).1 hp).2.1
 have:=nodup_bound n _ h1 h2
 rwa [AN] at this
theorem Fw.no (h:Fw R acc L W n i l) (hn:n<W.length) (hw:∀ c,¬ Whole R acc L i W[n] c):Fw R acc L W (n+1) i l where
 sorted:=h.sorted
 low:=h.low
 mem
   k c:=by
  rw [h.mem]
  constructor
  · rintro ⟨h1,h2,h3⟩;exact ⟨h1,by omega,h3⟩
  ·
   rintro ⟨h1,h2,h3⟩
   by_cases e:k=n
   · subst e;exact absurd h3.1 (hw c)
   · exact ⟨h1,by omega,h3⟩
theorem
    Fw.yes {v:Nat} (h:Fw R acc L W n i l) (hn:n<W.length) (hw:Bi (Whole R acc L i W[n]) v) (hv:v≤900000000000):Fw R acc L W (n+1) i (l ++ [(n,v)]) where
 low p hp:=by
  rcases AV.1 hp with hp | hp
  · exact h.low p hp
  · rw [AD.1 hp];exact hv
 sorted:=by
  refine List.pairwise_append.2 ⟨h.sorted,List.pairwise_singleton _ _,fun a ha b hb=>?_⟩
  obtain rfl:=AD.1 hb
  exact ((h.mem a.1 a.2).1 ha).2.1
 mem
   k
    c:=by
  rw [AV,h.mem,AD]
  constructor
  ·
   rintro (⟨h1,h2,h3⟩ | e)
   · exact ⟨h1,by omega,h3⟩
   ·
    obtain ⟨rfl,rfl⟩:=Prod.mk.inj e
    exact ⟨hn,Nat.lt_succ_self _,hw⟩
  ·
   rintro ⟨h1,h2,h3⟩
   by_cases e:k=n
   · subst e;exact .inr (by rw [h3.uniq hw])
   · exact .inl ⟨h1,by omega,h3⟩
end
structure Fx (w:World) (B C g P:Nat) (Ls:List SV) (F:Nat→List (Nat × Nat)):Prop where
 row:Ab Bx w C (.slice (some ⟨g,0,none⟩) P P) Ls
 len:Ls.length=P
 own:∀ (m:Nat) (h:m<Ls.length),Ab BZ w B (svS Ls[m]) (F m)
 apart:∀ (m m':Nat) (h:m<Ls.length) (h':m'<Ls.length) (q:Nat),m≠m'→(svS Ls[m]).ownBlock=some q→(svS Ls[m']).ownBlock≠some q
section
variable {w w':World} {B C g P:Nat} {Ls:List SV} {F:Nat→List (Nat × Nat)}
theorem Fx.ext (h:Fx w B C g P Ls F) (hx:Ext w w'):Fx w' B C g P Ls F:=⟨h.row.later hx (A3 _),h.len,fun m hm=>(h.own m hm).later hx (A3 _),h.apart⟩
theorem Fx.cell (h:Fx w B C g P Ls F) {m:Nat} (hm:m<Ls.length):w.cell? ⟨g,m,none⟩=some (svS Ls[m]):=by
 have hcl:=h.row.cell CU hm (j:=0) (by decide)
 have e1:m*Bx.k+0=m:=by show m*1+0=_;omega
 rw [e1] at hcl
 exact hcl
theorem Fx.obj (h:Fx w B C g P Ls F):∃ cs,w.heap[g]? = some (.cells cs Bx.e (0,0)):=Ap h.row rfl
theorem KL (M:List SV):M.flatMap Bx.enc=M.map svS:=by
 induction M with
 | nil=>rfl
 | cons x r ih=>rw [List.flatMap_cons,ih];rfl
theorem Fx.ne (h:Fx w B C g P Ls F) {m:Nat} (hm:m<Ls.length) {q:Nat} (hq:(svS Ls[m]).ownBlock=some q):q≠g:=fun e=>by
 obtain ⟨cs,h1⟩:=Ap (h.own m hm) hq
 obtain ⟨cs2,h2⟩:=h.obj
 rw [e,h2] at h1
 injection h1 with h1
 injection h1 with _ h3
 exact absurd h3 (by decide)
theorem
    Fx.put {W0 W:World} {m:Nat} {y:SV} {l2:List (Nat × Nat)} (h:Fx W0 B C g P Ls F) (hm:m<Ls.length) (hg:g<W0.heap.size) (hp:EI BZ W0 B (svS Ls[m]) l2 (svS y) W) :
  Fx (W.setCell ⟨g,m,none⟩ (svS y)) B C g P (Ls.set m y) (E8 F m l2):=by
 have hgq:(svS Ls[m]).ownBlock≠some g:=fun e=>h.ne hm e rfl
 have hyg:∀ q,(svS y).ownBlock=some q→q≠g:=fun q hq e=>by
  rcases hp.loc with h1 | ⟨q2,h1,h2⟩
  · rw [h1] at hq;exact h.ne hm hq e
  · rw [h1] at hq;injection hq with hq;omega
 have hne:∀ q,q≠g→(W.setCell ⟨g,m,none⟩ (svS y)).heap[q]? = W.heap[q]?:=fun q hq=>Below.heap_setCell _ _ _ _ hq
 have hrow:Ab Bx W C (.slice (some ⟨g,0,none⟩) P P) Ls:=h.row.keep fun q hq=>by
  injection hq with hq
  subst hq
  exact hp.block _ hg hgq
 have hkeep:∀ (k:Nat) (hk:k<Ls.length),k≠m→Ab BZ (W.setCell ⟨g,m,none⟩ (svS y)) B (svS Ls[k]) (F k):=fun k hk hkm=>(h.own k hk).keep fun q hq=>by
  rw [hne q (h.ne hk hq)]
  exact hp.block q ((h.own k hk).lt q hq) fun e=>h.apart k m hk hm q hkm hq e
 refine ⟨hrow.setCell (by simp) ?_ (by show m<Ls.length*1;omega) CU,by rw [List.length_set];exact h.len,fun k hk=>?_,fun k k' hk hk' q hkk hq=>?_⟩
 · rw [KL,KL,List.map_set]
 ·
  have hk2:k<Ls.length:=by simpa using hk
  rw [List.getElem_set]
  unfold E8
  by_cases e:k=m
  ·
   subst e
   rw [if_pos rfl,if_pos rfl]
   exact hp.own.keep fun q hq=>hne q (hyg q hq)
  ·
   rw [if_neg (fun e2=>e e2.symm),if_neg e]
   exact hkeep k hk2 e
 ·
  have hk2:k<Ls.length:=by simpa using hk
  have hk2':k'<Ls.length:=by simpa using hk'
  rw [List.getElem_set] at hq ⊢
  by_cases e:m=k
  ·
   rw [if_pos e] at hq
   rw [if_neg (fun e2=>hkk (e.symm.trans e2))]
   rcases hp.loc with h1 | ⟨q2,h1,h2⟩
   ·
    rw [h1] at hq
    exact h.apart m k' hm hk2' q (fun e2=>hkk (e.symm.trans e2)) hq
   ·
    rw [h1] at hq
    injection hq with hq
    intro e3
    have:=(h.own k' hk2').lt _ e3
    omega
  ·
   rw [if_neg e] at hq
   by_cases e':m=k'
   ·
    rw [if_pos e']
    intro e3
    rcases hp.loc with h1 | ⟨q2,h1,h2⟩
    · rw [h1] at e3;exact h.apart k m hk2 hm q (fun e2=>e e2.symm) hq e3
    ·
     rw [h1] at e3
     injection e3 with e3
     have:=(h.own k hk2).lt _ hq
     omega
   ·
    rw [if_neg e']
    exact h.apart k k' hk2 hk2' q hkk hq
theorem Fx.zero (h:Ab Bx w C (.slice (some ⟨g,0,none⟩) P P) (List.replicate P ⟨none,0,0⟩)):Fx w B C g P (List.replicate P ⟨none,0,0⟩) fun _=>[] :=
 ⟨h,by rw [AT],fun m hm=>by rw [List.getElem_replicate];exact Ab.nil _ _ _,fun m m' hm hm' q _ hq=>by rw [List.getElem_replicate] at hq;cases hq⟩
end
structure REn (w:World) (B gE P gs:Nat) (sc:Array Value) (a1:Option Addr) (n1 c1:Nat) (Ws:List ByteArray) (Ls:List SV) (F:Nat→List (Nat × Nat)) (wr:World):Prop where
 out:Fx wr B B gE P Ls F
 sch:wr.heap[gs]? = some (.cells sc 32 (0,0))
 wds:Ab B8 wr B (.slice a1 n1 c1) Ws
 bl:Below w.heap.size w wr
section
variable {w w' W0 W:World} {B gE P gs:Nat} {sc:Array Value} {a1:Option Addr} {n1 c1:Nat} {Ws:List ByteArray} {Ls:List SV} {F:Nat→List (Nat × Nat)}
theorem REn.ext (h:REn w B gE P gs sc a1 n1 c1 Ws Ls F W0) (hx:Ext W0 W):REn w B gE P gs sc a1 n1 c1 Ws Ls F W :=
 ⟨h.out.ext hx,(hx.block _ (A5.1 h.sch).1).trans h.sch,h.wds.later hx (A3 _),h.bl.trans (Below.mono hx h.bl.size)⟩
theorem REn.gElt (h:REn w B gE P gs sc a1 n1 c1 Ws Ls F W0):gE<W0.heap.size:=h.out.row.lt _ rfl
theorem REn.typed {m:Nat} {l2:List (Nat × Nat)} {y:SV} (h:REn w B gE P gs sc a1 n1 c1 Ws Ls F W0) (hm:m<Ls.length) (hp:EI BZ W0 B (svS Ls[m]) l2 (svS y) W) {q:Nat} {cs:Array Value} {t:TypeId} {f:Nat × Nat} (hq:W0.heap[q]? = some (.cells cs t f)) (h1:t≠BZ.e) (h2:t≠Bx.e) :
  (W.setCell ⟨gE,m,none⟩ (svS y)).heap[q]? = W0.heap[q]?:=by
 have hqE:q≠gE:=fun e=>by
  obtain ⟨cs2,h3⟩:=h.out.obj
  rw [e,h3] at hq
  injection hq with hq
  injection hq with _ h4
  exact h2 h4.symm
 have h5:(W.setCell ⟨gE,m,none⟩ (svS y)).heap[q]? = W.heap[q]?:=Below.heap_setCell _ _ _ _ hqE
 rw [h5]
 refine hp.block q (A5.1 hq).1 fun e=>?_
 obtain ⟨cs2,h3⟩:=Ap (h.out.own m hm) e
 rw [h3] at hq
 injection hq with hq
 injection hq with _ h4
 exact h1 h4.symm
theorem REn.put {m:Nat} {l2:List (Nat × Nat)} {y:SV} (h:REn w B gE P gs sc a1 n1 c1 Ws Ls F W0) (hm:m<Ls.length) (hwB:w.heap.size≤B) (hp:EI BZ W0 B (svS Ls[m]) l2 (svS y) W) :
  REn w B gE P gs sc a1 n1 c1 Ws (Ls.set m y) (E8 F m l2) (W.setCell ⟨gE,m,none⟩ (svS y)):=by
 refine ⟨h.out.put hm h.gElt hp,(h.typed hm hp h.sch (by decide) (by decide)).trans h.sch,h.wds.keep fun q hq=>?_,?_⟩
 ·
  obtain ⟨cs,h1⟩:=Ap h.wds hq
  exact h.typed hm hp h1 (by decide) (by decide)
 ·
  have h1:Below w.heap.size W0 W:=hp.below h.bl.size fun q hq=>A8 hwB ((h.out.own m hm).ge q hq)
  exact (h.bl.trans h1).setCell (show w.heap.size≤gE from A8 hwB (h.out.row.ge _ rfl)) _
end
theorem Qu {w:World} {B:Nat} {a:Option Addr} {Ws:List ByteArray} {m c n:Nat} (h:Ab B8 w B (.slice a m c) Ws) (hn:n<Ws.length):∃ b,a=some ⟨b,0,none⟩:=by
 rcases h.blk with ⟨_,e⟩ | ⟨g,c',e,_⟩
 · rw [e] at hn;exact absurd hn (Nat.not_lt_zero _)
 · injection e with e1 e2 e3;exact ⟨g,e1⟩
theorem S7 {w:World} {B b:Nat} {a:Option Addr} {Ws:List ByteArray} {c n:Nat} (h:Ab B8 w B (.slice a Ws.length c) Ws) (ha:a=some ⟨b,0,none⟩) (hn:n<Ws.length) :
  w.cell? ⟨b,n,none⟩=some (.string Ws[n])∧∀ W,(Instr.indexAt 37 (.slice a Ws.length c) (.int .i64 (n:Int))).run Tryz.prog W=.ok (.pointer (some ⟨b,n,none⟩)) W:=by
 subst ha
 refine ⟨?_,fun W=>?_⟩
 ·
  have hcl:=h.cell Bd hn (j:=0) (by decide)
  have e1:n*B8.k+0=n:=by show n*1+0=_;omega
  rw [e1] at hcl
  exact hcl
 ·
  have h0:(0:Int)≤(n:Int):=by omega
  have h1:(n:Int)<(Ws.length:Int):=by omega
  simp [go_sem,h0,h1]
theorem Qv {w:World} {B:Nat} {a:Option Addr} {outs:List Nat} {m c n:Nat} (h:Ab BD w B (.slice a m c) outs) (hn:n<outs.length):∃ b,a=some ⟨b,0,none⟩:=by
 rcases h.blk with ⟨_,e⟩ | ⟨g,c',e,_⟩
 · rw [e] at hn;exact absurd hn (Nat.not_lt_zero _)
 · injection e with e1 e2 e3;exact ⟨g,e1⟩
theorem ints_at {w:World} {B b:Nat} {a:Option Addr} {outs:List Nat} {m c n:Nat} (h:Ab BD w B (.slice a m c) outs) (ha:a=some ⟨b,0,none⟩) (hm:outs.length=m) (hn:n<outs.length) :
  w.cell? ⟨b,n,none⟩=some (.int .i64 (outs[n]:Int))∧b<w.heap.size∧(∃ cs,w.heap[b]? = some (.cells cs BD.e (0,0)))∧∀ W,(Instr.indexAt 79 (.slice a m c) (.int .i64 (n:Int))).run Tryz.prog W=.ok (.pointer (some ⟨b,n,none⟩)) W:=by
 subst ha
 refine ⟨?_,h.lt _ rfl,Ap h rfl,fun W=>?_⟩
 ·
  have hcl:=h.cell ES hn (j:=0) (by decide)
  have e1:n*BD.k+0=n:=by show n*1+0=_;omega
  rw [e1] at hcl
  exact hcl
 ·
  have h0:(0:Int)≤(n:Int):=by omega
  have h1:(n:Int)<(m:Int):=by omega
  simp [go_sem,h0,h1]
theorem DM {w:World} {g:Nat} {m a:Int} {b:Option Addr} {n c:Nat} (h:w.heap[g]? = some (.cells #[.int .i64 m,.int .u8 a,.slice b n c] 32 (0,0))) :
  w.cell? ⟨g,0,none⟩=some (.int .i64 m)∧w.cell? ⟨g,1,none⟩=some (.int .u8 a)∧w.cell? ⟨g,2,none⟩=some (.slice b n c):=by
 refine ⟨?_,?_,?_⟩ <;> (rw [cell_of_row w g _ _ _ (0,0) h];rfl)
def Qw (R:List Rl) (acc:Int) (L:List Slt) (X:List UInt8) (B:Nat) (v:Value) (W:World):Prop:=∃ a c outs,v=.slice a (L.length+1) c∧Ab BD W B (.slice a (L.length+1) c) outs∧outs.length=L.length+1∧∀ (q:Nat) (h:q<outs.length),MO R acc L X q outs[q]
theorem JO (R:List Rl) (acc:Int) (L:List Slt) (X:List UInt8) (B:Nat):Bp (Qw R acc L X B):=by
 rintro v w w' ⟨a,c,outs,h1,h2,h3,h4⟩ hx
 exact ⟨a,c,outs,h1,h2.later hx (A3 _),h3,h4⟩
set_option maxHeartbeats 12800000 in
set_option maxRecDepth 100000 in
theorem
    rends_any
         (R:List Rl) (Mo:Nat) (acc:Int) (aS:Option Addr) (cS:Nat) (D:List Nd) (aD:Option Addr) (cD:Nat) (aL:Option Addr) (L:List Slt) (cL C:Nat) (w:World) (hR:BJ w aS R) (hRl:R.length≤1000) (hO:∀ r∈R,r.out.size≤1000000) (hF:I8 R) (hMo:∀ r∈R,r.frm<(Mo:Int)∧r.dst<(Mo:Int)) (hM0:0<Mo) (hM8:Mo≤8)
  (hD:Bs w aD D) (hDl:D.length≤9223372036854775807) (hC:Hs D) (hl:(BK (CO D).2).length≤1000) (hs:∀ x∈BK (CO D).2,x.size≤20)
  (hL:Bc w aL L) (haL:(∀ b,aL=some b→∃ b' o',b=⟨b',o',none⟩)∧(aL=none→L=[])) (hLc:L.length≤cL) (hLl:L.length≤1000) (hBs:Bq C L) (hCc:C≤1000000) (hDi:Hw L) (ha0:0≤acc) (ha1:acc≤255)
  (hcost:∀ K i,K≤21→i≤L.length→i*((8*K+1)*(1000+4*C))+(8*K+1)*(1000+4*C)≤900000000) :
  Calls Tryz.prog 19 #[.agg #[.int .i64 (Mo:Int),.int .u8 acc,.slice aS R.length cS],.slice aD D.length cD,.slice aL L.length cL] w fun e w'=>Qj R acc L ((BK (CO D).2).map bts) w.heap.size e w'∧Below w.heap.size w w':=by
 obtain ⟨Ws,hWs⟩:∃ Ws,BK (CO D).2=Ws:=⟨_,rfl⟩
 have hWl:(CO D).2.length=Ws.length:=by rw [← hWs,DL]
 rw [hWs] at hl hs ⊢
 have HCS:Hid (∀ (n:Nat) (hn:n<Ws.length) (W:World),Ext w W→Calls Tryz.prog 37 #[.agg #[.int .i64 (Mo:Int),.int .u8 acc,.slice aS R.length cS],.slice aL L.length cL,.string Ws[n]] W fun e w'=>Qt R acc L (bts Ws[n]) W.heap.size e w'∧Below W.heap.size W w'):=fun n hn W hx =>
  costs_any R Mo acc aS cS aL L cL C Ws[n] W (hR.later hx (A3 _)) hRl hO hF hMo hM0 hM8 (hL.later hx (A3 _)) haL hLc hLl hBs hCc hDi (A8 (hs _ (AG hn)) (by decide)) ha0 ha1 fun i hi=>hcost (Ws[n].size+1) i (by have:=hs _ (AG hn);omega) hi
 have HLI:Hid (∀ W,Ext w W→Calls Tryz.prog 36 #[.slice aD D.length cD] W fun e w'=>∃ a1 c1,e=.returned (.tuple #[.slice a1 Ws.length c1,.bool (On D)])∧Ab B8 w' W.heap.size (.slice a1 Ws.length c1) Ws∧Below W.heap.size W w'):=fun W hx=>by
  have h:=N9 D aD cD W (hD.later hx (A3 _)) hDl hC
  rw [hWs,hWl] at h
  exact h
 clear hR hO hF hMo hD hC hs hL haL hBs hDi hcost hWs hWl
 go_enter Tryz.func19,Tryz.ntmps19
 go_upto_region 1 with fail
 obtain ⟨w1,hw1⟩:∃ w1,w.alloc (.cells #[.int .i64 (Mo:Int),.int .u8 acc,.slice aS R.length cS] 32)=w1:=⟨_,rfl⟩
 rw [hw1]
 have HX1:Hid (Ext w w1):=by show Ext _ _;rw [← hw1];exact (Below.refl _ _).alloc (A3 _) _
 have HSC1:Hid (w1.heap[w.heap.size]? = some (.cells (G4 Mo acc aS R.length cS) 32 (0,0))):=by show _=_;rw [← hw1];exact heap_alloc_new _ _
 have HZ1:Hid (w.heap.size<w1.heap.size):=(A5.1 HSC1.out).1
 clear hw1
 go_wp2_with (at_make;go_loud (refine EL CU rfl ⟨none,0,0⟩ rfl rfl rfl _ _ rfl w1.heap.size (L.length+1) (by go_num) (by go_num) (by omega) (A3 _) ?_);intro w3 hown3 hb3;have HO3:=A0 hown3;have HB3:=A0 hb3;clear hown3 hb3)
 refine (HLI.out w3 (HX1.out.trans HB3.out)).mono ?_
 rintro e w4 ⟨a1,c1,rfl,hw4,hb4⟩
 have HEN:Hid (REn w w1.heap.size w1.heap.size (L.length+1) w.heap.size (G4 Mo acc aS R.length cS) a1 Ws.length c1 Ws (List.replicate (L.length+1) ⟨none,0,0⟩) (fun _=>[]) w4) :=
  ⟨(Fx.zero HO3.out).ext hb4,(hb4.block _ (A7 HZ1.out HB3.out.size)).trans ((HB3.out.block _ HZ1.out).trans HSC1.out),hw4.mono HB3.out.size,(HX1.out.trans HB3.out).trans hb4⟩
 have HFD:Hid (∀ p,p<L.length+1→Fw R acc L (Ws.map bts) 0 p []):=fun p _=>Fw.nil
 have HWS:Hid (w.heap.size≤w1.heap.size):=HX1.out.size
 have HWB:Hid (w.heap.size≤w1.heap.size):=HX1.out.size
 obtain ⟨B,hB⟩:∃ B,w1.heap.size=B:=⟨_,rfl⟩
 obtain ⟨gs,hgs⟩:∃ gs,w.heap.size=gs:=⟨_,rfl⟩
 have HGS:=A0 hgs
 rw [hB] at HEN HWB HWS ⊢
 rw [hgs] at HEN HWB ⊢
 have HEN2:Hid (REn w B B (L.length+1) gs (G4 Mo acc aS R.length cS) a1 Ws.length c1 Ws (List.replicate (L.length+1) ⟨none,0,0⟩) (fun _=>[]) w4):=HEN.out
 clear hw4 hb4 HX1 HSC1 HZ1 HO3 HB3 HEN hB hgs HLI
 go_wp2_with fail
 go_loopg [10] Ws.length (fun g v10 wr=>∃ (n:Nat) (Ls:List SV) (F:Nat→List (Nat × Nat)),v10=.int .i64 (n:Int)∧n≤Ws.length∧g=Ws.length - n∧REn w B B (L.length+1) gs (G4 Mo acc aS R.length cS) a1 Ws.length c1 Ws Ls F wr∧∀ p,p<L.length+1→Fw R acc L (Ws.map bts) n p (F p))
 case atStart=>exact ⟨0,_,_,rfl,Nat.zero_le _,rfl,HEN2.out,HFD.out⟩
 case round =>
  clear HEN2 HFD
  obtain ⟨n,Ls,F,rfl,hn,hgk,hen,hfd⟩:=hrel
  have HEN:=A0 hen;have HFD:=A0 hfd;have HGK:=A0 hgk
  clear hen hfd hgk
  by_cases hlt:n<Ws.length
  ·
   have hltI
        :
         (n:Int)<(Ws.length:Int):=by omega
   obtain ⟨wo,hwo⟩:∃ wo:World,wo=wr:=⟨wr,rfl⟩
   subst hwo
   obtain ⟨bw,hbw⟩:=Qu HEN.out.wds hlt
   have HBW:=A0 hbw
   clear hbw
   go_wp2_with fail
   refine Am (by kernel_rfl) (Vs [vq (.agg #[.int .i64 (Mo:Int),.int .u8 acc,.slice aS R.length cS]),vq (.slice aL L.length cL),vq (.slice a1 Ws.length c1),vq (.int .i64 (n:Int)),vq (.pointer (some ⟨bw,n,none⟩)),vq (.string Ws[n]),Qw R acc L (bts Ws[n]) wo.heap.size,Qw R acc L (bts Ws[n]) wo.heap.size]) (Xs []) (fun fL=>(fun W=>Ext wo W) ) [0,0,0,0,12,28,63,127] 63 8 (by kernel_rfl) rfl ?hV ?hS ?hop ?hfin ?hlast
   case hV =>
    refine Ay (Ac (by simp only [AU,List.not_mem_nil,or_false,forall_eq_or_imp,forall_eq];exact ⟨AY _,AY _,AY _,AY _,AY _,AY _,JO _ _ _ _ _,JO _ _ _ _ _⟩)) ?_
    exact trivial
   case hS =>
    intro fL hf
    show (fun W=>Ext wo W)  _
    first | exact Ext.refl _ | exact Bl _
   case hop =>
    refine ⟨?_,?_,?_,?_,?_,?_,?c6,?c7,trivial⟩
    all_goals first | rw [if_neg (by decide)] | rw [if_pos (by decide)]
    all_goals try intro ac W fL hsz hfi hms hdn hS0 hdep hbase hund
    all_goals try have hS:(fun W=>Ext wo W)  W:=hS0
    all_goals try (
     have hw9:=HEN.out.ext hS
     obtain ⟨d0,d1,d2⟩:=DM hw9.sch
     obtain ⟨cw,iw⟩:=S7 hw9.wds HBW.out hlt
     clear hw9)
    all_goals try (have h2:ac.tmps.getD 2 undef=.slice aL L.length cL:=hbase 2 (by kernel_rfl);have hh2:=h2;rw [A4] at hh2)
    all_goals try (have h3:ac.tmps.getD 3 undef=.pointer (some ⟨gs,0,none⟩):=hbase 3 (by kernel_rfl);have hh3:=h3;rw [A4] at hh3)
    all_goals try have hh8:=gdA ac 8 (.slice a1 Ws.length c1) (hbase 8 (by kernel_rfl))
    all_goals try have hh10:=gdA ac 10 (.int .i64 (n:Int)) (hbase 10 (by kernel_rfl))
    all_goals try have d34:(Qw R acc L (bts Ws[n]) wo.heap.size) (ac.tmps.getD 34 undef) W:=hdep 6 (by decide)
    all_goals try (have hdep:=DS hdep;simp [D1,Aa,vq] at hdep)
    all_goals try clear hbase hms hdn hund
    case c6 =>
     have hS1:(fun W=>Ext wo W)  W:=hS0
     refine AZ rfl (.inr ⟨37,#[.agg #[.int .i64 (Mo:Int),.int .u8 acc,.slice aS R.length cS],.slice aL L.length cL,.string Ws[n]],W,by (clear hsz hS hS0 hS1 hfi;simp [go_sem,Act.eval, *]),?_⟩)
     refine (HCS.out n hlt W (HEN.out.bl.trans (Below.mono hS HEN.out.bl.size))).mono ?_
     rintro e w' ⟨⟨a,c,outs,rfl,h1,h2,h3⟩,hb⟩
     exact ⟨_,rfl,⟨⟨a,c,outs,rfl,h1.mono (Below.size hS),h2,h3⟩,hb,Ext.trans hS0 hb⟩⟩
    case c7 =>
     have hS1:(fun W=>Ext wo W)  W:=hS0
     refine AZ rfl (.inl ⟨_,W,?_,d34,Ext.refl _,hS1⟩)
     clear hsz hS hS0 hS1 hfi;simp [go_sem,Act.eval, *]
    all_goals (refine AZ rfl (.inl ⟨_,W,?_,rfl,Ext.refl _,hS0⟩);clear hsz hS hS0 hfi;simp [go_sem,Act.eval, *];done)
   case hlast =>
    intro h;exact absurd rfl h
   case hfin
        =>
    intro _ ac W hsz hdf fL hf hS0 hv hbase
    have hS:(fun W=>Ext wo W)  W:=hS0
    clear hS0
    obtain ⟨sx,hsx,hsA⟩:=Af [28,29,30,31,32,33,34,11] (by kernel_rfl) hsz hdf hbase
    have hp11:Qw R acc L (bts Ws[n]) wo.heap.size (ac.tmps.getD 11 undef) W:=hv 7 (by decide)
    obtain ⟨a11,c11,outs,e11v,ho11,hol,hco⟩:=hp11
    have e11:sx 11=.slice a11 (L.length+1) c11:=(hsx 11).trans e11v
    clear e11v
    rw [hsA]
    simp only [List.foldl]
    simp only [Act.put,List.setIfInBounds_toArray,List.set_cons_succ,List.set_cons_zero]
    clear hsA hsx hv hbase hsz hdf hf
    have HS6:Hid (Ext wo W):=hS
    rw [e11]
    have HEN6:=A0 (HEN.out.ext hS)
    have HOC:=A0 ho11;have HCO:=A0 hco;have HOL:=A0 hol
    obtain ⟨b11,hb11⟩:=Qv ho11 (n:=0) (by omega)
    have HB11:=A0 hb11
    clear hS e11 ho11 hco hol hb11
    obtain ⟨w6,hw6⟩:∃ w6:World,w6=W:=⟨W,rfl⟩
    rw [← hw6] at HEN6 HOC ⊢
    clear hw6 HS6
    go_wp2_with fail
    go_loopg [12] (L.length+1) (fun g v12 wr=>∃ (p:Nat) (Ls:List SV) (F:Nat→List (Nat × Nat)),v12=.int .i64 (p:Int)∧p≤L.length+1∧g=L.length+1 - p∧REn w B B (L.length+1) gs (G4 Mo acc aS R.length cS) a1 Ws.length c1 Ws Ls F wr∧Ab BD wr wo.heap.size (.slice a11 (L.length+1) c11) outs∧∀ q,q<L.length+1→Fw R acc L (Ws.map bts) (if q<p then n+1 else n) q (F q))
    case atStart=>exact ⟨0,Ls,F,rfl,Nat.zero_le _,rfl,HEN6.out,HOC.out,fun q hq=>by rw [if_neg (Nat.not_lt_zero _)];exact HFD.out q hq⟩
    case round =>
     clear HEN HFD HEN6 HOC HBW
     obtain ⟨p,Ls,F,rfl,hp,hgk,hen,hoc,hfd⟩:=hrel
     have HEN:=A0 hen;have HFD:=A0 hfd;have HGK2:=A0 hgk;have HOC:=A0 hoc
     clear hen hfd hgk hoc
     by_cases hpl:p<L.length+1
     ·
      have hplI
           : (p:Int)≤(L.length:Int):=by omega
      have hpo:p<outs.length:=by have:=HOL.out;omega
      have HCV:=A0 (HCO.out p hpo)
      obtain ⟨hcc,hb11l,⟨cs11,hcs11⟩,hix2⟩:=ints_at HOC.out HB11.out HOL.out hpo
      obtain ⟨cv,hcv⟩:∃ cv,outs[p]=cv:=⟨_,rfl⟩
      rw [hcv] at hcc HCV
      have HCC:=A0 hcc;have HL11:=A0 hb11l;have HC11:=A0 hcs11;have HIX2:=A0 hix2
      have hFp:=HFD.out p hpl
      rw [if_neg (Nat.lt_irrefl _)] at hFp
      have HFP:=A0 hFp
      have hnm:n<(Ws.map bts).length:=by rw [AN];exact hlt
      have HGT:Hid (∀ c,Whole R acc L p (Ws.map bts)[n] c↔Whole R acc L p (bts Ws[n]) c):=fun c=>by rw [List.getElem_map]
      obtain ⟨wq,hwq⟩:∃ wq:World,wq=wr:=⟨wr,rfl⟩
      subst hwq
      clear hcv hcc hb11l hcs11 hix2 hFp
      by_cases hvl:cv<1000000000
      ·
       have hvI:(cv:Int)<1000000000:=by omega
       have HLW:Hid (Bi (Whole R acc L p (Ws.map bts)[n]) cv):=by
        rcases HCV.out with ⟨h,_⟩ | ⟨_,h⟩
        · omega
        · exact h.congr fun d=>(HGT.out d).symm
       go_wp2_with fail
       refine Ag (by kernel_rfl) (Vs [vq (.slice a11 (L.length+1) c11),vq (.int .i64 (p:Int)),vq (.pointer (some ⟨b11,p,none⟩)),vq (.int .i64 (cv:Int)),vq (.int .i64 1000000000),vq (.bool true)]) (fun W=>Ext wq W) 63 (by kernel_rfl) rfl ?hVx ?hSx ?hS (Ao ?hop) ?hfin
       case hop =>
        refine ⟨?_,?_,?_,?_,?k4,?_,trivial⟩
        all_goals
         intro A W hsz hS hdep hbase
         have hcc:W.cell? ⟨b11,p,none⟩=some (.int .i64 (cv:Int)):=(hS.cell (p:=⟨b11,p,none⟩) HL11.out).trans HCC.out
         have hix2:=HIX2.out
         have h11:A.tmps.getD 11 undef=.slice a11 (L.length+1) c11:=hbase 11 (by kernel_rfl)
         have h12:A.tmps.getD 12 undef=.int .i64 (p:Int):=hbase 12 (by kernel_rfl)
         clear hbase
         simp [Aa,Region.binds,Vs,vq] at hdep
        case k4 =>
         refine AZ rfl (.inr ⟨38,#[],W,by (clear hsz hS;simp [go_sem,Act.eval, *]),?_⟩)
         refine (Bm W).mono ?_
         rintro e w' ⟨rfl,rfl⟩
         exact ⟨_,rfl,rfl,Ext.refl _⟩
        all_goals first
         | (refine AZ rfl (.inl ⟨_,W,?_,rfl,Ext.refl _⟩);clear hsz hS;simp [go_sem,Act.eval, *];done)
       case hVx=>exact Ac (by simp only [AU,List.not_mem_nil,or_false,forall_eq_or_imp,forall_eq];and_intros <;> exact AY _)
       case hSx=>exact fun W W' h hx=>Ext.trans h hx
       case hS=>exact Ext.refl _
       case hfin =>
        intro A W hsz hdf hS hv hbase
        obtain ⟨x,hx,hA⟩:=Af [41,42,43,44,45,46] (by kernel_rfl) hsz hdf hbase
        have e46:x 46=.bool true:=(hx 46).trans (hv 5 (by decide))
        rw [hA]
        simp only [List.foldl]
        rw [e46]
        clear e46
        simp only [Act.put,List.setIfInBounds_toArray,List.set_cons_succ,List.set_cons_zero]
        clear hA hx hv hbase hsz hdf
        have HS10:=A0 hS
        clear hS
        go_wp2_with fail
        obtain ⟨w7,hw7⟩:∃ w7:World,w7=W:=⟨W,rfl⟩
        rw [← hw7] at HS10 ⊢
        have HEN7:=A0 (HEN.out.ext HS10.out)
        have HOC7:=A0 (HOC.out.later HS10.out (A3 _))
        have hpLs:p<Ls.length:=by rw [HEN.out.out.len];exact hpl
        have howp:=HEN7.out.out.own p hpLs
        obtain ⟨ar,cr,hsv, -, -⟩:=howp.form
        have hcel:=HEN7.out.out.cell hpLs
        have hnB:(svS Ls[p]).ownBlock≠some B:=fun e=>HEN7.out.out.ne hpLs e rfl
        have hnC:(svS Ls[p]).ownBlock≠some b11:=fun e=>by
         obtain ⟨cs2,h3⟩:=Ap howp e
         rw [(HS10.out.block _ HL11.out).trans HC11.out] at h3
         injection h3 with h3
         injection h3 with _ h4
         exact absurd h4 (by decide)
        obtain ⟨Fp,hFp⟩:∃ Fp,F p=Fp:=⟨_,rfl⟩
        rw [hFp] at howp hsv HFP
        rw [hsv] at howp hcel hnB hnC
        have HSV:=A0 hsv;have HOWP:=A0 howp;have HCE7:=A0 hcel;have HNB:=A0 hnB;have HNC:=A0 hnC;have HFE:=A0 hFp
        obtain ⟨csB,hcsB⟩:=HEN7.out.out.obj
        have HOB:=A0 hcsB
        have HBS7:=A0 HEN7.out.gElt
        have HFL:Hid (Fp.length≤1000):=by show _≤_;have:=HFP.out.len;omega
        have HC7:Hid (w7.cell? ⟨b11,p,none⟩=some (.int .i64 (cv:Int))):=(HS10.out.cell (p:=⟨b11,p,none⟩) HL11.out).trans HCC.out
        have HL7:Hid (b11<w7.heap.size):=A7 HL11.out HS10.out.size
        clear hw7 howp hsv hcel hnB hnC hFp hcsB
        refine Am (by kernel_rfl) (Vs [vq (.slice (some ⟨B,0,none⟩) (L.length+1) (L.length+1)),vq (.int .i64 (p:Int)),vq (.slice (some ⟨B,0,none⟩) (L.length+1) (L.length+1)),vq (.int .i64 (p:Int)),vq (.pointer (some ⟨B,p,none⟩)),vq (.slice ar Fp.length cr),vq (.int .i64 (n:Int)),vq (.slice a11 (L.length+1) c11),vq (.int .i64 (p:Int)),vq (.pointer (some ⟨b11,p,none⟩)),vq (.int .i64 (cv:Int)),vq (.agg #[.int .i64 (n:Int),.int .i64 (cv:Int)]),Gz BZ (.slice ar Fp.length cr) (n,cv),EI BZ (w7) (B) (.slice ar Fp.length cr) (Fp ++ [(n,cv)]),vq (.pointer (some ⟨B,p,none⟩))]) (Xs [Ext,Ext,Ext,Ext,Ext,Ext,Ext,Ext,Ext,Ext,Ext,Ext,Ext,(fun w w'=>w.grownBy w' (.slice ar Fp.length cr:Value).ownBlock),Ext]) (fun fL=>(ApT (w7) (.slice ar Fp.length cr)) (fL 13)) [0,0,0,0,12,28,0,0,0,384,896,1984,4032,8188,3] 63 15 (by kernel_rfl) rfl ?hV ?hS ?hop ?hfin ?hlast
        case hV =>
         refine Ay (Ac (by simp only [AU,List.not_mem_nil,or_false,forall_eq_or_imp,forall_eq];exact ⟨AY _,AY _,AY _,AY _,AY _,AY _,AY _,AY _,AY _,AY _,AY _,AY _,FF _ _ _,GN,AY _⟩)) ?_
         exact ⟨.inl rfl,.inl rfl,.inl rfl,.inl rfl,.inl rfl,.inl rfl,.inl rfl,.inl rfl,.inl rfl,.inl rfl,.inl rfl,.inl rfl,.inl rfl,.inr (B4 ⟨fun _ _=>fun _ _ _ h _=>h,fun _ _=>fun _ _ _ h _=>h,fun _ _=>fun _ _ _ h _=>h,fun _ _=>fun _ _ _ h _=>h,fun _ _=>fun _ _ _ h _=>h,fun _ _=>fun _ _ _ h _=>h,fun _ _=>fun _ _ _ h _=>h,fun _ _=>fun _ _ _ h _=>h,fun _ _=>fun _ _ _ h _=>h,fun _ _=>fun _ _ _ h _=>h,fun _ _=>fun _ _ _ h _=>h,fun _ _=>fun _ _ _ h _=>h,fun _ _=>FG _ _ _,fun h=>absurd rfl h,fun _ _=>fun _ _ _ h _=>h,trivial⟩),.inl rfl,trivial⟩
        case hS =>
         intro fL hf
         show (ApT (w7) (.slice ar Fp.length cr)) (fL 13) _
         rw [hf 13 (by decide)]
         first | exact Ext.refl _ | exact Bl _
        case hop =>
         refine ⟨?_,?_,?_,?_,?_,?_,?_,?_,?_,?_,?_,?_,?c12,?c13,?_,?_,trivial⟩
         all_goals first | rw [if_neg (by decide)] | rw [if_pos (by decide)]
         all_goals try exact True.intro
         all_goals try intro ac W fL hsz hfi hms hdn hS0 hdep hbase hund
         all_goals try have hS:(ApT (w7) (.slice ar Fp.length cr)) (fL 13) W:=hS0
         all_goals try (have hfl13:fL 13=true:=hms 13 (by decide);rw [hfl13] at hS)
         all_goals try (have hfl13:fL 13=false:=(by first | exact hfi | exact hdn 13 (by decide) (by decide));rw [hfl13] at hS)
         all_goals try (
          have hcm:W.cell? ⟨B,p,none⟩=some (.slice ar Fp.length cr):=(World.cell?_of_block (ApT.old hS0 B HBS7.out HNB.out)).trans HCE7.out
          have hcc:W.cell? ⟨b11,p,none⟩=some (.int .i64 (cv:Int)):=(World.cell?_of_block (ApT.old hS0 b11 HL7.out HNC.out)).trans HC7.out
          have hix1:=H4 B (L.length+1) (L.length+1) p hpl
          have hix2:=HIX2.out)
         all_goals try have hh7:=gdA ac 7 (.slice (some ⟨B,0,none⟩) (L.length+1) (L.length+1)) (hbase 7 (by kernel_rfl))
         all_goals try have hh10:=gdA ac 10 (.int .i64 (n:Int)) (hbase 10 (by kernel_rfl))
         all_goals try have hh11:=gdA ac 11 (.slice a11 (L.length+1) c11) (hbase 11 (by kernel_rfl))
         all_goals try have hh12:=gdA ac 12 (.int .i64 (p:Int)) (hbase 12 (by kernel_rfl))
         all_goals try (have d52:ac.tmps.getD 52 undef=.slice ar Fp.length cr:=hdep 5 (by decide);have dd52:=d52;rw [A4] at dd52)
         all_goals try have d59:(Gz BZ (.slice ar Fp.length cr) (n,cv)) (ac.tmps.getD 59 undef) W:=hdep 12 (by decide)
         all_goals try (have hdep:=DS hdep;simp [D1,Aa,vq] at hdep)
         all_goals try clear hbase hms hdn hund
         case c12 =>
          have hS1:(ApT (w7) (.slice ar Fp.length cr)) ((upd fL 12) 13) W:=hS0
          have hlt62:(.slice ar Fp.length cr:Value).ownBlock≠some W.heap.size:=fun e=>by
           have h9:=(HOWP.out).lt _ e
           have h8:=Below.size hS
           omega
          refine AZ rfl (.inl ⟨.slice (some ⟨W.heap.size,0,none⟩) 1 1,W.alloc (.cells #[.int .i64 (n:Int),.int .i64 (cv:Int)] 59),?_,⟨_,rfl,heap_alloc_new _ _,hlt62⟩,(Below.refl _ _).alloc (A3 _) _,(show (ApT (w7) (.slice ar Fp.length cr)) ((upd fL 12) 13) _ by
           rw [show upd fL 12 13=fL 13 from if_neg (by decide)]
           exact ApT.ext _ _ _ hS0 ((Below.refl _ _).alloc (A3 _) _))⟩)
          clear hsz hS hS0 hS1 hfi hlt62;simp [go_sem,Act.eval, *]
         case c13 =>
          obtain ⟨g62,e62,hg62,hn62⟩:=d59
          refine AZ rfl ((BN ET (.tmp 52) (.tmp 59) rfl (Ai d52) ((HOWP.out).later hS (A3 _)) ⟨g62,0,none⟩ 1 [(n,cv)] (Ai e62) (An hg62) (by have:=HFL.out;simp only [AC];omega) (A8 (Nat.le_of_lt HBS7.out) (Below.size hS))).mono ?_)
          rintro va w' ⟨ho,hgr,hat⟩
          have hap8:=EI.made hS ho hgr hat
          refine ⟨hap8,hgr,?_⟩
          show ApT (w7) (.slice ar Fp.length cr) (upd fL 13 13) w'
          rw [show upd fL 13 13=true from if_pos rfl]
          exact hap8.old
         all_goals (refine AZ rfl (.inl ⟨_,W,?_,rfl,Ext.refl _,hS0⟩);clear hsz hS hS0 hfi;simp [go_sem,Act.eval, *];done)
        case hfin =>
         intro h;exact absurd h (by decide)
        case hlast =>
         intro _ ac W hsz hdf fL hf hS0 hv hbase
         have hS:(ApT (w7) (.slice ar Fp.length cr)) (fL 13) W:=hS0
         clear hS0
         rw [hf 13 (by decide)] at hS
         have hst:ac.tmps.getD 61 undef=.pointer (some ⟨B,p,none⟩):=hv 14 (by decide)
         have hap9:EI BZ (w7) (B) (.slice ar Fp.length cr) (Fp ++ [(n,cv)]) (ac.tmps.getD 60 undef) W:=hv 13 (by decide)
         obtain ⟨ya,yc,hya, -, -⟩:=hap9.own.form
         rw [hya] at hap9
         have hblk:=hap9.block B HBS7.out HNB.out
         refine BW rfl rfl rfl rfl (Ai hst) (Ai hya) (by simp [World.frozen?,hblk,HOB.out]) ((World.cell?_of_block hblk).trans HCE7.out) (by kernel_rfl) ?_
         clear hblk
         obtain ⟨wz,hwz⟩:∃ wz,W.setCell ⟨B,p,none⟩ (.slice ya (Fp ++ [(n,cv)]).length yc)=wz:=⟨_,rfl⟩
         rw [hwz]
         have HAP:=A0 hap9;have HWZ:=A0 hwz
         clear hS hap9 hst hwz
         obtain ⟨sx,hsx,hsA⟩:=Af [47,48,49,50,51,52,53,54,55,56,57,58,59,60,61] (by kernel_rfl) hsz hdf hbase
         clear hya
         rw [hsA]
         simp only [List.foldl]
         simp only [Act.put,List.setIfInBounds_toArray,List.set_cons_succ,List.set_cons_zero]
         clear hsA hsx hv hbase hsz hdf hf
         have hsp:=REn.put (y:=⟨ya,(Fp ++ [(n,cv)]).length,yc⟩) (l2:=Fp ++ [(n,cv)]) HEN7.out hpLs HWS.out (by rw [HSV.out];exact HAP.out)
         have hcw:Ab BD wz wo.heap.size (.slice a11 (L.length+1) c11) outs:=HOC7.out.keep fun q hq=>by
          obtain ⟨cs2,h3⟩:=Ap HOC7.out hq
          rw [← HWZ.out]
          exact HEN7.out.typed (y:=⟨ya,(Fp ++ [(n,cv)]).length,yc⟩) hpLs (by rw [HSV.out];exact HAP.out) h3 (by decide) (by decide)
         have hsp2:REn w B B (L.length+1) gs (G4 Mo acc aS R.length cS) a1 Ws.length c1 Ws (Ls.set p ⟨ya,(Fp ++ [(n,cv)]).length,yc⟩) (E8 F p (Fp ++ [(n,cv)])) wz:=by rw [← HWZ.out];exact hsp
         have HSP:=A0 hsp2;have HCW:=A0 hcw
         clear hsp hsp2 hcw
         go_wp2_with fail
         go_roundg (L.length+1 - (p+1))
         case measure=>have:=HGK2.out;omega
         case rel=>exact ⟨p+1,_,_,by go_num,by omega,rfl,HSP.out,HCW.out,fun q hq=>by
          unfold E8
          by_cases e:q=p
          · subst e;rw [if_pos (Nat.lt_succ_self _),if_pos rfl];exact HFP.out.yes hnm HLW.out (by omega)
          ·
           rw [if_neg e]
           have h:=HFD.out q hq
           by_cases e2:q<p
           · rw [if_pos e2] at h;rw [if_pos (by omega)];exact h
           · rw [if_neg e2] at h;rw [if_neg (by omega)];exact h⟩
      ·
       have hvI:¬ (cv:Int)<1000000000:=by omega
       have HNW:Hid (∀ c,¬ Whole R acc L p (Ws.map bts)[n] c):=fun c hc=>by
        rcases HCV.out with ⟨_,h⟩ | ⟨h,_⟩
        · exact h c ((HGT.out c).1 hc)
        · omega
       go_wp2_with fail
       refine Ag (by kernel_rfl) (Vs [vq (.slice a11 (L.length+1) c11),vq (.int .i64 (p:Int)),vq (.pointer (some ⟨b11,p,none⟩)),vq (.int .i64 (cv:Int)),vq (.int .i64 1000000000),vq (.bool false)]) (fun W=>Ext wq W) 63 (by kernel_rfl) rfl ?hVx ?hSx ?hS (Ao ?hop) ?hfin
       case hop =>
        refine ⟨?_,?_,?_,?_,?k4,?_,trivial⟩
        all_goals
         intro A W hsz hS hdep hbase
         have hcc:W.cell? ⟨b11,p,none⟩=some (.int .i64 (cv:Int)):=(hS.cell (p:=⟨b11,p,none⟩) HL11.out).trans HCC.out
         have hix2:=HIX2.out
         have h11:A.tmps.getD 11 undef=.slice a11 (L.length+1) c11:=hbase 11 (by kernel_rfl)
         have h12:A.tmps.getD 12 undef=.int .i64 (p:Int):=hbase 12 (by kernel_rfl)
         clear hbase
         simp [Aa,Region.binds,Vs,vq] at hdep
        case k4 =>
         refine AZ rfl (.inr ⟨38,#[],W,by (clear hsz hS;simp [go_sem,Act.eval, *]),?_⟩)
         refine (Bm W).mono ?_
         rintro e w' ⟨rfl,rfl⟩
         exact ⟨_,rfl,rfl,Ext.refl _⟩
        all_goals first
         | (refine AZ rfl (.inl ⟨_,W,?_,rfl,Ext.refl _⟩);clear hsz hS;simp [go_sem,Act.eval, *];done)
       case hVx=>exact Ac (by simp only [AU,List.not_mem_nil,or_false,forall_eq_or_imp,forall_eq];and_intros <;> exact AY _)
       case hSx=>exact fun W W' h hx=>Ext.trans h hx
       case hS=>exact Ext.refl _
       case hfin =>
        intro A W hsz hdf hS hv hbase
        obtain ⟨x,hx,hA⟩:=Af [41,42,43,44,45,46] (by kernel_rfl) hsz hdf hbase
        have e46:x 46=.bool false:=(hx 46).trans (hv 5 (by decide))
        rw [hA]
        simp only [List.foldl]
        rw [e46]
        clear e46
        simp only [Act.put,List.setIfInBounds_toArray,List.set_cons_succ,List.set_cons_zero]
        clear hA hx hv hbase hsz hdf
        have HS10:=A0 hS
        clear hS
        go_wp2_with fail
        go_roundg (L.length+1 - (p+1))
        case measure=>have:=HGK2.out;omega
        case rel=>exact ⟨p+1,Ls,F,by go_num,by omega,rfl,HEN.out.ext HS10.out,HOC.out.later HS10.out (A3 _),fun q hq=>by
         by_cases e:q=p
         · subst e;rw [if_pos (Nat.lt_succ_self _)];exact HFP.out.no hnm HNW.out
         ·
          have h:=HFD.out q hq
          by_cases e2:q<p
          · rw [if_pos e2] at h;rw [if_pos (by omega)];exact h
          · rw [if_neg e2] at h;rw [if_neg (by omega)];exact h⟩
     ·
      obtain rfl:p=L.length+1:=by omega
      have hplI:¬ ((L.length+1:Nat):Int)≤(L.length:Int):=by omega
      go_wp2_with fail
      go_roundg (Ws.length - (n+1))
      case measure=>have:=HGK.out;omega
      case rel=>exact ⟨n+1,Ls,F,by go_num,by omega,rfl,HEN.out,fun q hq=>by have h:=HFD.out q hq;rw [if_pos hq] at h;exact h⟩
  ·
   obtain rfl:n=Ws.length:=by omega
   have hltI:¬ (Ws.length:Int)<(Ws.length:Int):=by omega
   go_wp2_with fail
   go_ret
   refine ⟨⟨B,Ls,rfl,HEN.out.out.row.mono HWS.out,HEN.out.out.len,fun k h hk=>⟨F k,(HEN.out.out.own k h).mono HWS.out,(HFD.out k hk).done (by rw [AN])⟩⟩,HEN.out.bl⟩end Go.Proofs.YthjmdgejnakcmaaGreatDoor
