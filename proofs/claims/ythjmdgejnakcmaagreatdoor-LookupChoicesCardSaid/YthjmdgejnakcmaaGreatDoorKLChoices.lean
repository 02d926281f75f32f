/- LookupChoices: the walk. -/
import Derived.Test.YthjmdgejnakcmaaGreatDoorMX2
namespace Go.Proofs.YthjmdgejnakcmaaGreatDoor
open Go.RowKit Go.WideShapes Fl
set_option linter.unusedVariables false
set_option linter.unusedSimpArgs false
theorem tmod_natH (z:Int) (n:Nat) (h:0≤z) (hn:0<n):∃ k:Nat,z.tmod (n:Int)=(k:Int)∧k<n∧((n:Int) == 0)=false:=by
 obtain ⟨m,rfl⟩:=Int.eq_ofNat_of_zero_le h
 refine ⟨m % n,by rw [Int.tmod_eq_emod_of_nonneg h];exact (Int.natCast_emod m n).symm,Nat.mod_lt _ hn,?_⟩
 rw [beq_eq_false_iff_ne];omega
def Picks (L:List Slt) (P:List Ch):Prop:=P.length≤L.length∧∀ (i:Nat) (s:Slt) (h:Ch),L[i]? = some s→P[i]? = some h→h∈s
def keysP (P:List Ch):List UInt8:=P.map (·.key)
def sumP (P:List Ch):Nat:=(P.map fun h=>h.cost.toNat).sum
theorem letC_mem {s:Slt} {h:Ch} (hd:s.Pairwise fun a b=>a.key≠b.key) (hm:h∈s):letC s h.key=some h.cost.toNat:=by
 unfold letC
 induction s with
 | nil=>cases hm
 | cons x r ih =>
  obtain ⟨h1,h2⟩:=List.pairwise_cons.1 hd
  rw [List.find?_cons]
  rcases List.mem_cons.1 hm with rfl | hm
  · simp
  ·
   have hne:(x.key == h.key)=false:=by rw [beq_eq_false_iff_ne];exact h1 h hm
   rw [hne]
   exact ih h2 hm
theorem Picks.tail {s:Slt} {L:List Slt} {h:Ch} {P:List Ch} (hp:Picks (s :: L) (h :: P)):h∈s∧Picks L P :=
 ⟨hp.2 0 s h rfl rfl,by simpa using hp.1,fun i s' h' h1 h2=>hp.2 (i+1) s' h' h1 h2⟩
theorem letsC_picks:∀ {L:List Slt} {P:List Ch},DisL L→Picks L P→letsC L (keysP P)=some (sumP P)
 | L,[],_,_=>by rw [keysP,List.map_nil,letsC_nil];rfl
 | [],h :: P,_,hp=>by have:=hp.1;simp at this
 | s :: L,h :: P,hd,hp=>by
  obtain ⟨h1,h2⟩:=hp.tail
  show letsC (s :: L) (h.key :: keysP P)=_
  simp only [letsC]
  rw [letC_mem (hd s List.mem_cons_self) h1,letsC_picks (fun t ht=>hd t (List.mem_cons_of_mem _ ht)) h2]
  simp [sumP]
theorem Picks.drop {L:List Slt} {P:List Ch} (h:Picks L P) (i:Nat):Picks (L.drop i) (P.drop i) :=
 ⟨by rw [List.length_drop,List.length_drop];have:=h.1;omega,fun j s x h1 h2=>by rw [List.getElem?_drop] at h1 h2;exact h.2 _ s x h1 h2⟩
theorem Picks.take {L:List Slt} {P:List Ch} (h:Picks L P) (i:Nat):Picks L (P.take i) :=
 ⟨by rw [List.length_take];have:=h.1;omega,fun j s x h1 h2=>by
  rw [List.getElem?_take] at h2
  split at h2
  · exact h.2 j s x h1 h2
  · cases h2⟩
theorem
    letsC_typ:∀ {P:List UInt8} {r:List UInt8} {k:Nat},letsC (typB P) r=some k→k=0∧r=P.take r.length
 | P,[],k,h=>by rw [letsC_nil] at h;cases h;exact ⟨rfl,by simp⟩
 | [],c :: r,k,h=>by cases h
 | p
   :: P,c :: r,k,h=>by
  have h2:letsC ([⟨p,0⟩] :: typB P) (c :: r)=some k:=h
  simp only [letsC] at h2
  by_cases e:p=c
  ·
   subst e
   have e1:letC [⟨p,0⟩] p=some 0:=by simp [letC]
   rw [e1] at h2
   cases e2:letsC (typB P) r with
   | none=>rw [e2] at h2;cases h2
   | some y =>
    rw [e2] at h2
    obtain ⟨h3,h4⟩:=letsC_typ e2
    simp at h2
    subst h3
    refine ⟨by omega,?_⟩
    rw [List.length_cons,List.take_succ_cons,← h4]
  ·
   have e1:letC [⟨p,0⟩] c=none:=by simp [letC,e]
   rw [e1] at h2
   cases h2
theorem typB_drop (P:List UInt8) (i:Nat):(typB P).drop i=typB (P.drop i):=by unfold typB;rw [List.map_drop]
theorem sumP_app (A B:List Ch):sumP (A ++ B)=sumP A+sumP B:=by unfold sumP;rw [List.map_append,List.sum_append]
theorem rts_picks {R:List Rl} {L:List Slt} {P:List Ch} (hd:DisL L) (hp:Picks L P) {i m:Nat} {o:List UInt8} {c:Nat} (h:RtS R (typB (keysP P)) i m o c):RtS R L i m o (c+sumP (P.take i)):=by
 induction h with
 | start=>rw [List.take_zero];exact .start
 | @step i m o c k r h1 hr hf hm hk ih =>
  rw [typB_drop] at hk
  obtain ⟨rfl,h2⟩:=letsC_typ hk
  have hdr:DisL (L.drop i):=fun s hs=>hd s (List.mem_of_mem_drop hs)
  have e1:(keysP P).drop i=keysP (P.drop i):=by unfold keysP;rw [List.map_drop]
  have e2:(keysP (P.drop i)).take (bts r.inp).length=keysP ((P.drop i).take (bts r.inp).length):=by unfold keysP;rw [List.map_take]
  rw [e1,e2] at h2
  have h3:=letsC_picks hdr ((hp.drop i).take (bts r.inp).length)
  rw [← h2] at h3
  have h4:=RtS.step ih hr hf hm h3
  have e3:P.take (i+r.inp.size)=P.take i ++ (P.drop i).take (bts r.inp).length:=by rw [bts_len,List.take_add]
  rw [e3,sumP_app]
  have e4:c+sumP (P.take i)+(r.cost.toNat+sumP ((P.drop i).take (bts r.inp).length))=c+(r.cost.toNat+0)+(sumP (P.take i)+sumP ((P.drop i).take (bts r.inp).length)):=by omega
  rw [e4] at h4
  exact h4
theorem covers_typ {R:List Rl} {acc:Int} {L:List Slt} {W:List (List UInt8)} {P:List Ch} {la lb:List (Nat × Nat)} (hd:DisL L) (hp:Picks L P) (hl:P.length=L.length) (ha:FndOk R acc L W L.length la) (hb:FndOk R acc (typB (keysP P)) W L.length lb) :
  ∀ p∈lb,hasW la p.1 p.2 (sumP P)=true:=fun p hm=>by
 obtain ⟨hk,⟨m,hac,hr⟩, -⟩:=(hb.mem p.1 p.2).1 hm
 have h1:=rts_picks hd hp hr
 rw [List.take_of_length_le (by omega)] at h1
 obtain ⟨c',h2,h3⟩:=ha.costs hk ⟨m,hac,h1⟩
 exact List.any_eq_true.2 ⟨_,h2,by simp;omega⟩
def moreL (L:List Slt) (k:Nat) (h:Ch):List Slt:=L.modify k fun s=>s ++ [h]
theorem letC_more {s:Slt} {h:Ch} {c:UInt8} {n:Nat} (e:letC s c=some n):letC (s ++ [h]) c=some n:=by
 unfold letC at e ⊢
 rw [List.find?_append]
 cases e2:s.find? (fun h=>h.key == c) with
 | none=>rw [e2] at e;cases e
 | some x=>rw [e2] at e;exact e
theorem letsC_more {h:Ch}:∀ {L:List Slt} {r:List UInt8} {k n:Nat},letsC L r=some n→letsC (moreL L k h) r=some n
 | L,[],k,n,e=>by rw [letsC_nil] at e ⊢;exact e
 | [],c :: r,k,n,e=>by cases e
 | s :: L,c :: r,0,n,e=>by
  show letsC ((s ++ [h]) :: L) (c :: r)=_
  simp only [letsC] at e ⊢
  cases e1:letC s c with
  | none=>rw [e1] at e;cases e
  | some x=>rw [e1] at e;rw [letC_more e1];exact e
 | s
   :: L,c :: r,k+1,n,e=>by
  show letsC (s :: moreL L k h) (c :: r)=_
  simp only [letsC] at e ⊢
  cases e1:letC s c with
  | none=>rw [e1] at e;cases e
  | some x =>
   rw [e1] at e
   cases e2:letsC L r with
   | none=>rw [e2] at e;cases e
   | some y=>rw [e2] at e;simp only [letsC_more (k:=k) (h:=h) e2];exact e
theorem moreL_drop {L:List Slt} {k i:Nat} {h:Ch}:(moreL L k h).drop i=if k<i then L.drop i else moreL (L.drop i) (k - i) h:=by
 unfold moreL
 apply List.ext_getElem?
 intro j
 by_cases e0:k<i
 ·
  rw [if_pos e0,List.getElem?_drop,List.getElem?_drop,List.getElem?_modify]
  have e:¬ k=i+j:=by omega
  cases L[i+j]? <;> simp [e]
 ·
  rw [if_neg e0,List.getElem?_drop,List.getElem?_modify,List.getElem?_modify,List.getElem?_drop]
  by_cases e:k=i+j
  ·
   have e2:k - i=j:=by omega
   cases L[i+j]? <;> simp [e,e2]
  ·
   have e2:¬ k - i=j:=by omega
   cases L[i+j]? <;> simp [e,e2]
theorem moreL_len {L:List Slt} {k:Nat} {h:Ch}:(moreL L k h).length=L.length:=by unfold moreL;rw [List.length_modify]
theorem moreL_mem {L:List Slt} {k:Nat} {h:Ch} {t:Slt} (ht:t∈moreL L k h):∃ u∈L,t=u∨t=u ++ [h]:=by
 obtain ⟨j,hj⟩:=List.mem_iff_getElem?.1 ht
 unfold moreL at hj
 rw [List.getElem?_modify] at hj
 cases e:L[j]? with
 | none=>rw [e] at hj;cases hj
 | some u =>
  refine ⟨u,List.mem_of_getElem? e,?_⟩
  rw [e] at hj
  by_cases h:k=j
  · simp [h] at hj;exact .inr hj.symm
  · simp [h] at hj;exact .inl hj.symm
theorem covers_more {R:List Rl} {acc:Int} {L:List Slt} {W:List (List UInt8)} {k:Nat} {h:Ch} {la lb:List (Nat × Nat)} (ha:FndOk R acc (moreL L k h) W L.length la) (hb:FndOk R acc L W L.length lb) :
  ∀ p∈lb,hasW la p.1 p.2 0=true:=fun p hm=>by
 obtain ⟨hk,⟨m,hac,hr⟩, -⟩:=(hb.mem p.1 p.2).1 hm
 have h1:=rts_mono (L':=moreL L k h) (by rw [moreL_len];exact Nat.le_refl _) (fun i r n e=>by
  rw [moreL_drop]
  split
  · exact e
  · exact letsC_more e) hr
 obtain ⟨c',h2,h3⟩:=ha.costs hk ⟨m,hac,h1⟩
 exact List.any_eq_true.2 ⟨_,h2,by simp;omega⟩
theorem bts_push (t:ByteArray) (c:UInt8):bts (t ++ ⟨#[c]⟩)=bts t ++ [c]:=by simp [bts,ByteArray.data_append]
theorem Picks.push {L:List Slt} {P:List Ch} {s:Slt} {h:Ch} (hp:Picks L P) (hs:L[P.length]? = some s) (hm:h∈s):Picks L (P ++ [h]):=by
 have hl:=(List.getElem?_eq_some_iff.1 hs).1
 refine ⟨by rw [List.length_append];simp;omega,fun i t x h1 h2=>?_⟩
 by_cases e:i<P.length
 · rw [List.getElem?_append_left e] at h2;exact hp.2 i t x h1 h2
 ·
  rw [List.getElem?_append_right (by omega)] at h2
  have e2:i=P.length:=by
   have:=(List.getElem?_eq_some_iff.1 h2).1
   simp at this;omega
  subst e2
  rw [hs] at h1
  cases h1
  simp at h2
  subst h2
  exact hm
theorem conv_key (c:UInt8) (w:World):(convert 26 9 (.slice (some ⟨w.heap.size,0,none⟩) 1 1)).run Tryz.prog (w.alloc (.cells #[.int .u8 (c.toNat:Int)] 5))=.ok (.string ⟨#[c]⟩) (w.alloc (.cells #[.int .u8 (c.toNat:Int)] 5)):=by
 have hbr:ByteR (w.alloc (.cells #[.int .u8 (c.toNat:Int)] 5)) (some ⟨w.heap.size,0,none⟩) [c]:=.inr ⟨w.heap.size,_,rfl,heap_alloc_new _ _,by simp⟩
 exact conv_bytes hbr 1
theorem idx_chsH (g n c k:Nat) (hk:k<n) (w:World):(Instr.indexAt 53 (.slice (some ⟨g,0,none⟩) n c) (.int .i64 (k:Int))).run Tryz.prog w=.ok (.pointer (some ⟨g,k*2,none⟩)) w:=by
 have h0:(0:Int)≤(k:Int):=by omega
 have h1:(k:Int)<(n:Int):=by omega
 simp [go_sem,h0,h1]
theorem fnd_lenH {R:List Rl} {acc:Int} {L:List Slt} {W:List (List UInt8)} {i:Nat} {l:List (Nat × Nat)} (h:FndOk R acc L W i l):l.length≤W.length:=by
 have h1:(l.map (·.1)).Nodup:=by unfold List.Nodup;rw [List.pairwise_map];exact h.sorted.imp fun h=>by omega
 have h2:=nodup_bound W.length _ h1 fun z hz=>by
  obtain ⟨⟨q,c⟩,hp,rfl⟩:=List.mem_map.1 hz
  exact ((h.mem q c).1 hp).1
 rwa [List.length_map] at h2
theorem own_someH {α:Type} {T:RowT α} {w:World} {B:Nat} {v:Value} {L:List α} (h:OwnG T w B v L) (hl:0<L.length):∃ g c,v=.slice (some ⟨g,0,none⟩) L.length c:=by
 rcases h.blk with ⟨_,e⟩ | ⟨g,c,e,_⟩
 · rw [e] at hl;exact absurd hl (Nat.lt_irrefl _)
 · exact ⟨g,c,e⟩
theorem slot_at {w:World} {B gL cL n k:Nat} {LL:List SV} {L:List Slt} {s:Slt} (h:SltsR w B (.slice (some ⟨gL,0,none⟩) n cL) LL L) (hk:k<L.length) (hs:L[k]=s) (h0:0<s.length) :
  ∃ gk ck,w.cell? ⟨gL,k,none⟩=some (.slice (some ⟨gk,0,none⟩) s.length ck)∧OwnG rowCh w 0 (.slice (some ⟨gk,0,none⟩) s.length ck) s:=by
 have hkL:k<LL.length:=by rw [h.len];exact hk
 have hel:=h.el k _ s (List.getElem?_eq_getElem hkL) (by rw [List.getElem?_eq_getElem hk,hs])
 obtain ⟨g,c,e⟩:=own_someH hel h0
 have h2:=h.own.cell rowSlts_ok hkL (j:=0) (by decide)
 have e1:k*rowSlts.k+0=k:=by show k*1+0=_;omega
 rw [e1] at h2
 have h3:w.cell? ⟨gL,k,none⟩=some (svS LL[k]):=h2
 have hel2:OwnG rowCh w 0 (svS LL[k]) s:=hel
 rw [e] at h3 hel2
 exact ⟨g,c,h3,hel2⟩
theorem row_kept {w7 w8:World} {B g7 c7 n:Nat} {LL:List SV} (h:OwnG rowSlts w7 B (.slice (some ⟨g7,0,none⟩) n c7) LL) (hx:Ext w7 (w7.alloc (.cells #[] 55))) (hg:(w7.alloc (.cells #[] 55)).grownBy w8 (Value.slice (some ⟨w7.heap.size,0,none⟩) 0 0).ownBlock) :
  OwnG rowSlts w8 B (.slice (some ⟨g7,0,none⟩) n c7) LL :=
 (h.later hx (Nat.le_refl _)).grown hg fun q hq e=>by
  injection e with e
  have e2:q=w7.heap.size:=e
  have:=h.lt q hq
  omega
theorem one_more {w:World} {B g n c:Nat} {s:Slt} (h:OwnG rowCh w B (.slice (some ⟨g,0,none⟩) n c) s) :
  OwnG rowCh (w.alloc (.cells #[.int .u8 100,.int .i64 3] 55)) B (.slice (some ⟨g,0,none⟩) n c) s ∧
   (∀ j u,([(⟨100,3⟩:Ch)].flatMap rowCh.enc)[j]? = some u→(w.alloc (.cells #[.int .u8 100,.int .i64 3] 55)).cell? ((⟨w.heap.size,0,none⟩:Addr).add j)=some u) ∧
   Ext w (w.alloc (.cells #[.int .u8 100,.int .i64 3] 55)):=by
 have hx:Ext w (w.alloc (.cells #[.int .u8 100,.int .i64 3] 55)):=(Below.refl _ _).alloc (Nat.le_refl _) _
 refine ⟨h.later hx (Nat.le_refl _),fun j u hj=>?_,hx⟩
 have hh:(w.alloc (.cells #[.int .u8 100,.int .i64 3] 55)).heap[w.heap.size]? = some (.cells #[.int .u8 100,.int .i64 3] 55 (0,0)):=heap_alloc_new _ _
 match j,hj with
 | 0,hj=>cases hj;show World.cell? _ ⟨w.heap.size,0,none⟩=_;rw [cell_of_row _ _ _ _ _ (0,0) hh];rfl
 | 1,hj=>cases hj;show World.cell? _ ⟨w.heap.size,1,none⟩=_;rw [cell_of_row _ _ _ _ _ (0,0) hh];rfl
theorem flat_sltsH (M:List SV):M.flatMap rowSlts.enc=M.map svS:=by
 induction M with
 | nil=>rfl
 | cons x r ih=>rw [List.flatMap_cons,ih];rfl
theorem row_kept2 {w8 w8' w9:World} {B g7 c7 n g8 m c8 k:Nat} {LL:List SV} {s:Slt} {vv:Value} (h:OwnG rowSlts w8 B (.slice (some ⟨g7,0,none⟩) n c7) LL) (h8:OwnG rowCh w8 B (.slice (some ⟨g8,0,none⟩) m c8) s) (hx:Ext w8 w8') (hg:w8'.grownBy w9 (Value.slice (some ⟨g8,0,none⟩) m c8).ownBlock) (hk:k<LL.length) (hv:svS LL[k]=vv) :
  OwnG rowSlts w9 B (.slice (some ⟨g7,0,none⟩) n c7) LL∧w9.cell? ⟨g7,k,none⟩=some vv∧w9.frozen? ⟨g7,k,none⟩=false∧∃ cs,w9.heap[g7]? = some (.cells cs rowSlts.e (0,0)):=by
 have h1:OwnG rowSlts w9 B (.slice (some ⟨g7,0,none⟩) n c7) LL:=(h.later hx (Nat.le_refl _)).grown hg fun q hq e=>by
  injection e with e
  have e2:q=g8:=e
  obtain ⟨cs1,h1⟩:=ownG_obj h hq
  obtain ⟨cs2,h2⟩:=ownG_obj h8 (g:=g8) rfl
  rw [e2,h2] at h1
  injection h1 with h1
  injection h1 with _ h3
  exact absurd h3 (by decide)
 obtain ⟨cs,hcs⟩:=ownG_obj h1 (g:=g7) rfl
 have h2:=h1.cell rowSlts_ok hk (j:=0) (by decide)
 have e1:k*rowSlts.k+0=k:=by show k*1+0=_;omega
 rw [e1] at h2
 have h3:w9.cell? ⟨g7,k,none⟩=some (svS LL[k]):=h2
 rw [hv] at h3
 exact ⟨h1,h3,by simp [World.frozen?,hcs],cs,hcs⟩
set_option maxHeartbeats 12800000 in
set_option maxRecDepth 100000 in
theorem
    lookupChoices_view (x:CaseA) (y:BytA) (kn:Int) (w:World) (hx:CaseOk w x) (hy:BytOk w y) (k0:0≤kn) (k1:kn≤255) (hT:Tab w) :
  Calls Tryz.prog 4 #[x.val,y.val,.int .u8 kn] w fun e w'=>e=.returned (.bool true)∧Below w.heap.size w w':=by
 obtain ⟨⟨M,A,ra,rl,rc,rQ⟩,⟨wa,wl,wc,wQ⟩,⟨la,ll,lc,lZ⟩⟩:=x
 obtain ⟨⟨hM0,hM1,hA0,hA1,hraw⟩,⟨hwr,hwl⟩,⟨hlb,hll⟩⟩:=hx
 simp only at hM0 hM1 hA0 hA1 hraw hwr hwl hlb hll
 have HRA:=Lib.hid hraw;have HWR:=Lib.hid hwr;have HLB:=Lib.hid hlb;have HT:=Lib.hid hT
 clear hraw hwr hlb hT
 simp only [CaseA.val]
 obtain ⟨ya,yl,yc,yZ⟩:=y
 obtain ⟨hyb,hyl⟩:=hy
 simp only at hyb hyl
 have HYB:=Lib.hid hyb
 clear hyb
 simp only [BytA.val]
 go_enter Tryz.func4,Tryz.ntmps4
 go_wp2_with fail
 obtain ⟨w1,hw1⟩:∃ w1,w.alloc (.cells #[.int .u8 M,.int .u8 A,.slice ra rl rc,.slice wa wl wc,.slice la ll lc] 28)=w1:=⟨_,rfl⟩
 rw [hw1]
 have HX1:Hid (Ext w w1):=by show Ext _ _;rw [← hw1];exact (Below.refl _ _).alloc (Nat.le_refl _) _
 have hbx:w1.heap[w.heap.size]? = some (.cells #[.int .u8 M,.int .u8 A,.slice ra rl rc,.slice wa wl wc,.slice la ll lc] 28 (0,0)):=by rw [← hw1];exact heap_alloc_new _ _
 have HBX:Hid (∀ W,Ext w1 W→W.heap[w.heap.size]? = some (.cells #[.int .u8 M,.int .u8 A,.slice ra rl rc,.slice wa wl wc,.slice la ll lc] 28 (0,0))):=fun W hx=>(Below.block hx _ (Array.getElem?_eq_some_iff.1 hbx).1).trans hbx
 clear hw1 hbx
 obtain ⟨gx,hgx⟩:∃ gx,w.heap.size=gx:=⟨_,rfl⟩
 rw [hgx] at HBX ⊢
 clear hgx
 refine (sanity_any w1 (HT.out.later HX1.out)).mono ?_
 rintro e w2 ⟨rfl,hb2⟩
 have HX2:Hid (Ext w1 w2):=hb2
 clear hb2
 obtain ⟨p0,p1,p2,p3,p4⟩:=cells5 (HBX.out w2 HX2.out)
 go_wp2_with fail
 clear p0 p1 p2 p3 p4
 refine (safe_any M A ra rl rc rQ w2 hM0 hM1 hA0 hA1 ((HRA.out.later HX1.out (Nat.le_refl _)).later HX2.out (Nat.le_refl _))).mono ?_
 rintro e w3 ⟨S,b,cS,rfl,hsafe,hb3⟩
 have HX3:Hid (Ext w1 w3):=Ext.trans HX2.out hb3
 have HSF:=Lib.hid hsafe
 clear hb3 hsafe
 go_upto_region 3 with fail
 obtain ⟨w4,hw4⟩:∃ w4,w3.alloc (.cells #[.int .i64 S.modes,.int .u8 S.acc,.slice b S.rules.length cS] 32)=w4:=⟨_,rfl⟩
 rw [hw4]
 have hx4:Ext w3 w4:=by rw [← hw4];exact (Below.refl _ _).alloc (Nat.le_refl _) _
 have hsc4:w4.heap[w3.heap.size]? = some (.cells #[.int .i64 S.modes,.int .u8 S.acc,.slice b S.rules.length cS] 32 (0,0)):=by rw [← hw4];exact heap_alloc_new _ _
 have HSC:Hid (∀ W,Ext w4 W→W.heap[w3.heap.size]? = some (.cells #[.int .i64 S.modes,.int .u8 S.acc,.slice b S.rules.length cS] 32 (0,0))):=fun W hx=>(Below.block hx _ (Array.getElem?_eq_some_iff.1 hsc4).1).trans hsc4
 have HSM:Hid (∀ W,Ext w4 W→SchM W S b cS):=fun W hx=>((SafeS.schM HSF.out).go hx4).go hx
 have HX4:Hid (Ext w1 w4):=Ext.trans HX3.out hx4
 clear hw4 hx4 hsc4
 obtain ⟨gs,hgs⟩:∃ gs,w3.heap.size=gs:=⟨_,rfl⟩
 rw [hgs] at HSC ⊢
 clear hgs
 obtain ⟨p0,p1,p2,p3,p4⟩:=cells5 (HBX.out w4 HX4.out)
 go_wp2_with fail
 clear p0 p1 p2 p3 p4
 refine (dictionary13_any wQ wa wl wc 10 w4 ((HWR.out.later HX1.out (Nat.le_refl _)).later HX4.out (Nat.le_refl _)) hwl (by decide)).mono ?_
 rintro e w5 ⟨bd,od,cd,rfl,hsd,hcd,hb5⟩
 have hdd:=dic_dict wQ wl 10 (by decide)
 have hdl:=dic_len wQ wl 10 (by decide)
 obtain ⟨Ws,hWs⟩:∃ Ws,dicF wQ wl 10=Ws:=⟨_,rfl⟩
 rw [hWs] at hsd hcd hdd hdl ⊢
 have HSD:Hid (∀ W,Ext w5 W→StrS W (some ⟨bd,od,none⟩) Ws):=fun W hx=>hsd.later hx (Nat.le_refl _)
 have HDD:=Lib.hid hdd
 have HX5:Hid (Ext w1 w5):=Ext.trans HX4.out hb5
 have H45:Hid (Ext w4 w5):=hb5
 clear hsd hdd hWs hb5
 go_wp2_with fail
 refine (built_any Ws Ws.length (some ⟨bd,od,none⟩) cd w5 (HSD.out w5 (Ext.refl _)) rfl hcd HDD.out).mono ?_
 rintro e w6 ⟨aD,cD,rfl,hcD,hdw,hb6⟩
 obtain ⟨nD,hnD⟩:∃ nD,(ofF (restAt 0 Ws)).length=nD:=⟨_,rfl⟩
 rw [hnD] at hcD ⊢
 have HAU:Hid (∀ W,Ext w6 W→AutS W aD nD cD Ws):=fun W hx=>⟨HDD.out,hnD.symm,hcD,hdw.later hx (Nat.le_refl _)⟩
 have HX6:Hid (Ext w1 w6):=Ext.trans HX5.out hb6
 have H46:Hid (Ext w4 w6):=Ext.trans H45.out hb6
 have H56:Hid (Ext w5 w6):=hb6
 clear hdw hnD hb6 hcD
 go_upto_region 4 with fail
 obtain ⟨p0,p1,p2,p3,p4⟩:=cells5 (HBX.out w6 HX6.out)
 go_wp2_with fail
 clear p0 p1 p2 p3 p4
 refine (slots_any lZ la ll lc 5 w6 ((HLB.out.later HX1.out (Nat.le_refl _)).later HX6.out (Nat.le_refl _)) hll (by decide)).mono ?_
 rintro e wp ⟨vL,rfl,hsl,hnn,hbp⟩
 obtain ⟨L,gL,cL,rfl,hlk,hL5,hne⟩:=slots_out HLB.out (Nat.min_le_left _ _) (Nat.min_le_right _ _) hsl hnn
 have HLK:Hid (∀ W,Ext wp W→SlkS W (some ⟨gL,0,none⟩) cL L):=fun W hx=>hlk.go hx
 obtain ⟨LL,hrL⟩:=hne
 have HLG:Hid (∀ W,Ext wp W→SltsR W 0 (.slice (some ⟨gL,0,none⟩) L.length cL) LL L):=fun W hx=>(hrL.mono (Nat.zero_le _)).later hx (Nat.le_refl _)
 have HWP:Hid (Ext w wp):=Ext.trans (Ext.trans HX1.out HX6.out) hbp
 have HP4:Hid (Ext w4 wp):=Ext.trans H46.out hbp
 have HP5:Hid (Ext w5 wp):=Ext.trans H56.out hbp
 have HP6:Hid (Ext w6 wp):=hbp
 clear hsl hnn hbp hlk hrL
 have hcL:=(HLK.out wp (Ext.refl _)).cap
 have hlL:=hL5.len
 obtain ⟨d0,d1,d2⟩:=sch_cells (HSC.out wp HP4.out)
 go_wp2_with fail
 clear d0 d1 d2
 refine (words_l (HSM.out wp HP4.out) (HAU.out wp HP6.out) (by omega) (HLK.out wp (Ext.refl _))).mono ?_
 rintro e w7 hp
 obtain ⟨v7,rfl,⟨aA,cA,la,rfl,hfa,hka, -⟩,hb7⟩:=fnS_of hp
 have HX7:Hid (Ext wp w7):=hb7
 have HFA:Hid (∀ W,Ext w7 W→FndS W aA la):=fun W hx=>hfa.kp (Kc.of hx (Nat.le_refl _))
 have HKA:=Lib.hid hka
 have hlal:=fnd_lenH hka.toFndOk
 rw [List.length_map] at hlal
 clear hp hfa hka hb7
 go_wp2_with fail
 go_loopg [12,13] L.length (fun g v12 v13 wr=>∃ (i:Nat) (P:List Ch) (t:ByteArray),v13=.int .i64 (i:Int)∧v12=.string t∧bts t=keysP P∧P.length=i∧Picks L P∧i≤L.length∧g=L.length - i∧Ext w7 wr)
 case atStart=>exact ⟨0,[],⟨#[]⟩,rfl,rfl,rfl,rfl,⟨Nat.zero_le _,fun i s h _ h2=>by simp at h2⟩,Nat.zero_le _,rfl,Ext.refl _⟩
 case round =>
  obtain ⟨i,P,t,rfl,rfl,ht,hPl,hP,hi,hgk,hxr⟩:=hrel
  have HTX:=Lib.hid ht;have HPL:=Lib.hid hPl;have HPK:=Lib.hid hP;have HGK:=Lib.hid hgk;have HXR:=Lib.hid hxr
  have hts:t.size≤5:=by have h:=congrArg List.length ht;rw [bts_len] at h;unfold keysP at h;rw [List.length_map] at h;omega
  clear ht hPl hP hgk hxr
  by_cases hil:i<L.length
  ·
   have hilI:(i:Int)<(L.length:Int):=by omega
   obtain ⟨s,hs⟩:∃ s,L[i]=s:=⟨_,rfl⟩
   have hsm:s∈L:=by rw [← hs];exact List.getElem_mem hil
   have hs0:0<s.length:=List.length_pos_iff.2 (hL5.ne s hsm)
   have HSI:Hid (L[i]? = some s):=by show _=_;rw [List.getElem?_eq_getElem hil,hs]
   obtain ⟨gk,ck,hcl,hok⟩:=slot_at (HLG.out wr (Ext.trans HX7.out HXR.out)) hil hs hs0
   have hixL:=idx_slts gL L.length cL i hil
   have HOK:=Lib.hid hok;have HCL:=Lib.hid hcl
   clear hok hs
   by_cases hiy:i<yl
   ·
    have hiyI:(i:Int)<(yl:Int):=by omega
    obtain ⟨by1,oy1,hya,hyb,hyc,z0,z1⟩:=((HYB.out.later HWP.out (Nat.le_refl _)).later (Ext.trans HX7.out HXR.out) (Nat.le_refl _)).at hiy
    have hixY:=idx_bytes ya by1 oy1 yl yc i hya hiy
    obtain ⟨z,hz⟩:∃ z,yZ i=z:=⟨_,rfl⟩
    rw [hz] at hyc z0 z1
    obtain ⟨k,hmod,hk,hnz⟩:=tmod_natH z s.length z0 hs0
    clear hya hz
    go_wp2_with fail
    go_quiet (fail)
    have HQ:Hid (Ext wr (wr.drewN nq)):=below_drewN (Below.refl _ _) _
    clear hmod hnz hyc hixY
    have hkey:s[k]∈s:=List.getElem_mem hk
    obtain ⟨hh,hhe⟩:∃ hh,s[k]=hh:=⟨_,rfl⟩
    have hck:(wr.drewN nq).cell? ⟨gk,k*2,none⟩=some (.int .u8 (hh.key.toNat:Int)):=by
     have h:=(HOK.out.later HQ.out (Nat.le_refl _)).cell rowCh_ok hk (j:=0) (by decide)
     rw [hhe] at h
     exact h
    have hcl:=((Below.cell HQ.out (p:=⟨gL,i,none⟩) (World.block_lt_of_cell? _ _ HCL.out)).trans HCL.out:(wr.drewN nq).cell? ⟨gL,i,none⟩=_)
    have hixk:=idx_chsH gk s.length ck k hk
    have hcv:(convert 26 9 (.slice (some ⟨wr.heap.size,0,none⟩) 1 1)).run Tryz.prog ((wr.drewN nq).alloc (.cells #[.int .u8 (hh.key.toNat:Int)] 5))=.ok (.string ⟨#[hh.key]⟩) ((wr.drewN nq).alloc (.cells #[.int .u8 (hh.key.toNat:Int)] 5)):=conv_key hh.key (wr.drewN nq)
    rw [hhe] at hkey
    have HKE:=Lib.hid hkey
    clear hkey hhe
    go_wp2_with fail
    go_roundg (L.length - (i+1))
    case measure=>have:=HGK.out;omega
    case rel=>exact ⟨i+1,P ++ [hh],_,by go_num,rfl,by rw [bts_push,HTX.out];simp [keysP],by rw [List.length_append,HPL.out];rfl,HPK.out.push (by rw [HPL.out];exact HSI.out) HKE.out,by omega,rfl,Ext.trans HXR.out (Ext.trans HQ.out ((Below.refl _ _).alloc (Nat.le_refl _) _))⟩
   ·
    have hiyI:¬ (i:Int)<(yl:Int):=by omega
    have hk:0<s.length:=hs0
    have hkey:s[0]∈s:=List.getElem_mem hk
    obtain ⟨hh,hhe⟩:∃ hh,s[0]=hh:=⟨_,rfl⟩
    have hck:wr.cell? ⟨gk,0*2,none⟩=some (.int .u8 (hh.key.toNat:Int)):=by
     have h:=(HOK.out).cell rowCh_ok hk (j:=0) (by decide)
     rw [hhe] at h
     exact h
    have hcl:=(HCL.out:wr.cell? ⟨gL,i,none⟩=_)
    have hixk:=idx_chsH gk s.length ck 0 hk
    have hcv:(convert 26 9 (.slice (some ⟨wr.heap.size,0,none⟩) 1 1)).run Tryz.prog (wr.alloc (.cells #[.int .u8 (hh.key.toNat:Int)] 5))=.ok (.string ⟨#[hh.key]⟩) (wr.alloc (.cells #[.int .u8 (hh.key.toNat:Int)] 5)):=conv_key hh.key wr
    rw [hhe] at hkey
    have HKE:=Lib.hid hkey
    clear hkey hhe
    go_wp2_with fail
    go_roundg (L.length - (i+1))
    case measure=>have:=HGK.out;omega
    case rel=>exact ⟨i+1,P ++ [hh],_,by go_num,rfl,by rw [bts_push,HTX.out];simp [keysP],by rw [List.length_append,HPL.out];rfl,HPK.out.push (by rw [HPL.out];exact HSI.out) HKE.out,by omega,rfl,Ext.trans HXR.out ((Below.refl _ _).alloc (Nat.le_refl _) _)⟩
  ·
   obtain rfl:i=L.length:=by omega
   have hilI:¬ (L.length:Int)<(L.length:Int):=by omega
   have HTB:Hid (typL t=typB (keysP P)):=by show _=_;unfold typL;rw [HTX.out]
   have HX8:Hid (Ext wp wr):=Ext.trans HX7.out HXR.out
   obtain ⟨w8,hw8⟩:∃ w8:World,w8=wr:=⟨wr,rfl⟩
   subst hw8
   go_upto_region 14 with fail
   refine wp_region_st (by kernel_rfl) (Vs [fun v _=>v=.agg #[.int .i64 S.modes,.int .u8 S.acc,.slice b S.rules.length cS],fun v _=>v=.slice aD nD cD,fun v _=>v=.string t,TypS t,FnS S.rules S.acc (typL t) (Ws.map bts) L.length,FnS S.rules S.acc (typL t) (Ws.map bts) L.length]) (Xs [Ext,Ext,Ext,Ext,Ext,Ext]) (fun fL=>(fun W=>Ext w8 W) ) [0,0,0,4,15,31] 111 6 (by kernel_rfl) rfl ?hV ?hS ?hop ?hfin ?hlast
   case hV =>
    refine xs_stays (vs_stays (by simp only [List.mem_cons,List.not_mem_nil,or_false,forall_eq_or_imp,forall_eq];exact ⟨stays_const _,stays_const _,stays_const _,typS_stays _,fnS_stays _ _ _ _ _,fnS_stays _ _ _ _ _⟩)) ?_
    exact ⟨.inl rfl,.inl rfl,.inl rfl,.inl rfl,.inl rfl,.inl rfl,trivial⟩
   case hS =>
    intro fL hf
    show (fun W=>Ext w8 W)  _
    first | exact Ext.refl _ | exact drew_ext _
   case hop =>
    refine ⟨?_,?_,?_,?c3,?c4,?c5,trivial⟩
    all_goals first | rw [if_neg (by decide)] | rw [if_pos (by decide)]
    all_goals try intro ac W fL hsz hfi hms hdn hS0 hdep hbase hund
    all_goals try have hS:(fun W=>Ext w8 W)  W:=hS0
    all_goals try (
     obtain ⟨d0,d1,d2⟩:=sch_cells (HSC.out W (Ext.trans HP4.out (Ext.trans HX8.out hS))))
    all_goals try (have h8:ac.tmps.getD 8 undef=.pointer (some ⟨gs,0,none⟩):=hbase 8 (by kernel_rfl);have hh8:=h8;rw [Array.getD_eq_getD_getElem?] at hh8)
    all_goals try (have h9:ac.tmps.getD 9 undef=.slice aD nD cD:=hbase 9 (by kernel_rfl);have hh9:=h9;rw [Array.getD_eq_getD_getElem?] at hh9)
    all_goals try (have h12:ac.tmps.getD 12 undef=.string t:=hbase 12 (by kernel_rfl);have hh12:=h12;rw [Array.getD_eq_getD_getElem?] at hh12)
    all_goals try (have d66:ac.tmps.getD 66 undef=.agg #[.int .i64 S.modes,.int .u8 S.acc,.slice b S.rules.length cS]:=hdep 0 (by decide);have dd66:=d66;rw [Array.getD_eq_getD_getElem?] at dd66)
    all_goals try (have d67:ac.tmps.getD 67 undef=.slice aD nD cD:=hdep 1 (by decide);have dd67:=d67;rw [Array.getD_eq_getD_getElem?] at dd67)
    all_goals try (have d68:ac.tmps.getD 68 undef=.string t:=hdep 2 (by decide);have dd68:=d68;rw [Array.getD_eq_getD_getElem?] at dd68)
    all_goals try have d69:(TypS t) (ac.tmps.getD 69 undef) W:=hdep 3 (by decide)
    all_goals try have d70:(FnS S.rules S.acc (typL t) (Ws.map bts) L.length) (ac.tmps.getD 70 undef) W:=hdep 4 (by decide)
    all_goals try clear hbase hdep hms hdn hund
    case c3 =>
     have hS1:(fun W=>Ext w8 W)  W:=hS0
     refine opOk_run rfl (.inr ⟨15,#[.string t],W,by (clear hsz hS hS0 hS1 hfi;simp [go_sem,Act.eval, *]),?_⟩)
     refine (rtyped_any t W (by omega)).mono ?_
     rintro e w' ⟨hp,hb⟩
     obtain ⟨v,rfl,hv⟩:=typS_of hp (by omega)
     exact ⟨_,rfl,⟨hv,hb,Ext.trans hS0 hb⟩⟩
    case c4 =>
     have hS1:(fun W=>Ext w8 W)  W:=hS0
     obtain ⟨at9,ct9,et9,ht9⟩:=d69
     rw [Array.getD_eq_getD_getElem?] at et9
     refine opOk_run rfl (.inr ⟨21,#[.agg #[.int .i64 S.modes,.int .u8 S.acc,.slice b S.rules.length cS],.slice aD nD cD,.slice at9 t.size ct9],W,by (clear hsz hS hS0 hS1 hfi ht9;simp [go_sem,Act.eval, *]),?_⟩)
     have hxp:Ext wp W:=Ext.trans HX8.out hS
     have h9:=words_l (HSM.out W (Ext.trans HP4.out hxp)) (HAU.out W (Ext.trans HP6.out hxp)) (by omega) ht9
     have hts9:t.size=L.length:=by have h:=congrArg List.length HTX.out;rw [bts_len] at h;unfold keysP at h;rw [List.length_map,HPL.out] at h;exact h
     rw [typL_len] at h9
     refine h9.mono ?_
     rintro e w' hp
     obtain ⟨v,rfl,hv,hb⟩:=fnS_of hp
     rw [hts9] at hv
     exact ⟨_,rfl,⟨hv,hb,Ext.trans hS0 hb⟩⟩
    case c5 =>
     have hS1:(fun W=>Ext w8 W)  W:=hS0
     refine opOk_run rfl (.inl ⟨_,W,?_,d70,Ext.refl _,hS1⟩)
     clear hsz hS hS0 hS1 hfi;simp [go_sem,Act.eval, *]
    all_goals (refine opOk_run rfl (.inl ⟨_,W,?_,rfl,Ext.refl _,hS0⟩);clear hsz hS hS0 hfi;simp [go_sem,Act.eval, *];done)
   case hlast =>
    intro h;exact absurd rfl h
   case hfin
        =>
    intro _ ac W hsz hdf fL hf hS0 hv hbase
    have hS:(fun W=>Ext w8 W)  W:=hS0
    clear hS0
    obtain ⟨sx,hsx,hsA⟩:=act_puts [66,67,68,69,70,15] (by kernel_rfl) hsz hdf hbase
    have hp15:FnS S.rules S.acc (typL t) (Ws.map bts) L.length (ac.tmps.getD 15 undef) W:=hv 5 (by decide)
    obtain ⟨aB,cB,lb,e15v,hfb,hkb, -⟩:=hp15
    have e15:sx 15=.slice aB lb.length cB:=(hsx 15).trans e15v
    have HFB:=Lib.hid hfb;have HKB:=Lib.hid hkb
    clear e15v hfb hkb
    rw [hsA]
    simp only [List.foldl]
    simp only [Act.put,List.setIfInBounds_toArray,List.set_cons_succ,List.set_cons_zero]
    clear hsA hsx hv hbase hsz hdf hf
    have HS14:Hid (Ext w8 W):=hS
    rw [e15]
    clear hS
    obtain ⟨w9,hw9⟩:∃ w9:World,w9=W:=⟨W,rfl⟩
    rw [← hw9] at HS14 HFB ⊢
    clear hw9
    have HX9:Hid (Ext wp w9):=Ext.trans HX8.out HS14.out
    have hll:=letsC_picks hL5.dis HPK.out
    rw [← HTX.out] at hll
    have hlet:=letters_ref_any 300 L t (some ⟨gL,0,none⟩) cL w9 (HLK.out w9 HX9.out).s (by omega) (HLK.out w9 HX9.out).bnd (by decide) hL5.dis (by omega)
    rw [hll] at hlet
    have HLET:=Lib.hid hlet
    have hsum:sumP P≤1500:=by
     have h1:=letsC_le (HLK.out w9 HX9.out).bnd hll
     rw [bts_len] at h1
     have h2:t.size*300≤5*300:=Nat.mul_le_mul_right _ hts
     omega
    have HCV:=Lib.hid (covers_typ hL5.dis HPK.out HPL.out HKA.out.toFndOk (by rw [← HTB.out];exact HKB.out.toFndOk))
    have hlbl:=fnd_lenH HKB.out.toFndOk
    rw [List.length_map] at hlbl
    have HFA9:=Lib.hid (HFA.out w9 (Ext.trans HXR.out HS14.out))
    clear hll hlet
    go_wp2_with fail
    refine HLET.out.mono ?_
    rintro e w10 ⟨rfl,hb10⟩
    have HX10:Hid (Ext w9 w10):=hb10
    clear hb10 HLET
    go_wp2_with fail
    refine (covers_any la lb aA aB cA cB (sumP P) w10 (HFA9.out.kp (Kc.of HX10.out (Nat.le_refl _))) (HFB.out.kp (Kc.of HX10.out (Nat.le_refl _))) (by omega) (by omega) HKA.out.low HKB.out.low (by omega) HCV.out).mono ?_
    rintro e w11 ⟨rfl,hb11⟩
    have HX11:Hid (Ext wp w11):=Ext.trans HX9.out (Ext.trans HX10.out hb11)
    have HFA11:=Lib.hid ((HFA9.out.kp (Kc.of HX10.out (Nat.le_refl _))).kp (Kc.of hb11 (Nat.le_refl _)))
    clear hb11 HFA9 HX10 HX9 HS14 HCV
    by_cases hL0:L.length=0
    ·
     have hL0I:((L.length:Int) == 0)=true:=by rw [hL0];rfl
     go_wp2_with fail
     go_ret
     exact ⟨rfl,Ext.trans HWP.out HX11.out⟩
    ·
     have hL0I:((L.length:Int) == 0)=false:=by rw [beq_eq_false_iff_ne];omega
     obtain ⟨k,hmod,hk,hnz⟩:=tmod_natH kn L.length k0 (by omega)
     have hsl4:=hL5.len
     have hLLl:LL.length=L.length:=(HLG.out wp (Ext.refl _)).len
     have HLLl:=Lib.hid hLLl
     have HOE:Hid (OwnG rowSlts (w11.alloc (.cells #[] 53)) w11.heap.size (.slice (some ⟨w11.heap.size,0,none⟩) 0 0) []):=OwnG.empty rowSlts (heap_alloc_new _ _) (Nat.le_refl _)
     have HA0:Hid (Ext w11 (w11.alloc (.cells #[] 53))):=(Below.refl _ _).alloc (Nat.le_refl _) _
     have HCE:=Lib.hid (cells_take (HLG.out _ (Ext.trans HX11.out HA0.out)).own LL.length)
     rw [List.take_length] at HCE
     go_upto_region 20 with (at_builtin;go_loud (refine wpList_append_g (v:=.slice (some ⟨w11.heap.size,0,none⟩) 0 0) rowSlts_ok rfl _ _ rfl rfl HOE.out ⟨gL,0,none⟩ cL LL (by rw [HLLl.out];rfl) HCE.out (by have:=HLLl.out;simp only [List.length_nil];omega) (by simp only [World.size_alloc];omega) ?_);intro v17 w17 hown7 hgrow7 hat7;have HO7:=Lib.hid hown7;have HG7:=Lib.hid hgrow7;clear hown7 hgrow7 hat7)
     have HX17:Hid (Ext w11 w17):=Below.grown HA0.out HG7.out HA0.out.size fun q hq=>HOE.out.ge q hq
     obtain ⟨g7,c7,rfl⟩:∃ g7 c7,v17=.slice (some ⟨g7,0,none⟩) L.length c7:=by
      rcases HO7.out.blk with ⟨_,e⟩ | ⟨g,c,e,_⟩
      · have h9:=congrArg List.length e;rw [List.nil_append,List.length_nil] at h9;omega
      · rw [List.nil_append,HLLl.out] at e;exact ⟨g,c,e⟩
     have HO7b:Hid (OwnG rowSlts w17 w11.heap.size (.slice (some ⟨g7,0,none⟩) L.length c7) LL):=HO7.out
     clear HOE HCE HG7 HO7 HA0
     go_upto_region 21 with fail
     clear hmod hnz hL0I
     have hkL:k<LL.length:=by omega
     obtain ⟨s,hs⟩:∃ s,L[k]=s:=⟨_,rfl⟩
     have hsm:s∈L:=by rw [← hs];exact List.getElem_mem hk
     have hs3:s.length≤256:=by
      have h1:(s.map fun h=>h.key.toNat).Nodup:=by
       unfold List.Nodup;rw [List.pairwise_map]
       exact (hL5.dis s hsm).imp fun h e=>h (UInt8.toNat_inj.1 e)
      have h2:=nodup_bound 256 _ h1 fun z hz=>by obtain ⟨h,_,rfl⟩:=List.mem_map.1 hz;exact h.key.toNat_lt
      rwa [List.length_map] at h2
     have hs0:0<s.length:=List.length_pos_iff.2 (hL5.ne s hsm)
     have hel:=(HLG.out wp (Ext.refl _)).el k _ s (List.getElem?_eq_getElem hkL) (by rw [List.getElem?_eq_getElem hk,hs])
     obtain ⟨gk,ck,hsv⟩:∃ gk ck,svS LL[k]=.slice (some ⟨gk,0,none⟩) s.length ck:=by
      rcases OwnG.blk hel with ⟨_,e⟩ | ⟨g,c,e,_⟩
      · rw [e] at hs0;exact absurd hs0 (Nat.lt_irrefl _)
      · exact ⟨g,c,e⟩
     have HSV:=Lib.hid hsv;have HSS:=Lib.hid hs
     have HX17p:Hid (Ext wp w17):=Ext.trans HX11.out HX17.out
     have hw8:Ext w17 (w17.alloc (.cells #[] 55)):=(Below.refl _ _).alloc (Nat.le_refl _) _
     have hcl:(w17.alloc (.cells #[] 55)).cell? ⟨gL,k,none⟩=some (.slice (some ⟨gk,0,none⟩) s.length ck):=by
      have h:=(HLG.out _ (Ext.trans HX17p.out hw8)).own.cell rowSlts_ok hkL (j:=0) (by decide)
      have e1:k*rowSlts.k+0=k:=by show k*1+0=_;omega
      rw [e1] at h
      have h2:(w17.alloc (.cells #[] 55)).cell? ⟨gL,k,none⟩=some (svS LL[k]):=h
      rw [hsv] at h2
      exact h2
     have hix:=idx_slts gL L.length cL k hk
     have hix7:=idx_slts g7 L.length c7 k hk
     have HOC:Hid (OwnG rowCh (w17.alloc (.cells #[] 55)) w11.heap.size (.slice (some ⟨w17.heap.size,0,none⟩) 0 0) []):=OwnG.empty rowCh (heap_alloc_new _ _) HX17.out.size
     have HCC:Hid (∀ j u,(s.flatMap rowCh.enc)[j]? = some u→(w17.alloc (.cells #[] 55)).cell? ((⟨gk,0,none⟩:Addr).add j)=some u):=by
      have h:=OwnG.later hel (Ext.trans HX17p.out hw8) (Nat.le_refl _)
      have h1:OwnG rowCh (w17.alloc (.cells #[] 55)) 0 (.slice (some ⟨gk,0,none⟩) s.length ck) s:=by rw [← hsv];exact h
      have h2:=cells_take h1 s.length
      rwa [List.take_length] at h2
     have HX18:=Lib.hid hw8
     have HB7:Hid (w11.heap.size≤w17.heap.size):=HX17.out.size
     clear hs hsm hel hsv hw8
     go_upto_region 22 with (at_builtin;first | (refine wpList_append_g (v:=.slice (some ⟨w17.heap.size,0,none⟩) 0 0) rowCh_ok rfl _ _ rfl rfl HOC.out ⟨gk,0,none⟩ ck s rfl HCC.out (by simp only [List.length_nil];omega) (by have:=HB7.out;simp only [World.size_alloc];omega) ?_;intro v18 w18 hown8 hgrow8 hat8;obtain ⟨g8,c8,hv8⟩:=own_someH (L:=s) hown8 hs0;subst hv8;have HO8:Hid (OwnG rowCh w18 w11.heap.size (.slice (some ⟨g8,0,none⟩) s.length c8) s):=hown8;have HG8:=Lib.hid hgrow8;have HR8:=Lib.hid (row_kept HO7b.out HX18.out HG8.out);have HW8:Hid (Ext w11 w18):=Below.grown (Ext.trans HX17.out HX18.out) HG8.out (by have:=HB7.out;simp only [World.size_alloc];omega) fun q hq=>HOC.out.ge q hq;have HO8b:=Lib.hid (one_more HO8.out);clear hown8 hgrow8 hat8) | (refine wpList_append_g (v:=.slice (some ⟨g8,0,none⟩) s.length c8) rowCh_ok rfl _ _ rfl rfl HO8b.out.1 ⟨w18.heap.size,0,none⟩ 1 [⟨100,3⟩] rfl HO8b.out.2.1 (by simp only [List.length_cons,List.length_nil];omega) (by have:=HW8.out.size;simp only [World.size_alloc];omega) ?_;intro v19 w19 hown9 hgrow9 hat9;obtain ⟨g9,c9,hv9⟩:=own_someH (L:=s ++ [⟨100,3⟩]) hown9 (by simp);rw [List.length_append] at hv9;subst hv9;have HO9:Hid (OwnG rowCh w19 w11.heap.size (.slice (some ⟨g9,0,none⟩) (s.length+1) c9) (s ++ [⟨100,3⟩])):=hown9;have HG9:=Lib.hid hgrow9;obtain ⟨hr9,hcl9,hfz9,cs9,hcs9⟩:=row_kept2 HR8.out HO8.out HO8b.out.2.2 HG9.out hkL HSV.out;have HR9:=Lib.hid hr9;have HCS9:=Lib.hid hcs9;have HW9:Hid (Ext w11 w19):=Below.grown (Ext.trans HW8.out HO8b.out.2.2) HG9.out (by have:=HW8.out.size;simp only [World.size_alloc];omega) fun q hq=>HO8.out.ge q hq;clear hown9 hgrow9 hat9 hcs9 hr9))
     have HXT:Hid (Ext w11 (w19.setCell ⟨g7,k,none⟩ (.slice (some ⟨g9,0,none⟩) (s.length+1) c9))):=HW9.out.setCell (show w11.heap.size≤g7 from HR9.out.ge g7 rfl) _
     have HXZ:=Lib.hid (Ext.trans HX11.out HXT.out)
     have HMR:Hid (SltsR (w19.setCell ⟨g7,k,none⟩ (.slice (some ⟨g9,0,none⟩) (s.length+1) c9)) w11.heap.size (.slice (some ⟨g7,0,none⟩) L.length c7) (LL.set k ⟨some ⟨g9,0,none⟩,s.length+1,c9⟩) (moreL L k ⟨100,3⟩)):=by
      refine ⟨HR9.out.setCell (by simp) ?_ (by show k<LL.length*1;omega) rowSlts_ok,by rw [List.length_set,moreL_len];exact hLLl,fun j x t h1 h2=>?_⟩
      · rw [flat_sltsH,flat_sltsH,List.map_set];rfl
      ·
       have hg:=HLG.out _ HXZ.out
       unfold moreL at h2
       rw [List.getElem?_modify] at h2
       rw [List.getElem?_set] at h1
       by_cases e:k=j
       ·
        subst e
        rw [if_pos rfl,if_pos hkL] at h1
        cases h1
        rw [List.getElem?_eq_getElem hk,HSS.out] at h2
        simp at h2
        subst h2
        refine ElS.of (B:=w11.heap.size) ?_
        have h:=OwnG.keep HO9.out fun q hq=>Below.heap_setCell w19 ⟨g7,k,none⟩ (.slice (some ⟨g9,0,none⟩) (s.length+1) c9) q (by
         show q≠g7
         intro e
         obtain ⟨cs2,h2⟩:=ownG_obj HO9.out hq
         rw [e,HCS9.out] at h2
         injection h2 with h2
         injection h2 with _ h3
         exact absurd h3 (by decide))
        exact h
       ·
        rw [if_neg e] at h1
        have h3:L[j]? = some t:=by
         cases e2:L[j]? with
         | none=>rw [e2] at h2;simp at h2
         | some u=>rw [e2] at h2;simp [e] at h2;rw [h2]
        exact hg.el j x t h1 h3
     obtain ⟨wz,hwz⟩:∃ wz:World,w19.setCell ⟨g7,k,none⟩ (.slice (some ⟨g9,0,none⟩) (s.length+1) c9)=wz:=⟨_,rfl⟩
     rw [hwz] at HXT HXZ HMR ⊢
     clear hwz HO9 HG9 HR9 HCS9 HW9 HO8 HG8 HR8 HW8 HO8b HOC HCC hcl hix hix7 HX18 HB7 HO7b HX17 HX17p HSV HSS hcl9 hfz9
     have HDK:Hid (SlkS wz (some ⟨g7,0,none⟩) c7 (moreL L k ⟨100,3⟩)):=by
      refine (SlkS.of ⟨_,HMR.out⟩ (by rw [moreL_len];omega) (fun t ht h hh=>?_) fun t ht=>?_).1
      ·
       obtain ⟨u,hu,rfl | rfl⟩:=moreL_mem ht
       · have:=hL5.bnd _ hu h hh;omega
       ·
        rcases List.mem_append.1 hh with h1 | h1
        · have:=hL5.bnd _ hu h h1;omega
        ·
         obtain rfl:=List.mem_singleton.1 h1
         exact ⟨by decide,by decide⟩
      ·
       obtain ⟨u,hu,rfl | rfl⟩:=moreL_mem ht
       · exact hL5.dis _ hu
       ·
        refine List.pairwise_append.2 ⟨hL5.dis _ hu,List.pairwise_singleton _ _,fun h1 h2 h3 h4 e=>?_⟩
        obtain rfl:=List.mem_singleton.1 h4
        have h5:=hL5.keys _ hu h1 h2
        rw [e] at h5
        exact absurd h5.2 (by decide)
     have HFAz:=Lib.hid (HFA11.out.kp (Kc.of HXT.out (Nat.le_refl _)))
     obtain ⟨d0,d1,d2⟩:=sch_cells (HSC.out wz (Ext.trans HP4.out HXZ.out))
     have hwd:=words_l (HSM.out wz (Ext.trans HP4.out HXZ.out)) (HAU.out wz (Ext.trans HP6.out HXZ.out)) (by omega) HDK.out
     rw [moreL_len] at hwd
     have HWD:=Lib.hid hwd
     clear hwd HMR
     go_wp2_with fail
     clear d0 d1 d2
     refine HWD.out.mono ?_
     rintro e w20 hp
     obtain ⟨v20,rfl,⟨am,cm,lm,rfl,hfm,hkm, -⟩,hb20⟩:=fnS_of hp
     have HX20:Hid (Ext wz w20):=hb20
     have HCM:=Lib.hid (covers_more hkm.toFndOk HKA.out.toFndOk)
     have HFM:=Lib.hid hfm;have HKM:=Lib.hid hkm
     have hlml:=fnd_lenH hkm.toFndOk
     rw [List.length_map] at hlml
     clear hp hfm hkm hb20
     go_wp2_with fail
     refine (covers_any lm la am aA cm cA 0 w20 HFM.out (HFAz.out.kp (Kc.of HX20.out (Nat.le_refl _))) (by omega) (by omega) HKM.out.low HKA.out.low (by omega) HCM.out).mono ?_
     rintro e w21 ⟨rfl,hb21⟩
     have HX21:Hid (Ext w20 w21):=hb21
     clear hb21
     go_wp2_with fail
     go_ret
     exact ⟨rfl,Ext.trans HWP.out (Ext.trans HXZ.out (Ext.trans HX20.out HX21.out))⟩
end Go.Proofs.YthjmdgejnakcmaaGreatDoor
