/- Texts that the claims share: KV, KP, KL0. -/
import Derived.Test.YthjmdgejnakcmaaGreatDoorMF5
import Derived.Test.YthjmdgejnakcmaaGreatDoorMD6
import Derived.Test.YthjmdgejnakcmaaGreatDoorMK1
import Derived.Test.YthjmdgejnakcmaaGreatDoorMK6
namespace Go.Proofs.YthjmdgejnakcmaaGreatDoor
set_option linter.unusedVariables false
set_option linter.unusedSimpArgs false
open Go.ChangeShapes Go.WideShapes Go.ChangeAt Go.RowKit Fl
structure CaseA where
 raw:Raw2A
 W:BytsA
 L:BytA
def CaseA.val (x:CaseA):Value:=.agg #[.int .u8 x.raw.M,.int .u8 x.raw.A,.slice x.raw.a x.raw.len x.raw.cap,.slice x.W.a x.W.len x.W.cap,.slice x.L.a x.L.len x.L.cap]
structure CaseOk (w:World) (x:CaseA):Prop where
 raw:Raw2Ok w x.raw
 W:BytsOk w x.W
 L:BytOk w x.L
section
variable {H:Type} {enc:TypeId × Value→H} {w:World} {base:Nat} {spare:Nat→Bool} {held:Bool} {d:DataW H} {p:List MemPlace} {r:Reach} {b0:Nat} {v:Value}
end
end Go.Proofs.YthjmdgejnakcmaaGreatDoor
namespace Go.Proofs.YthjmdgejnakcmaaGreatDoor
open Go.RowKit Go.WideShapes Fl
set_option linter.unusedVariables false
set_option linter.unusedSimpArgs false
theorem letsC_take:∀ {L:List Slt} {r:List UInt8} {n:Nat},r.length≤n→letsC (L.take n) r=letsC L r
 | L,[],n,_=>by rw [letsC_nil,letsC_nil]
 | [],c :: r,n,_=>by simp
 | s :: L,c :: r,0,h=>by simp at h
 | s :: L,c :: r,n+1,h=>by
  simp only [List.take_succ_cons,letsC]
  rw [letsC_take (L:=L) (r:=r) (n:=n) (by simpa using h)]
theorem rts_take {R:List Rl} {L:List Slt} {j:Nat} {i m:Nat} {o:List UInt8} {c:Nat} (h:RtS R L i m o c):i≤j→RtS R (L.take j) i m o c:=by
 induction h with
 | start=>intro _;exact .start
 | @step i m o c k r h1 hr hf hm hk ih =>
  intro hj
  refine .step (ih (by omega)) hr hf hm ?_
  rw [List.drop_take,letsC_take (by rw [bts_len];omega)]
  exact hk
theorem rts_untake {R:List Rl} {L:List Slt} {j:Nat} {i m:Nat} {o:List UInt8} {c:Nat} (h:RtS R (L.take j) i m o c):RtS R L i m o c:=by
 induction h with
 | start=>exact .start
 | @step i m o c k r h1 hr hf hm hk ih =>
  refine .step ih hr hf hm ?_
  have hl:=letsC_len hk
  rw [List.length_drop,List.length_take] at hl
  by_cases h0:(bts r.inp).length=0
  ·
   have:bts r.inp=[]:=List.eq_nil_of_length_eq_zero h0
   rw [this,letsC_nil] at hk ⊢
   exact hk
  ·
   rw [List.drop_take,letsC_take (by omega)] at hk
   exact hk
theorem whole_take {R:List Rl} {acc:Int} {L L':List Slt} {i:Nat} (h:L.take i=L'.take i) {w:List UInt8} {c:Nat}:Whole R acc L i w c↔Whole R acc L' i w c:=by
 constructor
 ·
  rintro ⟨m,ha,hr⟩
  have h1:=rts_take hr (Nat.le_refl i)
  rw [h] at h1
  exact ⟨m,ha,rts_untake h1⟩
 ·
  rintro ⟨m,ha,hr⟩
  have h1:=rts_take hr (Nat.le_refl i)
  rw [← h] at h1
  exact ⟨m,ha,rts_untake h1⟩
def goneF (g:Nat) (l:List (Nat × Nat)):List (Nat × Nat):=(l.filter fun p=>decide (p.1≠g)).map fun p=>(if p.1 > g then p.1 - 1 else p.1,p.2)
theorem
    gone_ok {R:List Rl} {acc:Int} {L:List Slt} {W:List (List UInt8)} {i g:Nat} {l:List (Nat × Nat)} (h:FndOk R acc L W i l) (hg:g<W.length):FndOk R acc L (W.eraseIdx g) i (goneF g l) where
 sorted:=by
  unfold goneF
  rw [List.pairwise_map]
  refine (h.sorted.filter _).imp_of_mem fun {a b} ha hb hlt=>?_
  have h1:=(List.mem_filter.1 ha).2
  have h2:=(List.mem_filter.1 hb).2
  simp only [ne_eq,decide_eq_true_eq] at h1 h2
  simp only
  split <;> split <;> omega
 mem
   k
    c:=by
  unfold goneF
  rw [List.mem_map]
  have hlen:(W.eraseIdx g).length=W.length - 1:=by rw [List.length_eraseIdx,if_pos hg]
  constructor
  ·
   rintro ⟨⟨k',c'⟩,hm,he⟩
   obtain ⟨h1,h2⟩:=List.mem_filter.1 hm
   simp only [ne_eq,decide_eq_true_eq] at h2
   simp only [Prod.mk.injEq] at he
   obtain ⟨he,rfl⟩:=he
   obtain ⟨hk,hl⟩:=(h.mem k' c').1 h1
   by_cases hlt:k' > g
   ·
    rw [if_pos hlt] at he
    refine ⟨by omega,?_⟩
    rw [List.getElem_eraseIdx,dif_neg (by omega)]
    have:k+1=k':=by omega
    simp only [this]
    exact hl
   ·
    rw [if_neg hlt] at he
    subst he
    refine ⟨by omega,?_⟩
    rw [List.getElem_eraseIdx,dif_pos (by omega)]
    exact hl
  ·
   rintro ⟨hk,hl⟩
   rw [List.getElem_eraseIdx] at hl
   by_cases hlt:k<g
   ·
    rw [dif_pos hlt] at hl
    refine ⟨(k,c),List.mem_filter.2 ⟨(h.mem k c).2 ⟨by omega,hl⟩,by simp;omega⟩,?_⟩
    simp only [Prod.mk.injEq,and_true]
    rw [if_neg (by omega)]
   ·
    rw [dif_neg hlt] at hl
    refine ⟨(k+1,c),List.mem_filter.2 ⟨(h.mem (k+1) c).2 ⟨by omega,hl⟩,by simp;omega⟩,?_⟩
    simp only [Prod.mk.injEq,and_true]
    rw [if_pos (by omega)]
    omega
def dearS (s:Slt) (b:Nat):Slt:=s.map fun h=>⟨h.key,h.cost+(b:Int)⟩
def dearL (L:List Slt) (k b:Nat):List Slt:=L.modify k fun s=>dearS s b
theorem letC_dear {s:Slt} {b:Nat} {c:UInt8} (hs:∀ h∈s,0≤h.cost):letC (dearS s b) c=(letC s c).map (·+b):=by
 unfold letC dearS
 rw [List.find?_map]
 have he:((fun h:Ch=>h.key == c) ∘ fun h:Ch=>(⟨h.key,h.cost+(b:Int)⟩:Ch))=fun h:Ch=>h.key == c:=rfl
 rw [he]
 cases e:s.find? (fun h:Ch=>h.key == c) with
 | none=>rfl
 | some h =>
  have:=hs h (List.mem_of_find?_eq_some e)
  simp only [Option.map_some,Option.some.injEq]
  omega
theorem letsC_dear {b:Nat}:∀ {L:List Slt} {r:List UInt8} {k:Nat},(∀ s∈L,∀ h∈s,0≤h.cost)→letsC (dearL L k b) r=(letsC L r).map (·+if k<r.length then b else 0)
 | L,[],k,_=>by rw [letsC_nil,letsC_nil];simp
 | [],c :: r,k,_=>by simp [dearL,letsC]
 | s
   :: L,c :: r,0,h=>by
  show letsC (dearS s b :: L) (c :: r)=_
  simp only [letsC]
  rw [letC_dear (h s List.mem_cons_self)]
  cases e:letC s c with
  | none=>simp
  | some x =>
   cases e2:letsC L r with
   | none=>simp
   | some y=>simp;omega
 | s
   :: L,c :: r,k+1,h=>by
  have ih:=letsC_dear (b:=b) (L:=L) (r:=r) (k:=k) fun s hs=>h s (List.mem_cons_of_mem _ hs)
  show letsC (s :: dearL L k b) (c :: r)=_
  simp only [letsC]
  rw [ih]
  cases e:letC s c with
  | none=>simp
  | some x =>
   cases e2:letsC L r with
   | none=>simp
   | some y=>simp;omega
theorem dearL_drop {L:List Slt} {k b i:Nat}:(dearL L k b).drop i=if k<i then L.drop i else dearL (L.drop i) (k - i) b:=by
 unfold dearL
 apply List.ext_getElem?
 intro j
 by_cases h:k<i
 ·
  rw [if_pos h,List.getElem?_drop,List.getElem?_drop,List.getElem?_modify]
  have e:¬ k=i+j:=by omega
  cases L[i+j]? <;> simp [e]
 ·
  rw [if_neg h,List.getElem?_drop,List.getElem?_modify,List.getElem?_modify,List.getElem?_drop]
  by_cases e:k=i+j
  ·
   have e2:k - i=j:=by omega
   cases L[i+j]? <;> simp [e,e2]
  ·
   have e2:¬ k - i=j:=by omega
   cases L[i+j]? <;> simp [e,e2]
theorem dearL_len {L:List Slt} {k b:Nat}:(dearL L k b).length=L.length:=by unfold dearL;rw [List.length_modify]
theorem
    rts_dear {R:List Rl} {L:List Slt} {k b:Nat} (hL:∀ s∈L,∀ h∈s,0≤h.cost) {i m:Nat} {o:List UInt8} {c:Nat} (h:RtS R L i m o c):RtS R (dearL L k b) i m o (c+if k<i then b else 0):=by
 induction h with
 | start=>exact .start
 | @step i m o c k2 r h1 hr hf hm hk ih =>
  have hstep:letsC ((dearL L k b).drop i) (bts r.inp)=some (k2+if i≤k∧k<i+r.inp.size then b else 0):=by
   rw [dearL_drop]
   by_cases hki:k<i
   · rw [if_pos hki,hk,if_neg (by omega)];rfl
   ·
    rw [if_neg hki,letsC_dear (fun s hs=>hL s (List.mem_of_mem_drop hs)),hk,bts_len]
    simp only [Option.map_some,Option.some.injEq,Nat.add_left_cancel_iff]
    by_cases h2:k<i+r.inp.size
    · rw [if_pos (by omega),if_pos (by omega)]
    · rw [if_neg (by omega),if_neg (by omega)]
  have h2:=RtS.step ih hr hf hm hstep
  have e:c+(if k<i then b else 0)+(r.cost.toNat+(k2+if i≤k∧k<i+r.inp.size then b else 0))=c+(r.cost.toNat+k2)+if k<i+r.inp.size then b else 0:=by
   by_cases hki:k<i
   · rw [if_pos hki,if_neg (by omega),if_pos (by omega)];omega
   ·
    rw [if_neg hki]
    by_cases h3:k<i+r.inp.size
    · rw [if_pos (by omega),if_pos h3];omega
    · rw [if_neg (by omega),if_neg h3];omega
  rw [e] at h2
  exact h2
theorem
    rts_undear {R:List Rl} {L:List Slt} {k b:Nat} (hL:∀ s∈L,∀ h∈s,0≤h.cost) {i m:Nat} {o:List UInt8} {c:Nat} (h:RtS R (dearL L k b) i m o c):∃ c',RtS R L i m o c'∧c=c'+if k<i then b else 0:=by
 induction h with
 | start=>exact ⟨0,.start,by rw [if_neg (Nat.not_lt_zero _)]⟩
 | @step i m o c k2 r h1 hr hf hm hk ih =>
  obtain ⟨c',h2,rfl⟩:=ih
  rw [dearL_drop] at hk
  by_cases hki:k<i
  ·
   rw [if_pos hki] at hk
   exact ⟨_,.step h2 hr hf hm hk,by rw [if_pos hki,if_pos (by omega)];omega⟩
  ·
   rw [if_neg hki,letsC_dear (fun s hs=>hL s (List.mem_of_mem_drop hs))] at hk
   cases e:letsC (L.drop i) (bts r.inp) with
   | none=>rw [e] at hk;cases hk
   | some y =>
    rw [e,bts_len] at hk
    simp only [Option.map_some,Option.some.injEq] at hk
    refine ⟨_,.step h2 hr hf hm e,?_⟩
    rw [if_neg hki]
    by_cases h3:k<i+r.inp.size
    · rw [if_pos (by omega)] at hk;rw [if_pos h3];omega
    · rw [if_neg (by omega)] at hk;rw [if_neg h3];omega
def plusF (b:Nat) (l:List (Nat × Nat)):List (Nat × Nat):=l.map fun p=>(p.1,p.2+b)
theorem dear_ok {R:List Rl} {acc:Int} {L:List Slt} {W:List (List UInt8)} {k b:Nat} {l:List (Nat × Nat)} (hL:∀ s∈L,∀ h∈s,0≤h.cost) (hk:k<L.length) (h:FndOk R acc L W L.length l):FndOk R acc (dearL L k b) W (dearL L k b).length (plusF b l):=by
 have hw:∀ w c,Whole R acc (dearL L k b) L.length w c↔∃ c',Whole R acc L L.length w c'∧c=c'+b:=fun w c=>by
  constructor
  ·
   rintro ⟨m,ha,hr⟩
   obtain ⟨c',h1,h2⟩:=rts_undear hL hr
   rw [if_pos hk] at h2
   exact ⟨c',⟨m,ha,h1⟩,h2⟩
  ·
   rintro ⟨c',⟨m,ha,hr⟩,rfl⟩
   have h1:=rts_dear (k:=k) (b:=b) hL hr
   rw [if_pos hk] at h1
   exact ⟨m,ha,h1⟩
 have hle:∀ w c,Least (Whole R acc (dearL L k b) L.length w) c↔∃ c',Least (Whole R acc L L.length w) c'∧c=c'+b:=fun w c=>by
  constructor
  ·
   rintro ⟨h1,h2⟩
   obtain ⟨c',h3,rfl⟩:=(hw w c).1 h1
   exact ⟨c',⟨h3,fun d hd=>by have:=h2 (d+b) ((hw w _).2 ⟨d,hd,rfl⟩);omega⟩,rfl⟩
  ·
   rintro ⟨c',⟨h1,h2⟩,rfl⟩
   exact ⟨(hw w _).2 ⟨c',h1,rfl⟩,fun d hd=>by obtain ⟨d',h3,rfl⟩:=(hw w d).1 hd;have:=h2 d' h3;omega⟩
 rw [dearL_len]
 refine ⟨?_,fun k2 c=>?_⟩
 ·
  unfold plusF
  rw [List.pairwise_map]
  exact h.sorted
 ·
  unfold plusF
  rw [List.mem_map]
  constructor
  ·
   rintro ⟨⟨k',c'⟩,hm,he⟩
   simp only [Prod.mk.injEq] at he
   obtain ⟨rfl,rfl⟩:=he
   obtain ⟨h1,h2⟩:=(h.mem k' c').1 hm
   exact ⟨h1,(hle _ _).2 ⟨c',h2,rfl⟩⟩
  ·
   rintro ⟨h1,h2⟩
   obtain ⟨c',h3,rfl⟩:=(hle _ _).1 h2
   exact ⟨(k2,c'),(h.mem k2 c').2 ⟨h1,h3⟩,rfl⟩
end Go.Proofs.YthjmdgejnakcmaaGreatDoor
namespace Go.Proofs.YthjmdgejnakcmaaGreatDoor
open Go.RowKit Go.WideShapes Fl
set_option linter.unusedVariables false
set_option linter.unusedSimpArgs false
theorem slotF_bnd {z:Int} (z0:0≤z):∀ h∈slotF z,0≤h.cost∧h.cost≤11:=fun h hh=>by
 unfold slotF slTo at hh
 obtain ⟨k,hk,rfl⟩:=List.mem_map.1 hh
 show 0≤(z / 7*(k:Int)) % 12∧(z / 7*(k:Int)) % 12≤11
 omega
theorem slotF_dis (z:Int):(slotF z).Pairwise fun a b=>a.key≠b.key:=by
 unfold slotF slTo
 rw [List.pairwise_map]
 refine (List.Pairwise.filter _ (List.pairwise_lt_range (n:=3))).imp_of_mem fun {a b} ha hb hlt=>?_
 have h1:=List.mem_range.1 (List.mem_filter.1 ha).1
 have h2:=List.mem_range.1 (List.mem_filter.1 hb).1
 intro e
 have e2:(UInt8.ofNat (97+a)).toNat=(UInt8.ofNat (97+b)).toNat:=congrArg UInt8.toNat e
 rw [UInt8.toNat_ofNat',UInt8.toNat_ofNat'] at e2
 omega
theorem slotF_keys (z:Int):∀ h∈slotF z,97≤h.key.toNat∧h.key.toNat≤99:=fun h hh=>by
 unfold slotF slTo at hh
 obtain ⟨k,hk,rfl⟩:=List.mem_map.1 hh
 have h1:=List.mem_range.1 (List.mem_filter.1 hk).1
 show 97≤(UInt8.ofNat (97+k)).toNat∧(UInt8.ofNat (97+k)).toNat≤99
 rw [UInt8.toNat_ofNat']
 omega
theorem slotF_ne {z:Int} (z0:0≤z):slotF z≠[]:=fun e=>by
 have h:=congrArg List.length e
 unfold slotF slTo at h
 rw [List.length_map] at h
 have h1:z % 7=0∨z % 7=1∨z % 7=2∨z % 7=3∨z % 7=4∨z % 7=5∨z % 7=6:=by omega
 have h3:List.range 3=[0,1,2]:=rfl
 rw [h3] at h
 rcases h1 with h1 | h1 | h1 | h1 | h1 | h1 | h1 <;> simp [slHas,h1,List.filter_cons] at h
structure SltF (L:List Slt):Prop where
 len:L.length≤5
 bnd:∀ s∈L,∀ h∈s,0≤h.cost∧h.cost≤11
 dis:DisL L
 keys:∀ s∈L,∀ h∈s,97≤h.key.toNat∧h.key.toNat≤99
 ne:∀ s∈L,s≠[]
theorem slotsF_ok {Z:Nat→Int} {n:Nat} (hn:n≤5) (hZ:∀ i,i<n→0≤Z i):SltF (slotsF Z n):=by
 have hm:∀ s∈slotsF Z n,∃ i,i<n∧s=slotF (Z i):=fun s hs=>by
  obtain ⟨i,hi,rfl⟩:=List.mem_map.1 hs
  exact ⟨i,List.mem_range.1 hi,rfl⟩
 refine ⟨by rw [slotsF_len];exact hn,fun s hs=>?_,fun s hs=>?_,fun s hs=>?_,fun s hs=>?_⟩
 · obtain ⟨i,hi,rfl⟩:=hm s hs;exact slotF_bnd (hZ i hi)
 · obtain ⟨i,hi,rfl⟩:=hm s hs;exact slotF_dis _
 · obtain ⟨i,hi,rfl⟩:=hm s hs;exact slotF_keys _
 · obtain ⟨i,hi,rfl⟩:=hm s hs;exact slotF_ne (hZ i hi)
theorem slots_out {w w0:World} {B:Nat} {v:Value} {Z:Nat→Int} {a:Option Addr} {n m:Nat} (hZ:IsBytes w0 a n Z) (hm:m≤n) (hm5:m≤5) (h:SltsG w B v (slotsF Z m)) (hnn:v≠.slice none 0 0):∃ L gL cL,v=.slice (some ⟨gL,0,none⟩) L.length cL∧SlkS w (some ⟨gL,0,none⟩) cL L∧SltF L∧SltsG w B (.slice (some ⟨gL,0,none⟩) L.length cL) L:=by
 have hok:SltF (slotsF Z m):=slotsF_ok hm5 fun i hi=>by
  obtain ⟨b,o,_,_,_,h1,_⟩:=hZ.at (k:=i) (by omega)
  exact h1
 obtain ⟨Ls,hr⟩:=id h
 rcases hr.own.blk with ⟨e,_⟩ | ⟨g,c,e,_⟩
 · exact absurd e hnn
 ·
  rw [hr.len] at e
  subst e
  exact ⟨_,g,c,rfl,(SlkS.of h (by have:=hok.len;omega) (fun s hs x hx=>⟨(hok.bnd s hs x hx).1,by have:=(hok.bnd s hs x hx).2;omega⟩) hok.dis).1,hok,h⟩
theorem slice_slts_low (a:Addr) (n cap k:Nat) (hk:k≤n) (hn:n≤cap) (w:World) :
  (Instr.slice 39 (.slice (some a) n cap) none (some (.int .i64 (k:Int))) none).run Tryz.prog w=.ok (.slice (some a) k cap) w:=by
 have h0:(0:Int)≤(k:Int):=by omega
 have h1:(k:Int)≤(cap:Int):=by omega
 simp [go_sem,Instr.slice,Instr.sliceBounds,Instr.sliceBound,asIntOf,h0,h1];intro h;omega
theorem cells_take {α:Type} {T:RowT α} {w:World} {B g n c:Nat} {Ls:List α} (h:OwnG T w B (.slice (some ⟨g,0,none⟩) n c) Ls) (k:Nat) :
  ∀ j u,((Ls.take k).flatMap T.enc)[j]? = some u→w.cell? ((⟨g,0,none⟩:Addr).add j)=some u:=fun j u hj=>by
 refine World.ownsRow.cells (g:=g) h rfl j u ?_
 have e:Ls.flatMap T.enc=(Ls.take k).flatMap T.enc ++ (Ls.drop k).flatMap T.enc:=by rw [← List.flatMap_append,List.take_append_drop]
 rw [e,List.getElem?_append_left (List.getElem?_eq_some_iff.1 hj).1]
 exact hj
theorem SltsR.take {w:World} {B:Nat} {v:Value} {Ls:List SV} {L:List Slt} (h:SltsR w B v Ls L) (k:Nat):(Ls.take k).length=(L.take k).length∧∀ (j:Nat) (x:SV) (s:Slt),(Ls.take k)[j]? = some x→(L.take k)[j]? = some s→ElS w x s:=by
 refine ⟨by rw [List.length_take,List.length_take,h.len],fun j x s h1 h2=>?_⟩
 rw [List.getElem?_take] at h1 h2
 split at h1
 · rename_i hj;rw [if_pos hj] at h2;exact h.el j x s h1 h2
 · cases h1
theorem SltsR.app {w w':World} {B B':Nat} {v v':Value} {Ls Ms:List SV} {L M:List Slt} (h:SltsR w B v Ls L) (ho:OwnG rowSlts w' B' v' (Ls ++ Ms)) (hg:w.grownBy w' v.ownBlock) (hl:Ms.length=M.length) (hx:∀ (j:Nat) (x:SV) (s:Slt),Ms[j]? = some x→M[j]? = some s→ElS w x s):SltsR w' B' v' (Ls ++ Ms) (L ++ M):=by
 have hk:∀ {y t},ElS w y t→ElS w' y t:=fun {y t} hy=>hy.keep h.own fun q hq hne=>hg.block q hq (Ne.symm hne)
 refine ⟨ho,by simp [h.len,hl],fun k y t h1 h2=>?_⟩
 have hll:=h.len
 by_cases hlt:k<Ls.length
 ·
  rw [List.getElem?_append_left hlt] at h1
  rw [List.getElem?_append_left (by omega)] at h2
  exact hk (h.el k y t h1 h2)
 ·
  rw [List.getElem?_append_right (by omega)] at h1
  rw [List.getElem?_append_right (by omega)] at h2
  rw [hll] at h1
  exact hk (hx _ y t h1 h2)
theorem SltF.take {L:List Slt} (h:SltF L) (k:Nat):SltF (L.take k) :=
 ⟨by rw [List.length_take];have:=h.len;omega,fun s hs=>h.bnd s (List.mem_of_mem_take hs),fun s hs=>h.dis s (List.mem_of_mem_take hs),fun s hs=>h.keys s (List.mem_of_mem_take hs),fun s hs=>h.ne s (List.mem_of_mem_take hs)⟩
end Go.Proofs.YthjmdgejnakcmaaGreatDoor
