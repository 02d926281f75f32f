/- Texts that the claims share: K8, K9, K10. -/
import Derived.Deep.LoopGhost
import Derived.Laws.BitsAllLaws
import Derived.Test.YthjmdgejnakcmaaGreatDoorMK2
import Derived.Test.YthjmdgejnakcmaaGreatDoorMK3
namespace Go.Proofs.YthjmdgejnakcmaaGreatDoor
open Go.RowKit Go.WideShapes Fl
set_option linter.unusedVariables false
set_option linter.unusedSimpArgs false
def wordT (T:List Bn) (n:Nat):Int:=match T[n]? with | none=>-1 | some b=>b.word
def Lst (T:List Bn) (acc:Int) (P:List (Stt × Nat)) (k c:Nat):Prop:=Least (fun d=>∃ t,(t,d)∈P∧wordT T t.2=(k:Int)∧accB acc t.1=true) c
structure LeaM (T:List Bn) (acc:Int) (P:List (Stt × Nat)) (E:List (Nat × Nat)):Prop where
 keys:KeysN E
 iff:∀ k c,look E k=some c↔Lst T acc P k c
section
variable {T:List Bn} {acc:Int} {P:List (Stt × Nat)} {E:List (Nat × Nat)} {t:Stt} {c k:Nat}
theorem LeaM.nil (T:List Bn) (acc:Int):LeaM T acc [] []:=⟨List.Pairwise.nil,fun k c=>⟨fun h=>(by cases h),fun h=>(by obtain ⟨t,h1,_⟩:=h.1;cases h1)⟩⟩
theorem
    LeaM.skip (h:LeaM T acc P E) (hn:¬ (∃ k:Nat,wordT T t.2=(k:Int)∧accB acc t.1=true)):LeaM T acc ((t,c) :: P) E :=
 ⟨h.keys,fun k d=>by
  rw [h.iff]
  have e:∀ d,(∃ u,(u,d)∈(t,c) :: P∧wordT T u.2=(k:Int)∧accB acc u.1=true)↔∃ u,(u,d)∈P∧wordT T u.2=(k:Int)∧accB acc u.1=true:=fun d=>by
   constructor
   ·
    rintro ⟨u,h1,h2⟩
    rcases List.mem_cons.1 h1 with e | h1
    ·
     injection e with e1 e2
     subst e1
     exact absurd ⟨k,h2⟩ hn
    · exact ⟨u,h1,h2⟩
   · rintro ⟨u,h1,h2⟩;exact ⟨u,List.mem_cons_of_mem _ h1,h2⟩
  exact ⟨fun h9=>h9.congr fun d=>(e d).symm,fun h9=>h9.congr e⟩⟩
theorem
    LeaM.hit (h:LeaM T acc P E) (hw:wordT T t.2=(k:Int)) (ha:accB acc t.1=true) {E':List (Nat × Nat)} (hk:KeysN E') {b:Nat}
  (h1:∀ j,j≠k→look E' j=look E j) (h2:look E' k=some b) (h3:b≤c) (h4:∀ d,look E k=some d→b≤d) (h5:b=c∨look E k=some b):LeaM T acc ((t,c) :: P) E' :=
 ⟨hk,fun j d=>by
  have e:∀ d,(∃ u,(u,d)∈(t,c) :: P∧wordT T u.2=(j:Int)∧accB acc u.1=true)↔(j=k∧d=c)∨∃ u,(u,d)∈P∧wordT T u.2=(j:Int)∧accB acc u.1=true:=fun d=>by
   constructor
   ·
    rintro ⟨u,h6,h7,h8⟩
    rcases List.mem_cons.1 h6 with e | h6
    ·
     injection e with e1 e2
     subst e1
     refine .inl ⟨?_,e2⟩
     rw [hw] at h7;omega
    · exact .inr ⟨u,h6,h7,h8⟩
   ·
    rintro (⟨rfl,rfl⟩ | ⟨u,h6,h7⟩)
    · exact ⟨t,List.mem_cons_self,hw,ha⟩
    · exact ⟨u,List.mem_cons_of_mem _ h6,h7⟩
  by_cases hj:j=k
  ·
   subst
      hj
   have hl:Lst T acc ((t,c) :: P) j b:=by
    refine ⟨(e b).2 ?_,fun d hd=>?_⟩
    ·
     rcases h5 with h5 | h5
     · exact .inl ⟨rfl,h5⟩
     · exact .inr ((h.iff j b).1 h5).1
    ·
     rcases (e d).1 hd with ⟨_,rfl⟩ | h9
     · exact h3
     ·
      obtain ⟨b2,hb2⟩:=least_ex (p:=fun d=>∃ u,(u,d)∈P∧wordT T u.2=(j:Int)∧accB acc u.1=true) ⟨d,h9⟩
      exact Nat.le_trans (h4 b2 ((h.iff j b2).2 hb2)) (hb2.2 d h9)
   rw [h2]
   exact ⟨fun h9=>by injection h9 with h9;rw [← h9];exact hl,fun h9=>by rw [hl.uniq h9]⟩
  ·
   rw [h1 j hj,h.iff]
   have e2:∀ d,(∃ u,(u,d)∈(t,c) :: P∧wordT T u.2=(j:Int)∧accB acc u.1=true)↔∃ u,(u,d)∈P∧wordT T u.2=(j:Int)∧accB acc u.1=true:=fun d=>by
    rw [e d]
    exact ⟨fun h9=>h9.resolve_left fun h8=>hj h8.1,.inr⟩
   exact ⟨fun h9=>h9.congr fun d=>(e2 d).symm,fun h9=>h9.congr e2⟩⟩
theorem LeaM.put (h:LeaM T acc P E) (hw:wordT T t.2=(k:Int)) (ha:accB acc t.1=true) (hlt:∀ d,look E k=some d→c<d):LeaM T acc ((t,c) :: P) (putE E k c) :=
 h.hit hw ha (h.keys.put k c) (fun j hj=>by rw [look_put,if_neg fun e=>hj e.symm]) (by rw [look_put,if_pos rfl]) (Nat.le_refl _) (fun d hd=>Nat.le_of_lt (hlt d hd)) (.inl rfl)
theorem LeaM.same (h:LeaM T acc P E) (hw:wordT T t.2=(k:Int)) (ha:accB acc t.1=true) {old:Nat} (ho:look E k=some old) (hle:old≤c):LeaM T acc ((t,c) :: P) E :=
 h.hit hw ha h.keys (fun _ _=>rfl) ho hle (fun d hd=>by rw [ho] at hd;injection hd with hd;omega) (.inr ho)
end
structure FndE (T:List Bn) (acc:Int) (P:List (Stt × Nat)) (l:List (Nat × Nat)):Prop where
 sorted:l.Pairwise fun a b=>a.1<b.1
 mem:∀ k c,(k,c)∈l↔Lst T acc P k c
theorem fnd_of {T:List Bn} {acc:Int} {P P':List (Stt × Nat)} {E:List (Nat × Nat)} {ks:List Nat} (h:LeaM T acc P E) (hP:∀ p,p∈P↔p∈P') (hs:ks.Pairwise (·<·)) (hm:∀ k,k∈ks↔(look E k).isSome=true) :
  FndE T acc P' (ks.map fun k=>(k,(look E k).getD 0)) where
 sorted:=by rw [List.pairwise_map];exact hs
 mem
   k c:=by
  rw [List.mem_map]
  have e:∀ d,(∃ u,(u,d)∈P∧wordT T u.2=(k:Int)∧accB acc u.1=true)↔∃ u,(u,d)∈P'∧wordT T u.2=(k:Int)∧accB acc u.1=true:=fun d =>
   ⟨fun ⟨u,h1,h2⟩=>⟨u,(hP _).1 h1,h2⟩,fun ⟨u,h1,h2⟩=>⟨u,(hP _).2 h1,h2⟩⟩
  constructor
  ·
   rintro ⟨j,hj,e9⟩
   injection e9 with e1 e2
   subst e1
   obtain ⟨d,hd⟩:=Option.isSome_iff_exists.1 ((hm j).1 hj)
   rw [hd] at e2
   simp only [Option.getD_some] at e2
   subst e2
   exact ((h.iff j d).1 hd).congr e
  ·
   intro hl
   have h1:=(h.iff k c).2 (hl.congr fun d=>(e d).symm)
   exact ⟨k,(hm k).2 (by rw [h1];rfl),by rw [h1];rfl⟩
theorem acc_low (A:Int) (m:Nat) (h0:0≤A) (hA:A≤255):(bits .and .u8 (A / 2 ^ m) 1 == 0)=!accB A m:=by
 obtain ⟨n,rfl⟩:=Int.eq_ofNat_of_zero_le h0
 have hd:((n:Int) / 2 ^ m)=((n / 2 ^ m:Nat):Int):=by simp
 have hlt:n / 2 ^ m<256:=Nat.lt_of_le_of_lt (Nat.div_le_self _ _) (by omega)
 have h1:bits .and .u8 (((n / 2 ^ m:Nat):Int)) ((1:Nat):Int)=((n / 2 ^ m &&& 1:Nat):Int):=u8_and_nat _ _ hlt (by omega)
 unfold accB
 rw [hd,show (1:Int)=((1:Nat):Int) from rfl,h1,Nat.and_one_is_mod,Bool.eq_iff_iff]
 simp only [beq_iff_eq,Bool.not_eq_true',beq_eq_false_iff_ne,ne_eq]
 omega
def rowFnd:RowT (Nat × Nat):=⟨48,59,2,16,.agg #[.int .i64 0,.int .i64 0],fun t=>[.int .i64 (t.1:Int),.int .i64 (t.2:Int)]⟩
theorem rowFnd_ok:rowFnd.Ok:=⟨Tryz.underlying48,by kernel_rfl,rfl,by decide,fun _=>rfl,fun x u hu=>by
 have h:u=.int .i64 (x.1:Int)∨u=.int .i64 (x.2:Int):=by simpa [rowFnd] using hu
 rcases h with rfl | rfl <;> rfl,by decide⟩
def WdIn (T:List Bn):Prop:=∀ b∈T,b.word<1000000
def FoundP (T:List Bn) (acc:Int) (E:Ent) (B:Nat) (e:Ending) (w':World):Prop:=∃ v l,e=.returned v∧OwnG rowFnd w' B v l∧FndE T acc E l
structure FQ (w0:World) (T:List Bn) (acc:Int) (E:Ent) (gmj gl r:Nat) (P rest:List (Stt × Nat)) (E2:List (Nat × Nat)) (w:World):Prop where
 rg:RgG keyS w gmj r E rest
 low:MpG keyI w gl E2
 lea:LeaM T acc P E2
 all:∀ p,p∈E↔p∈P∨p∈rest
 bl:Below w0.heap.size w0 w
 glt:w0.heap.size≤gl
 rge:w0.heap.size≤r
 ne:r≠gl
 len:E2.length+rest.length≤E.length
section
variable {w w':World} {gx:Nat} {acc:Int} {aR:Option Addr} {nR cR:Nat} {aT:Option Addr} {nT cT:Nat} {aL:Option Addr} {nL cL:Nat} {gm:Nat→Nat}
set_option maxHeartbeats 6400000 in
set_option maxRecDepth 100000 in
theorem
    found_any
         (T:List Bn) (i j:Nat) (E:Ent) (hi:i≤1000000) (hj:i % 5=j) (hx:SX w gx acc aR nR cR aT nT cT aL nL cL gm) (hT:TreeS w aT T) (hnT:nT=T.length) (hTl:nT≤100000) (hWd:WdIn T) (hM:MpG keyS w (gm j) E) (hRng:RngE T.length E) (ha0:0≤acc) (ha1:acc≤255) :
  Calls Tryz.prog 34 #[.pointer (some ⟨gx,0,none⟩),.int .i64 (i:Int)] w fun e w'=>FoundP T acc E w.heap.size e w'∧Below w.heap.size w w':=by
 subst hnT
 have HX:=Lib.hid hx;have HT:=Lib.hid hT;have HWD:=Lib.hid hWd;have HM:=Lib.hid hM;have HRN:=Lib.hid hRng;have HJ:=Lib.hid hj
 have hgx:=hx.lt
 obtain ⟨c0,c1,c2,c3⟩:=hx.cells
 have HC0:=Lib.hid c0;have HC2:=Lib.hid c2
 have hEl:=rng_len hM.keys hRng
 have hmm:=@run_makeMap Tryz.prog
 clear hx hT hWd hM hRng hj c0 c1 c2 c3
 have HX1:Hid (Ext w (w.alloc (.map #[] 0))):=(Below.refl _ _).alloc (Nat.le_refl _) _
 have HAT:=Lib.hid (at_any i j hi HJ.out (HX.out.kp (Kc.of HX1.out (Nat.le_refl _))))
 have HM1:=Lib.hid (HM.out.kept (Below.block HX1.out _ HM.out.lt))
 have HL1:=Lib.hid (MpG.new keyI w)
 go_enter Tryz.func34,Tryz.ntmps34
 go_wp2_with fail
 refine HAT.out.mono ?_
 rintro e w1' ⟨rfl,rfl⟩
 go_wp2_with (at_range;refine wpList_range_g keyS_ok HM1.out rfl _ rfl rfl ?_;intro w3 hrg3 hb3 hs3)
 go_frame
 have HZ:Hid ((w.alloc (.map #[] 0)).heap.size=w.heap.size+1):=by show _=_;simp
 have HFQ:Hid (FQ w T acc E (gm j) w.heap.size (w.heap.size+1) [] E [] w3):=⟨by rw [← HZ.out];exact hrg3,HL1.out.kept (hb3.block _ HL1.out.lt),LeaM.nil _ _,fun p=>by simp,Below.trans HX1.out (hb3.mono (by rw [HZ.out];omega)),Nat.le_refl _,Nat.le_succ _,by omega,by simp⟩
 clear hrg3 hb3 hs3 hmm
 simp only [World.size_alloc]
 go_loopg [8] E.length (fun g v8 wr=>∃ (P rest:List (Stt × Nat)) (E2:List (Nat × Nat)),FQ w T acc E (gm j) w.heap.size (w.heap.size+1) P rest E2 wr∧rest.length=g)
 case atStart=>exact ⟨[],E,[],HFQ.out,rfl⟩
 case round =>
  clear HFQ
  obtain ⟨P,rest,E2,hfq,hgk⟩:=hrel
  have HQ:=Lib.hid hfq;have HGK:=Lib.hid hgk
  have hz3:=hfq.bl.size
  have hri:=hfq.rg.lt
  clear hfq hgk
  go_wp2_with (at_next;refine wpList_next_g keyS_ok HQ.out.rg rfl _ rfl rfl ?_ ?_)
  ·
   intro
      h0
   have HFN:=Lib.hid (fun ks=>fnd_of (P':=E) (ks:=ks) HQ.out.lea (fun p=>by rw [HQ.out.all p,h0];simp))
   have hE2:E2.length≤1000000:=by have:=HQ.out.len;omega
   have HSO:=Lib.hid (sorted_any HQ.out.low hE2)
   clear h0
   go_wp2_with fail
   refine (mapsKeys_any _ _).mono ?_
   rintro e w7 ⟨rfl,rfl⟩
   go_wp2_with fail
   refine HSO.out.mono ?_
   rintro e w8 ⟨⟨v,ks,rfl,hown8,hps,hmem⟩,hb8⟩
   obtain ⟨a8,c8,hv8,hkc8, -⟩:=hown8.form
   subst hv8
   have HO8:=Lib.hid hown8;have HB8:=Lib.hid hb8;have HPS:=Lib.hid hps;have HME:=Lib.hid hmem
   have HLOW8:=Lib.hid (HQ.out.low.kept (hb8.block _ HQ.out.low.lt))
   have HBW8:Hid (Below w.heap.size w w8):=HQ.out.bl.trans (hb8.mono HQ.out.bl.size)
   have hkl:ks.length≤1000000:=by
    have h1:=nodup_bound 1000000 ks (hps.imp fun h=>Nat.ne_of_lt h) fun x hx=>by
     obtain ⟨d,hd⟩:=Option.isSome_iff_exists.1 ((hmem x).1 hx)
     exact (HQ.out.low.okk _ (look_mem hd)).1
    exact h1
   clear hown8 hb8 hps hmem
   go_wp2_with fail
   go_loopg [11,66] ks.length (fun g v11 v66 wr=>∃ k:Nat,v66=.int .i64 (k:Int)∧k≤ks.length∧g=ks.length - k∧OwnG rowFnd wr w8.heap.size v11 ((ks.take k).map fun x=>(x,(look E2 x).getD 0))∧Below w8.heap.size w8 wr)
   case atStart=>exact ⟨0,rfl,Nat.zero_le _,rfl,OwnG.nil _ _ _,Below.refl _ _⟩
   case round =>
    obtain ⟨k,rfl,hk,hgk,hown,hbl⟩:=hrel
    obtain ⟨a11,c11,hv11,hc11, -⟩:=hown.form
    subst hv11
    have HO:=Lib.hid hown;have HBL:=Lib.hid hbl;have HGK2:=Lib.hid hgk
    clear hown hbl hgk
    obtain ⟨Lk,hLk⟩:∃ Lk,(ks.take k).map (fun x=>(x,(look E2 x).getD 0))=Lk:=⟨_,rfl⟩
    have hLl:Lk.length=k:=by rw [← hLk,List.length_map,List.length_take];omega
    rw [hLk] at HO hc11 ⊢
    have HLK:=Lib.hid hLk;have HLL:=Lib.hid hLl
    clear hLk hLl
    by_cases hlt:k<ks.length
    ·
     obtain ⟨b8,hb8,hB8,hs8,q0⟩:=(HO8.out.later HBL.out (Nat.le_refl _)).ints hlt
     subst hb8
     have hi8:=idx_ints b8 ks.length c8 k hlt
     have hlow:MpG keyI wr w.heap.size E2:=HLOW8.out.kept (HBL.out.block _ HLOW8.out.lt)
     have hxm:=(HME.out ks[k]).1 (List.getElem_mem hlt)
     obtain ⟨d,hd⟩:=Option.isSome_iff_exists.1 hxm
     have hxok:=(hlow.okk _ (look_mem hd)).1
     have hlk:=hlow.look keyI_ok hxok
     rw [hd] at hlk
     simp only [keyI,Option.getD_some] at hlk
     have htk:ks.take (k+1)=ks.take k ++ [ks[k]]:=List.take_succ_eq_append_getElem hlt
     have HN:Hid ((ks.take (k+1)).map (fun x=>(x,(look E2 x).getD 0))=Lk ++ [(ks[k],d)]):=by
      show _=_
      rw [htk,List.map_append,HLK.out];simp [hd]
     obtain ⟨x,hx⟩:∃ x,ks[k]=x:=⟨_,rfl⟩
     rw [hx] at q0 hlk HN
     clear hxm hd hxok htk hx hlow
     go_wp2_with (at_builtin;go_loud (refine wpList_append_g (v:=.slice a11 Lk.length c11) rowFnd_ok rfl _ _ rfl rfl (HO.out.later ((Below.refl _ _).alloc (Nat.le_refl _) _) (Nat.le_refl _)) ⟨wr.heap.size,0,none⟩ 1 [(x,d)] rfl (cells_built (heap_alloc_new _ _)) (by have:=HLL.out;simp only [List.length_singleton];omega) (by have:=HBL.out.size;simp only [World.size_alloc];omega) ?_);intro v16 w16 hown16 hgrow16 hat16;have HO16:=Lib.hid hown16;have HG16:=Lib.hid hgrow16;clear hown16 hgrow16 hat16)
     go_roundg (ks.length - (k+1))
     case measure=>have:=HGK2.out;omega
     case rel=>exact ⟨k+1,by go_num,by omega,rfl,by rw [HN.out];exact HO16.out,(HBL.out.trans (((Below.refl _ _).alloc (Nat.le_refl _) _).mono HBL.out.size)).grown HG16.out (by have:=HBL.out.size;simp only [World.size_alloc];omega) fun q hq=>HO.out.ge q hq⟩
    ·
     have hall:ks.take k=ks:=List.take_of_length_le (by omega)
     have HNF:=Lib.hid (HFN.out ks HPS.out HME.out)
     have HLE:Hid (Lk=ks.map fun x=>(x,(look E2 x).getD 0)):=by show _=_;rw [← HLK.out,hall]
     clear hall
     go_wp2_with fail
     go_ret
     exact ⟨⟨_,Lk,rfl,HO.out.mono HBW8.out.size,by rw [HLE.out];exact HNF.out⟩,HBW8.out.trans (HBL.out.mono HBW8.out.size)⟩
  ·
   intro
      m
       n
        c
         w4 hp hrg4 hg4 hs4 hlt4 hen
   dsimp only [keyS,sttV] at hen ⊢
   have HP:=Lib.hid hp;have HRG4:=Lib.hid hrg4
   have HLOW4:Hid (MpG keyI w4 w.heap.size E2):=HQ.out.low.kept (hg4.block _ HQ.out.low.lt fun e=>by injection e with e;omega)
   have HBL4:Hid (Below w.heap.size w w4):=by
    show Below _ _ _
    exact HQ.out.bl.grown hg4 (by omega) fun k hk=>by injection hk with hk;omega
   have hpE:=HQ.out.rg.sub _ hp
   obtain ⟨hm8,hnT⟩:=HRN.out _ hpE
   simp only at hm8 hnT
   have hcb:c≤1152921504606846976:=(HM.out.okk _ hpE).2
   have HLEN:Hid (E2.length+1≤E.length∧E2.length+1+(strike rest ((m,n),c)).length≤E.length):=by
    have h1:=strike_lt hp
    have h2:=HQ.out.len
    exact ⟨by omega,by omega⟩
   clear hp hrg4 hg4 hlt4 hpE hri
   go_upto_region 5 with fail
   obtain ⟨w5,hw5⟩:∃ w5,w4.alloc (.cells #[.int .i64 (m:Int),.int .i64 (n:Int)] 124)=w5:=⟨_,rfl⟩
   rw [hw5]
   have HX5:Hid (Ext w4 w5):=by
    show Ext _ _
    rw [← hw5];exact (Below.refl _ _).alloc (Nat.le_refl _) _
   have HC5:Hid (w5.heap[w4.heap.size]? = some (.cells #[.int .i64 (m:Int),.int .i64 (n:Int)] 124 (0,0))):=by
    show _=_
    rw [← hw5];exact heap_alloc_new _ _
   have HBL5:Hid (Below w.heap.size w w5):=HBL4.out.trans (Below.mono HX5.out HBL4.out.size)
   have HK5:Hid (Kc w w5):=Kc.of HBL5.out (Nat.le_refl _)
   obtain ⟨g6,hg6⟩:∃ g6,w4.heap.size=g6:=⟨_,rfl⟩
   rw [hg6] at HC5 ⊢
   obtain ⟨b1,o1,ha1,hb1,q0, -⟩:=(HT.out.kp HK5.out).at hnT
   have hi1:=idx_tree aT b1 o1 T.length cT n ha1 hnT
   have hwd:=HWD.out _ (List.getElem_mem hnT)
   have HWT:Hid (wordT T n=T[n].word):=by show wordT T n=_;unfold wordT;rw [List.getElem?_eq_getElem hnT]
   obtain ⟨wd,hwde⟩:∃ wd,T[n].word=wd:=⟨_,rfl⟩
   rw [hwde] at q0 hwd HWT
   have HQ0:=Lib.hid q0
   clear hw5 hg6 ha1 hwde q0
   refine wp_region_rv (by kernel_rfl) (Vs [fun v _=>v=.pointer (some ⟨gx,0,none⟩),fun v _=>v=.pointer (some ⟨gx,0,none⟩),fun v _=>v=.pointer (some ⟨gx,2,none⟩),fun v _=>v=.slice aT T.length cT,fun v _=>v=.pointer (some ⟨g6,1,none⟩),fun v _=>v=.int .i64 (n:Int),fun v _=>v=.pointer (some ⟨b1,o1+n*2,none⟩),fun v _=>v=.pointer (some ⟨b1,o1+n*2,none⟩),fun v _=>v=.int .i64 wd,fun v _=>v=.int .i64 wd]) (fun W=>Ext w5 W) 80 (by kernel_rfl) rfl ?hVx ?hSx ?hS (opsOk_all ?hop) ?hfin
   case hop =>
    refine ⟨?_,?_,?_,?_,?_,?_,?_,?_,?_,?_,trivial⟩
    all_goals
     intro A W hsz hS hdep hbase
     have hk9:Kc w5 W:=Kc.of hS (Nat.le_refl _)
     obtain ⟨x0,x1⟩:=stt_cells (hk9.block _ _ _ _ HC5.out)
     have c0:=hk9.cell (HK5.out.cell HC0.out)
     have c2:=hk9.cell (HK5.out.cell HC2.out)
     have q0:=hk9.cell HQ0.out
     clear hk9
     have h0:A.tmps.getD 0 undef=.pointer (some ⟨gx,0,none⟩):=hbase 0 (by kernel_rfl)
     have h6:A.tmps.getD 6 undef=.pointer (some ⟨g6,0,none⟩):=hbase 6 (by kernel_rfl)
     clear hbase
     simp [slotOf,Region.binds,Vs] at hdep
    · refine opOk_run rfl (.inl ⟨_,W,?_,rfl,Ext.refl _⟩);clear hsz hS;simp [go_sem,Act.eval, *]
    · refine opOk_run rfl (.inl ⟨_,W,?_,rfl,Ext.refl _⟩);clear hsz hS;simp [go_sem,Act.eval, *]
    · refine opOk_run rfl (.inl ⟨_,W,?_,rfl,Ext.refl _⟩);clear hsz hS;simp [go_sem,Act.eval, *]
    · refine opOk_run rfl (.inl ⟨_,W,?_,rfl,Ext.refl _⟩);clear hsz hS;simp [go_sem,Act.eval, *]
    · refine opOk_run rfl (.inl ⟨_,W,?_,rfl,Ext.refl _⟩);clear hsz hS;simp [go_sem,Act.eval, *]
    · refine opOk_run rfl (.inl ⟨_,W,?_,rfl,Ext.refl _⟩);clear hsz hS;simp [go_sem,Act.eval, *]
    · refine opOk_run rfl (.inl ⟨_,W,?_,rfl,Ext.refl _⟩);clear hsz hS;simp [go_sem,Act.eval, *]
    · refine opOk_run rfl (.inl ⟨_,W,?_,rfl,Ext.refl _⟩);clear hsz hS;simp [go_sem,Act.eval, *]
    · refine opOk_run rfl (.inl ⟨_,W,?_,rfl,Ext.refl _⟩);clear hsz hS;simp [go_sem,Act.eval, *]
    · refine opOk_run rfl (.inl ⟨_,W,?_,rfl,Ext.refl _⟩);clear hsz hS;simp [go_sem,Act.eval, *]
   case hVx=>exact vs_stays (by simp only [List.mem_cons,List.not_mem_nil,or_false,forall_eq_or_imp,forall_eq];exact ⟨stays_const _,stays_const _,stays_const _,stays_const _,stays_const _,stays_const _,stays_const _,stays_const _,stays_const _,stays_const _⟩)
   case hSx=>exact fun W W' h hx=>Ext.trans h hx
   case hS=>exact Ext.refl _
   case hfin
        =>
    intro A W hsz hdf hS hv hbase
    obtain ⟨x,hx,hA⟩:=act_puts [24,25,26,27,28,29,30,31,32,8] (by kernel_rfl) hsz hdf hbase
    have e8:x 8=.int .i64 wd:=(hx 8).trans (hv 9 (by decide))
    rw [hA]
    simp only [List.foldl]
    rw [e8]
    clear e8
    simp only [Act.put,List.setIfInBounds_toArray,List.set_cons_succ,List.set_cons_zero]
    clear hA hx hv hbase hsz hdf
    have HS0:Hid (Ext w5 W):=hS
    clear hS
    have HALL:Hid (∀ p,p∈E↔p∈((m,n),c) :: P∨p∈strike rest ((m,n),c)):=fun p=>by
     rw [HQ.out.all,List.mem_cons,mem_strike]
     constructor
     ·
      rintro (h1 | h1)
      · exact .inl (.inr h1)
      ·
       by_cases e:p=((m,n),c)
       · exact .inl (.inl e)
       · exact .inr ⟨h1,e⟩
     ·
      rintro ((rfl | h1) | h1)
      · exact .inr HP.out
      · exact .inl h1
      · exact .inr h1.1
    go_wp2_with fail
    have hm0I:(0:Int)≤(m:Int):=by omega
    have hm8I:(m:Int)<8:=by omega
    by_cases hneg:wd<0
    ·
     have HNO:Hid (¬ ∃ k:Nat,wordT T (m,n).2=(k:Int)∧accB acc (m,n).1=true):=by
      rintro ⟨k,h1,_⟩
      have h2:wordT T n=(k:Int):=h1
      rw [HWT.out] at h2
      omega
     refine wp_region_rv (by kernel_rfl) (Vs [fun v _=>v=.int .i64 wd,fun v _=>v=.bool true,fun v _=>v=.bool true,fun v _=>v=undef,fun v _=>v=undef,fun v _=>v=undef,fun v _=>v=undef,fun v _=>v=undef,fun v _=>v=undef,fun v _=>v=undef,fun v _=>v=undef,fun v _=>v=undef,fun v _=>v=.bool true]) (fun W=>Ext w5 W) 80 (by kernel_rfl) rfl ?hVx ?hSx ?hS (opsOk_all ?hop) ?hfin
     case hop =>
      refine ⟨?_,?_,?_,?_,?_,?_,?_,?_,?_,?_,?_,?_,?_,trivial⟩
      all_goals
       intro A W hsz hS hdep hbase
       have hk9:Kc w5 W:=Kc.of hS (Nat.le_refl _)
       obtain ⟨x0,x1⟩:=stt_cells (hk9.block _ _ _ _ HC5.out)
       have c0:=hk9.cell (HK5.out.cell HC0.out)
       have c2:=hk9.cell (HK5.out.cell HC2.out)
       have q0:=hk9.cell HQ0.out
       clear hk9
       have h0:A.tmps.getD 0 undef=.pointer (some ⟨gx,0,none⟩):=hbase 0 (by kernel_rfl)
       have h6:A.tmps.getD 6 undef=.pointer (some ⟨g6,0,none⟩):=hbase 6 (by kernel_rfl)
       have h8:A.tmps.getD 8 undef=.int .i64 wd:=hbase 8 (by kernel_rfl)
       clear hbase
       simp [slotOf,Region.binds,Vs] at hdep
      · refine opOk_run rfl (.inl ⟨_,W,?_,rfl,Ext.refl _⟩);clear hsz hS;simp [go_sem,Act.eval, *]
      · refine opOk_run rfl (.inl ⟨_,W,?_,rfl,Ext.refl _⟩);clear hsz hS;simp [go_sem,Act.eval, *]
      · refine opOk_run rfl (.inl ⟨_,W,?_,rfl,Ext.refl _⟩);clear hsz hS;simp [go_sem,Act.eval, *]
      · exact opOk_skip (j:=2) (d:=35) (b:=true) rfl (by kernel_rfl) (by simp only [hdep]) rfl rfl
      · exact opOk_skip (j:=2) (d:=35) (b:=true) rfl (by kernel_rfl) (by simp only [hdep]) rfl rfl
      · exact opOk_skip (j:=2) (d:=35) (b:=true) rfl (by kernel_rfl) (by simp only [hdep]) rfl rfl
      · exact opOk_skip (j:=2) (d:=35) (b:=true) rfl (by kernel_rfl) (by simp only [hdep]) rfl rfl
      · exact opOk_skip (j:=2) (d:=35) (b:=true) rfl (by kernel_rfl) (by simp only [hdep]) rfl rfl
      · exact opOk_skip (j:=2) (d:=35) (b:=true) rfl (by kernel_rfl) (by simp only [hdep]) rfl rfl
      · exact opOk_skip (j:=2) (d:=35) (b:=true) rfl (by kernel_rfl) (by simp only [hdep]) rfl rfl
      · exact opOk_skip (j:=2) (d:=35) (b:=true) rfl (by kernel_rfl) (by simp only [hdep]) rfl rfl
      · exact opOk_skip (j:=2) (d:=35) (b:=true) rfl (by kernel_rfl) (by simp only [hdep]) rfl rfl
      · refine opOk_run rfl (.inl ⟨_,W,?_,rfl,Ext.refl _⟩);clear hsz hS;simp [go_sem,Act.eval, *]
     case hVx=>exact vs_stays (by simp only [List.mem_cons,List.not_mem_nil,or_false,forall_eq_or_imp,forall_eq];exact ⟨stays_const _,stays_const _,stays_const _,stays_const _,stays_const _,stays_const _,stays_const _,stays_const _,stays_const _,stays_const _,stays_const _,stays_const _,stays_const _⟩)
     case hSx=>exact fun W W' h hx=>Ext.trans h hx
     case hS=>exact HS0.out
     case hfin =>
      intro A W hsz hdf hS hv hbase
      obtain ⟨x,hx,hA⟩:=act_puts [33,34,35,36,37,38,39,40,41,42,43,44,45] (by kernel_rfl) hsz hdf hbase
      have e45:x 45=.bool true:=(hx 45).trans (hv 12 (by decide))
      rw [hA]
      simp only [List.foldl]
      rw [e45]
      clear e45
      simp only [Act.put,List.setIfInBounds_toArray,List.set_cons_succ,List.set_cons_zero]
      clear hA hx hv hbase hsz hdf
      have HS0:Hid (Ext w5 W):=hS
      clear hS
      go_wp2_with fail
      go_roundg (strike rest ((m,n),c)).length
      case measure=>have:=HGK.out;have:=strike_lt HP.out;omega
      case rel =>
       exact ⟨((m,n),c) :: P,_,E2,⟨(HRG4.out.below HX5.out).below HS0.out,(HLOW4.out.kept (Below.block HX5.out _ HLOW4.out.lt)).kept (Below.block HS0.out _ (HLOW4.out.kept (Below.block HX5.out _ HLOW4.out.lt)).lt),HQ.out.lea.skip HNO.out,HALL.out,HBL5.out.trans (Below.mono HS0.out HBL5.out.size),HQ.out.glt,HQ.out.rge,HQ.out.ne,by have:=HLEN.out.2;omega⟩,rfl⟩
    ·
     obtain ⟨
         k,rfl⟩:∃ k:Nat,wd=(k:Int):=⟨wd.toNat,by omega⟩
     have hkok:k<1000000:=by omega
     have HWK:Hid (wordT T (m,n).2=(k:Int)):=HWT.out
     have hbit:=acc_low acc m ha0 ha1
     obtain ⟨ab,hab⟩:∃ ab,accB acc m=ab:=⟨_,rfl⟩
     rw [hab] at hbit
     cases ab with
     | false =>
      have HNO:Hid (¬ ∃ k:Nat,wordT T (m,n).2=(k:Int)∧accB acc (m,n).1=true):=by
       rintro ⟨k,_,h2⟩
       have h3:accB acc m=true:=h2
       rw [hab] at h3
       cases h3
      clear hab
      simp only [Bool.not_false] at hbit
      refine wp_region_rv (by kernel_rfl) (Vs [fun v _=>v=.int .i64 (k:Int),fun v _=>v=.bool false,fun v _=>v=.bool false,fun v _=>v=.pointer (some ⟨gx,0,none⟩),fun v _=>v=.pointer (some ⟨gx,0,none⟩),fun v _=>v=.pointer (some ⟨gx,0,none⟩),fun v _=>v=.int .u8 acc,fun v _=>v=.pointer (some ⟨g6,0,none⟩),fun v _=>v=.int .i64 (m:Int),fun v _=>v=.int .u8 (acc / 2 ^ m),fun v _=>v=.int .u8 (bits .and .u8 (acc / 2 ^ m) 1),fun v _=>v=.bool true,fun v _=>v=.bool true]) (fun W=>Ext w5 W) 80 (by kernel_rfl) rfl ?hVx ?hSx ?hS (opsOk_all ?hop) ?hfin
      case hop =>
       refine ⟨?_,?_,?_,?_,?_,?_,?_,?_,?_,?_,?_,?_,?_,trivial⟩
       all_goals
        intro A W hsz hS hdep hbase
        have hk9:Kc w5 W:=Kc.of hS (Nat.le_refl _)
        obtain ⟨x0,x1⟩:=stt_cells (hk9.block _ _ _ _ HC5.out)
        have c0:=hk9.cell (HK5.out.cell HC0.out)
        have c2:=hk9.cell (HK5.out.cell HC2.out)
        have q0:=hk9.cell HQ0.out
        clear hk9
        have h0:A.tmps.getD 0 undef=.pointer (some ⟨gx,0,none⟩):=hbase 0 (by kernel_rfl)
        have h6:A.tmps.getD 6 undef=.pointer (some ⟨g6,0,none⟩):=hbase 6 (by kernel_rfl)
        have h8:A.tmps.getD 8 undef=.int .i64 (k:Int):=hbase 8 (by kernel_rfl)
        clear hbase
        simp [slotOf,Region.binds,Vs] at hdep
       · refine opOk_run rfl (.inl ⟨_,W,?_,rfl,Ext.refl _⟩);clear hsz hS;simp [go_sem,Act.eval, *]
       · refine opOk_run rfl (.inl ⟨_,W,?_,rfl,Ext.refl _⟩);clear hsz hS;simp [go_sem,Act.eval, *]
       · refine opOk_run rfl (.inl ⟨_,W,?_,rfl,Ext.refl _⟩);clear hsz hS;simp [go_sem,Act.eval, *]
       · refine opOk_runG (j:=2) (d:=35) (b:=false) rfl (by kernel_rfl) (by simp only [hdep]) rfl (.inl ⟨_,W,?_,rfl,Ext.refl _⟩);clear hsz hS;simp [go_sem,Act.eval, *]
       · refine opOk_runG (j:=2) (d:=35) (b:=false) rfl (by kernel_rfl) (by simp only [hdep]) rfl (.inl ⟨_,W,?_,rfl,Ext.refl _⟩);clear hsz hS;simp [go_sem,Act.eval, *]
       · refine opOk_runG (j:=2) (d:=35) (b:=false) rfl (by kernel_rfl) (by simp only [hdep]) rfl (.inl ⟨_,W,?_,rfl,Ext.refl _⟩);clear hsz hS;simp [go_sem,Act.eval, *]
       · refine opOk_runG (j:=2) (d:=35) (b:=false) rfl (by kernel_rfl) (by simp only [hdep]) rfl (.inl ⟨_,W,?_,rfl,Ext.refl _⟩);clear hsz hS;simp [go_sem,Act.eval, *]
       · refine opOk_runG (j:=2) (d:=35) (b:=false) rfl (by kernel_rfl) (by simp only [hdep]) rfl (.inl ⟨_,W,?_,rfl,Ext.refl _⟩);clear hsz hS;simp [go_sem,Act.eval, *]
       · refine opOk_runG (j:=2) (d:=35) (b:=false) rfl (by kernel_rfl) (by simp only [hdep]) rfl (.inl ⟨_,W,?_,rfl,Ext.refl _⟩);clear hsz hS;simp [go_sem,Act.eval, *]
       · refine opOk_runG (j:=2) (d:=35) (b:=false) rfl (by kernel_rfl) (by simp only [hdep]) rfl (.inl ⟨_,W,?_,rfl,Ext.refl _⟩);clear hsz hS;simp [go_sem,Act.eval, *]
       · refine opOk_runG (j:=2) (d:=35) (b:=false) rfl (by kernel_rfl) (by simp only [hdep]) rfl (.inl ⟨_,W,?_,rfl,Ext.refl _⟩);clear hsz hS;simp [go_sem,Act.eval, *]
       · refine opOk_runG (j:=2) (d:=35) (b:=false) rfl (by kernel_rfl) (by simp only [hdep]) rfl (.inl ⟨_,W,?_,rfl,Ext.refl _⟩);clear hsz hS;simp [go_sem,Act.eval, *]
       · refine opOk_run rfl (.inl ⟨_,W,?_,rfl,Ext.refl _⟩);clear hsz hS;simp [go_sem,Act.eval, *]
      case hVx=>exact vs_stays (by simp only [List.mem_cons,List.not_mem_nil,or_false,forall_eq_or_imp,forall_eq];exact ⟨stays_const _,stays_const _,stays_const _,stays_const _,stays_const _,stays_const _,stays_const _,stays_const _,stays_const _,stays_const _,stays_const _,stays_const _,stays_const _⟩)
      case hSx=>exact fun W W' h hx=>Ext.trans h hx
      case hS=>exact HS0.out
      case hfin =>
       intro A W hsz hdf hS hv hbase
       obtain ⟨x,hx,hA⟩:=act_puts [33,34,35,36,37,38,39,40,41,42,43,44,45] (by kernel_rfl) hsz hdf hbase
       have e45:x 45=.bool true:=(hx 45).trans (hv 12 (by decide))
       rw [hA]
       simp only [List.foldl]
       rw [e45]
       clear e45
       simp only [Act.put,List.setIfInBounds_toArray,List.set_cons_succ,List.set_cons_zero]
       clear hA hx hv hbase hsz hdf
       have HS0:Hid (Ext w5 W):=hS
       clear hS
       go_wp2_with fail
       go_roundg (strike rest ((m,n),c)).length
       case measure=>have:=HGK.out;have:=strike_lt HP.out;omega
       case rel =>
        exact ⟨((m,n),c) :: P,_,E2,⟨(HRG4.out.below HX5.out).below HS0.out,(HLOW4.out.kept (Below.block HX5.out _ HLOW4.out.lt)).kept (Below.block HS0.out _ (HLOW4.out.kept (Below.block HX5.out _ HLOW4.out.lt)).lt),HQ.out.lea.skip HNO.out,HALL.out,HBL5.out.trans (Below.mono HS0.out HBL5.out.size),HQ.out.glt,HQ.out.rge,HQ.out.ne,by have:=HLEN.out.2;omega⟩,rfl⟩
     | true =>
      have HACC:Hid (accB acc (m,n).1=true):=hab
      clear hab
      simp only [Bool.not_true] at hbit
      obtain ⟨lk,hlk⟩:∃ lk,look E2 k=lk:=⟨_,rfl⟩
      have HLK:=Lib.hid hlk
      clear hlk
      cases lk with
      | none =>
       have HLT:Hid (∀ d,look E2 k=some d→c<d):=fun d hd=>by rw [HLK.out] at hd;cases hd
       refine wp_region_rv (by kernel_rfl) (Vs [fun v _=>v=.int .i64 (k:Int),fun v _=>v=.bool false,fun v _=>v=.bool false,fun v _=>v=.pointer (some ⟨gx,0,none⟩),fun v _=>v=.pointer (some ⟨gx,0,none⟩),fun v _=>v=.pointer (some ⟨gx,0,none⟩),fun v _=>v=.int .u8 acc,fun v _=>v=.pointer (some ⟨g6,0,none⟩),fun v _=>v=.int .i64 (m:Int),fun v _=>v=.int .u8 (acc / 2 ^ m),fun v _=>v=.int .u8 (bits .and .u8 (acc / 2 ^ m) 1),fun v _=>v=.bool false,fun v _=>v=.bool false]) (fun W=>Ext w5 W) 80 (by kernel_rfl) rfl ?hVx ?hSx ?hS (opsOk_all ?hop) ?hfin
       case hop =>
        refine ⟨?_,?_,?_,?_,?_,?_,?_,?_,?_,?_,?_,?_,?_,trivial⟩
        all_goals
         intro A W hsz hS hdep hbase
         have hk9:Kc w5 W:=Kc.of hS (Nat.le_refl _)
         obtain ⟨x0,x1⟩:=stt_cells (hk9.block _ _ _ _ HC5.out)
         have c0:=hk9.cell (HK5.out.cell HC0.out)
         have c2:=hk9.cell (HK5.out.cell HC2.out)
         have q0:=hk9.cell HQ0.out
         clear hk9
         have h0:A.tmps.getD 0 undef=.pointer (some ⟨gx,0,none⟩):=hbase 0 (by kernel_rfl)
         have h6:A.tmps.getD 6 undef=.pointer (some ⟨g6,0,none⟩):=hbase 6 (by kernel_rfl)
         have h8:A.tmps.getD 8 undef=.int .i64 (k:Int):=hbase 8 (by kernel_rfl)
         clear hbase
         simp [slotOf,Region.binds,Vs] at hdep
        · refine opOk_run rfl (.inl ⟨_,W,?_,rfl,Ext.refl _⟩);clear hsz hS;simp [go_sem,Act.eval, *]
        · refine opOk_run rfl (.inl ⟨_,W,?_,rfl,Ext.refl _⟩);clear hsz hS;simp [go_sem,Act.eval, *]
        · refine opOk_run rfl (.inl ⟨_,W,?_,rfl,Ext.refl _⟩);clear hsz hS;simp [go_sem,Act.eval, *]
        · refine opOk_runG (j:=2) (d:=35) (b:=false) rfl (by kernel_rfl) (by simp only [hdep]) rfl (.inl ⟨_,W,?_,rfl,Ext.refl _⟩);clear hsz hS;simp [go_sem,Act.eval, *]
        · refine opOk_runG (j:=2) (d:=35) (b:=false) rfl (by kernel_rfl) (by simp only [hdep]) rfl (.inl ⟨_,W,?_,rfl,Ext.refl _⟩);clear hsz hS;simp [go_sem,Act.eval, *]
        · refine opOk_runG (j:=2) (d:=35) (b:=false) rfl (by kernel_rfl) (by simp only [hdep]) rfl (.inl ⟨_,W,?_,rfl,Ext.refl _⟩);clear hsz hS;simp [go_sem,Act.eval, *]
        · refine opOk_runG (j:=2) (d:=35) (b:=false) rfl (by kernel_rfl) (by simp only [hdep]) rfl (.inl ⟨_,W,?_,rfl,Ext.refl _⟩);clear hsz hS;simp [go_sem,Act.eval, *]
        · refine opOk_runG (j:=2) (d:=35) (b:=false) rfl (by kernel_rfl) (by simp only [hdep]) rfl (.inl ⟨_,W,?_,rfl,Ext.refl _⟩);clear hsz hS;simp [go_sem,Act.eval, *]
        · refine opOk_runG (j:=2) (d:=35) (b:=false) rfl (by kernel_rfl) (by simp only [hdep]) rfl (.inl ⟨_,W,?_,rfl,Ext.refl _⟩);clear hsz hS;simp [go_sem,Act.eval, *]
        · refine opOk_runG (j:=2) (d:=35) (b:=false) rfl (by kernel_rfl) (by simp only [hdep]) rfl (.inl ⟨_,W,?_,rfl,Ext.refl _⟩);clear hsz hS;simp [go_sem,Act.eval, *]
        · refine opOk_runG (j:=2) (d:=35) (b:=false) rfl (by kernel_rfl) (by simp only [hdep]) rfl (.inl ⟨_,W,?_,rfl,Ext.refl _⟩);clear hsz hS;simp [go_sem,Act.eval, *]
        · refine opOk_runG (j:=2) (d:=35) (b:=false) rfl (by kernel_rfl) (by simp only [hdep]) rfl (.inl ⟨_,W,?_,rfl,Ext.refl _⟩);clear hsz hS;simp [go_sem,Act.eval, *]
        · refine opOk_run rfl (.inl ⟨_,W,?_,rfl,Ext.refl _⟩);clear hsz hS;simp [go_sem,Act.eval, *]
       case hVx=>exact vs_stays (by simp only [List.mem_cons,List.not_mem_nil,or_false,forall_eq_or_imp,forall_eq];exact ⟨stays_const _,stays_const _,stays_const _,stays_const _,stays_const _,stays_const _,stays_const _,stays_const _,stays_const _,stays_const _,stays_const _,stays_const _,stays_const _⟩)
       case hSx=>exact fun W W' h hx=>Ext.trans h hx
       case hS=>exact HS0.out
       case hfin =>
        intro A W hsz hdf hS hv hbase
        obtain ⟨x,hx,hA⟩:=act_puts [33,34,35,36,37,38,39,40,41,42,43,44,45] (by kernel_rfl) hsz hdf hbase
        have e45:x 45=.bool false:=(hx 45).trans (hv 12 (by decide))
        rw [hA]
        simp only [List.foldl]
        rw [e45]
        clear e45
        simp only [Act.put,List.setIfInBounds_toArray,List.set_cons_succ,List.set_cons_zero]
        clear hA hx hv hbase hsz hdf
        have HS0:Hid (Ext w5 W):=hS
        clear hS
        have hlow7:MpG keyI W w.heap.size E2:=(HLOW4.out.kept (Below.block HX5.out _ HLOW4.out.lt)).kept (Below.block HS0.out _ (HLOW4.out.kept (Below.block HX5.out _ HLOW4.out.lt)).lt)
        have hlk7:=hlow7.look_ok keyI_ok (x:=k) hkok
        rw [HLK.out] at hlk7
        simp only [keyI,Option.getD,Option.isSome] at hlk7
        have HLOW7:=Lib.hid hlow7
        clear hlow7
        go_wp2_with (at_mapUpdate;go_loud (refine wpList_put_g keyI_ok HLOW7.out (x:=k) (c:=c) hkok hcb (by have:=HLEN.out.1;omega) rfl _ _ _ rfl rfl rfl rfl ?_);intro w8 hm8 hg8)
        go_roundg (strike rest ((m,n),c)).length
        case measure=>have:=HGK.out;have:=strike_lt HP.out;omega
        case rel =>
         have hrg8:=((HRG4.out.below HX5.out).below HS0.out).kept hg8 (fun e=>by
          injection e with e
          have:=HM.out.lt;omega) (fun e=>by injection e with e;omega)
         exact ⟨((m,n),c) :: P,_,putE E2 k c,⟨hrg8,hm8,HQ.out.lea.put HWK.out HACC.out HLT.out,HALL.out,(HBL5.out.trans (Below.mono HS0.out HBL5.out.size)).grown hg8 (by have:=HBL5.out.size;have:=Below.size HS0.out;omega) (fun q hq=>by injection hq with hq;omega),HQ.out.glt,HQ.out.rge,HQ.out.ne,by
          have h1:=HLEN.out.2
          have h2:=put_len E2 k c
          split at h2 <;> omega⟩,rfl⟩
      | some old =>
       by_cases hle:old≤c
       ·
        have HOL:=Lib.hid hle
        have hcI:¬ (c:Int)<(old:Int):=by omega
        clear hle
        refine wp_region_rv (by kernel_rfl) (Vs [fun v _=>v=.int .i64 (k:Int),fun v _=>v=.bool false,fun v _=>v=.bool false,fun v _=>v=.pointer (some ⟨gx,0,none⟩),fun v _=>v=.pointer (some ⟨gx,0,none⟩),fun v _=>v=.pointer (some ⟨gx,0,none⟩),fun v _=>v=.int .u8 acc,fun v _=>v=.pointer (some ⟨g6,0,none⟩),fun v _=>v=.int .i64 (m:Int),fun v _=>v=.int .u8 (acc / 2 ^ m),fun v _=>v=.int .u8 (bits .and .u8 (acc / 2 ^ m) 1),fun v _=>v=.bool false,fun v _=>v=.bool false]) (fun W=>Ext w5 W) 80 (by kernel_rfl) rfl ?hVx ?hSx ?hS (opsOk_all ?hop) ?hfin
        case hop =>
         refine ⟨?_,?_,?_,?_,?_,?_,?_,?_,?_,?_,?_,?_,?_,trivial⟩
         all_goals
          intro A W hsz hS hdep hbase
          have hk9:Kc w5 W:=Kc.of hS (Nat.le_refl _)
          obtain ⟨x0,x1⟩:=stt_cells (hk9.block _ _ _ _ HC5.out)
          have c0:=hk9.cell (HK5.out.cell HC0.out)
          have c2:=hk9.cell (HK5.out.cell HC2.out)
          have q0:=hk9.cell HQ0.out
          clear hk9
          have h0:A.tmps.getD 0 undef=.pointer (some ⟨gx,0,none⟩):=hbase 0 (by kernel_rfl)
          have h6:A.tmps.getD 6 undef=.pointer (some ⟨g6,0,none⟩):=hbase 6 (by kernel_rfl)
          have h8:A.tmps.getD 8 undef=.int .i64 (k:Int):=hbase 8 (by kernel_rfl)
          clear hbase
          simp [slotOf,Region.binds,Vs] at hdep
         · refine opOk_run rfl (.inl ⟨_,W,?_,rfl,Ext.refl _⟩);clear hsz hS;simp [go_sem,Act.eval, *]
         · refine opOk_run rfl (.inl ⟨_,W,?_,rfl,Ext.refl _⟩);clear hsz hS;simp [go_sem,Act.eval, *]
         · refine opOk_run rfl (.inl ⟨_,W,?_,rfl,Ext.refl _⟩);clear hsz hS;simp [go_sem,Act.eval, *]
         · refine opOk_runG (j:=2) (d:=35) (b:=false) rfl (by kernel_rfl) (by simp only [hdep]) rfl (.inl ⟨_,W,?_,rfl,Ext.refl _⟩);clear hsz hS;simp [go_sem,Act.eval, *]
         · refine opOk_runG (j:=2) (d:=35) (b:=false) rfl (by kernel_rfl) (by simp only [hdep]) rfl (.inl ⟨_,W,?_,rfl,Ext.refl _⟩);clear hsz hS;simp [go_sem,Act.eval, *]
         · refine opOk_runG (j:=2) (d:=35) (b:=false) rfl (by kernel_rfl) (by simp only [hdep]) rfl (.inl ⟨_,W,?_,rfl,Ext.refl _⟩);clear hsz hS;simp [go_sem,Act.eval, *]
         · refine opOk_runG (j:=2) (d:=35) (b:=false) rfl (by kernel_rfl) (by simp only [hdep]) rfl (.inl ⟨_,W,?_,rfl,Ext.refl _⟩);clear hsz hS;simp [go_sem,Act.eval, *]
         · refine opOk_runG (j:=2) (d:=35) (b:=false) rfl (by kernel_rfl) (by simp only [hdep]) rfl (.inl ⟨_,W,?_,rfl,Ext.refl _⟩);clear hsz hS;simp [go_sem,Act.eval, *]
         · refine opOk_runG (j:=2) (d:=35) (b:=false) rfl (by kernel_rfl) (by simp only [hdep]) rfl (.inl ⟨_,W,?_,rfl,Ext.refl _⟩);clear hsz hS;simp [go_sem,Act.eval, *]
         · refine opOk_runG (j:=2) (d:=35) (b:=false) rfl (by kernel_rfl) (by simp only [hdep]) rfl (.inl ⟨_,W,?_,rfl,Ext.refl _⟩);clear hsz hS;simp [go_sem,Act.eval, *]
         · refine opOk_runG (j:=2) (d:=35) (b:=false) rfl (by kernel_rfl) (by simp only [hdep]) rfl (.inl ⟨_,W,?_,rfl,Ext.refl _⟩);clear hsz hS;simp [go_sem,Act.eval, *]
         · refine opOk_runG (j:=2) (d:=35) (b:=false) rfl (by kernel_rfl) (by simp only [hdep]) rfl (.inl ⟨_,W,?_,rfl,Ext.refl _⟩);clear hsz hS;simp [go_sem,Act.eval, *]
         · refine opOk_run rfl (.inl ⟨_,W,?_,rfl,Ext.refl _⟩);clear hsz hS;simp [go_sem,Act.eval, *]
        case hVx=>exact vs_stays (by simp only [List.mem_cons,List.not_mem_nil,or_false,forall_eq_or_imp,forall_eq];exact ⟨stays_const _,stays_const _,stays_const _,stays_const _,stays_const _,stays_const _,stays_const _,stays_const _,stays_const _,stays_const _,stays_const _,stays_const _,stays_const _⟩)
        case hSx=>exact fun W W' h hx=>Ext.trans h hx
        case hS=>exact HS0.out
        case hfin =>
         intro A W hsz hdf hS hv hbase
         obtain ⟨x,hx,hA⟩:=act_puts [33,34,35,36,37,38,39,40,41,42,43,44,45] (by kernel_rfl) hsz hdf hbase
         have e45:x 45=.bool false:=(hx 45).trans (hv 12 (by decide))
         rw [hA]
         simp only [List.foldl]
         rw [e45]
         clear e45
         simp only [Act.put,List.setIfInBounds_toArray,List.set_cons_succ,List.set_cons_zero]
         clear hA hx hv hbase hsz hdf
         have HS0:Hid (Ext w5 W):=hS
         clear hS
         have hlow7:MpG keyI W w.heap.size E2:=(HLOW4.out.kept (Below.block HX5.out _ HLOW4.out.lt)).kept (Below.block HS0.out _ (HLOW4.out.kept (Below.block HX5.out _ HLOW4.out.lt)).lt)
         have hlk7:=hlow7.look_ok keyI_ok (x:=k) hkok
         rw [HLK.out] at hlk7
         simp only [keyI,Option.getD,Option.isSome] at hlk7
         have HLOW7:=Lib.hid hlow7
         clear hlow7
         go_wp2_with fail
         go_roundg (strike rest ((m,n),c)).length
         case measure=>have:=HGK.out;have:=strike_lt HP.out;omega
         case rel =>
          exact ⟨((m,n),c) :: P,_,E2,⟨(HRG4.out.below HX5.out).below HS0.out,HLOW7.out,HQ.out.lea.same HWK.out HACC.out HLK.out HOL.out,HALL.out,HBL5.out.trans (Below.mono HS0.out HBL5.out.size),HQ.out.glt,HQ.out.rge,HQ.out.ne,by have:=HLEN.out.2;omega⟩,rfl⟩
       ·
        have hcI:(c:Int)<(old:Int):=by omega
        have HLT:Hid (∀ d,look E2 k=some d→c<d):=fun d hd=>by rw [HLK.out] at hd;injection hd with hd;omega
        clear hle
        refine wp_region_rv (by kernel_rfl) (Vs [fun v _=>v=.int .i64 (k:Int),fun v _=>v=.bool false,fun v _=>v=.bool false,fun v _=>v=.pointer (some ⟨gx,0,none⟩),fun v _=>v=.pointer (some ⟨gx,0,none⟩),fun v _=>v=.pointer (some ⟨gx,0,none⟩),fun v _=>v=.int .u8 acc,fun v _=>v=.pointer (some ⟨g6,0,none⟩),fun v _=>v=.int .i64 (m:Int),fun v _=>v=.int .u8 (acc / 2 ^ m),fun v _=>v=.int .u8 (bits .and .u8 (acc / 2 ^ m) 1),fun v _=>v=.bool false,fun v _=>v=.bool false]) (fun W=>Ext w5 W) 80 (by kernel_rfl) rfl ?hVx ?hSx ?hS (opsOk_all ?hop) ?hfin
        case hop =>
         refine ⟨?_,?_,?_,?_,?_,?_,?_,?_,?_,?_,?_,?_,?_,trivial⟩
         all_goals
          intro A W hsz hS hdep hbase
          have hk9:Kc w5 W:=Kc.of hS (Nat.le_refl _)
          obtain ⟨x0,x1⟩:=stt_cells (hk9.block _ _ _ _ HC5.out)
          have c0:=hk9.cell (HK5.out.cell HC0.out)
          have c2:=hk9.cell (HK5.out.cell HC2.out)
          have q0:=hk9.cell HQ0.out
          clear hk9
          have h0:A.tmps.getD 0 undef=.pointer (some ⟨gx,0,none⟩):=hbase 0 (by kernel_rfl)
          have h6:A.tmps.getD 6 undef=.pointer (some ⟨g6,0,none⟩):=hbase 6 (by kernel_rfl)
          have h8:A.tmps.getD 8 undef=.int .i64 (k:Int):=hbase 8 (by kernel_rfl)
          clear hbase
          simp [slotOf,Region.binds,Vs] at hdep
         · refine opOk_run rfl (.inl ⟨_,W,?_,rfl,Ext.refl _⟩);clear hsz hS;simp [go_sem,Act.eval, *]
         · refine opOk_run rfl (.inl ⟨_,W,?_,rfl,Ext.refl _⟩);clear hsz hS;simp [go_sem,Act.eval, *]
         · refine opOk_run rfl (.inl ⟨_,W,?_,rfl,Ext.refl _⟩);clear hsz hS;simp [go_sem,Act.eval, *]
         · refine opOk_runG (j:=2) (d:=35) (b:=false) rfl (by kernel_rfl) (by simp only [hdep]) rfl (.inl ⟨_,W,?_,rfl,Ext.refl _⟩);clear hsz hS;simp [go_sem,Act.eval, *]
         · refine opOk_runG (j:=2) (d:=35) (b:=false) rfl (by kernel_rfl) (by simp only [hdep]) rfl (.inl ⟨_,W,?_,rfl,Ext.refl _⟩);clear hsz hS;simp [go_sem,Act.eval, *]
         · refine opOk_runG (j:=2) (d:=35) (b:=false) rfl (by kernel_rfl) (by simp only [hdep]) rfl (.inl ⟨_,W,?_,rfl,Ext.refl _⟩);clear hsz hS;simp [go_sem,Act.eval, *]
         · refine opOk_runG (j:=2) (d:=35) (b:=false) rfl (by kernel_rfl) (by simp only [hdep]) rfl (.inl ⟨_,W,?_,rfl,Ext.refl _⟩);clear hsz hS;simp [go_sem,Act.eval, *]
         · refine opOk_runG (j:=2) (d:=35) (b:=false) rfl (by kernel_rfl) (by simp only [hdep]) rfl (.inl ⟨_,W,?_,rfl,Ext.refl _⟩);clear hsz hS;simp [go_sem,Act.eval, *]
         · refine opOk_runG (j:=2) (d:=35) (b:=false) rfl (by kernel_rfl) (by simp only [hdep]) rfl (.inl ⟨_,W,?_,rfl,Ext.refl _⟩);clear hsz hS;simp [go_sem,Act.eval, *]
         · refine opOk_runG (j:=2) (d:=35) (b:=false) rfl (by kernel_rfl) (by simp only [hdep]) rfl (.inl ⟨_,W,?_,rfl,Ext.refl _⟩);clear hsz hS;simp [go_sem,Act.eval, *]
         · refine opOk_runG (j:=2) (d:=35) (b:=false) rfl (by kernel_rfl) (by simp only [hdep]) rfl (.inl ⟨_,W,?_,rfl,Ext.refl _⟩);clear hsz hS;simp [go_sem,Act.eval, *]
         · refine opOk_runG (j:=2) (d:=35) (b:=false) rfl (by kernel_rfl) (by simp only [hdep]) rfl (.inl ⟨_,W,?_,rfl,Ext.refl _⟩);clear hsz hS;simp [go_sem,Act.eval, *]
         · refine opOk_run rfl (.inl ⟨_,W,?_,rfl,Ext.refl _⟩);clear hsz hS;simp [go_sem,Act.eval, *]
        case hVx=>exact vs_stays (by simp only [List.mem_cons,List.not_mem_nil,or_false,forall_eq_or_imp,forall_eq];exact ⟨stays_const _,stays_const _,stays_const _,stays_const _,stays_const _,stays_const _,stays_const _,stays_const _,stays_const _,stays_const _,stays_const _,stays_const _,stays_const _⟩)
        case hSx=>exact fun W W' h hx=>Ext.trans h hx
        case hS=>exact HS0.out
        case hfin =>
         intro A W hsz hdf hS hv hbase
         obtain ⟨x,hx,hA⟩:=act_puts [33,34,35,36,37,38,39,40,41,42,43,44,45] (by kernel_rfl) hsz hdf hbase
         have e45:x 45=.bool false:=(hx 45).trans (hv 12 (by decide))
         rw [hA]
         simp only [List.foldl]
         rw [e45]
         clear e45
         simp only [Act.put,List.setIfInBounds_toArray,List.set_cons_succ,List.set_cons_zero]
         clear hA hx hv hbase hsz hdf
         have HS0:Hid (Ext w5 W):=hS
         clear hS
         have hlow7:MpG keyI W w.heap.size E2:=(HLOW4.out.kept (Below.block HX5.out _ HLOW4.out.lt)).kept (Below.block HS0.out _ (HLOW4.out.kept (Below.block HX5.out _ HLOW4.out.lt)).lt)
         have hlk7:=hlow7.look_ok keyI_ok (x:=k) hkok
         rw [HLK.out] at hlk7
         simp only [keyI,Option.getD,Option.isSome] at hlk7
         have HLOW7:=Lib.hid hlow7
         clear hlow7
         go_wp2_with (at_mapUpdate;go_loud (refine wpList_put_g keyI_ok HLOW7.out (x:=k) (c:=c) hkok hcb (by have:=HLEN.out.1;omega) rfl _ _ _ rfl rfl rfl rfl ?_);intro w8 hm8 hg8)
         go_roundg (strike rest ((m,n),c)).length
         case measure=>have:=HGK.out;have:=strike_lt HP.out;omega
         case rel =>
          have hrg8:=((HRG4.out.below HX5.out).below HS0.out).kept hg8 (fun e=>by
           injection e with e
           have:=HM.out.lt;omega) (fun e=>by injection e with e;omega)
          exact ⟨((m,n),c) :: P,_,putE E2 k c,⟨hrg8,hm8,HQ.out.lea.put HWK.out HACC.out HLT.out,HALL.out,(HBL5.out.trans (Below.mono HS0.out HBL5.out.size)).grown hg8 (by have:=HBL5.out.size;have:=Below.size HS0.out;omega) (fun q hq=>by injection hq with hq;omega),HQ.out.glt,HQ.out.rge,HQ.out.ne,by
           have h1:=HLEN.out.2
           have h2:=put_len E2 k c
           split at h2 <;> omega⟩,rfl⟩
end
end Go.Proofs.YthjmdgejnakcmaaGreatDoor
namespace Go.Proofs.YthjmdgejnakcmaaGreatDoor
open Go.RowKit Go.WideShapes Fl
set_option linter.unusedVariables false
set_option linter.unusedSimpArgs false
theorem bl_split:∀ (p:List UInt8) {a b:UInt8} {u v:List UInt8},Op.bytesLess (p ++ a :: u) (p ++ b :: v)=true→a.toNat≤b.toNat
 | [],a,b,u,v,h=>by
  simp only [List.nil_append,Op.bytesLess,Bool.or_eq_true,Bool.and_eq_true,decide_eq_true_eq,beq_iff_eq,UInt8.lt_iff_toNat_lt] at h
  rcases h with h | ⟨h,_⟩
  · omega
  · rw [h];exact Nat.le_refl _
 | x :: p,a,b,u,v,h=>by
  simp only [List.cons_append,Op.bytesLess,Bool.or_eq_true,Bool.and_eq_true,decide_eq_true_eq,beq_iff_eq,UInt8.lt_iff_toNat_lt,Nat.lt_irrefl,false_or,true_and] at h
  exact bl_split p h
theorem bl_irr:∀ x:List UInt8,Op.bytesLess x x=false
 | []=>rfl
 | a :: x=>by
  have h:¬ a<a:=by rw [UInt8.lt_iff_toNat_lt];omega
  simp [Op.bytesLess,h,bl_irr x]
structure TrX (T:List Bn) (X:List (List UInt8)):Prop where
 len:X.length=T.length
 zero:X[0]? = some []
 nd:X.Nodup
 fwd:∀ (n:Nat) (hn:n<T.length),∀ x∈T[n].arcs,0≤x.c∧x.c<256∧0≤x.t∧x.t<(T.length:Int)∧X[x.t.toNat]? = some ((X[n]'(by omega)) ++ [UInt8.ofNat x.c.toNat])
 bwd:∀ (n t:Nat) (hn:n<T.length) (c:UInt8),X[t]? = some ((X[n]'(by omega)) ++ [c])→(⟨(c.toNat:Int),(t:Int)⟩:Ar)∈T[n].arcs
 sorted:∀ (n:Nat) (hn:n<T.length),T[n].arcs.Pairwise fun x y=>x.c<y.c
 clo:∀ (p q:List UInt8),p ++ q∈X→p∈X
section
variable {T:List Bn} {X:List (List UInt8)}
theorem nodup_ix {α:Type} {X:List α} (h:X.Nodup) {i j:Nat} {x:α} (hi:X[i]? = some x) (hj:X[j]? = some x):i=j:=by
 obtain ⟨h1,e1⟩:=List.getElem?_eq_some_iff.1 hi
 obtain ⟨h2,e2⟩:=List.getElem?_eq_some_iff.1 hj
 exact (List.getElem_inj h).1 (e1.trans e2.symm)
theorem ofNat_toNat {c:Int} (h0:0≤c) (h1:c<256):((UInt8.ofNat c.toNat).toNat:Int)=c:=by
 simp only [UInt8.toNat_ofNat'];omega
theorem TrX.find (h:TrX T X) {n:Nat} (hn:n<T.length) {c:UInt8} {t:Nat} (ht:X[t]? = some ((X[n]'(by have:=h.len;omega)) ++ [c])) :
  T[n].arcs.find? (fun x=>x.c == (c.toNat:Int))=some ⟨(c.toNat:Int),(t:Int)⟩:=by
 have hm:=h.bwd n t hn c ht
 cases e:T[n].arcs.find? (fun x=>x.c == (c.toNat:Int)) with
 | none =>
  have:=List.find?_eq_none.1 e _ hm
  simp at this
 | some x =>
  have h1:=List.find?_some e
  simp only [beq_iff_eq] at h1
  obtain ⟨a1,a2,a3,a4,a5⟩:=h.fwd n hn x (List.mem_of_find?_eq_some e)
  have e2:UInt8.ofNat x.c.toNat=c:=UInt8.toNat_inj.1 (by have:=ofNat_toNat a1 a2;omega)
  rw [e2] at a5
  have:=nodup_ix h.nd a5 ht
  obtain ⟨xc,xt⟩:=x
  simp only at h1 this a3 ⊢
  subst h1
  congr 2
  omega
theorem TrX.none (h:TrX T X) {n:Nat} (hn:n<T.length) {c:UInt8} (ht:(X[n]'(by have:=h.len;omega)) ++ [c] ∉ X) :
  T[n].arcs.find? (fun x=>x.c == (c.toNat:Int))=none:=by
 rw [List.find?_eq_none]
 intro x hx
 obtain ⟨a1,a2,a3,a4,a5⟩:=h.fwd n hn x hx
 simp only [beq_iff_eq]
 intro e
 have e2:UInt8.ofNat x.c.toNat=c:=UInt8.toNat_inj.1 (by have:=ofNat_toNat a1 a2;omega)
 rw [e2] at a5
 exact ht (List.mem_of_getElem? a5)
theorem
    TrX.fol (h:TrX T X):∀ (o:List UInt8) {n m:Nat} (hn:n<T.length),folT T n o=some m↔X[m]? = some ((X[n]'(by have:=h.len;omega)) ++ o)
 | [],n,m,hn=>by
  have hn2:n<X.length:=by have:=h.len;omega
  rw [List.append_nil]
  constructor
  · intro e;cases e;exact List.getElem?_eq_getElem hn2
  ·
   intro e
   have:=nodup_ix h.nd e (List.getElem?_eq_getElem hn2)
   rw [this];rfl
 | c
   :: r,n,m,hn=>by
  have hn2:n<X.length:=by have:=h.len;omega
  by_cases hc:X[n] ++ [c]∈X
  ·
   obtain ⟨t,ht⟩:=List.getElem?_of_mem hc
   have hf:=h.find hn ht
   obtain ⟨h1,e1⟩:=List.getElem?_eq_some_iff.1 ht
   have htT:t<T.length:=by have:=h.len;omega
   rw [folT,List.getElem?_eq_getElem hn]
   simp only [hf]
   show folT T t r=some m↔_
   rw [h.fol r htT,e1,List.append_assoc]
   rfl
  ·
   have hf:=h.none hn hc
   rw [folT,List.getElem?_eq_getElem hn]
   simp only [hf]
   constructor
   · intro e;cases e
   ·
    intro e
    refine absurd (h.clo (X[n] ++ [c]) r ?_) hc
    rw [List.append_assoc]
    exact List.mem_of_getElem? e
theorem TrX.trIn (h:TrX T X):TrIn T:=fun b hb x hx=>by
 obtain ⟨n,hn,rfl⟩:=List.mem_iff_getElem.1 hb
 obtain ⟨_,_,h1,h2,_⟩:=h.fwd n hn x hx
 exact ⟨h1,h2⟩
end
def setArc (T:List Bn) (n:Nat) (x:Ar):List Bn:=T.modify n fun b=>⟨b.word,b.arcs ++ [x]⟩
def setWord (T:List Bn) (n:Nat) (i:Int):List Bn:=T.modify n fun b=>⟨i,b.arcs⟩
def addArc (T:List Bn) (n:Nat) (c:UInt8):List Bn:=setArc T n ⟨(c.toNat:Int),(T.length:Int)⟩ ++ [⟨-1,[]⟩]
theorem addArc_len (T:List Bn) (n:Nat) (c:UInt8):(addArc T n c).length=T.length+1:=by simp [addArc,setArc]
theorem addArc_old {T:List Bn} {n k:Nat} {c:UInt8} (hk:k<T.length):(addArc T n c)[k]'(by rw [addArc_len];omega)=if n=k then ⟨T[k].word,T[k].arcs ++ [⟨(c.toNat:Int),(T.length:Int)⟩]⟩ else T[k]:=by
 unfold addArc setArc
 rw [List.getElem_append_left (by simpa using hk),List.getElem_modify]
theorem addArc_new {T:List Bn} {n:Nat} {c:UInt8}:(addArc T n c)[T.length]'(by rw [addArc_len];omega)=⟨-1,[]⟩:=by
 unfold addArc setArc
 rw [List.getElem_append_right (by simp)]
 simp
theorem
    TrX.add {T:List Bn} {X:List (List UInt8)} (h:TrX T X) {n:Nat} (hn:n<T.length) {c:UInt8} (hc:(X[n]'(by have:=h.len;omega)) ++ [c] ∉ X) (hlt:∀ x∈T[n].arcs,x.c<(c.toNat:Int)) :
  TrX (addArc T n c) (X ++ [(X[n]'(by have:=h.len;omega)) ++ [c]]):=by
 have hl:=h.len
 have hXg:∀ k (hk:k<X.length),(X ++ [X[n] ++ [c]])[k]'(by rw [List.length_append];omega)=X[k]:=fun k hk=>List.getElem_append_left hk
 have hXq:∀ k,k<X.length→(X ++ [X[n] ++ [c]])[k]? = X[k]?:=fun k hk=>List.getElem?_append_left hk
 have hXn:(X ++ [X[n] ++ [c]])[X.length]? = some (X[n] ++ [c]):=by simp
 have hXe:∀ t y,(X ++ [X[n] ++ [c]])[t]? = some y→X[t]? = some y∨(t=X.length∧y=X[n] ++ [c]):=fun t y ht=>by
  by_cases h1:t<X.length
  · rw [hXq t h1] at ht;exact .inl ht
  ·
   by_cases h2:t=X.length
   · subst h2;rw [hXn] at ht;injection ht with ht;exact .inr ⟨rfl,ht.symm⟩
   ·
    have:=(List.getElem?_eq_some_iff.1 ht).1
    rw [List.length_append,List.length_singleton] at this
    omega
 refine ⟨by rw [List.length_append,addArc_len,List.length_singleton];omega,by rw [hXq 0 (by omega)];exact h.zero,?_,?_,?_,?_,?_⟩
 ·
  rw [List.nodup_append]
  refine ⟨h.nd,by simp,fun a ha b hb=>?_⟩
  rw [List.mem_singleton.1 hb]
  exact fun e=>hc (e ▸ ha)
 ·
  intro
     k hk x hx
  rw [addArc_len] at hk
  by_cases hkT:k<T.length
  ·
   rw [addArc_old hkT] at hx
   have hXk:(X ++ [X[n] ++ [c]])[k]'(by rw [List.length_append,List.length_singleton];omega)=X[k]:=hXg k (by omega)
   rw [hXk,addArc_len]
   by_cases e:n=k
   ·
    subst e
    rw [if_pos rfl] at hx
    rcases List.mem_append.1 hx with hx | hx
    ·
     obtain ⟨a1,a2,a3,a4,a5⟩:=h.fwd n hkT x hx
     exact ⟨a1,a2,a3,by omega,by rw [hXq _ (by omega)];exact a5⟩
    ·
     rw [List.mem_singleton.1 hx]
     have:=c.toNat_lt
     refine ⟨by simp only;omega,by simp only;omega,by simp only;omega,by simp only;omega,?_⟩
     simp only [Int.toNat_natCast]
     refine (congrArg (fun k=>(X ++ [X[n] ++ [c]])[k]?) hl.symm).trans (hXn.trans ?_)
     simp
   ·
    rw [if_neg e] at hx
    obtain ⟨a1,a2,a3,a4,a5⟩:=h.fwd k hkT x hx
    exact ⟨a1,a2,a3,by omega,by rw [hXq _ (by omega)];exact a5⟩
  ·
   obtain rfl:k=T.length:=by omega
   rw [addArc_new] at hx
   cases hx
 ·
  intro k t hk b ht
  rw [addArc_len] at hk
  by_cases hkT:k<T.length
  ·
   have hXk:(X ++ [X[n] ++ [c]])[k]'(by rw [List.length_append,List.length_singleton];omega)=X[k]:=hXg k (by omega)
   rw [hXk] at ht
   rw [addArc_old hkT]
   rcases hXe t _ ht with h1 | ⟨rfl,h1⟩
   ·
    have hm:=h.bwd k t hkT b h1
    split
    · exact List.mem_append_left _ hm
    · exact hm
   ·
    have e1:=List.append_inj' h1 rfl
    have e2:k=n:=(List.getElem_inj h.nd).1 e1.1
    have e3:b=c:=by simpa using e1.2
    subst e2 e3
    rw [if_pos rfl,hl]
    simp
  ·
   obtain rfl:k=T.length:=by omega
   have hXk:(X ++ [X[n] ++ [c]])[T.length]'(by rw [List.length_append,List.length_singleton];omega)=X[n] ++ [c]:=by
    simp only [← hl]
    rw [List.getElem_append_right (Nat.le_refl _)];simp
   rw [hXk] at ht
   rcases hXe t _ ht with h1 | ⟨_,h1⟩
   · exact absurd (h.clo (X[n] ++ [c]) [b] (List.mem_of_getElem? h1)) hc
   ·
    have:=congrArg List.length h1
    simp at this
 ·
  intro k hk
  rw [addArc_len] at hk
  by_cases hkT:k<T.length
  ·
   rw [addArc_old hkT]
   split
   ·
    rename_i e
    subst e
    refine List.pairwise_append.2 ⟨h.sorted n hkT,List.pairwise_singleton _ _,fun x hx y hy=>?_⟩
    rw [List.mem_singleton.1 hy]
    exact hlt x hx
   · exact h.sorted k hkT
  ·
   obtain rfl:k=T.length:=by omega
   rw [addArc_new]
   exact List.Pairwise.nil
 ·
  intro
     p q hpq
  rw [List.mem_append,List.mem_singleton] at hpq ⊢
  rcases hpq with h1 | h1
  · exact .inl (h.clo p q h1)
  ·
   by_cases hq:q=[]
   · subst hq;rw [List.append_nil] at h1;exact .inr h1
   ·
    refine .inl (h.clo p q.dropLast ?_)
    have e1:p ++ q.dropLast=X[n]:=by
     have:=congrArg List.dropLast h1
     rw [List.dropLast_append_of_ne_nil hq,List.dropLast_concat] at this
     exact this
    rw [e1]
    exact List.getElem_mem _
theorem setWord_len (T:List Bn) (n:Nat) (i:Int):(setWord T n i).length=T.length:=by simp [setWord]
theorem setWord_get {T:List Bn} {n k:Nat} {i:Int} (hk:k<T.length):(setWord T n i)[k]'(by rw [setWord_len];exact hk)=if n=k then ⟨i,T[k].arcs⟩ else T[k]:=by
 unfold setWord;rw [List.getElem_modify]
theorem setWord_arcs {T:List Bn} {n k:Nat} {i:Int} (hk:k<T.length):((setWord T n i)[k]'(by rw [setWord_len];exact hk)).arcs=T[k].arcs:=by
 rw [setWord_get hk];split <;> rfl
theorem TrX.setWord {T:List Bn} {X:List (List UInt8)} (h:TrX T X) (n:Nat) (i:Int):TrX (setWord T n i) X where
 len:=by rw [setWord_len];exact h.len
 zero:=h.zero
 nd:=h.nd
 fwd k hk x hx:=by
  have hk':k<T.length:=by rw [setWord_len] at hk;exact hk
  rw [setWord_arcs hk'] at hx
  obtain ⟨a1,a2,a3,a4,a5⟩:=h.fwd k hk' x hx
  exact ⟨a1,a2,a3,by rw [setWord_len];exact a4,a5⟩
 bwd k t hk c ht:=by
  have hk':k<T.length:=by rw [setWord_len] at hk;exact hk
  rw [setWord_arcs hk']
  exact h.bwd k t hk' c ht
 sorted k hk:=by
  have hk':k<T.length:=by rw [setWord_len] at hk;exact hk
  rw [setWord_arcs hk']
  exact h.sorted k hk'
 clo:=h.clo
structure BegI (W:List (List UInt8)) (i k:Nat) (w:List UInt8) (node:Nat) (T:List Bn) (X:List (List UInt8)):Prop where
 tr:TrX T X
 at_:X[node]? = some (w.take k)
 src:∀ p∈X,(∃ j,∃ h:j<W.length,j<i∧p <+: W[j])∨p <+: w.take k
 word:∀ (n:Nat) (hn:n<T.length),T[n].word = -1∨∃ j,∃ h:j<W.length,j<i∧T[n].word=(j:Int)∧X[n]? = some W[j]
 all:∀ (j:Nat) (h:j<W.length),j<i→∃ n,∃ hn:n<T.length,X[n]? = some W[j]∧T[n].word=(j:Int)
 size:T.length≤1+20*i+k
section
variable {W:List (List UInt8)} {i k node:Nat} {w:List UInt8} {T:List Bn} {X:List (List UInt8)}
theorem BegI.node_lt (h:BegI W i k w node T X):node<T.length:=by
 have:=(List.getElem?_eq_some_iff.1 h.at_).1
 have:=h.tr.len
 omega
theorem BegI.start (W:List (List UInt8)) (w:List UInt8):BegI W 0 0 w 0 [⟨-1,[]⟩] [[]] where
 tr:=by
  refine ⟨rfl,rfl,by simp,?_,?_,?_,?_⟩
  ·
   intro n hn x hx
   have e:n=0:=by simp at hn;omega
   subst e;cases hx
  ·
   intro n t hn c ht
   have e:n=0:=by simp at hn;omega
   subst e
   have h1:=(List.getElem?_eq_some_iff.1 ht).1
   have e2:t=0:=by simp at h1;omega
   subst e2
   simp at ht
  ·
   intro n hn
   have e:n=0:=by simp at hn;omega
   subst e;exact List.Pairwise.nil
  ·
   intro p q h
   have:=List.mem_singleton.1 h
   simp at this
   simp [this.1]
 at_:=by simp
 src p hp:=.inr (by rw [List.mem_singleton.1 hp];exact List.nil_prefix)
 word n hn:=by
  have e:n=0:=by simp at hn;omega
  subst e;exact .inl rfl
 all j h hj:=absurd hj (Nat.not_lt_zero _)
 size:=by simp
theorem take_succ_get {w:List UInt8} {k:Nat} (hk:k<w.length):w.take (k+1)=w.take k ++ [w[k]]:=List.take_succ_eq_append_getElem hk
theorem BegI.follow (h:BegI W i k w node T X) (hk:k<w.length) {x:Ar} (hx:x∈(T[node]'h.node_lt).arcs) (hc:x.c=(w[k].toNat:Int)):BegI W i (k+1) w x.t.toNat T X:=by
 obtain ⟨a1,a2,a3,a4,a5⟩:=h.tr.fwd node h.node_lt x hx
 have e2:UInt8.ofNat x.c.toNat=w[k]:=UInt8.toNat_inj.1 (by have:=ofNat_toNat a1 a2;omega)
 have e3:X[node]'(by have:=h.node_lt;have:=h.tr.len;omega)=w.take k:=(List.getElem?_eq_some_iff.1 h.at_).2
 refine ⟨h.tr,?_,fun p hp=>(h.src p hp).imp id fun h1=>?_,h.word,h.all,by have:=h.size;omega⟩
 · rw [a5,e2,e3,take_succ_get hk]
 · rw [take_succ_get hk];exact h1.trans (List.prefix_append _ _)
theorem
    BegI.arcs_lt (h:BegI W i k w node T X) (hi:i<W.length) (hw:W[i]=w) (hinc:W.Pairwise fun a b=>Op.bytesLess a b=true) (hk:k<w.length) {x:Ar} (hx:x∈(T[node]'h.node_lt).arcs):x.c≤(w[k].toNat:Int):=by
 obtain ⟨a1,a2,a3,a4,a5⟩:=h.tr.fwd node h.node_lt x hx
 have e3:X[node]'(by have:=h.node_lt;have:=h.tr.len;omega)=w.take k:=(List.getElem?_eq_some_iff.1 h.at_).2
 rw [e3] at a5
 have h2:=ofNat_toNat a1 a2
 rcases h.src _ (List.mem_of_getElem? a5) with ⟨j,hj,hji,hp⟩ | hp
 ·
  have h1:=(List.pairwise_iff_getElem.1 hinc) j i hj hi hji
  obtain ⟨u,hu⟩:=hp
  rw [hw,← hu] at h1
  have hw2:w=w.take k ++ w[k] :: w.drop (k+1):=by
   rw [← List.drop_eq_getElem_cons hk,List.take_append_drop]
  rw [hw2,List.append_assoc] at h1
  have h3:∀ {p:List UInt8} {a b:UInt8} {u v:List UInt8},Op.bytesLess (p ++ ([a] ++ u)) (p ++ b :: v)=true→a.toNat≤b.toNat:=fun {p a b u v} h9=>bl_split p h9
  have h4:w.take k=(w.take k ++ w[k] :: w.drop (k+1)).take k:=by rw [← hw2]
  have h5:=bl_split (w.take k) (a:=UInt8.ofNat x.c.toNat) (b:=w[k]) (u:=u) (v:=w.drop (k+1)) (by
   have h6:Op.bytesLess (w.take k ++ ([UInt8.ofNat x.c.toNat] ++ u)) w=true:=by
    rw [hw2]
    rw [← h4]
    rw [← h4] at h1
    exact h1
   rw [← hw2]
   exact h6)
  omega
 ·
  have:=hp.length_le
  rw [List.length_append,List.length_singleton] at this
  omega
theorem
    BegI.add (h:BegI W i k w node T X) (hi:i<W.length) (hw:W[i]=w) (hinc:W.Pairwise fun a b=>Op.bytesLess a b=true) (hk:k<w.length) (hlast:∀ x,(T[node]'h.node_lt).arcs.getLast? = some x→x.c≠(w[k].toNat:Int)) :
  ∃ X',BegI W i (k+1) w T.length (addArc T node w[k]) X':=by
 have hn:=h.node_lt
 have hl:=h.tr.len
 have e3:X[node]'(by omega)=w.take k:=(List.getElem?_eq_some_iff.1 h.at_).2
 have hlt:∀ x∈T[node].arcs,x.c<(w[k].toNat:Int):=fun x hx=>by
  cases e:T[node].arcs.getLast? with
  | none=>rw [List.getLast?_eq_none_iff] at e;rw [e] at hx;cases hx
  | some y =>
   have hy:=List.mem_of_getLast? e
   have h1:=h.arcs_lt hi hw hinc hk hy
   have h2:=hlast y e
   obtain ⟨l,hl2⟩:=List.getLast?_eq_some_iff.1 e
   have h3:=h.tr.sorted node hn
   rw [hl2] at h3 hx
   rcases List.mem_append.1 hx with hx | hx
   ·
    have:=(List.pairwise_append.1 h3).2.2 x hx y (by simp)
    omega
   · rw [List.mem_singleton.1 hx];omega
 have hc:(X[node]'(by omega)) ++ [w[k]] ∉ X:=fun hm=>by
  obtain ⟨t,ht⟩:=List.getElem?_of_mem hm
  have:=hlt _ (h.tr.bwd node t hn w[k] ht)
  simp only at this
  omega
 have htr:=h.tr.add hn hc hlt
 refine ⟨_,htr,?_,fun p hp=>?_,fun n hn2=>?_,fun j hj hji=>?_,?_⟩
 ·
  have h1:(X ++ [(X[node]'(by omega)) ++ [w[k]]])[X.length]? = some ((X[node]'(by omega)) ++ [w[k]]):=by simp
  rw [take_succ_get hk,← e3]
  exact (congrArg (fun j=>(X ++ [(X[node]'(by omega)) ++ [w[k]]])[j]?) hl.symm).trans h1
 ·
  rcases List.mem_append.1 hp with hp | hp
  ·
   refine (h.src p hp).imp id fun h1=>?_
   rw [take_succ_get hk];exact h1.trans (List.prefix_append _ _)
  ·
   rw [List.mem_singleton.1 hp,e3,take_succ_get hk]
   exact .inr (List.prefix_refl _)
 ·
  rw [addArc_len] at hn2
  by_cases hnT:n<T.length
  ·
   rw [addArc_old hnT]
   have hx:(X ++ [(X[node]'(by omega)) ++ [w[k]]])[n]? = X[n]?:=List.getElem?_append_left (by omega)
   rw [hx]
   have:=h.word n hnT
   split <;> exact this
  ·
   obtain rfl:n=T.length:=by omega
   rw [addArc_new]
   exact .inl rfl
 ·
  obtain ⟨n,hn3,h1,h2⟩:=h.all j hj hji
  refine ⟨n,by rw [addArc_len];omega,?_,?_⟩
  · rw [List.getElem?_append_left (by omega)];exact h1
  · rw [addArc_old hn3];split <;> exact h2
 · rw [addArc_len];have:=h.size;omega
theorem
    BegI.wordEnd (h:BegI W i k w node T X) (hi:i<W.length) (hw:W[i]=w) (hinc:W.Pairwise fun a b=>Op.bytesLess a b=true) (hk:¬ k<w.length) (hk20:k≤20) (w':List UInt8):BegI W (i+1) 0 w' 0 (setWord T node (i:Int)) X:=by
 have hn:=h.node_lt
 have hl:=h.tr.len
 have hat:X[node]? = some w:=by rw [h.at_,List.take_of_length_le (by omega)]
 refine ⟨h.tr.setWord node i,by rw [List.take_zero];exact h.tr.zero,fun p hp=>.inl ?_,fun n hn2=>?_,fun j hj hji=>?_,?_⟩
 ·
  rcases h.src p hp with ⟨j,hj,hji,h1⟩ | h1
  · exact ⟨j,hj,by omega,h1⟩
  · exact ⟨i,hi,Nat.lt_succ_self _,by rw [hw];exact h1.trans (List.take_prefix _ _)⟩
 ·
  have hn3:n<T.length:=by rw [setWord_len] at hn2;exact hn2
  rw [setWord_get hn3]
  split
  ·
   rename_i e
   subst e
   exact .inr ⟨i,hi,Nat.lt_succ_self _,rfl,by rw [hat,hw]⟩
  ·
   rcases h.word n hn3 with h1 | ⟨j,hj,hji,h1⟩
   · exact .inl h1
   · exact .inr ⟨j,hj,by omega,h1⟩
 ·
  by_cases e:j=i
  ·
   subst e
   exact ⟨node,by rw [setWord_len];exact hn,by rw [hat,hw],by rw [setWord_get hn,if_pos rfl]⟩
  ·
   obtain ⟨n,hn3,h1,h2⟩:=h.all j hj (by omega)
   refine ⟨n,by rw [setWord_len];exact hn3,h1,?_⟩
   rw [setWord_get hn3,if_neg ?_]
   · exact h2
   ·
    intro e2
    subst e2
    rw [hat] at h1
    injection h1 with h1
    have h3:=(List.pairwise_iff_getElem.1 hinc) j i hj hi (by omega)
    rw [hw,← h1] at h3
    have:Op.bytesLess w w=false:=bl_irr w
    rw [this] at h3
    cases h3
 · rw [setWord_len];have:=h.size;omega
end
structure TrW (T:List Bn) (W:List (List UInt8)):Prop where
 trIn:TrIn T
 wd:∀ b∈T,b.word<(W.length:Int)
 pos:0<T.length
 size:T.length≤1+20*W.length
 fol1:∀ o n (k:Nat),folT T 0 o=some n→(wordT T n=(k:Int)↔∃ h:k<W.length,W[k]=o)
 fol2:∀ w∈W,∃ n,folT T 0 w=some n
theorem
    BegI.done {W:List (List UInt8)} {w:List UInt8} {T:List Bn} {X:List (List UInt8)} (h:BegI W W.length 0 w 0 T X) (hinc:W.Pairwise fun a b=>Op.bytesLess a b=true):TrW T W:=by
 have hn:=h.node_lt
 have hl:=h.tr.len
 have h0:X[0]'(by omega)=[]:=(List.getElem?_eq_some_iff.1 h.tr.zero).2
 have hf:∀ o m,folT T 0 o=some m↔X[m]? = some o:=fun o m=>by rw [h.tr.fol o hn,h0];rfl
 refine ⟨h.tr.trIn,fun b hb=>?_,hn,h.size,fun o n k ho=>?_,fun w hw=>?_⟩
 ·
  obtain ⟨n,hn2,rfl⟩:=List.mem_iff_getElem.1 hb
  rcases h.word n hn2 with h1 | ⟨j,hj,_,h1,_⟩ <;> omega
 ·
  have hx:=(hf o n).1 ho
  have hnT:n<T.length:=by have:=(List.getElem?_eq_some_iff.1 hx).1;omega
  have hwt:wordT T n=T[n].word:=by unfold wordT;rw [List.getElem?_eq_getElem hnT]
  rw [hwt]
  constructor
  ·
   intro h1
   rcases h.word n hnT with h2 | ⟨j,hj,_,h2,h3⟩
   · omega
   ·
    have e:j=k:=by omega
    subst e
    rw [hx] at h3
    injection h3 with h3
    exact ⟨hj,h3.symm⟩
  ·
   rintro ⟨hk,rfl⟩
   obtain ⟨m,hm,h1,h2⟩:=h.all k hk hk
   have:=nodup_ix h.tr.nd h1 hx
   subst this
   exact h2
 ·
  obtain ⟨j,hj,rfl⟩:=List.mem_iff_getElem.1 hw
  obtain ⟨m,hm,h1,h2⟩:=h.all j hj hj
  exact ⟨m,(hf _ _).2 h1⟩
end Go.Proofs.YthjmdgejnakcmaaGreatDoor
namespace Go.Proofs.YthjmdgejnakcmaaGreatDoor
open Go.RowKit Go.WideShapes Fl
set_option linter.unusedVariables false
set_option linter.unusedSimpArgs false
structure BV where
 word:Int
 a:Option Addr
 n:Nat
 c:Nat
def BV.s (x:BV):Value:=.slice x.a x.n x.c
def rowBn:RowT BV:=⟨115,133,2,32,.agg #[.int .i64 0,.slice none 0 0],fun x=>[.int .i64 x.word,.slice x.a x.n x.c]⟩
theorem rowBn_ok:rowBn.Ok:=⟨Tryz.underlying115,by kernel_rfl,rfl,by decide,fun _=>rfl,fun x u hu=>by
 have h:u=.int .i64 x.word∨u=.slice x.a x.n x.c:=by simpa [rowBn] using hu
 rcases h with rfl | rfl <;> rfl,by decide⟩
theorem ownG_obj {α:Type} {T:RowT α} {w:World} {B:Nat} {v:Value} {L:List α} (h:OwnG T w B v L) {g:Nat} (hg:v.ownBlock=some g):∃ cs,w.heap[g]? = some (.cells cs T.e (0,0)):=by
 rcases h.2 with ⟨rfl,_⟩ | ⟨g',cap,cur,rfl,_,h2,_⟩
 · cases hg
 · cases hg;exact ⟨_,h2⟩
theorem OwnG.setCell {α:Type} {T:RowT α} {w:World} {B g n c0 i:Nat} {N N':List α} {y:Value} (h:OwnG T w B (.slice (some ⟨g,0,none⟩) n c0) N) (hl:N'.length=N.length) (hf:N'.flatMap T.enc=(N.flatMap T.enc).set i y) (hi:i<N.length*T.k) (hT:T.Ok) :
  OwnG T (w.setCell ⟨g,i,none⟩ y) B (.slice (some ⟨g,0,none⟩) n c0) N':=by
 rcases h.2 with ⟨he,_⟩ | ⟨g',cap,cur,he,h1,h2,h3,h4,h5,h6⟩
 · cases he
 ·
  injection he with e1 e2 e3
  injection e1 with e1
  injection e1 with e1 _ _
  subst e1
  subst e2
  subst e3
  refine ⟨by rw [flat_len hT,hl],.inr ⟨g,c0,cur.setIfInBounds i y,by rw [hl],h1,heap_setCell_same w g i cur _ y h2,by rw [hl];exact h3,h4,by simpa using h5,?_⟩⟩
  rw [hl,hf,← h6,Array.toList_setIfInBounds,List.take_set]
theorem
    enc_set {N:List BV} {k:Nat} (hk:k<N.length) (y:BV) {j:Nat} {u:Value} (hj:j<2) (he:(rowBn.enc N[k]).set j u=rowBn.enc y):(N.set k y).flatMap rowBn.enc=(N.flatMap rowBn.enc).set (k*2+j) u:=by
 induction N generalizing k with
 | nil=>simp at hk
 | cons x r ih =>
  cases k with
  | zero =>
   simp only [List.set_cons_zero,List.flatMap_cons,Nat.zero_mul,Nat.zero_add]
   rw [← he,List.set_append_left]
   · rfl
   · show j<2;exact hj
  | succ k =>
   simp only [List.set_cons_succ,List.flatMap_cons]
   rw [ih (by simpa using hk) he,List.set_append_right]
   ·
    congr 2
    show k*2+j=(k+1)*2+j - 2
    omega
   · show 2≤(k+1)*2+j;omega
structure TrM (w:World) (B:Nat) (v:Value) (N:List BV) (T:List Bn):Prop where
 own:OwnG rowBn w B v N
 len:N.length=T.length
 row:∀ (k:Nat) (h:k<N.length) (h2:k<T.length),N[k].word=T[k].word∧OwnG rowArc w B N[k].s T[k].arcs
 dis:∀ (j k:Nat) (hj:j<N.length) (hk:k<N.length) (q:Nat),j≠k→N[j].s.ownBlock=some q→N[k].s.ownBlock≠some q
section
variable {w w':World} {B:Nat} {v:Value} {N:List BV} {T:List Bn}
theorem TrM.ext (h:TrM w B v N T) (hx:Ext w w'):TrM w' B v N T :=
 ⟨h.own.later hx (Nat.le_refl _),h.len,fun k h1 h2=>⟨(h.row k h1 h2).1,(h.row k h1 h2).2.later hx (Nat.le_refl _)⟩,h.dis⟩
theorem TrM.arcs (h:TrM w B v N T) {k:Nat} (hk:k<T.length):∃ hN:k<N.length,N[k].n=T[k].arcs.length∧T[k].arcs.length≤N[k].c∧ArcS w N[k].a T[k].arcs:=by
 have hN:k<N.length:=by rw [h.len];exact hk
 obtain ⟨h1,h2,h3⟩:=(h.row k hN hk).2.arcs
 exact ⟨hN,h2,h3,h1⟩
theorem TrM.cells {g n c:Nat} (h:TrM w B (.slice (some ⟨g,0,none⟩) n c) N T) {k:Nat} (hk:k<T.length):∃ hN:k<N.length,w.cell? ⟨g,k*2,none⟩=some (.int .i64 T[k].word)∧w.cell? ⟨g,k*2+1,none⟩=some (.slice N[k].a T[k].arcs.length N[k].c):=by
 obtain ⟨hN,h1,h2,h3⟩:=h.arcs hk
 refine ⟨hN,?_,?_⟩
 ·
  have:=h.own.cell rowBn_ok hN (j:=0) (by decide)
  rw [show (rowBn.enc N[k])[0]? = some (.int .i64 N[k].word) from rfl,(h.row k hN hk).1] at this
  exact this
 ·
  have:=h.own.cell rowBn_ok hN (j:=1) (by decide)
  rw [show (rowBn.enc N[k])[1]? = some (.slice N[k].a N[k].n N[k].c) from rfl,h1] at this
  exact this
theorem TrM.tree {a:Option Addr} {n c:Nat} (h:TrM w B (.slice a n c) N T):TreeS w a T:=fun k hk=>by
 rcases h.own.blk with ⟨_,rfl⟩ | ⟨g,c2,he2,_,hg,_⟩
 · have:=h.len;simp at this;omega
 ·
  injection he2 with f1 f2 f3
  subst f1 f2 f3
  obtain ⟨hN,h1,h2⟩:=h.cells hk
  obtain ⟨_,h3,h4,h5⟩:=h.arcs hk
  have h6:=(h.row k hN hk).2.form
  obtain ⟨a',c',e1,e2,e3⟩:=h6
  refine ⟨g,0,rfl,hg,by rw [Nat.zero_add];exact h1,_,_,by rw [Nat.zero_add];exact h2,?_,h5⟩
  unfold maxLen at e3
  omega
theorem TrM.ne {g n c k:Nat} (h:TrM w B (.slice (some ⟨g,0,none⟩) n c) N T) (hk:k<N.length):N[k].s.ownBlock≠some g:=fun e=>by
 obtain ⟨cs,h1⟩:=ownG_obj h.own (g:=g) rfl
 obtain ⟨cs2,h2⟩:=ownG_obj (h.row k hk (by rw [← h.len];exact hk)).2 e
 rw [h1] at h2
 injection h2 with h2
 injection h2 with _ h3
 exact absurd h3 (by decide)
theorem
    TrM.put1 {g n c k:Nat} {x:Ar} {a':Option Addr} {c':Nat} (h:TrM w B (.slice (some ⟨g,0,none⟩) n c) N T) (hk:k<N.length) (hk2:k<T.length) (ho:OwnG rowArc w' B (.slice a' (T[k].arcs.length+1) c') (T[k].arcs ++ [x])) (hg:w.grownBy w' N[k].s.ownBlock)
  (hat:(Value.slice a' (T[k].arcs.length+1) c').ownBlock=N[k].s.ownBlock∨(Value.slice a' (T[k].arcs.length+1) c').ownBlock=some w.heap.size) :
  TrM (w'.setCell ⟨g,k*2+1,none⟩ (.slice a' (T[k].arcs.length+1) c')) B (.slice (some ⟨g,0,none⟩) n c) (N.set k ⟨N[k].word,a',T[k].arcs.length+1,c'⟩) (setArc T k x):=by
 have hne:∀ q,q≠g→(w'.setCell ⟨g,k*2+1,none⟩ (.slice a' (T[k].arcs.length+1) c')).heap[q]? = w'.heap[q]?:=fun q hq=>Below.heap_setCell _ _ _ _ hq
 have hgl:=h.own.lt g rfl
 have hgk:w'.heap[g]? = w.heap[g]?:=hg.block g hgl fun e=>h.ne hk e.symm
 have hown':OwnG rowBn w' B (.slice (some ⟨g,0,none⟩) n c) N:=h.own.keep fun q hq=>by injection hq with hq;rw [← hq];exact hgk
 have hg':(Value.slice a' (T[k].arcs.length+1) c').ownBlock≠some g:=fun e=>by
  rcases hat with h1 | h1
  · rw [h1] at e;exact h.ne hk e
  · rw [h1] at e;injection e with e;omega
 have hsl:(setArc T k x).length=T.length:=by simp [setArc]
 have hsg:∀ j (hj:j<T.length),(setArc T k x)[j]'(by rw [hsl];exact hj)=if k=j then ⟨T[j].word,T[j].arcs ++ [x]⟩ else T[j]:=fun j hj=>by
  unfold setArc;rw [List.getElem_modify]
 refine ⟨hown'.setCell (by simp) (enc_set hk _ (j:=1) (by decide) rfl) (by show k*2+1<N.length*2;omega) rowBn_ok,by rw [List.length_set,hsl];exact h.len,fun j hj hj2=>?_,fun j j2 hj hj2 q hjj hq=>?_⟩
 ·
  have hj':j<N.length:=by simpa using hj
  have hjT:j<T.length:=by rw [← h.len];exact hj'
  rw [hsg j hjT,List.getElem_set]
  by_cases e:k=j
  ·
   subst e
   rw [if_pos rfl,if_pos rfl]
   exact ⟨(h.row k hk hk2).1,ho.keep fun q hq=>hne q fun e=>hg' (by rw [← e];exact hq)⟩
  ·
   rw [if_neg e,if_neg e]
   refine ⟨(h.row j hj' hjT).1,(h.row j hj' hjT).2.keep fun q hq=>?_⟩
   rw [hne q fun e2=>h.ne hj' (by rw [← e2];exact hq)]
   exact hg.block q ((h.row j hj' hjT).2.lt q hq) fun e2=>h.dis j k hj' hk q (fun e3=>e e3.symm) hq e2.symm
 ·
  have hj':j<N.length:=by simpa using hj
  have hj2':j2<N.length:=by simpa using hj2
  rw [List.getElem_set] at hq ⊢
  by_cases e:k=j
  ·
   rw [if_pos e] at hq
   have e2:¬ k=j2:=fun e2=>hjj (e.symm.trans e2)
   rw [if_neg e2]
   intro e3
   have hq':(Value.slice a' (T[k].arcs.length+1) c').ownBlock=some q:=hq
   rcases hat with h1 | h1
   · rw [h1] at hq';exact h.dis k j2 hk hj2' q e2 hq' e3
   ·
    rw [h1] at hq';injection hq' with hq'
    have:=(h.row j2 hj2' (by rw [← h.len];exact hj2')).2.lt q e3
    omega
  ·
   rw [if_neg e] at hq
   by_cases e2:k=j2
   ·
    rw [if_pos e2]
    intro e3
    have e3':(Value.slice a' (T[k].arcs.length+1) c').ownBlock=some q:=e3
    rcases hat with h1 | h1
    · rw [h1] at e3';exact h.dis j k hj' hk q (fun e4=>e e4.symm) hq e3'
    ·
     rw [h1] at e3';injection e3' with e3'
     have:=(h.row j hj' (by rw [← h.len];exact hj')).2.lt q hq
     omega
   ·
    rw [if_neg e2]
    exact h.dis j j2 hj' hj2' q hjj hq
theorem
    TrM.grow {v':Value} (h:TrM w B v N T) (ho:OwnG rowBn w' B v' (N ++ [⟨-1,none,0,0⟩])) (hg:w.grownBy w' v.ownBlock) (hB:B≤w'.heap.size):TrM w' B v' (N ++ [⟨-1,none,0,0⟩]) (T ++ [⟨-1,[]⟩]):=by
 have hnew:∀ (j:Nat) (hj:j<(N ++ [(⟨-1,none,0,0⟩:BV)]).length),¬ j<N.length→(N ++ [(⟨-1,none,0,0⟩:BV)])[j]=⟨-1,none,0,0⟩:=fun j hj hn=>by
  rw [List.getElem_append_right (by omega)]
  have:j - N.length=0:=by rw [List.length_append,List.length_singleton] at hj;omega
  simp [this]
 refine ⟨ho,by rw [List.length_append,List.length_append,h.len];rfl,fun j hj hj2=>?_,fun j j2 hj hj2 q hjj hq=>?_⟩
 ·
  by_cases e:j<N.length
  ·
   have eT:j<T.length:=by rw [← h.len];exact e
   rw [List.getElem_append_left e,List.getElem_append_left eT]
   refine ⟨(h.row j e eT).1,(h.row j e eT).2.keep fun q hq=>hg.block q ((h.row j e eT).2.lt q hq) fun e2=>?_⟩
   obtain ⟨cs,h1⟩:=ownG_obj h.own e2.symm
   obtain ⟨cs2,h2⟩:=ownG_obj (h.row j e eT).2 hq
   rw [h1] at h2
   injection h2 with h2
   injection h2 with _ h3
   exact absurd h3 (by decide)
  ·
   rw [hnew j hj e]
   have eT:¬ j<T.length:=by rw [← h.len];exact e
   have:(T ++ [(⟨-1,[]⟩:Bn)])[j]=⟨-1,[]⟩:=by
    rw [List.getElem_append_right (by omega)]
    have:j - T.length=0:=by rw [List.length_append,List.length_singleton] at hj2;omega
    simp [this]
   rw [this]
   exact ⟨rfl,OwnG.nil _ _ _⟩
 ·
  by_cases e:j<N.length
  ·
   rw [List.getElem_append_left e] at hq
   by_cases e2:j2<N.length
   · rw [List.getElem_append_left e2];exact h.dis j j2 e e2 q hjj hq
   · rw [hnew j2 hj2 e2];intro h9;cases h9
  · rw [hnew j hj e] at hq;cases hq
theorem TrM.word {g n c k:Nat} {i:Int} (h:TrM w B (.slice (some ⟨g,0,none⟩) n c) N T) (hk:k<N.length) :
  TrM (w.setCell ⟨g,k*2,none⟩ (.int .i64 i)) B (.slice (some ⟨g,0,none⟩) n c) (N.set k ⟨i,N[k].a,N[k].n,N[k].c⟩) (setWord T k i):=by
 have hne:∀ q,q≠g→(w.setCell ⟨g,k*2,none⟩ (.int .i64 i)).heap[q]? = w.heap[q]?:=fun q hq=>Below.heap_setCell _ _ _ _ hq
 have hsg:∀ j (hj:j<T.length),(setWord T k i)[j]'(by rw [setWord_len];exact hj)=if k=j then ⟨i,T[j].arcs⟩ else T[j]:=fun j hj=>setWord_get hj
 have hs:∀ j (hj:j<N.length),((N.set k ⟨i,N[k].a,N[k].n,N[k].c⟩)[j]'(by simpa using hj)).s=N[j].s:=fun j hj=>by
  rw [List.getElem_set]
  split
  · rename_i e;subst e;rfl
  · rfl
 refine ⟨h.own.setCell (by simp) (enc_set hk _ (j:=0) (by decide) rfl) (by show k*2<N.length*2;omega) rowBn_ok,by rw [List.length_set,setWord_len];exact h.len,fun j hj hj2=>?_,fun j j2 hj hj2 q hjj hq=>?_⟩
 ·
  have hj':j<N.length:=by simpa using hj
  have hjT:j<T.length:=by rw [← h.len];exact hj'
  have h1:=h.row j hj' hjT
  have h2:OwnG rowArc (w.setCell ⟨g,k*2,none⟩ (.int .i64 i)) B N[j].s T[j].arcs:=h1.2.keep fun q hq=>hne q fun e=>h.ne hj' (by rw [← e];exact hq)
  refine ⟨?_,?_⟩
  ·
   rw [hsg j hjT,List.getElem_set]
   split
   · rfl
   · exact h1.1
  · rw [hs j hj',setWord_arcs hjT];exact h2
 ·
  have hj':j<N.length:=by simpa using hj
  have hj2':j2<N.length:=by simpa using hj2
  rw [hs j hj'] at hq
  rw [hs j2 hj2']
  exact h.dis j j2 hj' hj2' q hjj hq
end
end Go.Proofs.YthjmdgejnakcmaaGreatDoor
