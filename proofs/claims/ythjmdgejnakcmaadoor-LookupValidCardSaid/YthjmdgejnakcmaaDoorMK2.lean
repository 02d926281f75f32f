/- Texts that the claims share: K3, KR, K4, K5, K7. -/
import Derived.Deep.QuietTactic
import Derived.BigQuiet
import Derived.IntWalk
import Derived.Laws.StructEq
import Derived.Test.YthjmdgejnakcmaaDoorMK1
import Derived.Test.YthjmdgejnakcmaaDoorMA1
namespace Go.Proofs.YthjmdgejnakcmaaDoor
open Go.RowKit Go.WideShapes Fl
set_option linter.unusedVariables false
set_option linter.unusedSimpArgs false
theorem chA_get {s:Slt} {p:Nat} (h:p<(chA s).length):(chA s)[p]=⟨((s[p]'(by rw [chA_len] at h;exact h)).key.toNat:Int),(s[p]'(by rw [chA_len] at h;exact h)).cost⟩:=by simp [chA]
theorem letC_some {s:Slt} {c:UInt8} {a:Nat} (hb:∀ h∈s,0≤h.cost) (h:letC s c=some a):∃ p,∃ hp:p<(chA s).length,arcIx (chA s) (c.toNat:Int)=(p:Int)∧(chA s)[p].t=(a:Int):=by
 unfold letC at h
 cases e:s.find? fun h=>h.key == c with
 | none=>rw [e] at h;cases h
 | some x =>
  rw [e] at h
  simp at h
  obtain ⟨h1,p,hp,h2,h3⟩:=List.find?_eq_some_iff_getElem.1 e
  have hp2:p<(chA s).length:=by rw [chA_len];exact hp
  refine ⟨p,hp2,arcIx_at hp2 ?_ ?_,?_⟩
  ·
   rw [List.all_eq_true]
   intro y hy
   obtain ⟨j,hj,rfl⟩:=List.mem_iff_getElem.1 hy
   rw [List.length_take] at hj
   rw [List.getElem_take,chA_get (by omega)]
   have h4:=h3 j (by omega)
   simp only [Bool.not_eq_true',beq_eq_false_iff_ne,ne_eq] at h4 ⊢
   intro e9
   exact h4 (UInt8.toNat_inj.1 (by omega))
  ·
   rw [chA_get hp2,h2]
   simp only [beq_iff_eq] at h1 ⊢
   rw [h1]
  ·
   rw [chA_get hp2,h2]
   have:=hb x (List.mem_of_find?_eq_some e)
   simp only
   omega
theorem letC_none {s:Slt} {c:UInt8} (h:letC s c=none):arcIx (chA s) (c.toNat:Int) = -1:=by
 unfold letC at h
 have e:s.find? (fun h=>h.key == c)=none:=by
  cases e:s.find? fun h=>h.key == c with
  | none=>rfl
  | some x=>rw [e] at h;cases h
 refine arcIx_none ?_
 rw [List.all_eq_true]
 intro y hy
 unfold chA at hy
 obtain ⟨x,hx,rfl⟩:=List.mem_map.1 hy
 have h1:=List.find?_eq_none.1 e x hx
 simp only [Bool.not_eq_true',beq_eq_false_iff_ne,ne_eq,beq_iff_eq] at h1 ⊢
 intro e9
 exact h1 (UInt8.toNat_inj.1 (by omega))
theorem bts_get {s:ByteArray} {k:Nat} (h:k<s.size):(bts s)[k]'(by rw [bts_len];exact h)=s[k]:=rfl
theorem letsC_step {L:List Slt} {s:ByteArray} {i k:Nat} (hk:k<s.size) (hi:i+k<L.length) :
  letsC (L.drop (i+k)) ((bts s).drop k)=match letC L[i+k] s[k] with | none=>none | some a=>(letsC (L.drop (i+(k+1))) ((bts s).drop (k+1))).map (a+·):=by
 rw [List.drop_eq_getElem_cons (show k<(bts s).length by rw [bts_len];exact hk),List.drop_eq_getElem_cons hi,letsC,bts_get hk]
 rfl
theorem letsC_short {L:List Slt} {r:List UInt8} (h:L.length<r.length):letsC L r=none:=by
 cases e:letsC L r with
 | none=>rfl
 | some a=>have:=letsC_len e;omega
def LetP (o:Option Nat) (e:Ending):Prop:=match o with
 | none=>e=.returned (.tuple #[.int .i64 0,.bool false])
 | some k=>e=.returned (.tuple #[.int .i64 (k:Int),.bool true])
section
variable {w w':World} {gx:Nat} {acc:Int} {aR:Option Addr} {nR cR:Nat} {aT:Option Addr} {nT cT:Nat} {aL:Option Addr} {nL cL:Nat} {gm:Nat→Nat}
theorem idx_slots2 (a:Option Addr) (b o len cap i k:Nat) (ha:a=some ⟨b,o,none⟩) (hk:i+k<len) (w:World) :
  (Instr.indexAt 23 (.slice a len cap) (.int .i64 ((i:Int)+(k:Int)))).run Tryd.prog w=.ok (.pointer (some ⟨b,o+(i+k),none⟩)) w:=by
 have:=idx_slots a b o len cap (i+k) ha hk w
 rw [← this]
 congr 2
set_option maxHeartbeats 3200000 in
theorem
    letters_any (L:List Slt) (C i:Nat) (s:ByteArray) (hx:SX w gx acc aR nR cR aT nT cT aL nL cL gm) (hL:SlotS w aL L) (hn:nL=L.length) (hnl:nL≤1000000) (hi:i≤L.length) (hs:s.size≤1000000) (hB:SlotsB C L) (hC:C≤1000000) :
  Calls Tryd.prog 41 #[.pointer (some ⟨gx,0,none⟩),.int .i64 (i:Int),.string s] w fun e w'=>LetP (letsC (L.drop i) (bts s)) e∧Below w.heap.size w w':=by
 subst hn
 have HX:=Lib.hid hx;have HL:=Lib.hid hL;have HB:=Lib.hid hB
 have hgx:=hx.lt
 obtain ⟨c0,c1,c2,c3⟩:=hx.cells
 clear hx hL hB c0 c1 c2
 by_cases hlen:s.size≤L.length - i
 ·
  have hl1:¬ (L.length:Int) - (i:Int)<(s.size:Int):=by omega
  have hl2:s.size+i≤L.length:=by omega
  clear hlen
  go_enter Tryd.func41,Tryd.ntmps41
  go_wp2_with fail
  go_quiet (fail)
  go_wp2
  go_loopw [8,24] (fun sm q wr=>∃ k a:Nat,k≤s.size∧q=.int .i64 (k:Int)∧sm=.int .i64 (a:Int)∧a≤k*C∧letsC (L.drop i) (bts s)=(letsC (L.drop (i+k)) ((bts s).drop k)).map (a+·)∧Below (w.heap.size+1) (w.alloc (.cells #[.string s] 9)) wr) (fun _ q _=>s.size - (intOf q).toNat)
  case atStart=>exact ⟨0,0,Nat.zero_le _,rfl,rfl,Nat.zero_le _,by rw [Nat.add_zero,List.drop_zero];cases letsC (L.drop i) (bts s) <;> simp,⟨rfl,rfl,rfl,Nat.le_refl _,fun _ _=>rfl⟩⟩
  case round =>
   obtain ⟨k,a,hk,rfl,rfl,ha,hsum,hbl⟩:=hrel
   have HSU:=Lib.hid hsum;have HBL:=Lib.hid hbl
   have hz:=hbl.size
   rw [World.size_alloc] at hz
   have hW:=((Below.refl w.heap.size w).alloc (Nat.le_refl _) (.cells #[.string s] 9)).trans (hbl.mono (Nat.le_succ _))
   have HW:=Lib.hid hW
   clear hsum hbl hW
   by_cases hlt:k<s.size
   ·
    obtain ⟨b1,o1,ha1,hb1,aa,cc,q0,ql,hq⟩:=(HL.out.later HW.out (Nat.le_refl _)).at (show i+k<L.length by omega)
    have hi1:=idx_slots2 aL b1 o1 L.length cL i k ha1 (by omega)
    have c3r:=(HW.out.cell (p:=⟨gx,3,none⟩) hgx).trans c3
    have b0:wr.cell? ⟨w.heap.size,0,none⟩=some (.string s):=(HBL.out.cell (p:=⟨w.heap.size,0,none⟩) (Nat.lt_succ_self _)).trans (by rw [cell_of_row _ w.heap.size 0 _ _ (0,0) (heap_alloc_new _ _)];rfl)
    have HB0:=Lib.hid b0
    have HST:=Lib.hid (letsC_step (L:=L) hlt (show i+k<L.length by omega))
    have hsC:∀ h∈L[i+k],0≤h.cost∧h.cost≤(C:Int):=HB.out _ (List.getElem_mem _)
    obtain ⟨sl,hsl⟩:∃ sl,L[i+k]=sl:=⟨_,rfl⟩
    rw [hsl] at q0 ql hq HST hsC
    have HQ:=Lib.hid hq;have HSC:=Lib.hid hsC
    have hwr:IntKind.i64.wrap ((i:Int)+(k:Int))=(i:Int)+(k:Int):=IntWalk.i64_in _ (by omega)
    have HZ:Hid (∀ q,Below wr.heap.size wr ((wr.alloc (.cells #[.int .i64 (k:Int)] 3)).drewN q)):=fun q=>below_drewN ((Below.refl _ _).alloc (Nat.le_refl _) _) q
    have HZK:Hid (∀ q,((wr.alloc (.cells #[.int .i64 (k:Int)] 3)).drewN q).cell? ⟨wr.heap.size,0,none⟩=some (.int .i64 (k:Int))):=fun q=>by
     rw [cell_of_row _ wr.heap.size 0 _ _ (0,0) (show ((wr.alloc (.cells #[.int .i64 (k:Int)] 3)).drewN q).heap[wr.heap.size]? = _ from heap_alloc_new _ _)];rfl
    have HZS:Hid (∀ q,wr.heap.size<((wr.alloc (.cells #[.int .i64 (k:Int)] 3)).drewN q).heap.size):=fun q=>by
     show wr.heap.size<(wr.alloc _).heap.size
     rw [World.size_alloc];omega
    clear ha1 hsl hq hsC
    obtain ⟨lc,hlc⟩:∃ lc,letC sl s[k]=lc:=⟨_,rfl⟩
    have HLC:=Lib.hid hlc
    clear hlc
    cases lc with
    | none =>
     have HIX:=Lib.hid (letC_none HLC.out)
     have HN:Hid (letsC (L.drop i) (bts s)=none):=by
      show _=_
      rw [HSU.out,HST.out,HLC.out];rfl
     go_wp2_with fail
     go_quiet (fail)
     go_wp2_with fail
     refine (idx_chs_any (chA sl) aa sl.length cc s w.heap.size wr.heap.size k _ (HQ.out.later (HZ.out _) (Nat.le_refl _)) (chA_len sl).symm ql (((HZ.out _).cell (p:=⟨w.heap.size,0,none⟩) hz).trans HB0.out) (Nat.lt_trans (show w.heap.size<wr.heap.size by omega) (HZS.out _)) (HZK.out _) (HZS.out _) hlt).mono ?_
     rintro e w5 ⟨he,hb⟩
     rw [HIX.out] at he
     subst he
     have HB5:=Lib.hid ((HZ.out _).trans (hb.mono (HZ.out _).size))
     clear hb
     go_wp2_with fail
     go_ret2
     exact ⟨by rw [HN.out];rfl,HW.out.trans (HB5.out.mono HW.out.size)⟩
    | some c =>
     obtain ⟨p,hp,hix,hct⟩:=letC_some (fun h hh=>(HSC.out h hh).1) HLC.out
     have hcC:=letC_le HSC.out HLC.out
     have HIX:=Lib.hid hix
     obtain ⟨b2,o2,ha2,hb2,p0,p1⟩:=HQ.out.at hp
     rw [hct] at p1
     have HP1:=Lib.hid p1
     have hp':p<sl.length:=by rw [chA_len] at hp;exact hp
     have hi2:=idx_chs aa b2 o2 sl.length cc p ha2 hp'
     have HN:Hid (letsC (L.drop i) (bts s)=(letsC (L.drop (i+(k+1))) ((bts s).drop (k+1))).map ((a+c)+·)):=by
      show _=_
      rw [HSU.out,HST.out,HLC.out]
      show ((letsC (L.drop (i+(k+1))) ((bts s).drop (k+1))).map (c+·)).map (a+·)=_
      cases letsC (L.drop (i+(k+1))) ((bts s).drop (k+1)) with
      | none=>rfl
      | some z=>simp [Nat.add_assoc]
     have hkc:k*C≤1000000*1000000:=Nat.mul_le_mul (by omega) hC
     have hac:a+c≤(k+1)*C:=by rw [Nat.add_mul];omega
     have hpI:¬ (p:Int)<0:=by omega
     clear hix hct ha2 p0 p1 hp
     go_wp2_with fail
     go_quiet (fail)
     go_wp2_with fail
     refine (idx_chs_any (chA sl) aa sl.length cc s w.heap.size wr.heap.size k _ (HQ.out.later (HZ.out _) (Nat.le_refl _)) (chA_len sl).symm ql (((HZ.out _).cell (p:=⟨w.heap.size,0,none⟩) hz).trans HB0.out) (Nat.lt_trans (show w.heap.size<wr.heap.size by omega) (HZS.out _)) (HZK.out _) (HZS.out _) hlt).mono ?_
     rintro e w5 ⟨he,hb⟩
     rw [HIX.out] at he
     subst he
     have HB5:=Lib.hid ((HZ.out _).trans (hb.mono (HZ.out _).size))
     have p1':=(HB5.out.cell (p:=⟨b2,o2+p*2+1,none⟩) hb2).trans HP1.out
     clear hb
     go_wp2_with fail
     go_roundw
     case rel=>exact ⟨k+1,a+c,by omega,by go_num,by go_num,hac,HN.out,HBL.out.trans (HB5.out.mono hz)⟩
     case measure=>simp [intOf];omega
   ·
    have HN:Hid (letsC (L.drop i) (bts s)=some a):=by
     show _=_
     have e:(bts s).drop k=[]:=List.drop_eq_nil_of_le (by rw [bts_len];omega)
     rw [HSU.out,e,letsC_nil];simp
    go_wp2
    go_ret2
    exact ⟨by rw [HN.out];rfl,HW.out⟩
 ·
  have hl1:(L.length:Int) - (i:Int)<(s.size:Int):=by omega
  have HN:Hid (letsC (L.drop i) (bts s)=none):=letsC_short (by rw [List.length_drop,bts_len];omega)
  clear hlen
  go_enter Tryd.func41,Tryd.ntmps41
  go_wp2_with fail
  go_quiet (fail)
  go_wp2
  go_ret2
  exact ⟨by rw [HN.out];rfl,below_drewN ((Below.refl _ w).alloc (Nat.le_refl _) _) _⟩
end
structure Bn where
 word:Int
 arcs:List Ar
deriving DecidableEq,Inhabited
def TreeS (w:World) (a:Option Addr) (T:List Bn):Prop:=∀ k (hk:k<T.length),∃ b o,a=some ⟨b,o,none⟩∧b<w.heap.size∧w.cell? ⟨b,o+k*2,none⟩=some (.int .i64 T[k].word) ∧
 ∃ aa cc,w.cell? ⟨b,o+k*2+1,none⟩=some (.slice aa T[k].arcs.length cc)∧T[k].arcs.length≤9223372036854775807∧ArcS w aa T[k].arcs
theorem TreeS.kp {w w1:World} {a:Option Addr} {T:List Bn} (h:TreeS w a T) (hk:Kc w w1):TreeS w1 a T:=fun k hl=>by
 obtain ⟨b,o,ha,h1,h2,aa,cc,h3,h4,h5⟩:=h k hl
 exact ⟨b,o,ha,Nat.lt_of_lt_of_le h1 hk.size,hk.cell h2,aa,cc,hk.cell h3,h4,h5.kp hk⟩
theorem TreeS.later {w w1:World} {a:Option Addr} {T:List Bn} {B:Nat} (h:TreeS w a T) (hb:Below B w w1) (hB:w.heap.size≤B):TreeS w1 a T:=h.kp (Kc.of hb hB)
theorem TreeS.at {w:World} {a:Option Addr} {T:List Bn} (h:TreeS w a T) {k:Nat} (hk:k<T.length):∃ b o,a=some ⟨b,o,none⟩∧b<w.heap.size∧w.cell? ⟨b,o+k*2,none⟩=some (.int .i64 T[k].word) ∧
 ∃ aa cc,w.cell? ⟨b,o+k*2+1,none⟩=some (.slice aa T[k].arcs.length cc)∧T[k].arcs.length≤9223372036854775807∧ArcS w aa T[k].arcs:=h k hk
theorem idx_tree (a:Option Addr) (b o len cap k:Nat) (ha:a=some ⟨b,o,none⟩) (hk:k<len) (w:World) :
  (Instr.indexAt 77 (.slice a len cap) (.int .i64 (k:Int))).run Tryd.prog w=.ok (.pointer (some ⟨b,o+k*2,none⟩)) w:=by
 subst ha
 have h0:(0:Int)≤(k:Int):=by omega
 have h1:(k:Int)<(len:Int):=by omega
 simp [go_sem,h0,h1]
def
  folT (T:List Bn):Nat→List UInt8→Option Nat
 | n,[]=>some n
 | n,c :: r=>match T[n]? with
  | none=>none
  | some b=>match b.arcs.find? (fun x=>x.c == (c.toNat:Int)) with
   | none=>none
   | some x=>folT T x.t.toNat r
theorem
    folw (T:List Bn):Folw (folT T) where
 nil n:=rfl
 app
   n
    a b:=by
  induction a generalizing n with
  | nil=>rfl
  | cons c r ih =>
   simp only [List.cons_append,folT]
   cases T[n]? with
   | none=>rfl
   | some y =>
    simp only
    cases y.arcs.find? (fun x=>x.c == (c.toNat:Int)) with
    | none=>rfl
    | some x=>exact ih _
def TrIn (T:List Bn):Prop:=∀ b∈T,∀ x∈b.arcs,0≤x.t∧x.t<(T.length:Int)
theorem folT_lt {T:List Bn} (h:TrIn T):∀ {r:List UInt8} {n m:Nat},n<T.length→folT T n r=some m→m<T.length
 | [],n,m,hn,e=>by cases e;exact hn
 | c
   :: r,n,m,hn,e=>by
  simp only [folT,List.getElem?_eq_getElem hn] at e
  split at e
  · cases e
  ·
   rename_i x hx
   have:=h _ (List.getElem_mem hn) x (List.mem_of_find?_eq_some hx)
   exact folT_lt h (by omega) e
theorem arc_some {X:List Ar} {c:Int} {x:Ar} (h:X.find? (fun x=>x.c == c)=some x):∃ p,∃ hp:p<X.length,arcIx X c=(p:Int)∧X[p]=x:=by
 obtain ⟨h1,p,hp,h2,h3⟩:=List.find?_eq_some_iff_getElem.1 h
 refine ⟨p,hp,arcIx_at hp ?_ (by rw [h2];exact h1),h2⟩
 rw [List.all_eq_true]
 intro y hy
 obtain ⟨j,hj,rfl⟩:=List.mem_iff_getElem.1 hy
 rw [List.length_take] at hj
 rw [List.getElem_take]
 exact h3 j (by omega)
theorem arc_none {X:List Ar} {c:Int} (h:X.find? (fun x=>x.c == c)=none):arcIx X c = -1:=by
 refine arcIx_none ?_
 rw [List.all_eq_true]
 intro y hy
 have:=List.find?_eq_none.1 h y hy
 simpa using this
theorem folT_step {T:List Bn} {m k:Nat} {s:ByteArray} (hm:m<T.length) (hk:k<s.size) :
  folT T m ((bts s).drop k)=match T[m].arcs.find? (fun x=>x.c == (s[k].toNat:Int)) with | none=>none | some x=>folT T x.t.toNat ((bts s).drop (k+1)):=by
 rw [List.drop_eq_getElem_cons (show k<(bts s).length by rw [bts_len];exact hk),folT,List.getElem?_eq_getElem hm,bts_get hk]
section
variable {w w':World} {gx:Nat} {acc:Int} {aR:Option Addr} {nR cR:Nat} {aT:Option Addr} {nT cT:Nat} {aL:Option Addr} {nL cL:Nat} {gm:Nat→Nat}
set_option maxHeartbeats 3200000 in
theorem
    follow_any (T:List Bn) (n:Nat) (s:ByteArray) (hx:SX w gx acc aR nR cR aT nT cT aL nL cL gm) (hT:TreeS w aT T) (hn:nT=T.length) (hnl:nT≤1000000) (hi:n<T.length) (hs:s.size≤1000000) (hIn:TrIn T) :
  Calls Tryd.prog 32 #[.pointer (some ⟨gx,0,none⟩),.int .i64 (n:Int),.string s] w fun e w'=>LetP (folT T n (bts s)) e∧Below w.heap.size w w':=by
 subst hn
 have HX:=Lib.hid hx;have HT:=Lib.hid hT;have HI:=Lib.hid hIn
 have hgx:=hx.lt
 obtain ⟨c0,c1,c2,c3⟩:=hx.cells
 clear hx hT hIn c0 c1 c3
 go_enter Tryd.func32,Tryd.ntmps32
 go_wp2
 go_loopw [1,13] (fun nd q wr=>∃ k m:Nat,k≤s.size∧q=.int .i64 (k:Int)∧nd=.int .i64 (m:Int)∧m<T.length∧folT T n (bts s)=folT T m ((bts s).drop k)∧Below (w.heap.size+1) (w.alloc (.cells #[.string s] 9)) wr) (fun _ q _=>s.size - (intOf q).toNat)
 case atStart=>exact ⟨0,n,Nat.zero_le _,rfl,rfl,hi,rfl,Below.refl _ _⟩
 case round =>
  obtain ⟨k,m,hk,rfl,rfl,hm,hsum,hbl⟩:=hrel
  have HSU:=Lib.hid hsum;have HBL:=Lib.hid hbl
  have hz:=hbl.size
  rw [World.size_alloc] at hz
  have hW:=((Below.refl w.heap.size w).alloc (Nat.le_refl _) (.cells #[.string s] 9)).trans (hbl.mono (Nat.le_succ _))
  have HW:=Lib.hid hW
  clear hsum hbl hW
  by_cases hlt:k<s.size
  ·
   obtain ⟨b1,o1,ha1,hb1,q9,aa,cc,q0,ql,hq⟩:=(HT.out.later HW.out (Nat.le_refl _)).at hm
   have hi1:=idx_tree aT b1 o1 T.length cT m ha1 hm
   have c2r:=(HW.out.cell (p:=⟨gx,2,none⟩) hgx).trans c2
   have b0:wr.cell? ⟨w.heap.size,0,none⟩=some (.string s):=(HBL.out.cell (p:=⟨w.heap.size,0,none⟩) (Nat.lt_succ_self _)).trans (by rw [cell_of_row _ w.heap.size 0 _ _ (0,0) (heap_alloc_new _ _)];rfl)
   have HB0:=Lib.hid b0
   have HST:=Lib.hid (folT_step (T:=T) hm hlt)
   have HTI:=Lib.hid (HI.out _ (List.getElem_mem hm))
   obtain ⟨X,hX⟩:∃ X,T[m].arcs=X:=⟨_,rfl⟩
   rw [hX] at q0 ql hq HST HTI
   have HQ:=Lib.hid hq
   have HZ:Hid (Below wr.heap.size wr (wr.alloc (.cells #[.int .i64 (k:Int)] 3))):=(Below.refl _ _).alloc (Nat.le_refl _) _
   have HZK:Hid ((wr.alloc (.cells #[.int .i64 (k:Int)] 3)).cell? ⟨wr.heap.size,0,none⟩=some (.int .i64 (k:Int))):=by
    show _=_
    rw [cell_of_row _ wr.heap.size 0 _ _ (0,0) (heap_alloc_new _ _)];rfl
   have HZS:Hid (wr.heap.size<(wr.alloc (.cells #[.int .i64 (k:Int)] 3)).heap.size):=by
    show wr.heap.size<(wr.alloc _).heap.size
    rw [World.size_alloc];omega
   clear ha1 hX hq q9
   obtain ⟨lc,hlc⟩:∃ lc,X.find? (fun x=>x.c == (s[k].toNat:Int))=lc:=⟨_,rfl⟩
   have HLC:=Lib.hid hlc
   clear hlc
   cases lc with
   | none =>
    have HIX:=Lib.hid (arc_none HLC.out)
    have HN:Hid (folT T n (bts s)=none):=by
     show _=_
     rw [HSU.out,HST.out,HLC.out]
    go_wp2_with fail
    refine (idx_arcs_any X aa X.length cc s w.heap.size wr.heap.size k _ (HQ.out.later HZ.out (Nat.le_refl _)) rfl ql ((HZ.out.cell (p:=⟨w.heap.size,0,none⟩) hz).trans HB0.out) (Nat.lt_trans (show w.heap.size<wr.heap.size by omega) HZS.out) HZK.out HZS.out hlt).mono ?_
    rintro e w5 ⟨he,hb⟩
    rw [HIX.out] at he
    subst he
    have HB5:=Lib.hid (HZ.out.trans (hb.mono HZ.out.size))
    clear hb
    go_wp2_with fail
    go_ret2
    exact ⟨by rw [HN.out];rfl,HW.out.trans (HB5.out.mono HW.out.size)⟩
   | some x =>
    obtain ⟨p,hp,hix,hct⟩:=arc_some HLC.out
    have HIX:=Lib.hid hix
    obtain ⟨b2,o2,ha2,hb2,p0,p1⟩:=HQ.out.at hp
    have hxt:=HTI.out x (List.mem_of_find?_eq_some HLC.out)
    obtain ⟨m2,hm2⟩:∃ m2:Nat,x.t=(m2:Int):=⟨x.t.toNat,by omega⟩
    rw [hct,hm2] at p1
    have HP1:=Lib.hid p1
    have hi2:=idx_arcs aa b2 o2 X.length cc p ha2 hp
    have HN:Hid (folT T n (bts s)=folT T m2 ((bts s).drop (k+1))):=by
     show _=_
     rw [HSU.out,HST.out,HLC.out]
     show folT T x.t.toNat _=_
     rw [hm2];rfl
    have hm3:m2<T.length:=by omega
    have hpI:¬ (p:Int)<0:=by omega
    clear hix hct ha2 p0 p1 hxt hm2
    go_wp2_with fail
    refine (idx_arcs_any X aa X.length cc s w.heap.size wr.heap.size k _ (HQ.out.later HZ.out (Nat.le_refl _)) rfl ql ((HZ.out.cell (p:=⟨w.heap.size,0,none⟩) hz).trans HB0.out) (Nat.lt_trans (show w.heap.size<wr.heap.size by omega) HZS.out) HZK.out HZS.out hlt).mono ?_
    rintro e w5 ⟨he,hb⟩
    rw [HIX.out] at he
    subst he
    have HB5:=Lib.hid (HZ.out.trans (hb.mono HZ.out.size))
    have p1':=(HB5.out.cell (p:=⟨b2,o2+p*2+1,none⟩) hb2).trans HP1.out
    clear hb
    go_wp2_with fail
    go_roundw
    case rel=>exact ⟨k+1,m2,by omega,by go_num,rfl,hm3,HN.out,HBL.out.trans (HB5.out.mono hz)⟩
    case measure=>simp [intOf];omega
  ·
   have HN:Hid (folT T n (bts s)=some m):=by
    show _=_
    have e:(bts s).drop k=[]:=List.drop_eq_nil_of_le (by rw [bts_len];omega)
    rw [HSU.out,e];rfl
   go_wp2
   go_ret2
   exact ⟨by rw [HN.out];rfl,HW.out⟩
theorem fair_any (r:Rl) (w:World) :
  Calls Tryd.prog 29 #[.agg #[.int .i64 r.frm,.int .i64 r.dst,.string r.inp,.string r.out,.int .i64 r.cost]] w fun e w'=>e=.returned (.bool (fairB r))∧Below w.heap.size w w':=by
 rcases (show fairB r=true∨r.frm<0∨(0≤r.frm∧¬ r.frm<8)∨(0≤r.frm∧r.frm<8∧r.dst<0)∨(0≤r.frm∧r.frm<8∧0≤r.dst∧¬ r.dst<8)∨(0≤r.frm∧r.frm<8∧0≤r.dst∧r.dst<8∧¬ (r.inp.size:Int)≤4) ∨
   (0≤r.frm∧r.frm<8∧0≤r.dst∧r.dst<8∧(r.inp.size:Int)≤4∧r.cost<0)∨(0≤r.frm∧r.frm<8∧0≤r.dst∧r.dst<8∧(r.inp.size:Int)≤4∧0≤r.cost∧¬ r.cost≤1000) from by
  by_cases h:fairB r=true
  · exact .inl h
  ·
   refine .inr ?_
   rw [fairB_iff] at h
   omega) with h | h | ⟨h1,h⟩ | ⟨h1,h2,h⟩ | ⟨h1,h2,h3,h⟩ | ⟨h1,h2,h3,h4,h⟩ | ⟨h1,h2,h3,h4,h5,h⟩ | ⟨h1,h2,h3,h4,h5,h6,h⟩
 ·
  have HF:=Lib.hid h
  obtain ⟨h1,h2,h3,h4,h5,h6,h7⟩:=fairB_iff.1 h
  have h5':(r.inp.size:Int)≤4:=by omega
  clear h h5
  go_enter Tryd.func29,Tryd.ntmps29
  go_wp2
  go_ret
  exact ⟨ret_bool HF.out.symm,by go_grown⟩
 all_goals
  have HF:Hid (fairB r=false):=by
   show _=_
   cases e:fairB r with
   | false=>rfl
   | true=>rw [fairB_iff] at e;omega
  try have h':=Int.not_le.2 h
  go_enter Tryd.func29,Tryd.ntmps29
  go_wp2
  go_ret
  exact ⟨ret_bool HF.out.symm,by go_grown⟩
end
end Go.Proofs.YthjmdgejnakcmaaDoor
namespace Go.Proofs.YthjmdgejnakcmaaDoor
open Go.RowKit Go.WideShapes Fl
set_option linter.unusedVariables false
set_option linter.unusedSimpArgs false
section
variable {α:Type} {T:RowT α} {W0 W w':World} {B:Nat} {vR v:Value} {L:List α} {x:α}
def RowG1 (T:RowT α) (vR:Value) (x:α) (v:Value) (w:World):Prop:=∃ g,v=.slice (some ⟨g,0,none⟩) 1 1∧w.heap[g]? = some (.cells (T.enc x).toArray T.e (0,0))∧vR.ownBlock≠some g
theorem rowG1_stays (T:RowT α) (vR:Value) (x:α):Stays (RowG1 T vR x):=by
 rintro v w w' ⟨g,h1,h2,h3⟩ hx
 exact ⟨g,h1,(Below.block hx g (Array.getElem?_eq_some_iff.1 h2).1).trans h2,h3⟩
theorem rowG1_grown (T:RowT α) (vR:Value) (x:α):∀ v w w',RowG1 T vR x v w→w.grownBy w' vR.ownBlock→RowG1 T vR x v w':=by
 rintro v w w' ⟨g,h1,h2,h3⟩ hx
 exact ⟨g,h1,(hx.block g (Array.getElem?_eq_some_iff.1 h2).1 fun e=>h3 e.symm).trans h2,h3⟩
structure AppP (T:RowT α) (W0:World) (B:Nat) (vR:Value) (L:List α) (v:Value) (W:World):Prop where
 own:OwnG T W B v L
 os:W.os=W0.os
 tape:W.tape=W0.tape
 output:W.output=W0.output
 size:W0.heap.size≤W.heap.size
 block:∀ q,q<W0.heap.size→vR.ownBlock≠some q→W.heap[q]? = W0.heap[q]?
 loc:v.ownBlock=vR.ownBlock∨∃ q,v.ownBlock=some q∧W0.heap.size≤q
theorem appP_stays:Stays (AppP T W0 B vR L):=fun v w w' h hx =>
 ⟨h.own.later hx (Nat.le_refl _),(Below.os hx).trans h.os,(Below.tape hx).trans h.tape,(Below.output hx).trans h.output,Nat.le_trans h.size (Below.size hx),fun q hq hne=>(Below.block hx q (Nat.lt_of_lt_of_le hq h.size)).trans (h.block q hq hne),h.loc⟩
theorem AppP.made (hx:Ext W0 W) (ho:OwnG T w' B v (L ++ [x])) (hg:W.grownBy w' vR.ownBlock) (hat:v.ownBlock=vR.ownBlock∨v.ownBlock=some W.heap.size):AppP T W0 B vR (L ++ [x]) v w' :=
 ⟨ho,hg.os.trans (Below.os hx),hg.tape.trans (Below.tape hx),hg.output.trans (Below.output hx),Nat.le_trans (Below.size hx) hg.size,fun q hq hne=>(hg.block q (Nat.lt_of_lt_of_le hq (Below.size hx)) fun e=>hne e.symm).trans (Below.block hx q hq),hat.imp id fun e=>⟨_,e,Below.size hx⟩⟩
def ApT (W0:World) (vR:Value) (b:Bool) (W:World):Prop:=match b with | false=>Ext W0 W | true=>W0.heap.size≤W.heap.size∧∀ q,q<W0.heap.size→vR.ownBlock≠some q→W.heap[q]? = W0.heap[q]?
theorem ApT.old:∀ {b:Bool},ApT W0 vR b W→∀ q,q<W0.heap.size→vR.ownBlock≠some q→W.heap[q]? = W0.heap[q]?
 | false,h,q,hq,_=>Below.block h q hq
 | true,h,q,hq,hne=>h.2 q hq hne
theorem ApT.ext:∀ (b:Bool) (w w':World),ApT W0 vR b w→Ext w w'→ApT W0 vR b w':=fun b w w' h hx=>by
 cases b with
 | false=>exact Ext.trans h hx
 | true=>exact ⟨Nat.le_trans h.1 (Below.size hx),fun q hq hne=>(Below.block hx q (Nat.lt_of_lt_of_le hq h.1)).trans (h.2 q hq hne)⟩
theorem AppP.old (h:AppP T W0 B vR L v W):ApT W0 vR true W:=⟨h.size,h.block⟩
theorem AppP.below (h:AppP T W0 B vR L v W) {C:Nat} (hC:C≤W0.heap.size) (hv:∀ q,vR.ownBlock=some q→C≤q):Below C W0 W :=
 ⟨h.os,h.tape,h.output,h.size,fun q hq=>h.block q (by omega) fun e=>by have:=hv q e;omega⟩
theorem drew_ext (w:World):Ext w { heap:=w.heap,tape:=w.tape,drawn:=w.drawn+1,os:=w.os,output:=w.output }:=⟨rfl,rfl,rfl,Nat.le_refl _,fun _ _=>rfl⟩
end
def rowRul:RowT Rl:=⟨34,33,5,56,.agg #[.int .i64 0,.int .i64 0,.string ⟨#[]⟩,.string ⟨#[]⟩,.int .i64 0],fun r=>[.int .i64 r.frm,.int .i64 r.dst,.string r.inp,.string r.out,.int .i64 r.cost]⟩
theorem rowRul_ok:rowRul.Ok:=⟨Tryd.underlying34,by kernel_rfl,rfl,by decide,fun _=>rfl,fun x u hu=>by
 have h:u=.int .i64 x.frm∨u=.int .i64 x.dst∨u=.string x.inp∨u=.string x.out∨u=.int .i64 x.cost:=by simpa [rowRul] using hu
 rcases h with rfl | rfl | rfl | rfl | rfl <;> rfl,by decide⟩
theorem OwnG.ruls {w:World} {B:Nat} {a:Option Addr} {n c:Nat} {L:List Rl} (h:OwnG rowRul w B (.slice a n c) L):RulS w a L∧n=L.length∧L.length≤c:=by
 obtain ⟨a',c',he,hc,_⟩:=h.form
 injection he with e1 e2 e3
 refine ⟨?_,e2,by omega⟩
 rcases h.blk with ⟨_,rfl⟩ | ⟨g,c2,he2,_,hg,_⟩
 · exact .inl rfl
 ·
  injection he2 with f1 f2 f3
  subst f1
  refine .inr ⟨g,0,rfl,hg,fun i hi=>?_⟩
  have hc:∀ j,j<5→w.cell? ⟨g,i*5+j,none⟩=(rowRul.enc L[i])[j]?:=fun j hj=>h.cell rowRul_ok hi (j:=j) hj
  rw [Nat.zero_add]
  exact ⟨hc 0 (by decide),hc 1 (by decide),hc 2 (by decide),hc 3 (by decide),hc 4 (by decide)⟩
end Go.Proofs.YthjmdgejnakcmaaDoor
namespace Go.Proofs.YthjmdgejnakcmaaDoor
open Go.RowKit Go.WideShapes Fl
set_option linter.unusedVariables false
set_option linter.unusedSimpArgs false
theorem stepsF_snoc {R:List Rl} {L:List Slt} {i m k:Nat} (hk:k<R.length) :
  stepsF (R.take (k+1)) L i m=stepsF (R.take k) L i m ++ (match letsC (L.drop i) (bts R[k].inp) with | none=>[] | some c=>if R[k].frm=(m:Int) then [raise R[k] c] else []):=by
 unfold stepsF fitsF
 rw [List.take_succ_eq_append_getElem hk,List.filterMap_append,List.filter_append]
 congr 1
 cases e:letsC (L.drop i) (bts R[k].inp) with
 | none=>simp [List.filterMap_cons,e]
 | some c=>simp [List.filterMap_cons,e,List.filter_cons,raise]
theorem stepsF_len {R:List Rl} {L:List Slt} {i m:Nat}:(stepsF R L i m).length≤R.length:=by
 unfold stepsF fitsF
 exact Nat.le_trans (List.length_filter_le _ _) (List.length_filterMap_le _ _)
def slV (va:Nat→Option Addr) (vc:Nat→Nat) (F:Nat→List Rl) (m:Nat):Value:=.slice (va m) (F m).length (vc m)
def st8 (f:Nat→Value):Array Value:=#[f 0,f 1,f 2,f 3,f 4,f 5,f 6,f 7]
structure StpR (w:World) (B gS:Nat) (va:Nat→Option Addr) (vc:Nat→Nat) (F:Nat→List Rl):Prop where
 rep:w.heap[gS]? = some (.cells (st8 (slV va vc F)) 87 (0,0))
 own:∀ m,m<8→OwnG rowRul w B (slV va vc F m) (F m)
 apart:∀ m m' q,m<8→m'<8→m≠m'→(slV va vc F m).ownBlock=some q→(slV va vc F m').ownBlock≠some q
 gS:gS<B
section
variable {w w':World} {B gS:Nat} {va:Nat→Option Addr} {vc:Nat→Nat} {F:Nat→List Rl}
theorem st8_get (f:Nat→Value) {m:Nat} (h:m<8):(st8 f)[m]? = some (f m):=by
 rcases (show m=0∨m=1∨m=2∨m=3∨m=4∨m=5∨m=6∨m=7 from by omega) with rfl | rfl | rfl | rfl | rfl | rfl | rfl | rfl <;> rfl
theorem st8_set (f:Nat→Value) {m:Nat} (h:m<8) (y:Value):(st8 f).setIfInBounds m y=st8 fun k=>if k=m then y else f k:=by
 rcases (show m=0∨m=1∨m=2∨m=3∨m=4∨m=5∨m=6∨m=7 from by omega) with rfl | rfl | rfl | rfl | rfl | rfl | rfl | rfl <;> rfl
theorem StpR.cell (h:StpR w B gS va vc F) {m:Nat} (hm:m<8):w.cell? ⟨gS,m,none⟩=some (slV va vc F m):=by
 rw [cell_of_row w gS _ _ _ (0,0) h.rep,st8_get _ hm]
theorem StpR.ext (h:StpR w B gS va vc F) (hx:Ext w w'):StpR w' B gS va vc F :=
 ⟨(Below.block hx gS (Array.getElem?_eq_some_iff.1 h.rep).1).trans h.rep,fun m hm=>(h.own m hm).later hx (Nat.le_refl _),h.apart,h.gS⟩
def updF {α:Type} (f:Nat→α) (m:Nat) (y:α):Nat→α:=fun k=>if k=m then y else f k
theorem slV_upd {m k:Nat} {ya:Option Addr} {yc:Nat} {L2:List Rl}:slV (updF va m ya) (updF vc m yc) (updF F m L2) k=if k=m then .slice ya L2.length yc else slV va vc F k:=by
 unfold slV updF
 by_cases h:k=m <;> simp [h]
theorem
    StpR.put {W0 W:World} {m:Nat} {ya:Option Addr} {yc:Nat} {L2:List Rl} (h:StpR W0 B gS va vc F) (hm:m<8) (hB:B≤W0.heap.size) (hp:AppP rowRul W0 B (slV va vc F m) L2 (.slice ya L2.length yc) W) :
  StpR (W.setCell ⟨gS,m,none⟩ (.slice ya L2.length yc)) B gS (updF va m ya) (updF vc m yc) (updF F m L2):=by
 have hgS:=h.gS
 have hWS:W.heap[gS]? = some (.cells (st8 (slV va vc F)) 87 (0,0)):=(hp.block gS (by omega) fun e=>by have:=(h.own m hm).ge _ e;omega).trans h.rep
 have hne:∀ q,q≠gS→(W.setCell ⟨gS,m,none⟩ (.slice ya L2.length yc)).heap[q]? = W.heap[q]?:=fun q hq=>Below.heap_setCell _ _ _ _ hq
 refine ⟨?_,fun k hk=>?_,fun k k' q hk hk' hkk hq=>?_,hgS⟩
 ·
  rw [heap_setCell_same W gS m _ _ _ hWS,st8_set _ hm]
  congr 3
  funext k
  exact slV_upd.symm
 ·
  rw [slV_upd]
  by_cases e:k=m
  ·
   rw [if_pos e]
   have:updF F m L2 k=L2:=if_pos e
   rw [this]
   exact hp.own.keep fun g hg=>hne g (by have:=hp.own.ge _ hg;omega)
  ·
   rw [if_neg e]
   have:updF F m L2 k=F k:=if_neg e
   rw [this]
   refine (h.own k hk).keep fun g hg=>?_
   have hge:=(h.own k hk).ge _ hg
   rw [hne g (by omega)]
   exact hp.block g ((h.own k hk).lt _ hg) fun e2=>h.apart k m g hk hm e hg e2
 ·
  rw [slV_upd] at hq ⊢
  by_cases e:k=m
  ·
   rw [if_pos e] at hq
   have e':¬ k'=m:=fun e2=>hkk (e.trans e2.symm)
   rw [if_neg e']
   rcases hp.loc with h1 | ⟨q2,h1,h2⟩
   · rw [h1] at hq;exact h.apart m k' q hm hk' (fun e2=>e' e2.symm) hq
   ·
    rw [h1] at hq
    injection hq with hq
    intro e3
    have:=(h.own k' hk').lt _ e3
    omega
  ·
   rw [if_neg e] at hq
   by_cases e':k'=m
   ·
    rw [if_pos e']
    intro e3
    rcases hp.loc with h1 | ⟨q2,h1,h2⟩
    · rw [h1] at e3;exact h.apart k m q hk hm e hq e3
    ·
     rw [h1] at e3
     injection e3 with e3
     have:=(h.own k hk).lt _ hq
     omega
   ·
    rw [if_neg e']
    exact h.apart k k' q hk hk' hkk hq
end
def StepsP (R:List Rl) (L:List Slt) (i:Nat) (e:Ending) (w':World):Prop:=∃ va vc,e=.returned (.agg (st8 (slV va vc (stepsF R L i))))∧∀ m,m<8→RulS w' (va m) (stepsF R L i m)
theorem steps_no {R:List Rl} {L:List Slt} {i k:Nat} (hk:k<R.length) (h:letsC (L.drop i) (bts R[k].inp)=none):(fun m=>stepsF (R.take (k+1)) L i m)=fun m=>stepsF (R.take k) L i m:=by
 funext m
 rw [stepsF_snoc hk,h];simp
theorem steps_yes {R:List Rl} {L:List Slt} {i k m0 c:Nat} {x:Rl} (hk:k<R.length) (h:letsC (L.drop i) (bts R[k].inp)=some c) (hm:R[k].frm=(m0:Int)) (hx:x=raise R[k] c) :
  (fun m=>stepsF (R.take (k+1)) L i m)=updF (fun m=>stepsF (R.take k) L i m) m0 (stepsF (R.take k) L i m0 ++ [x]):=by
 funext m
 rw [stepsF_snoc hk,h,hx]
 unfold updF
 by_cases e:m=m0
 · subst e;simp [hm]
 ·
  have:¬ (R[k].frm=(m:Int)):=by rw [hm];omega
  simp [this,e]
theorem rul_cells {w:World} {g:Nat} {a b e:Int} {c d:ByteArray} {t:TypeId} (h:w.heap[g]? = some (.cells #[.int .i64 a,.int .i64 b,.string c,.string d,.int .i64 e] t (0,0))) :
  w.cell? ⟨g,0,none⟩=some (.int .i64 a)∧w.cell? ⟨g,1,none⟩=some (.int .i64 b)∧w.cell? ⟨g,2,none⟩=some (.string c)∧w.cell? ⟨g,3,none⟩=some (.string d)∧w.cell? ⟨g,4,none⟩=some (.int .i64 e):=by
 refine ⟨?_,?_,?_,?_,?_⟩ <;> (rw [cell_of_row w g _ _ _ (0,0) h];rfl)
section
variable {w w':World} {gx:Nat} {acc:Int} {aR:Option Addr} {nR cR:Nat} {aT:Option Addr} {nT cT:Nat} {aL:Option Addr} {nL cL:Nat} {gm:Nat→Nat}
set_option maxHeartbeats 6400000 in
set_option maxRecDepth 100000 in
theorem
    steps_any (R:List Rl) (L:List Slt) (C i:Nat) (hx:SX w gx acc aR nR cR aT nT cT aL nL cL gm) (hR:RulS w aR R) (hnR:nR=R.length) (hRl:nR≤1000) (hF:Fairs R) (hL:SlotS w aL L) (hn:nL=L.length) (hnl:nL≤1000000) (hi:i≤L.length) (hB:SlotsB C L) (hC:C≤1000000) :
  Calls Tryd.prog 31 #[.pointer (some ⟨gx,0,none⟩),.int .i64 (i:Int)] w fun e w'=>StepsP R L i e w'∧Below w.heap.size w w':=by
 subst hn hnR
 have HX:=Lib.hid hx;have HR:=Lib.hid hR;have HL:=Lib.hid hL;have HB:=Lib.hid hB;have HF:=Lib.hid hF
 have hgx:=hx.lt
 obtain ⟨c0,c1,c2,c3⟩:=hx.cells
 clear hx hR hL hB hF c0 c2 c3
 go_enter Tryd.func31,Tryd.ntmps31
 go_wp2
 go_loopw [15] (fun q wr=>∃ k va vc,k≤R.length∧q=.int .i64 ((k:Nat):Int)∧StpR wr (w.heap.size+2) (w.heap.size+1) va vc (fun m=>stepsF (R.take k) L i m)∧Below (w.heap.size+1) (w.alloc (.cells #[.slice none 0 0,.slice none 0 0,.slice none 0 0,.slice none 0 0,.slice none 0 0,.slice none 0 0,.slice none 0 0,.slice none 0 0] 87)) wr) (fun q _=>R.length - (intOf q).toNat)
 case atStart =>
  refine ⟨0,fun _=>none,fun _=>0,Nat.zero_le _,rfl,⟨?_,fun m hm=>OwnG.nil _ _ _,fun m m' q _ _ _ h=>(by cases h),Nat.lt_succ_self _⟩,(Below.refl _ _).alloc (by simp) _⟩
  have h:=heap_alloc_new (w.alloc (.cells #[.slice none 0 0,.slice none 0 0,.slice none 0 0,.slice none 0 0,.slice none 0 0,.slice none 0 0,.slice none 0 0,.slice none 0 0] 87)) (.cells #[.slice none 0 0,.slice none 0 0,.slice none 0 0,.slice none 0 0,.slice none 0 0,.slice none 0 0,.slice none 0 0,.slice none 0 0] 87)
  rw [World.size_alloc] at h
  exact h
 case round =>
  obtain ⟨k,va,vc,hk,rfl,hst,hbl⟩:=hrel
  have HST:=Lib.hid hst;have HBL:=Lib.hid hbl
  have hz:w.heap.size+1<wr.heap.size:=(Array.getElem?_eq_some_iff.1 hst.rep).1
  have hW:=((Below.refl w.heap.size w).alloc (Nat.le_refl _) (.cells #[.slice none 0 0,.slice none 0 0,.slice none 0 0,.slice none 0 0,.slice none 0 0,.slice none 0 0,.slice none 0 0,.slice none 0 0] 87)).trans (hbl.mono (Nat.le_succ _))
  have HW:=Lib.hid hW
  clear hst hbl hW
  by_cases hlt:k<R.length
  ·
   obtain ⟨
       b1,o1,ha1,hb1,r0,r1,r2,r3,r4⟩:=(RulS.later HR.out HW.out (Nat.le_refl _)).at hlt
   have hi1:=idx_rules aR b1 o1 R.length cR k ha1 hlt
   have hfr:=fairB_iff.1 (HF.out _ (List.getElem_mem hlt))
   have HNO:=Lib.hid (steps_no (L:=L) (i:=i) hlt)
   have HYES:=Lib.hid (fun m0 c x=>steps_yes (L:=L) (i:=i) (m0:=m0) (c:=c) (x:=x) hlt)
   obtain ⟨r,hr⟩:∃ r,R[k]=r:=⟨_,rfl⟩
   rw [hr] at r0 r1 r2 r3 r4 hfr HNO HYES
   obtain ⟨frm,dst,inp,out,cost⟩:=r
   simp only at r0 r1 r2 r3 r4 hfr
   obtain ⟨m0,rfl⟩:∃ m0:Nat,frm=(m0:Int):=⟨frm.toNat,by omega⟩
   obtain ⟨hf0,hf1,hf2,hf3,hf4,hf5,hf6⟩:=hfr
   have hm0:m0<8:=by omega
   have HW4:Hid (Below wr.heap.size wr (wr.alloc (.cells #[.int .i64 (m0:Int),.int .i64 dst,.string inp,.string out,.int .i64 cost] 33))):=(Below.refl _ _).alloc (Nat.le_refl _) _
   obtain ⟨w4,hw4⟩:∃ w4,wr.alloc (.cells #[.int .i64 (m0:Int),.int .i64 dst,.string inp,.string out,.int .i64 cost] 33)=w4:=⟨_,rfl⟩
   have HR4:Hid (w4.heap[wr.heap.size]? = some (.cells #[.int .i64 (m0:Int),.int .i64 dst,.string inp,.string out,.int .i64 cost] 33 (0,0))):=by
    show _=_
    rw [← hw4];exact heap_alloc_new _ _
   have HZ4:Hid (w4.heap.size=wr.heap.size+1):=by
    show _=_
    rw [← hw4];simp
   have c1r:=(HW.out.cell (p:=⟨gx,1,none⟩) hgx).trans c1
   rw [hw4] at HW4
   obtain ⟨d0,d1,d2,d3,d4⟩:=rul_cells HR4.out
   clear ha1 hr
   obtain ⟨lc,hlc⟩:∃ lc,letsC (L.drop i) (bts inp)=lc:=⟨_,rfl⟩
   have HLC:=Lib.hid hlc
   clear hlc
   have hX4:=HX.out.kp (Kc.of (HW.out.trans (HW4.out.mono HW.out.size)) (Nat.le_refl _))
   have hL4:=HL.out.later (HW.out.trans (HW4.out.mono HW.out.size)) (Nat.le_refl _)
   have hlet:=letters_any (w:=w4) L C i inp hX4 hL4 rfl hnl hi (by omega) HB.out hC
   rw [HLC.out] at hlet
   have HLET:=Lib.hid hlet
   clear hX4 hL4 hlet
   cases lc with
   | none =>
    have HN:=Lib.hid (HNO.out HLC.out)
    go_wp2_with fail
    refine HLET.out.mono ?_
    rintro e w5 ⟨he,hb⟩
    obtain rfl:e=_:=he
    have HB5:=Lib.hid (HW4.out.trans (hb.mono HW4.out.size))
    clear hb hw4
    go_wp2_with fail
    go_roundw
    case rel=>exact ⟨k+1,va,vc,by omega,by go_num,by rw [HN.out];exact HST.out.ext HB5.out,HBL.out.trans (HB5.out.mono (by omega))⟩
    case measure=>simp [intOf];omega
   | some c =>
    have hcC:=letsC_le (HB.out.drop i) HLC.out
    rw [bts_len] at hcC
    have hcC2:inp.size*C≤4*1000000:=Nat.mul_le_mul hf4 hC
    go_wp2_with fail
    refine HLET.out.mono ?_
    rintro e w5 ⟨he,hb⟩
    obtain rfl:e=_:=he
    have HB5:=Lib.hid hb
    clear hb hw4
    have HR5:Hid (w5.heap[wr.heap.size]? = some (.cells #[.int .i64 (m0:Int),.int .i64 dst,.string inp,.string out,.int .i64 cost] 33 (0,0))):=by
     show _=_
     rw [HB5.out.block _ (by have:=HZ4.out;omega)];exact HR4.out
    obtain ⟨d0',d1',d2',d3',d4'⟩:=rul_cells HR5.out
    have hfz:w5.frozen? ⟨wr.heap.size,4,none⟩=false:=by simp [World.frozen?,HR5.out]
    clear d0 d1 d2 d3 d4
    go_upto_region 8 with fail
    obtain ⟨w6,hw6⟩:∃ w6,w5.setCell ⟨wr.heap.size,4,none⟩ (.int .i64 (cost+(c:Int)))=w6:=⟨_,rfl⟩
    rw [hw6]
    have HR6:Hid (w6.heap[wr.heap.size]? = some (.cells #[.int .i64 (m0:Int),.int .i64 dst,.string inp,.string out,.int .i64 (cost+(c:Int))] 33 (0,0))):=by
     show _=_
     rw [← hw6,heap_setCell_same w5 wr.heap.size 4 _ _ _ HR5.out];rfl
    have HB6:Hid (Below wr.heap.size wr w6):=by
     have h:=(HW4.out.trans (HB5.out.mono HW4.out.size)).setCell (show wr.heap.size≤(⟨wr.heap.size,4,none⟩:Addr).block from Nat.le_refl _) (.int .i64 (cost+(c:Int)))
     rw [hw6] at h
     exact h
    have HST6:=Lib.hid (HST.out.ext HB6.out)
    have HSZ:Hid (w.heap.size+2≤w6.heap.size):=by show _≤_;have:=HB6.out.size;omega
    have HYS:=Lib.hid (HYES.out m0 c ⟨(m0:Int),dst,inp,out,cost+(c:Int)⟩ HLC.out rfl rfl)
    have HLN:Hid ((stepsF (R.take k) L i m0).length≤1000):=by
     show _≤_
     have:=stepsF_len (R:=R.take k) (L:=L) (i:=i) (m:=m0)
     rw [List.length_take] at this
     omega
    clear hw6 d0' d1' d2' d3' d4' hfz
    obtain ⟨Fm,hFm⟩:∃ Fm,stepsF (R.take k) L i m0=Fm:=⟨_,rfl⟩
    rw [hFm] at HYS HLN
    have hown6:=HST6.out.own m0 hm0
    have hcell6:=HST6.out.cell hm0
    simp only [slV] at hown6 hcell6
    rw [hFm] at hown6 hcell6
    obtain ⟨am,ham⟩:∃ am,va m0=am:=⟨_,rfl⟩
    obtain ⟨cm,hcm⟩:∃ cm,vc m0=cm:=⟨_,rfl⟩
    rw [ham,hcm] at hown6 hcell6
    have HFM:=Lib.hid hFm;have HAM:=Lib.hid ham;have HCM:=Lib.hid hcm;have HOW6:=Lib.hid hown6;have HCE6:=Lib.hid hcell6
    have hm0I:(0:Int)≤(m0:Int):=by omega
    have HNR:Hid ((.slice am Fm.length cm:Value).ownBlock≠some wr.heap.size):=fun e=>by
     have h8:=(HST.out.own m0 hm0).lt wr.heap.size
     simp only [slV] at h8
     rw [HFM.out,HAM.out,HCM.out] at h8
     exact absurd (h8 e) (Nat.lt_irrefl _)
    clear hFm ham hcm hown6 hcell6
    refine wp_region_st (by kernel_rfl) (Vs [vq (.pointer (some ⟨wr.heap.size,0,none⟩)),vq (.int .i64 (m0:Int)),vq (.pointer (some ⟨wr.heap.size,0,none⟩)),vq (.int .i64 (m0:Int)),vq (.pointer (some ⟨w.heap.size+1,m0,none⟩)),vq (.slice am Fm.length cm),vq (.agg #[.int .i64 (m0:Int),.int .i64 dst,.string inp,.string out,.int .i64 (cost+(c:Int))]),RowG1 rowRul (.slice am Fm.length cm) (⟨(m0:Int),dst,inp,out,cost+(c:Int)⟩:Rl),AppP rowRul (w6) (w.heap.size+2) (.slice am Fm.length cm) (Fm ++ [(⟨(m0:Int),dst,inp,out,cost+(c:Int)⟩:Rl)]),vq (.pointer (some ⟨w.heap.size+1,m0,none⟩))]) (Xs [Ext,Ext,Ext,Ext,Ext,Ext,Ext,Ext,(fun w w'=>w.grownBy w' (.slice am Fm.length cm:Value).ownBlock),Ext]) (fun fL=>(ApT (w6) (.slice am Fm.length cm)) (fL 8)) [0,1,0,4,12,28,0,64,252,3] 45 10 (by kernel_rfl) rfl ?hV ?hS ?hop ?hfin ?hlast
    case hV =>
     refine xs_stays (vs_stays (by simp only [List.mem_cons,List.not_mem_nil,or_false,forall_eq_or_imp,forall_eq];exact ⟨stays_const _,stays_const _,stays_const _,stays_const _,stays_const _,stays_const _,stays_const _,rowG1_stays _ _ _,appP_stays,stays_const _⟩)) ?_
     exact ⟨.inl rfl,.inl rfl,.inl rfl,.inl rfl,.inl rfl,.inl rfl,.inl rfl,.inl rfl,.inr (staysM_all ⟨fun _ _=>fun _ _ _ h _=>h,fun _ _=>fun _ _ _ h _=>h,fun _ _=>fun _ _ _ h _=>h,fun _ _=>fun _ _ _ h _=>h,fun _ _=>fun _ _ _ h _=>h,fun _ _=>fun _ _ _ h _=>h,fun _ _=>fun _ _ _ h _=>h,fun _ _=>rowG1_grown _ _ _,fun h=>absurd rfl h,fun _ _=>fun _ _ _ h _=>h,trivial⟩),.inl rfl,trivial⟩
    case hS =>
     intro fL hf
     show (ApT (w6) (.slice am Fm.length cm)) (fL 8) _
     rw [hf 8 (by decide)]
     first | exact Ext.refl _ | exact drew_ext _
    case hop =>
     refine ⟨?_,?_,?_,?_,?_,?_,?_,?c7,?c8,?_,?_,trivial⟩
     all_goals first | rw [if_neg (by decide)] | rw [if_pos (by decide)]
     all_goals try exact True.intro
     all_goals try intro ac W fL hsz hfi hms hdn hS0 hdep hbase hund
     all_goals try have hS:(ApT (w6) (.slice am Fm.length cm)) (fL 8) W:=hS0
     all_goals try (have hfl8:fL 8=true:=hms 8 (by decide);rw [hfl8] at hS)
     all_goals try (have hfl8:fL 8=false:=(by first | exact hfi | exact hdn 8 (by decide) (by decide));rw [hfl8] at hS)
     all_goals try (
      obtain ⟨d0,d1,d2,d3,d4⟩:=rul_cells ((ApT.old hS0 wr.heap.size (Array.getElem?_eq_some_iff.1 HR6.out).1 HNR.out).trans HR6.out)
      have hcm:W.cell? ⟨w.heap.size+1,m0,none⟩=some (.slice am Fm.length cm):=by
       rw [← HCE6.out]
       exact World.cell?_of_block (ApT.old hS0 (w.heap.size+1) HSZ.out fun e=>by have:=HOW6.out.ge _ e;omega))
     all_goals try have hh5:=gdA ac 5 (.pointer (some ⟨w.heap.size+1,0,none⟩)) (hbase 5 (by kernel_rfl))
     all_goals try have hh7:=gdA ac 7 (.pointer (some ⟨wr.heap.size,0,none⟩)) (hbase 7 (by kernel_rfl))
     all_goals try (have d38:ac.tmps.getD 38 undef=.slice am Fm.length cm:=hdep 5 (by decide);have dd38:=d38;rw [Array.getD_eq_getD_getElem?] at dd38)
     all_goals try have d40:(RowG1 rowRul (.slice am Fm.length cm) (⟨(m0:Int),dst,inp,out,cost+(c:Int)⟩:Rl)) (ac.tmps.getD 40 undef) W:=hdep 7 (by decide)
     all_goals try (have hdep:=depL hdep;simp [DepL,slotOf,vq] at hdep)
     all_goals try clear hbase hms hdn hund
     case c7 =>
      have hS1:(ApT (w6) (.slice am Fm.length cm)) ((upd fL 7) 8) W:=hS0
      have hlt62:(.slice am Fm.length cm:Value).ownBlock≠some W.heap.size:=fun e=>by
       have h9:=(HOW6.out).lt _ e
       have h8:=Below.size hS
       omega
      refine opOk_run rfl (.inl ⟨.slice (some ⟨W.heap.size,0,none⟩) 1 1,W.alloc (.cells #[.int .i64 (m0:Int),.int .i64 dst,.string inp,.string out,.int .i64 (cost+(c:Int))] 33),?_,⟨_,rfl,heap_alloc_new _ _,hlt62⟩,(Below.refl _ _).alloc (Nat.le_refl _) _,(show (ApT (w6) (.slice am Fm.length cm)) ((upd fL 7) 8) _ by
       rw [show upd fL 7 8=fL 8 from if_neg (by decide)]
       exact ApT.ext _ _ _ hS0 ((Below.refl _ _).alloc (Nat.le_refl _) _))⟩)
      clear hsz hS hS0 hS1 hfi hlt62;simp [go_sem,Act.eval, *]
     case c8 =>
      obtain ⟨g62,e62,hg62,hn62⟩:=d40
      refine opOk_run rfl ((opres_append_g rowRul_ok (.tmp 38) (.tmp 40) rfl (eval_tmp d38) ((HOW6.out).later hS (Nat.le_refl _)) ⟨g62,0,none⟩ 1 [(⟨(m0:Int),dst,inp,out,cost+(c:Int)⟩:Rl)] (eval_tmp e62) (cells_built hg62) (by have:=HLN.out;simp only [List.length_singleton];omega) (Nat.le_trans HSZ.out (Below.size hS))).mono ?_)
      rintro va w' ⟨ho,hgr,hat⟩
      have hap8:=AppP.made hS ho hgr hat
      refine ⟨hap8,hgr,?_⟩
      show ApT (w6) (.slice am Fm.length cm) (upd fL 8 8) w'
      rw [show upd fL 8 8=true from if_pos rfl]
      exact hap8.old
     all_goals (refine opOk_run rfl (.inl ⟨_,W,?_,rfl,Ext.refl _,hS0⟩);clear hsz hS hS0 hfi;simp [go_sem,Act.eval, *];done)
    case hfin =>
     intro h;exact absurd h (by decide)
    case hlast =>
     intro _ ac W hsz hdf fL hf hS0 hv hbase
     have hS:(ApT (w6) (.slice am Fm.length cm)) (fL 8) W:=hS0
     clear hS0
     rw [hf 8 (by decide)] at hS
     have hst:ac.tmps.getD 42 undef=.pointer (some ⟨w.heap.size+1,m0,none⟩):=hv 9 (by decide)
     have hap9:AppP rowRul (w6) (w.heap.size+2) (.slice am Fm.length cm) (Fm ++ [(⟨(m0:Int),dst,inp,out,cost+(c:Int)⟩:Rl)]) (ac.tmps.getD 41 undef) W:=hv 8 (by decide)
     obtain ⟨ya,yc,hya, -, -⟩:=hap9.own.form
     rw [hya] at hap9
     have hblk:=(hap9.block (w.heap.size+1) (by have:=HSZ.out;omega) fun e=>by have:=HOW6.out.ge _ e;omega).trans HST6.out.rep
     refine wpOp_store rfl rfl rfl rfl (eval_tmp hst) (eval_tmp hya) (by simp [World.frozen?,hblk]) (by rw [cell_of_row W _ _ _ _ (0,0) hblk,st8_get _ hm0]) (by kernel_rfl) ?_
     clear hblk
     obtain ⟨wz,hwz⟩:∃ wz,W.setCell ⟨w.heap.size+1,m0,none⟩ (.slice ya (Fm ++ [(⟨(m0:Int),dst,inp,out,cost+(c:Int)⟩:Rl)]).length yc)=wz:=⟨_,rfl⟩
     rw [hwz]
     have HAP:=Lib.hid hap9;have HWZ:=Lib.hid hwz
     clear hS hap9 hst hwz
     obtain ⟨sx,hsx,hsA⟩:=act_puts [33,34,35,36,37,38,39,40,41,42] (by kernel_rfl) hsz hdf hbase
     clear hya
     rw [hsA]
     simp only [List.foldl]
     simp only [Act.put,List.setIfInBounds_toArray,List.set_cons_succ,List.set_cons_zero]
     clear hsA hsx hv hbase hsz hdf hf
     have hsp:=HST6.out.put (m:=m0) (ya:=ya) (yc:=yc) (L2:=Fm ++ [(⟨(m0:Int),dst,inp,out,cost+(c:Int)⟩:Rl)]) hm0 HSZ.out (by
      have h:=HAP.out
      simp only [slV]
      rw [HFM.out,HAM.out,HCM.out]
      exact h)
     rw [HWZ.out,← HYS.out] at hsp
     have hbz:Below (w.heap.size+1) w6 wz:=by
      rw [← HWZ.out]
      exact (HAP.out.below (C:=w.heap.size+1) (by have:=HSZ.out;omega) fun q hq=>by have:=HOW6.out.ge _ hq;omega).setCell (show w.heap.size+1≤(⟨w.heap.size+1,m0,none⟩:Addr).block from Nat.le_refl _) _
     have HSP:=Lib.hid hsp;have HBZ:=Lib.hid hbz
     clear hsp hbz
     go_wp2_with fail
     go_roundw
     case rel=>exact ⟨k+1,_,_,by omega,by go_num,HSP.out,(HBL.out.trans (HB6.out.mono (by omega))).trans HBZ.out⟩
     case measure=>simp [intOf];omega
  ·
   have hcells:∀ m,m<8→wr.cell? ⟨w.heap.size+1,m,none⟩=some (slV va vc (fun m=>stepsF (R.take k) L i m) m):=fun m hm=>HST.out.cell hm
   have e0:=hcells 0 (by decide);have e1:=hcells 1 (by decide);have e2:=hcells 2 (by decide);have e3:=hcells 3 (by decide)
   have e4:=hcells 4 (by decide);have e5:=hcells 5 (by decide);have e6:=hcells 6 (by decide);have e7:=hcells 7 (by decide)
   have hb4:=(HBL.out.block w.heap.size (Nat.lt_succ_self _)).trans (heap_alloc_new w _)
   have hn:∀ m,wr.cell? ⟨w.heap.size,m,none⟩=(#[.slice none 0 0,.slice none 0 0,.slice none 0 0,.slice none 0 0,.slice none 0 0,.slice none 0 0,.slice none 0 0,.slice none 0 0]:Array Value)[m]?:=fun m=>cell_of_row wr w.heap.size m _ _ (0,0) hb4
   have n0:=hn 0;have n1:=hn 1;have n2:=hn 2;have n3:=hn 3;have n4:=hn 4;have n5:=hn 5;have n6:=hn 6;have n7:=hn 7
   have hfz:∀ m,wr.frozen? ⟨w.heap.size,m,none⟩=false:=fun m=>by simp [World.frozen?,hb4]
   have f0:=hfz 0;have f1:=hfz 1;have f2:=hfz 2;have f3:=hfz 3;have f4:=hfz 4;have f5:=hfz 5;have f6:=hfz 6;have f7:=hfz 7
   have hRt:R.take k=R:=List.take_of_length_le (by omega)
   simp only [slV,hRt] at e0 e1 e2 e3 e4 e5 e6 e7
   simp only [List.getElem?_toArray,List.getElem?_cons_zero,List.getElem?_cons_succ] at n0 n1 n2 n3 n4 n5 n6 n7
   have HRT:=Lib.hid hRt
   clear hcells hn hfz hb4 hRt
   go_wp2
   refine bodyPost_ret (v:=.agg (st8 (slV va vc (stepsF R L i)))) (by simp [results,Tryd.results31,go_sem,n0,n1,n2,n3,n4,n5,n6,n7,st8,slV]) rfl ⟨⟨va,vc,rfl,fun m hm=>?_⟩,?_⟩
   ·
    have ho:=HST.out.own m hm
    simp only [slV] at ho
    rw [HRT.out] at ho
    have ho2:=ho.ge
    refine (OwnG.ruls (ho.keep fun g hg=>?_)).1
    have hg2:=ho2 g hg
    have hne:∀ (W:World) (m:Nat) (u:Value),(W.setCell ⟨w.heap.size,m,none⟩ u).heap[g]? = W.heap[g]?:=fun W m u=>Below.heap_setCell _ _ _ _ (by show g≠w.heap.size;omega)
    simp only [hne]
   ·
    have hs:∀ (W:World) (m:Nat) (u:Value),Below w.heap.size w W→Below w.heap.size w (W.setCell ⟨w.heap.size,m,none⟩ u):=fun W m u h=>h.setCell (show w.heap.size≤(⟨w.heap.size,m,none⟩:Addr).block from Nat.le_refl _) _
    exact hs _ _ _ (hs _ _ _ (hs _ _ _ (hs _ _ _ (hs _ _ _ (hs _ _ _ (hs _ _ _ (hs _ _ _ HW.out)))))))
end
end Go.Proofs.YthjmdgejnakcmaaDoor
namespace Go.Proofs.YthjmdgejnakcmaaDoor
open Go.RowKit Go.WideShapes Fl
set_option linter.unusedVariables false
set_option linter.unusedSimpArgs false
def rowStt:RowT Stt:=⟨89,86,2,16,.agg #[.int .i64 0,.int .i64 0],fun t=>[.int .i64 (t.1:Int),.int .i64 (t.2:Int)]⟩
theorem rowStt_ok:rowStt.Ok:=⟨Tryd.underlying89,by kernel_rfl,rfl,by decide,fun _=>rfl,fun x u hu=>by
 have h:u=.int .i64 (x.1:Int)∨u=.int .i64 (x.2:Int):=by simpa [rowStt] using hu
 rcases h with rfl | rfl <;> rfl,by decide⟩
theorem cmp_stt (a b c d:Nat) (w:World) :
  (Go.binOp .eql 86 (.agg #[.int .i64 (a:Int),.int .i64 (b:Int)]) (.agg #[.int .i64 (c:Int),.int .i64 (d:Int)])).run Tryd.prog w=.ok (.bool (decide ((a,b)=(c,d)))) w:=by
 simp only [run_eql_struct]
 by_cases h1:a=c <;> by_cases h2:b=d <;> simp [go_sem,h1,h2] <;> omega
theorem OwnG.stt {w:World} {B:Nat} {a:Option Addr} {n c:Nat} {L:List Stt} (h:OwnG rowStt w B (.slice a n c) L) {k:Nat} (hk:k<L.length) :
  ∃ b,a=some ⟨b,0,none⟩∧B≤b∧b<w.heap.size∧w.cell? ⟨b,k*2,none⟩=some (.int .i64 (L[k].1:Int))∧w.cell? ⟨b,k*2+1,none⟩=some (.int .i64 (L[k].2:Int)):=by
 rcases h.blk with ⟨_,rfl⟩ | ⟨g,c2,he2,hB,hg,_⟩
 · simp at hk
 ·
  injection he2 with f1 f2 f3
  subst f1
  refine ⟨g,rfl,hB,hg,?_,?_⟩
  · exact h.cell rowStt_ok hk (j:=0) (by decide)
  · exact h.cell rowStt_ok hk (j:=1) (by decide)
theorem idx_stt (b len cap k:Nat) (hk:k<len) (w:World) :
  (Instr.indexAt 89 (.slice (some ⟨b,0,none⟩) len cap) (.int .i64 (k:Int))).run Tryd.prog w=.ok (.pointer (some ⟨b,k*2,none⟩)) w:=by
 have h0:(0:Int)≤(k:Int):=by omega
 have h1:(k:Int)<(len:Int):=by omega
 simp [go_sem,h0,h1]
structure VX (wS:World) (B:Nat) (gm:Nat→Nat) (i:Nat) (M:Nat→Ent) (w:World):Prop where
 maps:∀ j,i≤j→j<i+5→MpG keyS w (gm (j % 5)) (M j)
 kp:Kc wS w
 bl:Below B wS w
structure GmOk (B:Nat) (gm:Nat→Nat):Prop where
 apart:∀ a b,a<5→b<5→gm a=gm b→a=b
 ge:∀ a,a<5→B≤gm a
section
variable {wS w w' w'':World} {B i:Nat} {gm:Nat→Nat} {M:Nat→Ent}
theorem VX.refl (h:∀ j,i≤j→j<i+5→MpG keyS w (gm (j % 5)) (M j)):VX w B gm i M w:=⟨h,Kc.refl _,Below.refl _ _⟩
theorem VX.ext (h:VX wS B gm i M w) (hx:Ext w w') (hB:B≤wS.heap.size):VX wS B gm i M w' :=
 ⟨fun j h1 h2=>(h.maps j h1 h2).kept (Below.block hx _ (h.maps j h1 h2).lt),h.kp.trans (Kc.of hx (Nat.le_refl _)),h.bl.trans (Below.mono hx (Nat.le_trans hB h.kp.size))⟩
theorem MpG.not_row {α β:Type} [DecidableEq α] {T:KeyT α} {T2:RowT β} {g C:Nat} {E:List (α × Nat)} {v:Value} {L:List β} (h:MpG T w g E) (ho:OwnG T2 w C v L):v.ownBlock≠some g:=fun e=>by
 obtain ⟨es,c,hm⟩:=h.obj
 rcases ho.2 with ⟨rfl,_⟩ | ⟨g',cap,cur,rfl,h1,h2,h3⟩
 · cases e
 ·
  injection e with e
  have e2:g'=g:=e
  rw [e2,hm] at h2
  cases h2
theorem VX.grown {β:Type} {T2:RowT β} {v:Value} {L:List β} (h:VX wS B gm i M w) (ho:OwnG T2 w wS.heap.size v L) (hg:w.grownBy w' v.ownBlock) (hB:B≤wS.heap.size):VX wS B gm i M w' :=
 ⟨
  fun j h1 h2=>(h.maps j h1 h2).kept (hg.block _ (h.maps j h1 h2).lt fun e=>(h.maps j h1 h2).not_row ho e.symm),
  ⟨Nat.le_trans h.kp.size hg.size,fun q cs t f hq=>(hg.block q (Nat.lt_of_lt_of_le (Array.getElem?_eq_some_iff.1 hq).1 h.kp.size) fun e=>by
   have:=ho.ge q e.symm;have:=(Array.getElem?_eq_some_iff.1 hq).1;omega).trans (h.kp.block q cs t f hq)⟩,
  h.bl.grown hg (Nat.le_trans hB h.kp.size) fun q hq=>Nat.le_trans hB (ho.ge q hq)⟩
theorem VX.put {j:Nat} {t:Stt} {c:Nat} (h:VX wS B gm i M w) (hG:GmOk B gm) (h1:i≤j) (h2:j<i+5) (hp:PutP w w' (gm (j % 5)) t (M j) c) (hB:B≤wS.heap.size):VX wS B gm i (putM M j t c) w' :=
 ⟨
  fun k h3 h4=>by
  unfold putM
  by_cases e:k=j
  · rw [if_pos e,e];exact hp.map
  ·
   rw [if_neg e]
   refine (h.maps k h3 h4).kept (hp.gr _ (h.maps k h3 h4).lt fun e2=>e ?_)
   have:=hG.apart _ _ (Nat.mod_lt _ (by decide)) (Nat.mod_lt _ (by decide)) e2
   omega,
  h.kp.trans (hp.kp (h.maps j h1 h2)),h.bl.trans (hp.below (hG.ge _ (Nat.mod_lt _ (by decide))) (Nat.le_trans hB h.kp.size))⟩
theorem OwnG.put_keep {β:Type} {T2:RowT β} {C:Nat} {v:Value} {L:List β} {g:Nat} {t:Stt} {E:Ent} {c:Nat} (ho:OwnG T2 w C v L) (hm:MpG keyS w g E) (hp:PutP w w' g t E c):OwnG T2 w' C v L :=
 ho.keep fun q hq=>hp.gr q (ho.lt q hq) fun e=>hm.not_row ho (by rw [hq,e])
end
section
variable {R:List Rl} {L:List Slt} {fol:Nat→List UInt8→Option Nat} {i N B D n:Nat} {q:List Stt} {M:Nat→Ent} {t:Stt} {ct:Nat}
theorem pot_putM {C j:Nat} {m c:Nat} {n':Nat} (hb:Bnd N i B D M) (hj:i≤j) (h1:m<8) (h2:n'<N) (hc:c≤C) (hlt:∀ x,look (M j) (m,n')=some x→c<x) :
  pot N C (putM M j (m,n') c i)+(if j=i then q ++ [(m,n')] else q).length≤pot N C (M i)+q.length:=by
 unfold putM
 by_cases e:j=i
 ·
  subst e
  rw [if_pos rfl,if_pos rfl]
  have:=pot_put (C:=C) (hb.keys j) (hb.rng j) (t:=(m,n')) (c:=c) h1 h2 hc hlt
  simp only [List.length_append,List.length_singleton]
  omega
 ·
  rw [if_neg fun e2=>e e2.symm,if_neg e]
  exact Nat.le_refl _
theorem Bnd.len (hb:Bnd N i B D M) (j:Nat):(M j).length≤8*N:=rng_len (hb.keys j) (hb.rng j)
end
end Go.Proofs.YthjmdgejnakcmaaDoor
namespace Go.Proofs.YthjmdgejnakcmaaDoor
open Go.RowKit Go.WideShapes Go.Maps Go.Sort Go.Shelf Fl
set_option linter.unusedVariables false
set_option linter.unusedSimpArgs false
def rowInt:RowT Nat:=⟨93,3,1,8,.int .i64 0,fun n=>[.int .i64 (n:Int)]⟩
theorem rowInt_ok:rowInt.Ok:=⟨Tryd.underlying93,by kernel_rfl,rfl,by decide,fun _=>rfl,fun x u hu=>by obtain rfl:u=.int .i64 (x:Int):=(List.mem_singleton.1 hu);rfl,by decide⟩
theorem OwnG.ints {w:World} {B:Nat} {a:Option Addr} {n c:Nat} {L:List Nat} (h:OwnG rowInt w B (.slice a n c) L) {k:Nat} (hk:k<L.length) :
  ∃ b,a=some ⟨b,0,none⟩∧B≤b∧b<w.heap.size∧w.cell? ⟨b,k,none⟩=some (.int .i64 (L[k]:Int)):=by
 rcases h.blk with ⟨_,rfl⟩ | ⟨g,c2,he2,hB,hg,_⟩
 · simp at hk
 ·
  injection he2 with f1 f2 f3
  subst f1
  refine ⟨g,rfl,hB,hg,?_⟩
  have:=h.cell rowInt_ok hk (j:=0) (by decide)
  simpa [rowInt] using this
theorem idx_ints (b len cap k:Nat) (hk:k<len) (w:World) :
  (Instr.indexAt 93 (.slice (some ⟨b,0,none⟩) len cap) (.int .i64 (k:Int))).run Tryd.prog w=.ok (.pointer (some ⟨b,k,none⟩)) w:=by
 have h0:(0:Int)≤(k:Int):=by omega
 have h1:(k:Int)<(len:Int):=by omega
 simp [go_sem,h0,h1]
theorem keys_of {D:DataW Unit} {E:List (Nat × Nat)} {w:World} {g:Nat} (h1:w.ownsMap Tryd.prog keyI.kt (plainElem Tryd.prog 3) g E.length D) (h2:DatE keyI D E) :
  (intKeys D).Nodup∧(∀ z∈intKeys D,∃ k:Nat,z=(k:Int))∧∀ k:Nat,(k:Int)∈intKeys D↔(look E k).isSome=true:=by
 obtain ⟨es,rfl,hp,hk⟩:=h1.entries keyI_ok.keyed
 have hall:∀ p∈es,∃ q∈E,p.1=.int .i64 (q.1:Int):=fun p hp'=>by
  obtain ⟨q,hq,e⟩:=h2.all p.1 (List.any_eq_true.2 ⟨p,hp',WideAt.sameKey_self (hk p hp')⟩)
  exact ⟨q,hq,e⟩
 refine ⟨?_,fun z hz=>?_,fun k=>?_⟩
 ·
  show (es.map fun p=>Go.intOf p.1).Nodup
  unfold List.Nodup
  rw [List.pairwise_map]
  refine List.Pairwise.imp_of_mem (fun {a b} ha hb hne e=>hne ?_) hp
  obtain ⟨q,_,e1⟩:=hall a ha
  obtain ⟨r,_,e2⟩:=hall b hb
  rw [e1,e2] at e ⊢
  simp only [Go.intOf] at e
  rw [e]
 ·
  obtain ⟨p,hp',rfl⟩:=List.mem_map.1 hz
  obtain ⟨q,_,e⟩:=hall p hp'
  exact ⟨q.1,by rw [e];rfl⟩
 ·
  constructor
  ·
   intro hz
   obtain ⟨p,hp',e0⟩:=List.mem_map.1 hz
   obtain ⟨q,hq,e⟩:=hall p hp'
   rw [e] at e0
   have:q.1=k:=by simp only [Go.intOf] at e0;omega
   rw [← this,look_of_mem h2.keys (c:=q.2) hq];rfl
  ·
   intro hs
   obtain ⟨c,hc⟩:=Option.isSome_iff_exists.1 hs
   have hok:=(h2.ok _ (look_mem hc)).1
   have h3:=h2.has k hok
   rw [hs] at h3
   obtain ⟨p,hp',e⟩:=List.any_eq_true.1 h3
   refine List.mem_map.2 ⟨p,hp',?_⟩
   have e2:=WideAt.sameKey_eq e
   rw [e2];rfl
def KeysP (E:List (Nat × Nat)) (B:Nat) (e:Ending) (w':World):Prop:=∃ v ks,e=.returned v∧OwnG rowInt w' B v ks∧ks.Pairwise (·<·)∧∀ k,k∈ks↔(look E k).isSome=true
theorem mapsKeys_any (g:Nat) (w:World):Calls Tryd.prog 34 #[.map (some g)] w fun e w'=>e=.returned (.func (.func 46) #[] #[.pointer (some ⟨w.heap.size,0,none⟩)])∧w'=w.alloc (.cells #[.map (some g)] 75) :=
 callsIn_wide.1 (AnyZI.keys_in Tryd.keysA Fence.wide 5 trivial rfl (some g) w)
theorem sorts_any (m:Nat):AnyZI.SortsIn Tryd.prog Tryd.sortedA_ren Fence.wide m :=
 ⟨
  fun blk off cap ss W hH hblk hsz=>callsIn_wide.2 (AnyM.slices_Sort_int Tryd.sortA blk off cap ss W hH hblk hsz),
  fun p cap W=>callsIn_wide.2 (AnyM.slices_Sort_int_none Tryd.sortA p cap W)⟩
set_option maxHeartbeats 1000000 in
theorem
    sorted_any {E:List (Nat × Nat)} {g:Nat} {w:World} (h:MpG keyI w g E) (hl:E.length≤1000000) :
  Calls Tryd.prog 33 #[.func (.func 46) #[] #[.pointer (some ⟨w.heap.size,0,none⟩)]] (w.alloc (.cells #[.map (some g)] 75)) fun e w'=>KeysP E w.heap.size e w'∧Below w.heap.size w w':=by
 obtain ⟨D,h1,h2⟩:=h
 have hsz:=h2.size
 have hbl:=h1.lt
 have hseq:SeqGives Fence.wide 2 Tryd.prog 46 #[.pointer (some ⟨w.heap.size,0,none⟩)] encZ (fun ss=>ss.Perm (intKeys D)) (Maps.size D) (w.alloc (.cells #[.map (some g)] 75)) :=
  AnyZI.keys_gives (ρ:=Tryd.keysA_ren) { Tryd.keysA with } Fence.wide _ trivial rfl (by omega) w.heap.size g E.length D _ (by simp) (by simp) (by
   obtain ⟨es,clock,hb,Ft,hs,hD⟩:=h1
   exact ⟨es,clock,(Below.heap_alloc _ _ g hbl).trans hb,Ft,hs,hD⟩)
 have cS:=AnyZI.sorted_in Tryd.sortedA Fence.wide 5 trivial trivial trivial trivial rfl (by omega) (sorts_any _) (enters_of Tryd.func45 (by kernel_rfl) rfl) 46 #[.pointer (some ⟨w.heap.size,0,none⟩)] trivial (enters_of Tryd.func46 (by kernel_rfl) rfl) _ _ (show Maps.size D≤maxLen by rw [hsz];unfold maxLen;omega) (show Maps.size D*8≤_ by rw [hsz];omega) _ hseq
 change CallsIn _ _ Tryd.prog 33 _ _ _ at cS
 refine (callsIn_wide.1 cS).mono ?_
 rintro e w' ⟨v,ss,rfl,hS,hrow,_,hb⟩
 obtain ⟨hnd,hz,hm⟩:=keys_of h1 h2
 have hb':Below w.heap.size w w':=((Below.refl _ w).alloc (Nat.le_refl _) _).trans (hb.mono (by simp))
 have hms:(ss.mergeSort fun x y=>decide (x≤y)).Perm ss:=List.mergeSort_perm _ _
 obtain ⟨zs,hzs⟩:∃ zs,(ss.mergeSort fun x y=>decide (x≤y))=zs:=⟨_,rfl⟩
 have hsort:zs.Pairwise (·≤·):=by
  rw [← hzs]
  have:=List.pairwise_mergeSort (le:=fun x y:Int=>decide (x≤y)) (fun a b c h1 h2=>by simp only [decide_eq_true_eq] at *;omega) (fun a b=>by simp only [Bool.or_eq_true,decide_eq_true_eq];omega) ss
  exact this.imp fun h=>of_decide_eq_true h
 rw [hzs] at hms hrow
 have hpz:zs.Perm (intKeys D):=hms.trans hS
 have hnz:zs.Nodup:=hpz.nodup_iff.2 hnd
 have hnat:∀ z∈zs,((z.toNat:Nat):Int)=z:=fun z h9=>by
  obtain ⟨k,rfl⟩:=hz z (hpz.mem_iff.1 h9);omega
 refine ⟨⟨v,zs.map Int.toNat,rfl,?_,?_,fun k=>?_⟩,hb'⟩
 ·
  have e1:(zs.map Int.toNat).flatMap rowInt.enc=zs.map encZ:=by
   rw [List.flatMap_map]
   have:∀ l:List Int,(∀ z∈l,((z.toNat:Nat):Int)=z)→l.flatMap (fun z=>rowInt.enc z.toNat)=l.map encZ:=fun l=>by
    induction l with
    | nil=>intro _;rfl
    | cons z r ih =>
     intro hl
     rw [List.flatMap_cons,List.map_cons,ih fun y hy=>hl y (List.mem_cons_of_mem _ hy)]
     show [Value.int .i64 ((z.toNat:Nat):Int)] ++ _=_
     rw [hl z List.mem_cons_self];rfl
   exact this zs hnat
  have e2:(zs.map Int.toNat).length=ss.length:=by rw [List.length_map];exact hms.length_eq
  unfold OwnG
  rw [e1,e2]
  exact ownsRow_base_a hrow (by simp)
 ·
  rw [List.pairwise_map]
  refine List.Pairwise.imp_of_mem (fun {a b} ha hb' hab=>?_) (hsort.and hnz)
  have h3:=hnat a ha
  have h4:=hnat b hb'
  have h5:=hab.1
  have h6:=hab.2
  omega
 ·
  rw [← hm k,← hpz.mem_iff,List.mem_map]
  constructor
  · rintro ⟨z,hz1,rfl⟩;rw [hnat z hz1];exact hz1
  · intro h9;exact ⟨_,h9,by simp⟩
end Go.Proofs.YthjmdgejnakcmaaDoor
