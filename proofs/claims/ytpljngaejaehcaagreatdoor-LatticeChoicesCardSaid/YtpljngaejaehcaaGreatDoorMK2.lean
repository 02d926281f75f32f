/- Texts that the claims share: K3, KR, K4, K5, K7. -/
import Derived.Deep.QuietTactic
import Derived.BigQuiet
import Derived.IntWalk
import Derived.Laws.StructEq
import Derived.Test.YtpljngaejaehcaaGreatDoorMK1
import Derived.Test.YtpljngaejaehcaaGreatDoorMA1
set_option maxHeartbeats 6400000
set_option maxRecDepth 100000
set_option linter.unusedVariables false
set_option linter.unusedSimpArgs false
namespace Go.Proofs.YtpljngaejaehcaaGreatDoor
open Go.RowKit Go.WideShapes Fl
theorem K2 {s:Slt} {p:Nat} (h:p<(chA s).length):(chA s)[p]=⟨((s[p]'(by rw [Cy] at h;exact h)).key.toNat:Int),(s[p]'(by rw [Cy] at h;exact h)).cost⟩:=by simp [chA]
theorem Nv {s:Slt} {c:UInt8} {a:Nat} (hb:∀ h∈s,0≤h.cost) (h:Fj s c=some a):∃ p,∃ hp:p<(chA s).length,Dr (chA s) (c.toNat:Int)=(p:Int)∧(chA s)[p].t=(a:Int):=by
 unfold Fj at h;cases e:s.find? fun h=>h.key == c with
 | none=>rw [e] at h;cases h
 | some x =>
  rw [e] at h;simp at h;obtain ⟨h1,p,hp,h2,h3⟩:=List.find?_eq_some_iff_getElem.1 e;have ja:p<(chA s).length:=by rw [Cy];exact hp
  refine ⟨p,ja,GC ja ?_ ?_,?_⟩
  ·rw [List.all_eq_true];intro y hy;obtain ⟨j,hj,rfl⟩:=List.mem_iff_getElem.1 hy;rw [AK] at hj;rw [List.getElem_take,K2 (by omega)];have h4:=h3 j (by omega);simp only [Bool.not_eq_true',beq_eq_false_iff_ne,ne_eq] at h4 ⊢;intro e9;exact h4 (UInt8.toNat_inj.1 (by omega))
  ·rw [K2 ja,h2];simp only [beq_iff_eq] at h1 ⊢;rw [h1]
  ·rw [K2 ja,h2];have:=hb x (List.mem_of_find?_eq_some e);simp only;omega
theorem Nw {s:Slt} {c:UInt8} (h:Fj s c=none):Dr (chA s) (c.toNat:Int) = -1:=by
 unfold Fj at h;have e:s.find? (fun h=>h.key == c)=none:=by
  cases e:s.find? fun h=>h.key == c with
  | none=>rfl
  | some x=>rw [e] at h;cases h
 refine ET ?_;rw [List.all_eq_true];intro y hy;unfold chA at hy;obtain ⟨x,hx,rfl⟩:=AH.1 hy;have h1:=List.find?_eq_none.1 e x hx;simp only [Bool.not_eq_true',beq_eq_false_iff_ne,ne_eq,beq_iff_eq] at h1 ⊢;intro e9;exact h1 (UInt8.toNat_inj.1 (by omega))
theorem N8 {s:ByteArray} {k:Nat} (h:k<s.size):(bts s)[k]'(by rw [CX];exact h)=s[k]:=rfl
theorem MA {L:List Slt} {s:ByteArray} {i k:Nat} (hk:k<s.size) (hi:i+k<L.length) :
  letsC (L.drop (i+k)) ((bts s).drop k)=match Fj L[i+k] s[k] with | none=>none | some a=>(letsC (L.drop (i+(k+1))) ((bts s).drop (k+1))).map (a+·):=by
 rw [AE (show k<(bts s).length by rw [CX];exact hk),AE hi,letsC,N8 hk];rfl
theorem LC {L:List Slt} {r:List UInt8} (h:L.length<r.length):letsC L r=none:=by
 cases e:letsC L r with
 | none=>rfl
 | some a=>have:=Gf e;omega
def Sp (o:Option Nat) (e:Ending):Prop:=match o with
 | none=>e=.returned (.tuple #[.int .i64 0,.bool false])
 | some k=>e=.returned (.tuple #[.int .i64 (k:Int),.bool true])
section
variable {w w':World} {gx:Nat} {acc:Int} {aR:Option Addr} {nR cR:Nat} {aT:Option Addr} {nT cT:Nat} {aL:Option Addr} {nL cL:Nat} {gm:Nat→Nat}
theorem MB (a:Option Addr) (b o len cap i k:Nat) (ha:a=some ⟨b,o,none⟩) (hk:i+k<len) (w:World) :
  (Instr.indexAt 41 (.slice a len cap) (.int .i64 ((i:Int)+(k:Int)))).run Tryz.prog w=.ok (.pointer (some ⟨b,o+(i+k),none⟩)) w:=by
 have:=JQ a b o len cap (i+k) ha hk w;rw [← this];congr 2
theorem letters_any (L:List Slt) (C i:Nat) (s:ByteArray) (hx:SX w gx acc aR nR cR aT nT cT aL nL cL gm) (hL:CE w aL L) (hn:nL=L.length) (hnl:nL≤1000000) (hi:i≤L.length) (hs:s.size≤1000000) (hB:Bp C L) (hC:C≤1000000) :
  Calls Tryz.prog 132 #[.pointer (some ⟨gx,0,none⟩),.int .i64 (i:Int),.string s] w fun e w'=>Sp (letsC (L.drop i) (bts s)) e∧Below w.heap.size w w':=by
 subst hn;have HX:=A0 hx;have HL:=A0 hL;have HB:=A0 hB;have jy:=hx.lt;obtain ⟨c0,c1,c2,c3⟩:=hx.cells;clear hx hL hB c0 c1 c2;by_cases jb:s.size≤L.length - i
 ·have jz:¬ (L.length:Int) - (i:Int)<(s.size:Int):=by omega
  have hl2:s.size+i≤L.length:=by omega
  clear jb
  go_enter Tryz.func132,Tryz.ntmps132
  go_wp2_with fail
  go_quiet (fail)
  go_wp2
  go_loopw [8,24] (fun sm q wr=>∃ k a:Nat,k≤s.size∧q=.int .i64 (k:Int)∧sm=.int .i64 (a:Int)∧a≤k*C∧letsC (L.drop i) (bts s)=(letsC (L.drop (i+k)) ((bts s).drop k)).map (a+·)∧Below (w.heap.size+1) (w.alloc (.cells #[.string s] 9)) wr) (fun _ q _=>s.size - (intOf q).toNat)
  case atStart=>exact ⟨0,0,Nat.zero_le _,rfl,rfl,Nat.zero_le _,by rw [Nat.add_zero,List.drop_zero];cases letsC (L.drop i) (bts s) <;> simp,⟨rfl,rfl,rfl,A3 _,fun _ _=>rfl⟩⟩
  case round =>
   obtain ⟨k,a,hk,rfl,rfl,ha,jc,jf⟩:=hrel;have ji:=A0 jc;have jm:=A0 jf;have hz:=jf.size;rw [A6] at hz;have hW:=((Below.refl w.heap.size w).alloc (A3 _) (.cells #[.string s] 9)).trans (jf.mono (Nat.le_succ _));have HW:=A0 hW;clear jc jf hW;by_cases jj:k<s.size
   ·obtain ⟨b1,o1,jp,hb1,aa,cc,q0,ql,hq⟩:=(HL.out.later HW.out (A3 _)).at (show i+k<L.length by omega);have hi1:=MB aL b1 o1 L.length cL i k jp (by omega);have c3r:=(HW.out.cell (p:=⟨gx,3,none⟩) jy).trans c3;have b0:wr.cell? ⟨w.heap.size,0,none⟩=some (.string s):=(jm.out.cell (p:=⟨w.heap.size,0,none⟩) (Nat.lt_succ_self _)).trans (by rw [cell_of_row _ w.heap.size 0 _ _ (0,0) (heap_alloc_new _ _)];rfl);have jl:=A0 b0;have jh:=A0 (MA (L:=L) jj (show i+k<L.length by omega));have jk:∀ h∈L[i+k],0≤h.cost∧h.cost≤(C:Int):=HB.out _ (AG _);obtain ⟨sl,ju⟩:∃ sl,L[i+k]=sl:=⟨_,rfl⟩
    rw [ju] at q0 ql hq jh jk;have HQ:=A0 hq;have jn:=A0 jk;have hwr:IntKind.i64.wrap ((i:Int)+(k:Int))=(i:Int)+(k:Int):=IntWalk.i64_in _ (by omega);have HZ:Hid (∀ q,Below wr.heap.size wr ((wr.alloc (.cells #[.int .i64 (k:Int)] 3)).drewN q)):=fun q=>below_drewN ((Below.refl _ _).alloc (A3 _) _) q;have jo:Hid (∀ q,((wr.alloc (.cells #[.int .i64 (k:Int)] 3)).drewN q).cell? ⟨wr.heap.size,0,none⟩=some (.int .i64 (k:Int))):=fun q=>by
     rw [cell_of_row _ wr.heap.size 0 _ _ (0,0) (show ((wr.alloc (.cells #[.int .i64 (k:Int)] 3)).drewN q).heap[wr.heap.size]? = _ from heap_alloc_new _ _)];rfl
    have je:Hid (∀ q,wr.heap.size<((wr.alloc (.cells #[.int .i64 (k:Int)] 3)).drewN q).heap.size):=fun q=>by
     show wr.heap.size<(wr.alloc _).heap.size;rw [A6];omega
    clear jp ju hq jk;obtain ⟨lc,jt⟩:∃ lc,Fj sl s[k]=lc:=⟨_,rfl⟩
    have ja:=A0 jt;clear jt;cases lc with
    | none =>
     have jg:=A0 (Nw ja.out);have HN:Hid (letsC (L.drop i) (bts s)=none):=by
      show _=_;rw [ji.out,jh.out,ja.out];rfl
     go_wp2_with fail
     go_quiet (fail)
     go_wp2_with fail
     refine (idx_chs_any (chA sl) aa sl.length cc s w.heap.size wr.heap.size k _ (HQ.out.later (HZ.out _) (A3 _)) (Cy sl).symm ql (((HZ.out _).cell (p:=⟨w.heap.size,0,none⟩) hz).trans jl.out) (Nat.lt_trans (show w.heap.size<wr.heap.size by omega) (je.out _)) (jo.out _) (je.out _) jj).mono ?_;rintro e w5 ⟨he,hb⟩;rw [jg.out] at he;subst he;have jd:=A0 ((HZ.out _).trans (hb.mono (HZ.out _).size));clear hb
     go_wp2_with fail
     go_ret2
     exact ⟨by rw [HN.out];rfl,HW.out.trans (jd.out.mono HW.out.size)⟩
    | some c =>
     obtain ⟨p,hp,js,jr⟩:=Nv (fun h hh=>(jn.out h hh).1) ja.out;have hcC:=Mz jn.out ja.out;have jg:=A0 js;obtain ⟨b2,o2,jq,jx,p0,p1⟩:=HQ.out.at hp;rw [jr] at p1;have jv:=A0 p1;have jA:p<sl.length:=by rw [Cy] at hp;exact hp
     have hi2:=Hm aa b2 o2 sl.length cc p jq jA;have HN:Hid (letsC (L.drop i) (bts s)=(letsC (L.drop (i+(k+1))) ((bts s).drop (k+1))).map ((a+c)+·)):=by
      show _=_;rw [ji.out,jh.out,ja.out];show ((letsC (L.drop (i+(k+1))) ((bts s).drop (k+1))).map (c+·)).map (a+·)=_;cases letsC (L.drop (i+(k+1))) ((bts s).drop (k+1)) with
      | none=>rfl
      | some z=>simp [Nat.add_assoc]
     have hkc:k*C≤1000000*1000000:=Nat.mul_le_mul (by omega) hC;have jw:a+c≤(k+1)*C:=by rw [Nat.add_mul];omega
     have hpI:¬ (p:Int)<0:=by omega
     clear js jr jq p0 p1 hp
     go_wp2_with fail
     go_quiet (fail)
     go_wp2_with fail
     refine (idx_chs_any (chA sl) aa sl.length cc s w.heap.size wr.heap.size k _ (HQ.out.later (HZ.out _) (A3 _)) (Cy sl).symm ql (((HZ.out _).cell (p:=⟨w.heap.size,0,none⟩) hz).trans jl.out) (Nat.lt_trans (show w.heap.size<wr.heap.size by omega) (je.out _)) (jo.out _) (je.out _) jj).mono ?_;rintro e w5 ⟨he,hb⟩;rw [jg.out] at he;subst he;have jd:=A0 ((HZ.out _).trans (hb.mono (HZ.out _).size));have p1':=(jd.out.cell (p:=⟨b2,o2+p*2+1,none⟩) jx).trans jv.out;clear hb
     go_wp2_with fail
     go_roundw
     case rel=>exact ⟨k+1,a+c,by omega,by go_num,by go_num,jw,HN.out,jm.out.trans (jd.out.mono hz)⟩
     case measure=>simp [intOf];omega
   ·have HN:Hid (letsC (L.drop i) (bts s)=some a):=by
     show _=_;have e:(bts s).drop k=[]:=List.drop_eq_nil_of_le (by rw [CX];omega);rw [ji.out,e,Ge];simp
    go_wp2
    go_ret2
    exact ⟨by rw [HN.out];rfl,HW.out⟩
 ·have jz:(L.length:Int) - (i:Int)<(s.size:Int):=by omega
  have HN:Hid (letsC (L.drop i) (bts s)=none):=LC (by rw [List.length_drop,CX];omega);clear jb
  go_enter Tryz.func132,Tryz.ntmps132
  go_wp2_with fail
  go_quiet (fail)
  go_wp2
  go_ret2
  exact ⟨by rw [HN.out];rfl,below_drewN ((Below.refl _ w).alloc (A3 _) _) _⟩
end
structure Bn where
 word:Int
 arcs:List Ar
deriving DecidableEq,Inhabited
def D6 (w:World) (a:Option Addr) (T:List Bn):Prop:=∀ k (hk:k<T.length),∃ b o,a=some ⟨b,o,none⟩∧b<w.heap.size∧w.cell? ⟨b,o+k*2,none⟩=some (.int .i64 T[k].word) ∧
 ∃ aa cc,w.cell? ⟨b,o+k*2+1,none⟩=some (.slice aa T[k].arcs.length cc)∧T[k].arcs.length≤9223372036854775807∧DD w aa T[k].arcs
theorem D6.kp {w w1:World} {a:Option Addr} {T:List Bn} (h:D6 w a T) (hk:Kc w w1):D6 w1 a T:=fun k hl=>by
 obtain ⟨b,o,ha,h1,h2,aa,cc,h3,h4,h5⟩:=h k hl;exact ⟨b,o,ha,A7 h1 hk.size,hk.cell h2,aa,cc,hk.cell h3,h4,h5.kp hk⟩
theorem D6.later {w w1:World} {a:Option Addr} {T:List Bn} {B:Nat} (h:D6 w a T) (hb:Below B w w1) (hB:w.heap.size≤B):D6 w1 a T:=h.kp (Kc.of hb hB)
theorem D6.at {w:World} {a:Option Addr} {T:List Bn} (h:D6 w a T) {k:Nat} (hk:k<T.length):∃ b o,a=some ⟨b,o,none⟩∧b<w.heap.size∧w.cell? ⟨b,o+k*2,none⟩=some (.int .i64 T[k].word) ∧
 ∃ aa cc,w.cell? ⟨b,o+k*2+1,none⟩=some (.slice aa T[k].arcs.length cc)∧T[k].arcs.length≤9223372036854775807∧DD w aa T[k].arcs:=h k hk
theorem I6 (a:Option Addr) (b o len cap k:Nat) (ha:a=some ⟨b,o,none⟩) (hk:k<len) (w:World) :
  (Instr.indexAt 175 (.slice a len cap) (.int .i64 (k:Int))).run Tryz.prog w=.ok (.pointer (some ⟨b,o+k*2,none⟩)) w:=by
 subst ha;have h0:(0:Int)≤(k:Int):=by omega
 have h1:(k:Int)<(len:Int):=by omega
 simp [go_sem,h0,h1]
def
  folT (T:List Bn):Nat→List UInt8→Option Nat
 | n,[]=>some n
 | n,c :: r=>match T[n]? with
  | none=>none
  | some b=>match b.arcs.find? (fun x=>x.c == (c.toNat:Int)) with
   | none=>none
   | some x=>folT T x.t.toNat r
theorem folw (T:List Bn):Rr (folT T) where
 nil n:=rfl
 app
   n
    a b:=by
  induction a generalizing n with
  | nil=>rfl
  | cons c r ih =>
   simp only [List.cons_append,folT];cases T[n]? with
   | none=>rfl
   | some y =>
    simp only;cases y.arcs.find? (fun x=>x.c == (c.toNat:Int)) with
    | none=>rfl
    | some x=>exact ih _
def PD (T:List Bn):Prop:=∀ b∈T,∀ x∈b.arcs,0≤x.t∧x.t<(T.length:Int)
theorem N9 {T:List Bn} (h:PD T):∀ {r:List UInt8} {n m:Nat},n<T.length→folT T n r=some m→m<T.length
 | [],n,m,hn,e=>by cases e;exact hn
 | c
   :: r,n,m,hn,e=>by
  simp only [folT,AA hn] at e;split at e
  · cases e
  ·rename_i x hx;have:=h _ (AG hn) x (List.mem_of_find?_eq_some hx);exact N9 h (by omega) e
theorem PE {X:List Ar} {c:Int} {x:Ar} (h:X.find? (fun x=>x.c == c)=some x):∃ p,∃ hp:p<X.length,Dr X c=(p:Int)∧X[p]=x:=by
 obtain ⟨h1,p,hp,h2,h3⟩:=List.find?_eq_some_iff_getElem.1 h;refine ⟨p,hp,GC hp ?_ (by rw [h2];exact h1),h2⟩;rw [List.all_eq_true];intro y hy;obtain ⟨j,hj,rfl⟩:=List.mem_iff_getElem.1 hy;rw [AK] at hj;rw [List.getElem_take];exact h3 j (by omega)
theorem PF {X:List Ar} {c:Int} (h:X.find? (fun x=>x.c == c)=none):Dr X c = -1:=by
 refine ET ?_;rw [List.all_eq_true];intro y hy;have:=List.find?_eq_none.1 h y hy;simpa using this
theorem Nx {T:List Bn} {m k:Nat} {s:ByteArray} (hm:m<T.length) (hk:k<s.size) :
  folT T m ((bts s).drop k)=match T[m].arcs.find? (fun x=>x.c == (s[k].toNat:Int)) with | none=>none | some x=>folT T x.t.toNat ((bts s).drop (k+1)):=by
 rw [AE (show k<(bts s).length by rw [CX];exact hk),folT,AA hm,N8 hk]
section
variable {w w':World} {gx:Nat} {acc:Int} {aR:Option Addr} {nR cR:Nat} {aT:Option Addr} {nT cT:Nat} {aL:Option Addr} {nL cL:Nat} {gm:Nat→Nat}
theorem follow_any (T:List Bn) (n:Nat) (s:ByteArray) (hx:SX w gx acc aR nR cR aT nT cT aL nL cL gm) (hT:D6 w aT T) (hn:nT=T.length) (hnl:nT≤1000000) (hi:n<T.length) (hs:s.size≤1000000) (jo:PD T) :
  Calls Tryz.prog 108 #[.pointer (some ⟨gx,0,none⟩),.int .i64 (n:Int),.string s] w fun e w'=>Sp (folT T n (bts s)) e∧Below w.heap.size w w':=by
 subst hn;have HX:=A0 hx;have HT:=A0 hT;have HI:=A0 jo;have jw:=hx.lt;obtain ⟨c0,c1,c2,c3⟩:=hx.cells;clear hx hT jo c0 c1 c3
 go_enter Tryz.func108,Tryz.ntmps108
 go_wp2
 go_loopw [1,13] (fun nd q wr=>∃ k m:Nat,k≤s.size∧q=.int .i64 (k:Int)∧nd=.int .i64 (m:Int)∧m<T.length∧folT T n (bts s)=folT T m ((bts s).drop k)∧Below (w.heap.size+1) (w.alloc (.cells #[.string s] 9)) wr) (fun _ q _=>s.size - (intOf q).toNat)
 case atStart=>exact ⟨0,n,Nat.zero_le _,rfl,rfl,hi,rfl,Below.refl _ _⟩
 case round =>
  obtain ⟨k,m,hk,rfl,rfl,hm,jb,je⟩:=hrel;have jh:=A0 jb;have jl:=A0 je;have hz:=je.size;rw [A6] at hz;have hW:=((Below.refl w.heap.size w).alloc (A3 _) (.cells #[.string s] 9)).trans (je.mono (Nat.le_succ _));have HW:=A0 hW;clear jb je hW;by_cases ji:k<s.size
  ·obtain ⟨b1,o1,jp,hb1,q9,aa,cc,q0,ql,hq⟩:=(HT.out.later HW.out (A3 _)).at hm;have hi1:=I6 aT b1 o1 T.length cT m jp hm;have c2r:=(HW.out.cell (p:=⟨gx,2,none⟩) jw).trans c2;have b0:wr.cell? ⟨w.heap.size,0,none⟩=some (.string s):=(jl.out.cell (p:=⟨w.heap.size,0,none⟩) (Nat.lt_succ_self _)).trans (by rw [cell_of_row _ w.heap.size 0 _ _ (0,0) (heap_alloc_new _ _)];rfl);have jk:=A0 b0;have jg:=A0 (Nx (T:=T) hm ji);have jm:=A0 (HI.out _ (AG hm));obtain ⟨X,hX⟩:∃ X,T[m].arcs=X:=⟨_,rfl⟩
   rw [hX] at q0 ql hq jg jm;have HQ:=A0 hq;have HZ:Hid (Below wr.heap.size wr (wr.alloc (.cells #[.int .i64 (k:Int)] 3))):=(Below.refl _ _).alloc (A3 _) _;have jn:Hid ((wr.alloc (.cells #[.int .i64 (k:Int)] 3)).cell? ⟨wr.heap.size,0,none⟩=some (.int .i64 (k:Int))):=by
    show _=_;rw [cell_of_row _ wr.heap.size 0 _ _ (0,0) (heap_alloc_new _ _)];rfl
   have jd:Hid (wr.heap.size<(wr.alloc (.cells #[.int .i64 (k:Int)] 3)).heap.size):=by
    show wr.heap.size<(wr.alloc _).heap.size;rw [A6];omega
   clear jp hX hq q9;obtain ⟨lc,jt⟩:∃ lc,X.find? (fun x=>x.c == (s[k].toNat:Int))=lc:=⟨_,rfl⟩
   have ja:=A0 jt;clear jt;cases lc with
   | none =>
    have jf:=A0 (PF ja.out);have HN:Hid (folT T n (bts s)=none):=by
     show _=_;rw [jh.out,jg.out,ja.out]
    go_wp2_with fail
    refine (idx_arcs_any X aa X.length cc s w.heap.size wr.heap.size k _ (HQ.out.later HZ.out (A3 _)) rfl ql ((HZ.out.cell (p:=⟨w.heap.size,0,none⟩) hz).trans jk.out) (Nat.lt_trans (show w.heap.size<wr.heap.size by omega) jd.out) jn.out jd.out ji).mono ?_;rintro e w5 ⟨he,hb⟩;rw [jf.out] at he;subst he;have jc:=A0 (HZ.out.trans (hb.mono HZ.out.size));clear hb
    go_wp2_with fail
    go_ret2
    exact ⟨by rw [HN.out];rfl,HW.out.trans (jc.out.mono HW.out.size)⟩
   | some x =>
    obtain ⟨p,hp,js,jr⟩:=PE ja.out;have jf:=A0 js;obtain ⟨b2,o2,jq,jv,p0,p1⟩:=HQ.out.at hp;have jy:=jm.out x (List.mem_of_find?_eq_some ja.out);obtain ⟨m2,jj⟩:∃ m2:Nat,x.t=(m2:Int):=⟨x.t.toNat,by omega⟩
    rw [jr,jj] at p1;have ju:=A0 p1;have hi2:=EI aa b2 o2 X.length cc p jq hp;have HN:Hid (folT T n (bts s)=folT T m2 ((bts s).drop (k+1))):=by
     show _=_;rw [jh.out,jg.out,ja.out];show folT T x.t.toNat _=_;rw [jj];rfl
    have jx:m2<T.length:=by omega
    have hpI:¬ (p:Int)<0:=by omega
    clear js jr jq p0 p1 jy jj
    go_wp2_with fail
    refine (idx_arcs_any X aa X.length cc s w.heap.size wr.heap.size k _ (HQ.out.later HZ.out (A3 _)) rfl ql ((HZ.out.cell (p:=⟨w.heap.size,0,none⟩) hz).trans jk.out) (Nat.lt_trans (show w.heap.size<wr.heap.size by omega) jd.out) jn.out jd.out ji).mono ?_;rintro e w5 ⟨he,hb⟩;rw [jf.out] at he;subst he;have jc:=A0 (HZ.out.trans (hb.mono HZ.out.size));have p1':=(jc.out.cell (p:=⟨b2,o2+p*2+1,none⟩) jv).trans ju.out;clear hb
    go_wp2_with fail
    go_roundw
    case rel=>exact ⟨k+1,m2,by omega,by go_num,rfl,jx,HN.out,jl.out.trans (jc.out.mono hz)⟩
    case measure=>simp [intOf];omega
  ·have HN:Hid (folT T n (bts s)=some m):=by
    show _=_;have e:(bts s).drop k=[]:=List.drop_eq_nil_of_le (by rw [CX];omega);rw [jh.out,e];rfl
   go_wp2
   go_ret2
   exact ⟨by rw [HN.out];rfl,HW.out⟩
theorem PG (r:Rl) (w:World) :
  Calls Tryz.prog 105 #[.agg #[.int .i64 r.frm,.int .i64 r.dst,.string r.inp,.string r.out,.int .i64 r.cost]] w fun e w'=>e=.returned (.bool (Bj r))∧Below w.heap.size w w':=by
 rcases (show Bj r=true∨r.frm<0∨(0≤r.frm∧¬ r.frm<8)∨(0≤r.frm∧r.frm<8∧r.dst<0)∨(0≤r.frm∧r.frm<8∧0≤r.dst∧¬ r.dst<8)∨(0≤r.frm∧r.frm<8∧0≤r.dst∧r.dst<8∧¬ (r.inp.size:Int)≤4) ∨
   (0≤r.frm∧r.frm<8∧0≤r.dst∧r.dst<8∧(r.inp.size:Int)≤4∧r.cost<0)∨(0≤r.frm∧r.frm<8∧0≤r.dst∧r.dst<8∧(r.inp.size:Int)≤4∧0≤r.cost∧¬ r.cost≤1000) from by
  by_cases h:Bj r=true
  · exact .inl h
  ·refine .inr ?_;rw [CQ] at h;omega) with h | h | ⟨h1,h⟩ | ⟨h1,h2,h⟩ | ⟨h1,h2,h3,h⟩ | ⟨h1,h2,h3,h4,h⟩ | ⟨h1,h2,h3,h4,h5,h⟩ | ⟨h1,h2,h3,h4,h5,h6,h⟩
 ·have HF:=A0 h;obtain ⟨h1,h2,h3,h4,h5,h6,h7⟩:=CQ.1 h;have h5':(r.inp.size:Int)≤4:=by omega
  clear h h5
  go_enter Tryz.func105,Tryz.ntmps105
  go_wp2;go_ret;exact ⟨Aa HF.out.symm,by go_grown⟩
 all_goals
  have HF:Hid (Bj r=false):=by
   show _=_;cases e:Bj r with
   | false=>rfl
   | true=>rw [CQ] at e;omega
  try have h':=Int.not_le.2 h
  go_enter Tryz.func105,Tryz.ntmps105
  go_wp2;go_ret;exact ⟨Aa HF.out.symm,by go_grown⟩
end
section
variable {α:Type} {T:BQ α} {W0 W w':World} {B:Nat} {vR v:Value} {L:List α} {x:α}
def Da (T:BQ α) (vR:Value) (x:α) (v:Value) (w:World):Prop:=∃ g,v=.slice (some ⟨g,0,none⟩) 1 1∧w.heap[g]? = some (.cells (T.enc x).toArray T.e (0,0))∧vR.ownBlock≠some g
theorem CT (T:BQ α) (vR:Value) (x:α):Bb (Da T vR x):=by
 rintro v w w' ⟨g,h1,h2,h3⟩ hx;exact ⟨g,h1,(Below.block hx g (A5.1 h2).1).trans h2,h3⟩
theorem CU (T:BQ α) (vR:Value) (x:α):∀ v w w',Da T vR x v w→w.grownBy w' vR.ownBlock→Da T vR x v w':=by
 rintro v w w' ⟨g,h1,h2,h3⟩ hx;exact ⟨g,h1,(hx.block g (A5.1 h2).1 fun e=>h3 e.symm).trans h2,h3⟩
structure Bq (T:BQ α) (W0:World) (B:Nat) (vR:Value) (L:List α) (v:Value) (W:World):Prop where
 own:AZ T W B v L
 os:W.os=W0.os
 tape:W.tape=W0.tape
 output:W.output=W0.output
 size:W0.heap.size≤W.heap.size
 block:∀ q,q<W0.heap.size→vR.ownBlock≠some q→W.heap[q]? = W0.heap[q]?
 loc:v.ownBlock=vR.ownBlock∨∃ q,v.ownBlock=some q∧W0.heap.size≤q
theorem Bf:Bb (Bq T W0 B vR L):=fun v w w' h hx =>
 ⟨h.own.later hx (A3 _),(Below.os hx).trans h.os,(Below.tape hx).trans h.tape,(Below.output hx).trans h.output,A8 h.size (Below.size hx),fun q hq ja=>(Below.block hx q (A7 hq h.size)).trans (h.block q hq ja),h.loc⟩
theorem Bq.made (hx:Ext W0 W) (ho:AZ T w' B v (L ++ [x])) (hg:W.grownBy w' vR.ownBlock) (ja:v.ownBlock=vR.ownBlock∨v.ownBlock=some W.heap.size):Bq T W0 B vR (L ++ [x]) v w' :=
 ⟨ho,hg.os.trans (Below.os hx),hg.tape.trans (Below.tape hx),hg.output.trans (Below.output hx),A8 (Below.size hx) hg.size,fun q hq jb=>(hg.block q (A7 hq (Below.size hx)) fun e=>jb e.symm).trans (Below.block hx q hq),ja.imp id fun e=>⟨_,e,Below.size hx⟩⟩
def ApT (W0:World) (vR:Value) (b:Bool) (W:World):Prop:=match b with | false=>Ext W0 W | true=>W0.heap.size≤W.heap.size∧∀ q,q<W0.heap.size→vR.ownBlock≠some q→W.heap[q]? = W0.heap[q]?
theorem ApT.old:∀ {b:Bool},ApT W0 vR b W→∀ q,q<W0.heap.size→vR.ownBlock≠some q→W.heap[q]? = W0.heap[q]?
 | false,h,q,hq,_=>Below.block h q hq
 | true,h,q,hq,hne=>h.2 q hq hne
theorem ApT.ext:∀ (b:Bool) (w w':World),ApT W0 vR b w→Ext w w'→ApT W0 vR b w':=fun b w w' h hx=>by
 cases b with
 | false=>exact Ext.trans h hx
 | true=>exact ⟨A8 h.1 (Below.size hx),fun q hq ja=>(Below.block hx q (A7 hq h.1)).trans (h.2 q hq ja)⟩
theorem Bq.old (h:Bq T W0 B vR L v W):ApT W0 vR true W:=⟨h.size,h.block⟩
theorem Bq.below (h:Bq T W0 B vR L v W) {C:Nat} (hC:C≤W0.heap.size) (hv:∀ q,vR.ownBlock=some q→C≤q):Below C W0 W :=
 ⟨h.os,h.tape,h.output,h.size,fun q hq=>h.block q (by omega) fun e=>by have:=hv q e;omega⟩
theorem B8 (w:World):Ext w { heap:=w.heap,tape:=w.tape,drawn:=w.drawn+1,os:=w.os,output:=w.output }:=⟨rfl,rfl,rfl,A3 _,fun _ _=>rfl⟩
end
def Br:BQ Rl:=⟨31,88,5,56,.agg #[.int .i64 0,.int .i64 0,.string ⟨#[]⟩,.string ⟨#[]⟩,.int .i64 0],fun r=>[.int .i64 r.frm,.int .i64 r.dst,.string r.inp,.string r.out,.int .i64 r.cost]⟩
theorem FD:Br.Ok:=⟨Tryz.underlying31,by kernel_rfl,rfl,by decide,fun _=>rfl,fun x u hu=>by
 have h:u=.int .i64 x.frm∨u=.int .i64 x.dst∨u=.string x.inp∨u=.string x.out∨u=.int .i64 x.cost:=by simpa [Br] using hu
 rcases h with rfl | rfl | rfl | rfl | rfl <;> rfl,by decide⟩
theorem AZ.ruls {w:World} {B:Nat} {a:Option Addr} {n c:Nat} {L:List Rl} (h:AZ Br w B (.slice a n c) L):BG w a L∧n=L.length∧L.length≤c:=by
 obtain ⟨a',c',he,hc,_⟩:=h.form;injection he with e1 e2 e3;refine ⟨?_,e2,by omega⟩;rcases h.blk with ⟨_,rfl⟩ | ⟨g,c2,ja,_,hg,_⟩
 · exact .inl rfl
 ·injection ja with f1 f2 f3;subst f1;refine .inr ⟨g,0,rfl,hg,fun i hi=>?_⟩;have hc:∀ j,j<5→w.cell? ⟨g,i*5+j,none⟩=(Br.enc L[i])[j]?:=fun j hj=>h.cell FD hi (j:=j) hj;rw [Nat.zero_add];exact ⟨hc 0 (by decide),hc 1 (by decide),hc 2 (by decide),hc 3 (by decide),hc 4 (by decide)⟩
theorem Gy {R:List Rl} {L:List Slt} {i m k:Nat} (hk:k<R.length) :
  BL (R.take (k+1)) L i m=BL (R.take k) L i m ++ (match letsC (L.drop i) (bts R[k].inp) with | none=>[] | some c=>if R[k].frm=(m:Int) then [raise R[k] c] else []):=by
 unfold BL LA;rw [AN hk,List.filterMap_append,List.filter_append];congr 1;cases e:letsC (L.drop i) (bts R[k].inp) with
 | none=>simp [List.filterMap_cons,e]
 | some c=>simp [List.filterMap_cons,e,List.filter_cons,raise]
theorem I7 {R:List Rl} {L:List Slt} {i m:Nat}:(BL R L i m).length≤R.length:=by
 unfold BL LA;exact A8 (List.length_filter_le _ _) (List.length_filterMap_le _ _)
def slV (va:Nat→Option Addr) (vc:Nat→Nat) (F:Nat→List Rl) (m:Nat):Value:=.slice (va m) (F m).length (vc m)
def st8 (f:Nat→Value):Array Value:=#[f 0,f 1,f 2,f 3,f 4,f 5,f 6,f 7]
structure K3 (w:World) (B gS:Nat) (va:Nat→Option Addr) (vc:Nat→Nat) (F:Nat→List Rl):Prop where
 rep:w.heap[gS]? = some (.cells (st8 (slV va vc F)) 184 (0,0))
 own:∀ m,m<8→AZ Br w B (slV va vc F m) (F m)
 apart:∀ m m' q,m<8→m'<8→m≠m'→(slV va vc F m).ownBlock=some q→(slV va vc F m').ownBlock≠some q
 gS:gS<B
section
variable {w w':World} {B gS:Nat} {va:Nat→Option Addr} {vc:Nat→Nat} {F:Nat→List Rl}
theorem K4 (f:Nat→Value) {m:Nat} (h:m<8):(st8 f)[m]? = some (f m):=by
 rcases (show m=0∨m=1∨m=2∨m=3∨m=4∨m=5∨m=6∨m=7 from by omega) with rfl | rfl | rfl | rfl | rfl | rfl | rfl | rfl <;> rfl
theorem Qg (f:Nat→Value) {m:Nat} (h:m<8) (y:Value):(st8 f).setIfInBounds m y=st8 fun k=>if k=m then y else f k:=by
 rcases (show m=0∨m=1∨m=2∨m=3∨m=4∨m=5∨m=6∨m=7 from by omega) with rfl | rfl | rfl | rfl | rfl | rfl | rfl | rfl <;> rfl
theorem K3.cell (h:K3 w B gS va vc F) {m:Nat} (hm:m<8):w.cell? ⟨gS,m,none⟩=some (slV va vc F m):=by
 rw [cell_of_row w gS _ _ _ (0,0) h.rep,K4 _ hm]
theorem K3.ext (h:K3 w B gS va vc F) (hx:Ext w w'):K3 w' B gS va vc F :=
 ⟨(Below.block hx gS (A5.1 h.rep).1).trans h.rep,fun m hm=>(h.own m hm).later hx (A3 _),h.apart,h.gS⟩
def Et {α:Type} (f:Nat→α) (m:Nat) (y:α):Nat→α:=fun k=>if k=m then y else f k
theorem K5 {m k:Nat} {ya:Option Addr} {yc:Nat} {L2:List Rl}:slV (Et va m ya) (Et vc m yc) (Et F m L2) k=if k=m then .slice ya L2.length yc else slV va vc F k:=by
 unfold slV Et;by_cases h:k=m <;> simp [h]
theorem K3.put {W0 W:World} {m:Nat} {ya:Option Addr} {yc:Nat} {L2:List Rl} (h:K3 W0 B gS va vc F) (hm:m<8) (hB:B≤W0.heap.size) (hp:Bq Br W0 B (slV va vc F m) L2 (.slice ya L2.length yc) W) :
  K3 (W.setCell ⟨gS,m,none⟩ (.slice ya L2.length yc)) B gS (Et va m ya) (Et vc m yc) (Et F m L2):=by
 have je:=h.gS;have jd:W.heap[gS]? = some (.cells (st8 (slV va vc F)) 184 (0,0)):=(hp.block gS (by omega) fun e=>by have:=(h.own m hm).ge _ e;omega).trans h.rep;have jc:∀ q,q≠gS→(W.setCell ⟨gS,m,none⟩ (.slice ya L2.length yc)).heap[q]? = W.heap[q]?:=fun q hq=>Below.heap_setCell _ _ _ _ hq;refine ⟨?_,fun k hk=>?_,fun k k' q hk ja jb hq=>?_,je⟩
 ·rw [heap_setCell_same W gS m _ _ _ jd,Qg _ hm];congr 3;funext k;exact K5.symm
 ·rw [K5];by_cases e:k=m
  ·rw [if_pos e];have:Et F m L2 k=L2:=if_pos e;rw [this];exact hp.own.keep fun g hg=>jc g (by have:=hp.own.ge _ hg;omega)
  ·rw [if_neg e];have:Et F m L2 k=F k:=if_neg e;rw [this];refine (h.own k hk).keep fun g hg=>?_;have hge:=(h.own k hk).ge _ hg;rw [jc g (by omega)];exact hp.block g ((h.own k hk).lt _ hg) fun e2=>h.apart k m g hk hm e hg e2
 ·rw [K5] at hq ⊢;by_cases e:k=m
  ·rw [if_pos e] at hq;have e':¬ k'=m:=fun e2=>jb (e.trans e2.symm);rw [if_neg e'];rcases hp.loc with h1 | ⟨q2,h1,h2⟩
   · rw [h1] at hq;exact h.apart m k' q hm ja (fun e2=>e' e2.symm) hq
   ·rw [h1] at hq;injection hq with hq;intro e3;have:=(h.own k' ja).lt _ e3;omega
  ·rw [if_neg e] at hq;by_cases e':k'=m
   ·rw [if_pos e'];intro e3;rcases hp.loc with h1 | ⟨q2,h1,h2⟩
    · rw [h1] at e3;exact h.apart k m q hk hm e hq e3
    ·rw [h1] at e3;injection e3 with e3;have:=(h.own k hk).lt _ hq;omega
   ·rw [if_neg e'];exact h.apart k k' q hk ja jb hq
end
def Ru (R:List Rl) (L:List Slt) (i:Nat) (e:Ending) (w':World):Prop:=∃ va vc,e=.returned (.agg (st8 (slV va vc (BL R L i))))∧∀ m,m<8→BG w' (va m) (BL R L i m)
theorem PH {R:List Rl} {L:List Slt} {i k:Nat} (hk:k<R.length) (h:letsC (L.drop i) (bts R[k].inp)=none):(fun m=>BL (R.take (k+1)) L i m)=fun m=>BL (R.take k) L i m:=by
 funext m;rw [Gy hk,h];simp
theorem Ny {R:List Rl} {L:List Slt} {i k m0 c:Nat} {x:Rl} (hk:k<R.length) (h:letsC (L.drop i) (bts R[k].inp)=some c) (hm:R[k].frm=(m0:Int)) (hx:x=raise R[k] c) :
  (fun m=>BL (R.take (k+1)) L i m)=Et (fun m=>BL (R.take k) L i m) m0 (BL (R.take k) L i m0 ++ [x]):=by
 funext m;rw [Gy hk,h,hx];unfold Et;by_cases e:m=m0
 · subst e;simp [hm]
 ·have:¬ (R[k].frm=(m:Int)):=by rw [hm];omega
  simp [this,e]
theorem BP {w:World} {g:Nat} {a b e:Int} {c d:ByteArray} {t:TypeId} (h:w.heap[g]? = some (.cells #[.int .i64 a,.int .i64 b,.string c,.string d,.int .i64 e] t (0,0))) :
  w.cell? ⟨g,0,none⟩=some (.int .i64 a)∧w.cell? ⟨g,1,none⟩=some (.int .i64 b)∧w.cell? ⟨g,2,none⟩=some (.string c)∧w.cell? ⟨g,3,none⟩=some (.string d)∧w.cell? ⟨g,4,none⟩=some (.int .i64 e):=by
 refine ⟨?_,?_,?_,?_,?_⟩ <;> (rw [cell_of_row w g _ _ _ (0,0) h];rfl)
section
variable {w w':World} {gx:Nat} {acc:Int} {aR:Option Addr} {nR cR:Nat} {aT:Option Addr} {nT cT:Nat} {aL:Option Addr} {nL cL:Nat} {gm:Nat→Nat}
theorem steps_any (R:List Rl) (L:List Slt) (C i:Nat) (hx:SX w gx acc aR nR cR aT nT cT aL nL cL gm) (hR:BG w aR R) (kl:nR=R.length) (hRl:nR≤1000) (hF:JP R) (hL:CE w aL L) (hn:nL=L.length) (kn:nL≤1000000) (hi:i≤L.length) (hB:Bp C L) (hC:C≤1000000) :
  Calls Tryz.prog 107 #[.pointer (some ⟨gx,0,none⟩),.int .i64 (i:Int)] w fun e w'=>Ru R L i e w'∧Below w.heap.size w w':=by
 subst hn kl;have HX:=A0 hx;have HR:=A0 hR;have HL:=A0 hL;have HB:=A0 hB;have HF:=A0 hF;have kk:=hx.lt;obtain ⟨c0,c1,c2,c3⟩:=hx.cells;clear hx hR hL hB hF c0 c2 c3
 go_enter Tryz.func107,Tryz.ntmps107
 go_wp2
 go_loopw [15] (fun q wr=>∃ k va vc,k≤R.length∧q=.int .i64 ((k:Nat):Int)∧K3 wr (w.heap.size+2) (w.heap.size+1) va vc (fun m=>BL (R.take k) L i m)∧Below (w.heap.size+1) (w.alloc (.cells #[.slice none 0 0,.slice none 0 0,.slice none 0 0,.slice none 0 0,.slice none 0 0,.slice none 0 0,.slice none 0 0,.slice none 0 0] 184)) wr) (fun q _=>R.length - (intOf q).toNat)
 case atStart =>
  refine ⟨0,fun _=>none,fun _=>0,Nat.zero_le _,rfl,⟨?_,fun m hm=>AZ.nil _ _ _,fun m m' q _ _ _ h=>(by cases h),Nat.lt_succ_self _⟩,(Below.refl _ _).alloc (by simp) _⟩;have h:=heap_alloc_new (w.alloc (.cells #[.slice none 0 0,.slice none 0 0,.slice none 0 0,.slice none 0 0,.slice none 0 0,.slice none 0 0,.slice none 0 0,.slice none 0 0] 184)) (.cells #[.slice none 0 0,.slice none 0 0,.slice none 0 0,.slice none 0 0,.slice none 0 0,.slice none 0 0,.slice none 0 0,.slice none 0 0] 184);rw [A6] at h;exact h
 case round =>
  obtain ⟨k,va,vc,hk,rfl,jp,jL⟩:=hrel;have js:=A0 jp;have jF:=A0 jL;have hz:w.heap.size+1<wr.heap.size:=(A5.1 jp.rep).1;have hW:=((Below.refl w.heap.size w).alloc (A3 _) (.cells #[.slice none 0 0,.slice none 0 0,.slice none 0 0,.slice none 0 0,.slice none 0 0,.slice none 0 0,.slice none 0 0,.slice none 0 0] 184)).trans (jL.mono (Nat.le_succ _));have HW:=A0 hW;clear jp jL hW;by_cases jw:k<R.length
  ·obtain ⟨
       b1,o1,ha1,hb1,r0,r1,r2,r3,r4⟩:=(BG.later HR.out HW.out (A3 _)).at jw
   have hi1:=Bx aR b1 o1 R.length cR k ha1 jw;have jN:=CQ.1 (HF.out _ (AG jw));have jY:=A0 (PH (L:=L) (i:=i) jw);have ju:=A0 (fun m0 c x=>Ny (L:=L) (i:=i) (m0:=m0) (c:=c) (x:=x) jw);obtain ⟨r,hr⟩:∃ r,R[k]=r:=⟨_,rfl⟩
   rw [hr] at r0 r1 r2 r3 r4 jN jY ju;obtain ⟨frm,dst,inp,out,cost⟩:=r;simp only at r0 r1 r2 r3 r4 jN;obtain ⟨m0,rfl⟩:∃ m0:Nat,frm=(m0:Int):=⟨frm.toNat,by omega⟩
   obtain ⟨hf0,hf1,hf2,hf3,kj,hf5,hf6⟩:=jN;have jx:m0<8:=by omega
   have jl:Hid (Below wr.heap.size wr (wr.alloc (.cells #[.int .i64 (m0:Int),.int .i64 dst,.string inp,.string out,.int .i64 cost] 88))):=(Below.refl _ _).alloc (A3 _) _;obtain ⟨w4,jz⟩:∃ w4,wr.alloc (.cells #[.int .i64 (m0:Int),.int .i64 dst,.string inp,.string out,.int .i64 cost] 88)=w4:=⟨_,rfl⟩
   have jZ:Hid (w4.heap[wr.heap.size]? = some (.cells #[.int .i64 (m0:Int),.int .i64 dst,.string inp,.string out,.int .i64 cost] 88 (0,0))):=by
    show _=_;rw [← jz];exact heap_alloc_new _ _
   have kf:Hid (w4.heap.size=wr.heap.size+1):=by
    show _=_;rw [← jz];simp
   have c1r:=(HW.out.cell (p:=⟨gx,1,none⟩) kk).trans c1;rw [jz] at jl;obtain ⟨d0,d1,d2,d3,d4⟩:=BP jZ.out;clear ha1 hr;obtain ⟨lc,j9⟩:∃ lc,letsC (L.drop i) (bts inp)=lc:=⟨_,rfl⟩
   have jA:=A0 j9;clear j9;have j4:=HX.out.kp (Kc.of (HW.out.trans (jl.out.mono HW.out.size)) (A3 _));have j3:=HL.out.later (HW.out.trans (jl.out.mono HW.out.size)) (A3 _);have jo:=letters_any (w:=w4) L C i inp j4 j3 rfl kn hi (by omega) HB.out hC;rw [jA.out] at jo;have jr:=A0 jo;clear j4 j3 jo;cases lc with
   | none =>
    have HN:=A0 (jY.out jA.out)
    go_wp2_with fail
    refine jr.out.mono ?_;rintro e w5 ⟨he,hb⟩;obtain rfl:e=_:=he;have jq:=A0 (jl.out.trans (hb.mono jl.out.size));clear hb jz
    go_wp2_with fail
    go_roundw
    case rel=>exact ⟨k+1,va,vc,by omega,by go_num,by rw [HN.out];exact js.out.ext jq.out,jF.out.trans (jq.out.mono (by omega))⟩
    case measure=>simp [intOf];omega
   | some c =>
    have ki:=letsC_le (HB.out.drop i) jA.out;rw [CX] at ki;have hcC2:inp.size*C≤4*1000000:=Nat.mul_le_mul kj hC
    go_wp2_with fail
    refine jr.out.mono ?_;rintro e w5 ⟨he,hb⟩;obtain rfl:e=_:=he;have jq:=A0 hb;clear hb jz;have jH:Hid (w5.heap[wr.heap.size]? = some (.cells #[.int .i64 (m0:Int),.int .i64 dst,.string inp,.string out,.int .i64 cost] 88 (0,0))):=by
     show _=_;rw [jq.out.block _ (by have:=kf.out;omega)];exact jZ.out
    obtain ⟨d0',d1',d2',d3',d4'⟩:=BP jH.out;have ji:w5.frozen? ⟨wr.heap.size,4,none⟩=false:=by simp [World.frozen?,jH.out]
    clear d0 d1 d2 d3 d4
    go_upto_region 8 with fail
    obtain ⟨w6,jD⟩:∃ w6,w5.setCell ⟨wr.heap.size,4,none⟩ (.int .i64 (cost+(c:Int)))=w6:=⟨_,rfl⟩
    rw [jD];have j0:Hid (w6.heap[wr.heap.size]? = some (.cells #[.int .i64 (m0:Int),.int .i64 dst,.string inp,.string out,.int .i64 (cost+(c:Int))] 88 (0,0))):=by
     show _=_;rw [← jD,heap_setCell_same w5 wr.heap.size 4 _ _ _ jH.out];rfl
    have jE:Hid (Below wr.heap.size wr w6):=by
     have h:=(jl.out.trans (jq.out.mono jl.out.size)).setCell (show wr.heap.size≤(⟨wr.heap.size,4,none⟩:Addr).block from A3 _) (.int .i64 (cost+(c:Int)));rw [jD] at h;exact h
    have jj:=A0 (js.out.ext jE.out);have jt:Hid (w.heap.size+2≤w6.heap.size):=by show _≤_;have:=jE.out.size;omega
    have j2:=A0 (ju.out m0 c ⟨(m0:Int),dst,inp,out,cost+(c:Int)⟩ jA.out rfl rfl);have jX:Hid ((BL (R.take k) L i m0).length≤1000):=by
     show _≤_;have:=I7 (R:=R.take k) (L:=L) (i:=i) (m:=m0);rw [AK] at this;omega
    clear jD d0' d1' d2' d3' d4' ji;obtain ⟨Fm,jB⟩:∃ Fm,BL (R.take k) L i m0=Fm:=⟨_,rfl⟩
    rw [jB] at j2 jX;have jd:=jj.out.own m0 jx;have jb:=jj.out.cell jx;simp only [slV] at jd jb;rw [jB] at jd jb;obtain ⟨am,jJ⟩:∃ am,va m0=am:=⟨_,rfl⟩
    obtain ⟨cm,jC⟩:∃ cm,vc m0=cm:=⟨_,rfl⟩
    rw [jJ,jC] at jd jb;have jW:=A0 jB;have jT:=A0 jJ;have jV:=A0 jC;have je:=A0 jd;have jG:=A0 jb;have hm0I:(0:Int)≤(m0:Int):=by omega
    have kc:Hid ((.slice am Fm.length cm:Value).ownBlock≠some wr.heap.size):=fun e=>by
     have h8:=(js.out.own m0 jx).lt wr.heap.size;simp only [slV] at h8;rw [jW.out,jT.out,jV.out] at h8;exact absurd (h8 e) (Nat.lt_irrefl _)
    clear jB jJ jC jd jb;refine An (by kernel_rfl) (Vs [vq (.pointer (some ⟨wr.heap.size,0,none⟩)),vq (.int .i64 (m0:Int)),vq (.pointer (some ⟨wr.heap.size,0,none⟩)),vq (.int .i64 (m0:Int)),vq (.pointer (some ⟨w.heap.size+1,m0,none⟩)),vq (.slice am Fm.length cm),vq (.agg #[.int .i64 (m0:Int),.int .i64 dst,.string inp,.string out,.int .i64 (cost+(c:Int))]),Da Br (.slice am Fm.length cm) (⟨(m0:Int),dst,inp,out,cost+(c:Int)⟩:Rl),Bq Br (w6) (w.heap.size+2) (.slice am Fm.length cm) (Fm ++ [(⟨(m0:Int),dst,inp,out,cost+(c:Int)⟩:Rl)]),vq (.pointer (some ⟨w.heap.size+1,m0,none⟩))]) (Xs [Ext,Ext,Ext,Ext,Ext,Ext,Ext,Ext,(fun w w'=>w.grownBy w' (.slice am Fm.length cm:Value).ownBlock),Ext]) (fun fL=>(ApT (w6) (.slice am Fm.length cm)) (fL 8)) [0,1,0,4,12,28,0,64,252,3] 45 10 (by kernel_rfl) rfl ?hV ?hS ?hop ?hfin ?hlast
    case hV =>
     refine Az (Af (by simp only [AS,List.not_mem_nil,or_false,forall_eq_or_imp,forall_eq];exact ⟨AW _,AW _,AW _,AW _,AW _,AW _,AW _,CT _ _ _,Bf,AW _⟩)) ?_;exact ⟨.inl rfl,.inl rfl,.inl rfl,.inl rfl,.inl rfl,.inl rfl,.inl rfl,.inl rfl,.inr (Aw ⟨fun _ _=>fun _ _ _ h _=>h,fun _ _=>fun _ _ _ h _=>h,fun _ _=>fun _ _ _ h _=>h,fun _ _=>fun _ _ _ h _=>h,fun _ _=>fun _ _ _ h _=>h,fun _ _=>fun _ _ _ h _=>h,fun _ _=>fun _ _ _ h _=>h,fun _ _=>CU _ _ _,fun h=>absurd rfl h,fun _ _=>fun _ _ _ h _=>h,trivial⟩),.inl rfl,trivial⟩
    case hS =>
     intro fL hf;show (ApT (w6) (.slice am Fm.length cm)) (fL 8) _;rw [hf 8 (by decide)]
     first | exact Ext.refl _ | exact B8 _
    case hop =>
     refine ⟨?_,?_,?_,?_,?_,?_,?_,?c7,?c8,?_,?_,trivial⟩
     all_goals first | rw [if_neg (by decide)] | rw [if_pos (by decide)]
     all_goals try exact True.intro
     all_goals try intro ac W fL jy jM Jx j7 jf jh jc jQ
     all_goals try have hS:(ApT (w6) (.slice am Fm.length cm)) (fL 8) W:=jf
     all_goals try (have jn:fL 8=true:=Jx 8 (by decide);rw [jn] at hS)
     all_goals try (have jn:fL 8=false:=(by first | exact jM | exact j7 8 (by decide) (by decide));rw [jn] at hS)
     all_goals try (
      obtain ⟨d0,d1,d2,d3,d4⟩:=BP ((ApT.old jf wr.heap.size (A5.1 j0.out).1 kc.out).trans j0.out);have jC:W.cell? ⟨w.heap.size+1,m0,none⟩=some (.slice am Fm.length cm):=by
       rw [← jG.out];exact World.cell?_of_block (ApT.old jf (w.heap.size+1) jt.out fun e=>by have:=je.out.ge _ e;omega))
     all_goals try have hh5:=gdA ac 5 (.pointer (some ⟨w.heap.size+1,0,none⟩)) (jc 5 (by kernel_rfl))
     all_goals try have hh7:=gdA ac 7 (.pointer (some ⟨wr.heap.size,0,none⟩)) (jc 7 (by kernel_rfl))
     all_goals try (have d38:ac.tmps.getD 38 undef=.slice am Fm.length cm:=jh 5 (by decide);have dd38:=d38;rw [A4] at dd38)
     all_goals try have d40:(Da Br (.slice am Fm.length cm) (⟨(m0:Int),dst,inp,out,cost+(c:Int)⟩:Rl)) (ac.tmps.getD 40 undef) W:=jh 7 (by decide)
     all_goals try (have jh:=DJ jh;simp [Cg,AY,vq] at jh)
     all_goals try clear jc Jx j7 jQ
     case c7 =>
      have kg:(ApT (w6) (.slice am Fm.length cm)) ((upd fL 7) 8) W:=jf;have jk:(.slice am Fm.length cm:Value).ownBlock≠some W.heap.size:=fun e=>by
       have h9:=(je.out).lt _ e;have h8:=Below.size hS;omega
      refine AX rfl (.inl ⟨.slice (some ⟨W.heap.size,0,none⟩) 1 1,W.alloc (.cells #[.int .i64 (m0:Int),.int .i64 dst,.string inp,.string out,.int .i64 (cost+(c:Int))] 88),?_,⟨_,rfl,heap_alloc_new _ _,jk⟩,(Below.refl _ _).alloc (A3 _) _,(show (ApT (w6) (.slice am Fm.length cm)) ((upd fL 7) 8) _ by
       rw [show upd fL 7 8=fL 8 from if_neg (by decide)];exact ApT.ext _ _ _ jf ((Below.refl _ _).alloc (A3 _) _))⟩)
      clear jy hS jf kg jM jk;simp [go_sem,Act.eval, *]
     case c8 =>
      obtain ⟨g62,e62,jO,hn62⟩:=d40;refine AX rfl ((B6 FD (.tmp 38) (.tmp 40) rfl (Ad d38) ((je.out).later hS (A3 _)) ⟨g62,0,none⟩ 1 [(⟨(m0:Int),dst,inp,out,cost+(c:Int)⟩:Rl)] (Ad e62) (Ae jO) (by have:=jX.out;simp only [AC];omega) (A8 jt.out (Below.size hS))).mono ?_);rintro va w' ⟨ho,j8,kh⟩;have jv:=Bq.made hS ho j8 kh;refine ⟨jv,j8,?_⟩;show ApT (w6) (.slice am Fm.length cm) (upd fL 8 8) w';rw [show upd fL 8 8=true from if_pos rfl];exact jv.old
     all_goals (refine AX rfl (.inl ⟨_,W,?_,rfl,Ext.refl _,jf⟩);clear jy hS jf jM;simp [go_sem,Act.eval, *];done)
    case hfin =>
     intro h;exact absurd h (by decide)
    case hlast =>
     intro _ ac W jy j6 fL hf jf hv jc;have hS:(ApT (w6) (.slice am Fm.length cm)) (fL 8) W:=jf;clear jf;rw [hf 8 (by decide)] at hS;have jp:ac.tmps.getD 42 undef=.pointer (some ⟨w.heap.size+1,m0,none⟩):=hv 9 (by decide);have jg:Bq Br (w6) (w.heap.size+2) (.slice am Fm.length cm) (Fm ++ [(⟨(m0:Int),dst,inp,out,cost+(c:Int)⟩:Rl)]) (ac.tmps.getD 41 undef) W:=hv 8 (by decide);obtain ⟨ya,yc,jS, -, -⟩:=jg.own.form;rw [jS] at jg;have jm:=(jg.block (w.heap.size+1) (by have:=jt.out;omega) fun e=>by have:=je.out.ge _ e;omega).trans jj.out.rep;refine BK rfl rfl rfl rfl (Ad jp) (Ad jS) (by simp [World.frozen?,jm]) (by rw [cell_of_row W _ _ _ _ (0,0) jm,K4 _ jx]) (by kernel_rfl) ?_;clear jm;obtain ⟨wz,jR⟩:∃ wz,W.setCell ⟨w.heap.size+1,m0,none⟩ (.slice ya (Fm ++ [(⟨(m0:Int),dst,inp,out,cost+(c:Int)⟩:Rl)]).length yc)=wz:=⟨_,rfl⟩
     rw [jR];have jU:=A0 jg;have j1:=A0 jR;clear hS jg jp jR;obtain ⟨sx,kq,ka⟩:=Ag [33,34,35,36,37,38,39,40,41,42] (by kernel_rfl) jy j6 jc;clear jS;rw [ka];simp only [List.foldl];simp only [Act.put,List.setIfInBounds_toArray,List.set_cons_succ,List.set_cons_zero];clear ka kq hv jc jy j6 hf;have jP:=jj.out.put (m:=m0) (ya:=ya) (yc:=yc) (L2:=Fm ++ [(⟨(m0:Int),dst,inp,out,cost+(c:Int)⟩:Rl)]) jx jt.out (by
      have h:=jU.out;simp only [slV];rw [jW.out,jT.out,jV.out];exact h)
     rw [j1.out,← j2.out] at jP;have j5:Below (w.heap.size+1) w6 wz:=by
      rw [← j1.out];exact (jU.out.below (C:=w.heap.size+1) (by have:=jt.out;omega) fun q hq=>by have:=je.out.ge _ hq;omega).setCell (show w.heap.size+1≤(⟨w.heap.size+1,m0,none⟩:Addr).block from A3 _) _
     have ke:=A0 jP;have kb:=A0 j5;clear jP j5
     go_wp2_with fail
     go_roundw
     case rel=>exact ⟨k+1,_,_,by omega,by go_num,ke.out,(jF.out.trans (jE.out.mono (by omega))).trans kb.out⟩
     case measure=>simp [intOf];omega
  ·have ja:∀ m,m<8→wr.cell? ⟨w.heap.size+1,m,none⟩=some (slV va vc (fun m=>BL (R.take k) L i m) m):=fun m hm=>js.out.cell hm;have e0:=ja 0 (by decide);have e1:=ja 1 (by decide);have e2:=ja 2 (by decide);have e3:=ja 3 (by decide);have e4:=ja 4 (by decide);have e5:=ja 5 (by decide);have e6:=ja 6 (by decide);have e7:=ja 7 (by decide);have jK:=(jF.out.block w.heap.size (Nat.lt_succ_self _)).trans (heap_alloc_new w _);have hn:∀ m,wr.cell? ⟨w.heap.size,m,none⟩=(#[.slice none 0 0,.slice none 0 0,.slice none 0 0,.slice none 0 0,.slice none 0 0,.slice none 0 0,.slice none 0 0,.slice none 0 0]:Array Value)[m]?:=fun m=>cell_of_row wr w.heap.size m _ _ (0,0) jK;have n0:=hn 0;have n1:=hn 1;have n2:=hn 2;have n3:=hn 3;have n4:=hn 4;have n5:=hn 5;have n6:=hn 6;have n7:=hn 7;have ji:∀ m,wr.frozen? ⟨w.heap.size,m,none⟩=false:=fun m=>by simp [World.frozen?,jK]
   have f0:=ji 0;have f1:=ji 1;have f2:=ji 2;have f3:=ji 3;have f4:=ji 4;have f5:=ji 5;have f6:=ji 6;have f7:=ji 7;have jI:R.take k=R:=AF (by omega);simp only [slV,jI] at e0 e1 e2 e3 e4 e5 e6 e7;simp only [List.getElem?_toArray,List.getElem?_cons_zero,List.getElem?_cons_succ] at n0 n1 n2 n3 n4 n5 n6 n7;have kd:=A0 jI;clear ja hn ji jK jI;go_wp2;refine bodyPost_ret (v:=.agg (st8 (slV va vc (BL R L i)))) (by simp [results,Tryz.results107,go_sem,n0,n1,n2,n3,n4,n5,n6,n7,st8,slV]) rfl ⟨⟨va,vc,rfl,fun m hm=>?_⟩,?_⟩
   ·have ho:=js.out.own m hm;simp only [slV] at ho;rw [kd.out] at ho;have ko:=ho.ge;refine (AZ.ruls (ho.keep fun g hg=>?_)).1;have hg2:=ko g hg;have km:∀ (W:World) (m:Nat) (u:Value),(W.setCell ⟨w.heap.size,m,none⟩ u).heap[g]? = W.heap[g]?:=fun W m u=>Below.heap_setCell _ _ _ _ (by show g≠w.heap.size;omega);simp only [km]
   ·have hs:∀ (W:World) (m:Nat) (u:Value),Below w.heap.size w W→Below w.heap.size w (W.setCell ⟨w.heap.size,m,none⟩ u):=fun W m u h=>h.setCell (show w.heap.size≤(⟨w.heap.size,m,none⟩:Addr).block from A3 _) _;exact hs _ _ _ (hs _ _ _ (hs _ _ _ (hs _ _ _ (hs _ _ _ (hs _ _ _ (hs _ _ _ (hs _ _ _ HW.out)))))))
end
def Fk:BQ Stt:=⟨186,183,2,16,.agg #[.int .i64 0,.int .i64 0],fun t=>[.int .i64 (t.1:Int),.int .i64 (t.2:Int)]⟩
theorem FE:Fk.Ok:=⟨Tryz.underlying186,by kernel_rfl,rfl,by decide,fun _=>rfl,fun x u hu=>by
 have h:u=.int .i64 (x.1:Int)∨u=.int .i64 (x.2:Int):=by simpa [Fk] using hu
 rcases h with rfl | rfl <;> rfl,by decide⟩
theorem Qh (a b c d:Nat) (w:World) :
  (Go.binOp .eql 183 (.agg #[.int .i64 (a:Int),.int .i64 (b:Int)]) (.agg #[.int .i64 (c:Int),.int .i64 (d:Int)])).run Tryz.prog w=.ok (.bool (decide ((a,b)=(c,d)))) w:=by
 simp only [run_eql_struct];by_cases h1:a=c <;> by_cases h2:b=d <;> simp [go_sem,h1,h2] <;> omega
theorem AZ.stt {w:World} {B:Nat} {a:Option Addr} {n c:Nat} {L:List Stt} (h:AZ Fk w B (.slice a n c) L) {k:Nat} (hk:k<L.length) :
  ∃ b,a=some ⟨b,0,none⟩∧B≤b∧b<w.heap.size∧w.cell? ⟨b,k*2,none⟩=some (.int .i64 (L[k].1:Int))∧w.cell? ⟨b,k*2+1,none⟩=some (.int .i64 (L[k].2:Int)):=by
 rcases h.blk with ⟨_,rfl⟩ | ⟨g,c2,ja,hB,hg,_⟩
 · simp at hk
 ·injection ja with f1 f2 f3;subst f1;refine ⟨g,rfl,hB,hg,?_,?_⟩
  · exact h.cell FE hk (j:=0) (by decide)
  · exact h.cell FE hk (j:=1) (by decide)
theorem Qi (b len cap k:Nat) (hk:k<len) (w:World) :
  (Instr.indexAt 186 (.slice (some ⟨b,0,none⟩) len cap) (.int .i64 (k:Int))).run Tryz.prog w=.ok (.pointer (some ⟨b,k*2,none⟩)) w:=by
 have h0:(0:Int)≤(k:Int):=by omega
 have h1:(k:Int)<(len:Int):=by omega
 simp [go_sem,h0,h1]
structure VX (wS:World) (B:Nat) (gm:Nat→Nat) (i:Nat) (M:Nat→Ent) (w:World):Prop where
 maps:∀ j,i≤j→j<i+5→MpG BY w (gm (j % 5)) (M j)
 kp:Kc wS w
 bl:Below B wS w
structure Rv (B:Nat) (gm:Nat→Nat):Prop where
 apart:∀ a b,a<5→b<5→gm a=gm b→a=b
 ge:∀ a,a<5→B≤gm a
section
variable {wS w w' w'':World} {B i:Nat} {gm:Nat→Nat} {M:Nat→Ent}
theorem VX.refl (h:∀ j,i≤j→j<i+5→MpG BY w (gm (j % 5)) (M j)):VX w B gm i M w:=⟨h,Kc.refl _,Below.refl _ _⟩
theorem VX.ext (h:VX wS B gm i M w) (hx:Ext w w') (hB:B≤wS.heap.size):VX wS B gm i M w' :=
 ⟨fun j h1 h2=>(h.maps j h1 h2).kept (Below.block hx _ (h.maps j h1 h2).lt),h.kp.trans (Kc.of hx (A3 _)),h.bl.trans (Below.mono hx (A8 hB h.kp.size))⟩
theorem MpG.not_row {α β:Type} [DecidableEq α] {T:FK α} {T2:BQ β} {g C:Nat} {E:List (α × Nat)} {v:Value} {L:List β} (h:MpG T w g E) (ho:AZ T2 w C v L):v.ownBlock≠some g:=fun e=>by
 obtain ⟨es,c,hm⟩:=h.obj;rcases ho.2 with ⟨rfl,_⟩ | ⟨g',cap,cur,rfl,h1,h2,h3⟩
 · cases e
 ·injection e with e;have e2:g'=g:=e;rw [e2,hm] at h2;cases h2
theorem VX.grown {β:Type} {T2:BQ β} {v:Value} {L:List β} (h:VX wS B gm i M w) (ho:AZ T2 w wS.heap.size v L) (hg:w.grownBy w' v.ownBlock) (hB:B≤wS.heap.size):VX wS B gm i M w' :=
 ⟨
  fun j h1 h2=>(h.maps j h1 h2).kept (hg.block _ (h.maps j h1 h2).lt fun e=>(h.maps j h1 h2).not_row ho e.symm),
  ⟨A8 h.kp.size hg.size,fun q cs t f hq=>(hg.block q (A7 (A5.1 hq).1 h.kp.size) fun e=>by
   have:=ho.ge q e.symm;have:=(A5.1 hq).1;omega).trans (h.kp.block q cs t f hq)⟩,
  h.bl.grown hg (A8 hB h.kp.size) fun q hq=>A8 hB (ho.ge q hq)⟩
theorem VX.put {j:Nat} {t:Stt} {c:Nat} (h:VX wS B gm i M w) (hG:Rv B gm) (h1:i≤j) (h2:j<i+5) (hp:Dz w w' (gm (j % 5)) t (M j) c) (hB:B≤wS.heap.size):VX wS B gm i (DE M j t c) w' :=
 ⟨
  fun k h3 h4=>by
  unfold DE;by_cases e:k=j
  · rw [if_pos e,e];exact hp.map
  ·rw [if_neg e];refine (h.maps k h3 h4).kept (hp.gr _ (h.maps k h3 h4).lt fun e2=>e ?_);have:=hG.apart _ _ (Nat.mod_lt _ (by decide)) (Nat.mod_lt _ (by decide)) e2;omega,
  h.kp.trans (hp.kp (h.maps j h1 h2)),h.bl.trans (hp.below (hG.ge _ (Nat.mod_lt _ (by decide))) (A8 hB h.kp.size))⟩
theorem AZ.put_keep {β:Type} {T2:BQ β} {C:Nat} {v:Value} {L:List β} {g:Nat} {t:Stt} {E:Ent} {c:Nat} (ho:AZ T2 w C v L) (hm:MpG BY w g E) (hp:Dz w w' g t E c):AZ T2 w' C v L :=
 ho.keep fun q hq=>hp.gr q (ho.lt q hq) fun e=>hm.not_row ho (by rw [hq,e])
end
section
variable {R:List Rl} {L:List Slt} {fol:Nat→List UInt8→Option Nat} {i N B D n:Nat} {q:List Stt} {M:Nat→Ent} {t:Stt} {ct:Nat}
theorem LD {C j:Nat} {m c:Nat} {n':Nat} (hb:Bnd N i B D M) (hj:i≤j) (h1:m<8) (h2:n'<N) (hc:c≤C) (ja:∀ x,look (M j) (m,n')=some x→c<x) :
  pot N C (DE M j (m,n') c i)+(if j=i then q ++ [(m,n')] else q).length≤pot N C (M i)+q.length:=by
 unfold DE;by_cases e:j=i
 ·subst e;rw [if_pos rfl,if_pos rfl];have:=Qe (C:=C) (hb.keys j) (hb.rng j) (t:=(m,n')) (c:=c) h1 h2 hc ja;simp only [AB,AC];omega
 ·rw [if_neg fun e2=>e e2.symm,if_neg e];exact A3 _
theorem Bnd.len (hb:Bnd N i B D M) (j:Nat):(M j).length≤8*N:=GA (hb.keys j) (hb.rng j)
end
open Go.RowKit Go.WideShapes Go.Maps Go.Sort Go.Shelf Fl
def Gh:BQ Nat:=⟨36,3,1,8,.int .i64 0,fun n=>[.int .i64 (n:Int)]⟩
theorem Nz:Gh.Ok:=⟨Tryz.underlying36,by kernel_rfl,rfl,by decide,fun _=>rfl,fun x u hu=>by obtain rfl:u=.int .i64 (x:Int):=(AD.1 hu);rfl,by decide⟩
theorem AZ.ints {w:World} {B:Nat} {a:Option Addr} {n c:Nat} {L:List Nat} (h:AZ Gh w B (.slice a n c) L) {k:Nat} (hk:k<L.length) :
  ∃ b,a=some ⟨b,0,none⟩∧B≤b∧b<w.heap.size∧w.cell? ⟨b,k,none⟩=some (.int .i64 (L[k]:Int)):=by
 rcases h.blk with ⟨_,rfl⟩ | ⟨g,c2,ja,hB,hg,_⟩
 · simp at hk
 ·injection ja with f1 f2 f3;subst f1;refine ⟨g,rfl,hB,hg,?_⟩;have:=h.cell Nz hk (j:=0) (by decide);simpa [Gh] using this
theorem idx_ints (b len cap k:Nat) (hk:k<len) (w:World) :
  (Instr.indexAt 36 (.slice (some ⟨b,0,none⟩) len cap) (.int .i64 (k:Int))).run Tryz.prog w=.ok (.pointer (some ⟨b,k,none⟩)) w:=by
 have h0:(0:Int)≤(k:Int):=by omega
 have h1:(k:Int)<(len:Int):=by omega
 simp [go_sem,h0,h1]
theorem Qj {D:DataW Unit} {E:List (Nat × Nat)} {w:World} {g:Nat} (h1:w.ownsMap Tryz.prog FM.kt (plainElem Tryz.prog 3) g E.length D) (h2:Iy FM D E) :
  (intKeys D).Nodup∧(∀ z∈intKeys D,∃ k:Nat,z=(k:Int))∧∀ k:Nat,(k:Int)∈intKeys D↔(look E k).isSome=true:=by
 obtain ⟨es,rfl,hp,hk⟩:=h1.entries ES.keyed;have ja:∀ p∈es,∃ q∈E,p.1=.int .i64 (q.1:Int):=fun p jb=>by
  obtain ⟨q,hq,e⟩:=h2.all p.1 (List.any_eq_true.2 ⟨p,jb,WideAt.sameKey_self (hk p jb)⟩);exact ⟨q,hq,e⟩
 refine ⟨?_,fun z hz=>?_,fun k=>?_⟩
 ·show (es.map fun p=>Go.intOf p.1).Nodup;unfold List.Nodup;rw [AR];refine List.Pairwise.imp_of_mem (fun {a b} ha hb jc e=>jc ?_) hp;obtain ⟨q,_,e1⟩:=ja a ha;obtain ⟨r,_,e2⟩:=ja b hb;rw [e1,e2] at e ⊢;simp only [Go.intOf] at e;rw [e]
 ·obtain ⟨p,jb,rfl⟩:=AH.1 hz;obtain ⟨q,_,e⟩:=ja p jb;exact ⟨q.1,by rw [e];rfl⟩
 ·constructor
  ·intro hz;obtain ⟨p,jb,e0⟩:=AH.1 hz;obtain ⟨q,hq,e⟩:=ja p jb;rw [e] at e0;have:q.1=k:=by simp only [Go.intOf] at e0;omega
   rw [← this,BM h2.keys (c:=q.2) hq];rfl
  ·intro hs;obtain ⟨c,hc⟩:=Option.isSome_iff_exists.1 hs;have jd:=(h2.ok _ (C1 hc)).1;have h3:=h2.has k jd;rw [hs] at h3;obtain ⟨p,jb,e⟩:=List.any_eq_true.1 h3;refine AH.2 ⟨p,jb,?_⟩;have e2:=WideAt.sameKey_eq e;rw [e2];rfl
def Sq (E:List (Nat × Nat)) (B:Nat) (e:Ending) (w':World):Prop:=∃ v ks,e=.returned v∧AZ Gh w' B v ks∧ks.Pairwise (·<·)∧∀ k,k∈ks↔(look E k).isSome=true
theorem K6 (g:Nat) (w:World):Calls Tryz.prog 110 #[.map (some g)] w fun e w'=>e=.returned (.func (.func 137) #[] #[.pointer (some ⟨w.heap.size,0,none⟩)])∧w'=w.alloc (.cells #[.map (some g)] 173) :=
 callsIn_wide.1 (AnyZI.keys_in Tryz.keysA Fence.wide 5 trivial rfl (some g) w)
theorem O0 (m:Nat):AnyZI.SortsIn Tryz.prog Tryz.sortedA_ren Fence.wide m :=
 ⟨
  fun blk off cap ss W hH ja jb=>callsIn_wide.2 (AnyM.slices_Sort_int Tryz.sortA blk off cap ss W hH ja jb),
  fun p cap W=>callsIn_wide.2 (AnyM.slices_Sort_int_none Tryz.sortA p cap W)⟩
theorem sorted_any {E:List (Nat × Nat)} {g:Nat} {w:World} (h:MpG FM w g E) (hl:E.length≤1000000) :
  Calls Tryz.prog 109 #[.func (.func 137) #[] #[.pointer (some ⟨w.heap.size,0,none⟩)]] (w.alloc (.cells #[.map (some g)] 173)) fun e w'=>Sq E w.heap.size e w'∧Below w.heap.size w w':=by
 obtain ⟨D,h1,h2⟩:=h;have ji:=h2.size;have jl:=h1.lt;have jg:SeqGives Fence.wide 2 Tryz.prog 137 #[.pointer (some ⟨w.heap.size,0,none⟩)] encZ (fun ss=>ss.Perm (intKeys D)) (Maps.size D) (w.alloc (.cells #[.map (some g)] 173)) :=
  AnyZI.keys_gives (ρ:=Tryz.keysA_ren) { Tryz.keysA with } Fence.wide _ trivial rfl (by omega) w.heap.size g E.length D _ (by simp) (by simp) (by
   obtain ⟨es,clock,hb,Ft,hs,hD⟩:=h1;exact ⟨es,clock,(Below.heap_alloc _ _ g jl).trans hb,Ft,hs,hD⟩)
 have cS:=AnyZI.sorted_in Tryz.sortedA Fence.wide 5 trivial trivial trivial trivial rfl (by omega) (O0 _) (enters_of Tryz.func136 (by kernel_rfl) rfl) 137 #[.pointer (some ⟨w.heap.size,0,none⟩)] trivial (enters_of Tryz.func137 (by kernel_rfl) rfl) _ _ (show Maps.size D≤maxLen by rw [ji];unfold maxLen;omega) (show Maps.size D*8≤_ by rw [ji];omega) _ jg;change CallsIn _ _ Tryz.prog 109 _ _ _ at cS;refine (callsIn_wide.1 cS).mono ?_;rintro e w' ⟨v,ss,rfl,hS,jb,_,hb⟩;obtain ⟨jm,hz,hm⟩:=Qj h1 h2;have jd:Below w.heap.size w w':=((Below.refl _ w).alloc (A3 _) _).trans (hb.mono (by simp));have je:(ss.mergeSort fun x y=>decide (x≤y)).Perm ss:=List.mergeSort_perm _ _;obtain ⟨zs,jk⟩:∃ zs,(ss.mergeSort fun x y=>decide (x≤y))=zs:=⟨_,rfl⟩
 have jc:zs.Pairwise (·≤·):=by
  rw [← jk];have:=List.pairwise_mergeSort (le:=fun x y:Int=>decide (x≤y)) (fun a b c h1 h2=>by simp only [decide_eq_true_eq] at *;omega) (fun a b=>by simp only [Bool.or_eq_true,decide_eq_true_eq];omega) ss;exact this.imp fun h=>of_decide_eq_true h
 rw [jk] at je jb;have jf:zs.Perm (intKeys D):=je.trans hS;have jn:zs.Nodup:=jf.nodup_iff.2 jm;have ja:∀ z∈zs,((z.toNat:Nat):Int)=z:=fun z h9=>by
  obtain ⟨k,rfl⟩:=hz z (jf.mem_iff.1 h9);omega
 refine ⟨⟨v,zs.map Int.toNat,rfl,?_,?_,fun k=>?_⟩,jd⟩
 ·have e1:(zs.map Int.toNat).flatMap Gh.enc=zs.map encZ:=by
   rw [List.flatMap_map];have:∀ l:List Int,(∀ z∈l,((z.toNat:Nat):Int)=z)→l.flatMap (fun z=>Gh.enc z.toNat)=l.map encZ:=fun l=>by
    induction l with
    | nil=>intro _;rfl
    | cons z r ih =>
     intro hl;rw [List.flatMap_cons,List.map_cons,ih fun y hy=>hl y (List.mem_cons_of_mem _ hy)];show [Value.int .i64 ((z.toNat:Nat):Int)] ++ _=_;rw [hl z A9];rfl
   exact this zs ja
  have e2:(zs.map Int.toNat).length=ss.length:=by rw [AM];exact je.length_eq
  unfold AZ;rw [e1,e2];exact ownsRow_base_a jb (by simp)
 ·rw [AR];refine List.Pairwise.imp_of_mem (fun {a b} ha jd jh=>?_) (jc.and jn);have h3:=ja a ha;have h4:=ja b jd;have h5:=jh.1;have h6:=jh.2;omega
 ·rw [← hm k,← jf.mem_iff,AH];constructor
  · rintro ⟨z,jj,rfl⟩;rw [ja z jj];exact jj
  · intro h9;exact ⟨_,h9,by simp⟩
end Go.Proofs.YtpljngaejaehcaaGreatDoor
