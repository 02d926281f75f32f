/- Texts that the claims share: DStr, DDict, DNodes, DRow, DBuild, DCont, DAfter, DIns, DNodeP, DTrie, DTab. -/
import Derived.Deep.RegionHeld3
import Derived.Deep.DeepCutAuto
import Derived.Laws.Cover1
import Derived.Test.YtpljngaejaehcaaGreatDoorChecked
import Derived.Deep.QuietTactic
import Derived.BigQuiet
import Derived.Laws.StructEq
import Derived.Maps.AppendAt
import Derived.Laws.AppendOwn
import Derived.Laws.OwnMore
import Derived.Shelf.Strings.BuilderF
import Derived.Lib.FrozenHead2
import Derived.Lib.AppendIntMem
import Derived.Maps.Views
import Derived.Maps.OwnSet
import Derived.Maps.Own
import Derived.Test.YtpljngaejaehcaaGreatDoorMA1
set_option maxHeartbeats 1600000
set_option maxRecDepth 100000
set_option linter.unusedVariables false
set_option linter.unusedSimpArgs false
namespace Go.Proofs.YtpljngaejaehcaaGreatDoor
open Go.RowKit
def B1 (c:Int):Int:=if 97≤c∧c≤122 then 1 else if 65≤c∧c≤90 then 2 else if 48≤c∧c≤57 then 3 else 0
def Fd (l:List UInt8):Bool:=l.all fun c=>!(B1 (c.toNat:Int) == 0)
def DC (s:ByteArray):Bool:=Fd s.data.toList
def CO (s:ByteArray):Bool:=decide (1≤s.size) && (decide (s.size≤20) && DC s)
theorem GZ (s:ByteArray) (k:Nat) (h:k<s.size):s.data.toList.take (k+1)=s.data.toList.take k ++ [s[k]]:=by
 rw [AN (by simpa using h)];rfl
theorem ED (s:ByteArray) (k:Nat) (h:¬ k<s.size):s.data.toList.take k=s.data.toList:=AF (by simp;exact Nat.le_of_not_lt h)
theorem Ci {p:UInt8→Bool} (s:ByteArray) (k:Nat) (h:k<s.size) (hp:p s[k]=false):s.data.toList.all p=false:=by
 rw [List.all_eq_false];refine ⟨s[k],?_,by simp [hp]⟩;show s.data[k]∈s.data.toList;simp
theorem EF {p:UInt8→Bool} (s:ByteArray) (k:Nat) (h:k<s.size) (ht:(s.data.toList.take k).all p=true) (hp:p s[k]=true):(s.data.toList.take (k+1)).all p=true:=by
 rw [GZ s k h,List.all_append,ht];simp [hp]
theorem Cj (c:Int) (w:World) (h0:0≤c) (h1:c≤255) :
  Calls Tryz.prog 143 #[.int .u8 c] w fun e w'=>e=.returned (.int .i64 (B1 c))∧w=w':=by
 rcases (show (97≤c∧c≤122)∨(65≤c∧c≤90)∨(48≤c∧c≤57)∨c<48∨(57<c∧c<65)∨(90<c∧c<97)∨122<c from by omega) with h | h | h | h | h | h | h
 all_goals
  go_enter Tryz.func143,Tryz.ntmps143
  go_wp2;go_ret;refine ⟨BW ?_,rfl⟩;unfold B1;omega
theorem allKnown_any (s:ByteArray) (w:World) (hs:s.size≤9223372036854775807) :
  Calls Tryz.prog 126 #[.string s] w fun e w'=>e=.returned (.bool (DC s))∧w=w':=by
 go_enter Tryz.func126,Tryz.ntmps126
 go_wp2
 go_loop [6] (fun i=>∃ k:Nat,k≤s.size∧i=.int .i64 k∧Fd (s.data.toList.take k)=true) (fun i=>s.size - (intOf i).toNat)
 case atStart=>exact ⟨0,Nat.zero_le _,rfl,rfl⟩
 case round =>
  obtain ⟨k,hk,rfl,ht⟩:=hrel;have HT:=A0 ht;clear ht;by_cases ja:k<s.size
  ·have b0:(0:Int)≤(s[k].toNat:Int):=by omega
   have b1:(s[k].toNat:Int)≤255:=by have:=s[k].toNat_lt;omega
   by_cases hc:B1 (s[k].toNat:Int)=0
   ·have jb:(B1 (s[k].toNat:Int) == 0)=true:=by rw [hc];rfl
    have HC:Hid ((!(B1 (s[k].toNat:Int) == 0))=false):=by show _=false;rw [hc];rfl
    clear hc
    go_wp2_with (go_at_call 143;refine (Cj _ _ b0 b1).mono ?_;rintro e w' ⟨rfl,rfl⟩)
    go_ret;exact ⟨Aa (Ci s k ja HC.out).symm,rfl⟩
   ·have jb:(B1 (s[k].toNat:Int) == 0)=false:=by simpa using hc
    have HC:Hid ((!(B1 (s[k].toNat:Int) == 0))=true):=by show _=true;simpa using hc
    clear hc
    go_wp2_with (go_at_call 143;refine (Cj _ _ b0 b1).mono ?_;rintro e w' ⟨rfl,rfl⟩)
    go_round
    case rel=>exact ⟨k+1,by omega,by go_num,EF s k ja HT.out HC.out⟩
    case measure=>simp [intOf];omega
  ·have HA:=A0 (ED s k ja);go_wp2;go_ret;exact ⟨Aa (by rw [DC,← HA.out];exact HT.out.symm),rfl⟩
theorem D1 (s:ByteArray) (w:World) :
  Calls Tryz.prog 99 #[.string s] w fun e w'=>e=.returned (.bool (CO s))∧w=w':=by
 by_cases h1:1≤s.size
 ·by_cases h2:s.size≤20
  ·have i1:(1:Int)≤(s.size:Int):=by omega
   have i2:(s.size:Int)≤20:=by omega
   have H:Hid (CO s=DC s):=by show _=_;simp [CO,h1,h2]
   go_enter Tryz.func99,Tryz.ntmps99
   go_wp2_with (go_at_call 126;refine (allKnown_any _ _ (by omega)).mono ?_;rintro e w' ⟨rfl,rfl⟩)
   go_ret;exact ⟨Aa H.out.symm,rfl⟩
  ·have i1:(1:Int)≤(s.size:Int):=by omega
   have i2:¬ (s.size:Int)≤20:=by omega
   have H:Hid (CO s=false):=by show _=_;simp [CO,h1,h2]
   go_enter Tryz.func99,Tryz.ntmps99
   go_wp2;go_ret;exact ⟨Aa H.out.symm,rfl⟩
 ·have i1:¬ (1:Int)≤(s.size:Int):=by omega
  have H:Hid (CO s=false):=by show _=_;simp [CO,h1]
  go_enter Tryz.func99,Tryz.ntmps99
  go_wp2;go_ret;exact ⟨Aa H.out.symm,rfl⟩
open Go.RowKit Go.WideShapes
def BH (w:World) (a:Option Addr) (L:List ByteArray):Prop:=∀ k (hk:k<L.length),∃ b o,a=some ⟨b,o,none⟩∧b<w.heap.size∧w.cell? ⟨b,o+k,none⟩=some (.string L[k])
theorem BH.at {w:World} {a:Option Addr} {L:List ByteArray} (h:BH w a L) {k:Nat} (hk:k<L.length):∃ b o,a=some ⟨b,o,none⟩∧b<w.heap.size∧w.cell? ⟨b,o+k,none⟩=some (.string L[k]):=h k hk
theorem BH.later {w w1:World} {a:Option Addr} {L:List ByteArray} {B:Nat} (h:BH w a L) (hb:Below B w w1) (hB:w.heap.size≤B):BH w1 a L:=fun k hk=>by
 obtain ⟨b,o,ha,h1,h2⟩:=h k hk;exact ⟨b,o,ha,by have:=hb.size;omega,(hb.cell (p:=⟨b,o+k,none⟩) (by show b<B;omega)).trans h2⟩
theorem BH.nil (w:World) (a:Option Addr):BH w a []:=fun k hk=>by simp at hk
theorem DT (a:Option Addr) (b o len cap k:Nat) (ha:a=some ⟨b,o,none⟩) (hk:k<len) (w:World) :
  (Instr.indexAt 35 (.slice a len cap) (.int .i64 (k:Int))).run Tryz.prog w=.ok (.pointer (some ⟨b,o+k,none⟩)) w:=by
 subst ha;have h0:(0:Int)≤(k:Int):=by omega
 have h1:(k:Int)<(len:Int):=by omega
 simp [go_sem,h0,h1]
theorem QX (s t:ByteArray):(s.toList == t.toList)=decide (s=t):=by
 rw [Bool.eq_iff_iff];simp only [beq_iff_eq,decide_eq_true_eq];constructor
 · intro h;rw [ByteArray.toList_eq,ByteArray.toList_eq] at h;exact bytes_inj h
 · rintro rfl;rfl
def ltS (s t:ByteArray):Bool:=Op.bytesLess s.toList t.toList
def Dw (L:List ByteArray) (k:Nat):Prop:=∀ i (h:i<L.length),i<k→CO L[i]=true∧(0<i→ltS (L[i - 1]'(by omega)) L[i]=true)
def CJ (L:List ByteArray):Prop:=1≤L.length∧L.length≤200∧Dw L L.length
noncomputable def DU (L:List ByteArray):Bool:=@decide (CJ L) (Classical.propDecidable _)
theorem F8 {L:List ByteArray} (h:CJ L):DU L=true:=@decide_eq_true _ (Classical.propDecidable _) h
theorem CD {L:List ByteArray} (h:¬ CJ L):DU L=false:=@decide_eq_false _ (Classical.propDecidable _) h
theorem Dw.step {L:List ByteArray} {k:Nat} (h:Dw L k) (hk:k<L.length) (h1:CO L[k]=true) (h2:0<k→ltS (L[k - 1]'(by omega)) L[k]=true):Dw L (k+1):=by
 intro i hi hik;by_cases e:i=k
 · subst e;exact ⟨h1,h2⟩
 · exact h i hi (by omega)
theorem Fh:∀ a b:List UInt8,(Op.bytesLess a b || a == b)=!(Op.bytesLess b a)
 | [],[]=>by simp [Op.bytesLess]
 | [],_ :: _=>by simp [Op.bytesLess]
 | _ :: _,[]=>by simp [Op.bytesLess]
 | x
   :: xs,y :: ys=>by
  have ih:=Fh xs ys;have e1:∀ u v:UInt8,(u<v)=(u.toNat<v.toNat):=fun u v=>by rw [UInt8.lt_iff_toNat_lt]
  simp only [Op.bytesLess];rcases Nat.lt_trichotomy x.toNat y.toNat with h | h | h
  ·have h1:x<y:=by rw [e1];exact h
   have h2:¬ y<x:=by rw [e1];omega
   have h3:¬ y=x:=by rintro rfl;omega
   simp [h1,h2,h3]
  ·have h3:x=y:=UInt8.toNat_inj.1 h;subst h3;have h1:¬ x<x:=by rw [e1];omega
   simpa [h1] using ih
  ·have h1:y<x:=by rw [e1];exact h
   have h2:¬ x<y:=by rw [e1];omega
   have h3:¬ x=y:=by rintro rfl;omega
   simp [h1,h2,h3]
theorem dictionary_any (L:List ByteArray) (n:Nat) (a:Option Addr) (cap:Nat) (w:World) (hR:BH w a L) (hL:n=L.length) (hn:n≤9223372036854775807) :
  Calls Tryz.prog 74 #[.slice a n cap] w fun e w'=>e=.returned (.bool (DU L))∧w=w':=by
 subst hL;have HR:=A0 hR;clear hR;by_cases h1:1≤L.length
 ·have i1
      :
       ¬
        (L.length:Int)<1:=by omega
  by_cases h2:L.length≤200
  ·have i2
       :
        ¬
         (200:Int)<(L.length:Int):=by omega
   go_enter Tryz.func74,Tryz.ntmps74
   go_wp2
   go_loop [15] (fun i=>∃ k:Nat,k≤L.length∧i=.int .i64 k∧Dw L k) (fun i=>L.length - (intOf i).toNat)
   case atStart=>exact ⟨0,Nat.zero_le _,rfl,fun i _ h=>by omega⟩
   case round =>
    obtain ⟨k,hk,rfl,hg⟩:=hrel;have HG:=A0 hg;clear hg;by_cases ja:k<L.length
    ·obtain ⟨
         b,o,ha,hb,h0⟩:=HR.out.at ja
     have hidx:=DT a b o L.length cap k ha ja;obtain ⟨x,hx⟩:∃ x,L[k]=x:=⟨_,rfl⟩
     have HX:=A0 hx;rw [hx] at h0;clear hx;obtain ⟨q,hq⟩:∃ q,CO x=q:=⟨_,rfl⟩
     have HQ:=A0 hq;clear hq;cases q with
     | false =>
      have HN:Hid (DU L=false):=CD fun h=>by
       have:=(h.2.2 k ja ja).1;rw [HX.out,HQ.out] at this;cases this
      clear ha
      go_wp2_with (go_at_call 99;refine (D1 _ _).mono ?_;rintro e w' ⟨he,rfl⟩;rw [HQ.out] at he;subst he)
      go_ret;exact ⟨Aa HN.out.symm,rfl⟩
     | true =>
      by_cases jf:k=0
      ·have je:¬ (0:Int)<(k:Int):=by omega
       have HS:Hid (Dw L (k+1)):=HG.out.step ja (by rw [HX.out];exact HQ.out) (fun h=>by omega);clear ha jf
       go_wp2_with (go_at_call 99;refine (D1 _ _).mono ?_;rintro e w' ⟨he,rfl⟩;rw [HQ.out] at he;subst he)
       go_round
       case rel=>exact ⟨k+1,by omega,by go_num,HS.out⟩
       case measure=>simp [intOf];omega
      ·have hj:k - 1<L.length:=by omega
       obtain ⟨j,jd⟩:∃ j,k - 1=j:=⟨_,rfl⟩
       obtain ⟨b2,o2,jc,hb2,h2⟩:=HR.out.at hj;obtain ⟨y,hy⟩:∃ y,L[k - 1]=y:=⟨_,rfl⟩
       have HY:=A0 hy;rw [hy] at h2;rw [jd] at h2 hj;have hidx2:=DT a b2 o2 L.length cap j jc hj;have hw1:IntKind.i64.wrap ((k:Int) - 1)=(j:Int):=by rw [IntWalk.i64_in _ (by omega)];omega
       have je:(0:Int)<(k:Int):=by omega
       clear hy ha jc jd;obtain ⟨q,hq⟩:∃ q,Op.bytesLess y.toList x.toList=q:=⟨_,rfl⟩
       have jb:Hid (ltS y x=q):=hq;cases q with
       | true =>
        have HS:Hid (Dw L (k+1)):=HG.out.step ja (by rw [HX.out];exact HQ.out) (fun h=>by rw [HY.out,HX.out];exact jb.out)
        go_wp2_with (go_at_call 99;refine (D1 _ _).mono ?_;rintro e w' ⟨he,rfl⟩;rw [HQ.out] at he;subst he)
        go_round
        case rel=>exact ⟨k+1,by omega,by go_num,HS.out⟩
        case measure=>simp [intOf];omega
       | false =>
        have HN:Hid (DU L=false):=CD fun h=>by
         have:=(h.2.2 k ja ja).2 (by omega);rw [HY.out,HX.out,jb.out] at this;cases this
        go_wp2_with (go_at_call 99;refine (D1 _ _).mono ?_;rintro e w' ⟨he,rfl⟩;rw [HQ.out] at he;subst he)
        go_ret;exact ⟨Aa HN.out.symm,rfl⟩
    ·have HN:Hid (DU L=true):=F8 ⟨h1,h2,fun i hi _=>HG.out i hi (by omega)⟩;go_wp2;go_ret;exact ⟨Aa HN.out.symm,rfl⟩
  ·have i2:(200:Int)<(L.length:Int):=by omega
   have HN:Hid (DU L=false):=CD fun h=>h2 h.2.1
   go_enter Tryz.func74,Tryz.ntmps74
   go_wp2;go_ret;exact ⟨Aa HN.out.symm,rfl⟩
 ·have i1:(L.length:Int)<1:=by omega
  have HN:Hid (DU L=false):=CD fun h=>h1 h.1
  go_enter Tryz.func74,Tryz.ntmps74
  go_wp2;go_ret;exact ⟨Aa HN.out.symm,rfl⟩
structure Ar where
 c:Int
 t:Int
deriving DecidableEq,Inhabited
structure Nd where
 fin:Bool
 arcs:List Ar
deriving DecidableEq,Inhabited
def DD (w:World) (a:Option Addr) (X:List Ar):Prop:=∀ k (hk:k<X.length),∃ b o,a=some ⟨b,o,none⟩∧b<w.heap.size∧w.cell? ⟨b,o+k*2,none⟩=some (.int .u8 X[k].c)∧w.cell? ⟨b,o+k*2+1,none⟩=some (.int .i64 X[k].t)
theorem DD.later {w w1:World} {a:Option Addr} {X:List Ar} {B:Nat} (h:DD w a X) (hb:Below B w w1) (hB:w.heap.size≤B):DD w1 a X:=fun k hk=>by
 obtain ⟨b,o,ha,h1,h2,h3⟩:=h k hk;exact ⟨b,o,ha,by have:=hb.size;omega,(hb.cell (p:=⟨b,o+k*2,none⟩) (by show b<B;omega)).trans h2,(hb.cell (p:=⟨b,o+k*2+1,none⟩) (by show b<B;omega)).trans h3⟩
def C7 (w:World) (a:Option Addr) (D:List Nd):Prop:=∀ k (hk:k<D.length),∃ b o,a=some ⟨b,o,none⟩∧b<w.heap.size∧w.cell? ⟨b,o+k*2,none⟩=some (.bool D[k].fin) ∧
 ∃ aa cc,w.cell? ⟨b,o+k*2+1,none⟩=some (.slice aa D[k].arcs.length cc)∧D[k].arcs.length≤9223372036854775807∧DD w aa D[k].arcs
theorem C7.later {w w1:World} {a:Option Addr} {D:List Nd} {B:Nat} (h:C7 w a D) (hb:Below B w w1) (hB:w.heap.size≤B):C7 w1 a D:=fun k hk=>by
 obtain ⟨b,o,ha,h1,h2,aa,cc,h3,h4,h5⟩:=h k hk;exact ⟨b,o,ha,by have:=hb.size;omega,(hb.cell (p:=⟨b,o+k*2,none⟩) (by show b<B;omega)).trans h2,aa,cc,(hb.cell (p:=⟨b,o+k*2+1,none⟩) (by show b<B;omega)).trans h3,h4,h5.later hb hB⟩
theorem C7.nil (w:World) (a:Option Addr):C7 w a []:=fun k hk=>by simp at hk
theorem DD.at {w:World} {a:Option Addr} {X:List Ar} (h:DD w a X) {k:Nat} (hk:k<X.length):∃ b o,a=some ⟨b,o,none⟩∧b<w.heap.size∧w.cell? ⟨b,o+k*2,none⟩=some (.int .u8 X[k].c)∧w.cell? ⟨b,o+k*2+1,none⟩=some (.int .i64 X[k].t):=h k hk
theorem C7.at {w:World} {a:Option Addr} {D:List Nd} (h:C7 w a D) {k:Nat} (hk:k<D.length):∃ b o,a=some ⟨b,o,none⟩∧b<w.heap.size∧w.cell? ⟨b,o+k*2,none⟩=some (.bool D[k].fin) ∧
 ∃ aa cc,w.cell? ⟨b,o+k*2+1,none⟩=some (.slice aa D[k].arcs.length cc)∧D[k].arcs.length≤9223372036854775807∧DD w aa D[k].arcs:=h k hk
theorem EI (a:Option Addr) (b o len cap k:Nat) (ha:a=some ⟨b,o,none⟩) (hk:k<len) (w:World) :
  (Instr.indexAt 166 (.slice a len cap) (.int .i64 (k:Int))).run Tryz.prog w=.ok (.pointer (some ⟨b,o+k*2,none⟩)) w:=by
 subst ha;have h0:(0:Int)≤(k:Int):=by omega
 have h1:(k:Int)<(len:Int):=by omega
 simp [go_sem,h0,h1]
theorem Gc (a:Option Addr) (b o len cap k:Nat) (ha:a=some ⟨b,o,none⟩) (hk:k<len) (w:World) :
  (Instr.indexAt 69 (.slice a len cap) (.int .i64 (k:Int))).run Tryz.prog w=.ok (.pointer (some ⟨b,o+k*2,none⟩)) w:=by
 subst ha;have h0:(0:Int)≤(k:Int):=by omega
 have h1:(k:Int)<(len:Int):=by omega
 simp [go_sem,h0,h1]
structure BQ (α:Type) where
 sl:TypeId
 e:TypeId
 k:Nat
 bytes:Nat
 z:Value
 enc:α→List Value
structure BQ.Ok {α:Type} (T:BQ α):Prop where
 und:Tryz.prog.underlying T.sl=some (.slice T.e)
 info:(Tryz.prog.info? T.e).map (fun i=>(i.zero,i.size,i.bytes))=some (some T.z,T.k,T.bytes)
 zs:T.z.cells.size=T.k
 k0:0<T.k
 len:∀ x,(T.enc x).length=T.k
 one:∀ x,∀ u∈T.enc x,u.oneCell'=true
 b:T.bytes≤64
section
variable {α:Type} {T:BQ α} {w w1:World} {B C:Nat} {v:Value} {L:List α}
def AZ (T:BQ α) (w:World) (B:Nat) (v:Value) (L:List α):Prop:=w.ownsRow B T.e T.k v L.length (L.flatMap T.enc)
theorem DV (h:T.Ok):∀ L:List α,(L.flatMap T.enc).length=L.length*T.k
 | []=>by simp
 | x :: r=>by rw [List.flatMap_cons,AB,DV h r,h.len,List.length_cons,Nat.add_mul];omega
theorem flat_get (h:T.Ok):∀ {L:List α} {i j:Nat} (hi:i<L.length) (hj:j<T.k),(L.flatMap T.enc)[i*T.k+j]? = (T.enc L[i])[j]?
 | x :: r,0,j,_,hj=>by
  rw [List.flatMap_cons,Nat.zero_mul,Nat.zero_add,AI (by rw [h.len];omega)];rfl
 | x :: r,i+1,j,hi,hj=>by
  rw [List.flatMap_cons,List.getElem?_append_right (by rw [h.len,Nat.add_mul];omega)];have:(i+1)*T.k+j - (T.enc x).length=i*T.k+j:=by rw [h.len,Nat.add_mul];omega
  rw [this];exact flat_get h (L:=r) (by simpa using hi) hj
theorem AZ.nil (T:BQ α) (w:World) (B:Nat):AZ T w B (.slice none 0 0) []:=⟨by simp,.inl ⟨rfl,rfl⟩⟩
theorem AZ.empty (T:BQ α) {g:Nat} (h:w.heap[g]? = some (.cells #[] T.e (0,0))) (hB:B≤g):AZ T w B (.slice (some ⟨g,0,none⟩) 0 0) [] :=
 ⟨by simp,.inr ⟨g,0,#[],rfl,hB,h,A3 _,Nat.zero_le _,by simp,by simp⟩⟩
theorem AZ.one (h:T.Ok) {g:Nat} {x:α} (hg:w.heap[g]? = some (.cells (T.enc x).toArray T.e (0,0))) (hB:B≤g):AZ T w B (.slice (some ⟨g,0,none⟩) 1 1) [x] :=
 ⟨by simp [h.len],.inr ⟨g,1,_,rfl,hB,hg,A3 _,by unfold maxLen;omega,by simp [h.len],by simp [h.len];rw [AF (by rw [h.len];exact A3 _)]⟩⟩
theorem AZ.form (h:AZ T w B v L):∃ a c,v=.slice a L.length c∧L.length≤c∧c≤maxLen:=by
 rcases h.2 with ⟨rfl,h0⟩ | ⟨g,cap,cur,rfl,h1,h2,h3,h4,_⟩
 · exact ⟨none,0,by rw [h0],by omega,Nat.zero_le _⟩
 · exact ⟨_,cap,rfl,h3,h4⟩
theorem AZ.blk (h:AZ T w B v L):(v=.slice none 0 0∧L=[])∨∃ g c,v=.slice (some ⟨g,0,none⟩) L.length c∧B≤g∧g<w.heap.size∧L.length≤c:=by
 rcases h.2 with ⟨rfl,h0⟩ | ⟨g,cap,cur,rfl,h1,h2,h3,h4,_⟩
 · exact .inl ⟨rfl,List.eq_nil_of_length_eq_zero h0⟩
 · exact .inr ⟨g,cap,rfl,h1,(A5.1 h2).1,h3⟩
theorem AZ.cell (hT:T.Ok) {g n c:Nat} (h:AZ T w B (.slice (some ⟨g,0,none⟩) n c) L) {i j:Nat} (hi:i<L.length) (hj:j<T.k):w.cell? ⟨g,i*T.k+j,none⟩=(T.enc L[i])[j]?:=by
 have hg:=flat_get hT hi hj;have ja:j<(T.enc L[i]).length:=by rw [hT.len];exact hj
 rw [AA ja] at hg ⊢;have:=World.ownsRow.cells (g:=g) h rfl (i*T.k+j) _ hg;rw [Addr.add_lit] at this;simpa using this
theorem AZ.keep (h:AZ T w B v L) (hk:∀ g,v.ownBlock=some g→w1.heap[g]? = w.heap[g]?):AZ T w1 B v L:=by
 refine ⟨h.1,h.2.imp id ?_⟩;rintro ⟨g,cap,cur,rfl,h1,h2,h3⟩;exact ⟨g,cap,cur,rfl,h1,(hk g rfl).trans h2,h3⟩
theorem AZ.below (h:AZ T w B v L) (hb:Below C w w1) (hv:∀ g,v.ownBlock=some g→g<C):AZ T w1 B v L:=h.keep fun g hg=>hb.block g (hv g hg)
theorem AZ.ge (h:AZ T w B v L):∀ g,v.ownBlock=some g→B≤g:=by
 intro g hg;rcases h.2 with ⟨rfl,_⟩ | ⟨g',cap,cur,rfl,h1,h2,h3⟩
 · cases hg
 · cases hg;exact h1
theorem AZ.lt (h:AZ T w B v L):∀ g,v.ownBlock=some g→g<w.heap.size:=by
 intro g hg;rcases h.2 with ⟨rfl,_⟩ | ⟨g',cap,cur,rfl,h1,h2,h3⟩
 · cases hg
 · cases hg;exact (A5.1 h2).1
theorem AZ.later (h:AZ T w B v L) (hb:Below C w w1) (hC:w.heap.size≤C):AZ T w1 B v L:=h.below hb fun g hg=>A7 (h.lt g hg) hC
theorem AZ.mono (h:AZ T w B v L) (hC:C≤B):AZ T w C v L:=by
 refine ⟨h.1,h.2.imp id ?_⟩;rintro ⟨g,cap,cur,rfl,h1,h2⟩;exact ⟨g,cap,cur,rfl,A8 hC h1,h2⟩
theorem AZ.grown {row:Option Nat} (h:AZ T w B v L) (hg:w.grownBy w1 row) (hr:∀ q,v.ownBlock=some q→some q≠row):AZ T w1 B v L:=h.keep fun g hb=>hg.block g (h.lt g hb) (hr g hb)
theorem AZ.run_append (hT:T.Ok) (h:AZ T w B v L) (ty:TypeId) (a:Addr) (c:Nat) (news:List α) (hn:∀ j u,(news.flatMap T.enc)[j]? = some u→w.cell? (a.add j)=some u) (hl:L.length+news.length≤1000000000000) (hB:B≤w.heap.size) :
  ∃ v' w',(Builtin.append_ #[T.sl,T.sl] ty #[v,.slice (some a) news.length c]).run Tryz.prog w=.ok v' w'∧AZ T w' B v' (L ++ news)∧w.grownBy w' v.ownBlock∧(v'.ownBlock=v.ownBlock∨v'.ownBlock=some w.heap.size):=by
 obtain ⟨i0,hi,ja,jb,jc⟩:=info_parts hT.info;have hb:(L.length+news.length)*T.bytes≤1000000000000*64:=Nat.mul_le_mul hl hT.b;obtain ⟨v',w',hr,h1,h2,_,h3⟩:=run_append_own_at (P:=Tryz.prog) w B T.sl ty T.e i0 T.z T.k T.bytes hT.und hi ja jb jc hT.zs hT.k0 v L.length (L.flatMap T.enc) h a news.length c (news.flatMap T.enc) (DV hT news) hn
  (fun u hu=>by obtain ⟨x,_,h2⟩:=List.mem_flatMap.1 hu;exact hT.one x u h2) (by unfold maxLen;omega) (by omega) hB
 refine ⟨v',w',hr,?_,h2,h3⟩;unfold AZ;rw [AB,List.flatMap_append];exact h1
theorem Ac (hT:T.Ok) {ops:Array Oper} {rest:List Oper} {o:Oper} {a:Act} {Q:Exit→Act→World→Prop} (jc:o.guard=none) (s x:Operand)
  (ho:o.op=.call { callee:=.builtin .append,args:=#[s,x],argTypes:=#[T.sl,T.sl] }) (hs:a.eval s=v) (ja:AZ T w B v L) (ad:Addr) (c:Nat) (news:List α) (hx:a.eval x=.slice (some ad) news.length c)
  (hn:∀ j u,(news.flatMap T.enc)[j]? = some u→w.cell? (ad.add j)=some u) (hl:L.length+news.length≤1000000000000) (hB:B≤w.heap.size)
  (h:∀ v' w',AZ T w' B v' (L ++ news)→w.grownBy w' v.ownBlock→(v'.ownBlock=v.ownBlock∨v'.ownBlock=some w.heap.size)→wpList Tryz.prog ops Q rest (a.put o.dst v') w'):wpList Tryz.prog ops Q (o :: rest) a w:=by
 refine wpList_plain jc fun K' jb=>?_;obtain ⟨v',w',hr,h1,h2,h3⟩:=ja.run_append hT o.type ad c news hn hl hB;unfold Oper.wp;simp only [execOp,ho,resolve,invoke,builtin,Sem.run_bind,Sem.run_pure,Result.andThen_ok,List.map_toArray,List.map_cons,List.map_nil,hs,hx,hr];exact jb _ _ (h v' w' h1 h2 h3)
theorem Ee.mono {P:Program} {a:Act} {o:Oper} {w:World} {R S:Value→World→Prop} (h:Ee P a o w R) (hs:∀ v w',R v w'→S v w'):Ee P a o w S:=by
 rcases h with ⟨v,w',h1,h2⟩ | ⟨f,args,w',h1,h2⟩
 · exact .inl ⟨v,w',h1,hs _ _ h2⟩
 · exact .inr ⟨f,args,w',h1,h2.mono fun e w'' ⟨v,he,hv⟩=>⟨v,he,hs _ _ hv⟩⟩
theorem B6 (hT:T.Ok) {o:Oper} {a:Act} (s x:Operand) (ho:o.op=.call { callee:=.builtin .append,args:=#[s,x],argTypes:=#[T.sl,T.sl] }) (hs:a.eval s=v) (ja:AZ T w B v L) (ad:Addr) (c:Nat) (news:List α)
  (hx:a.eval x=.slice (some ad) news.length c) (hn:∀ j u,(news.flatMap T.enc)[j]? = some u→w.cell? (ad.add j)=some u) (hl:L.length+news.length≤1000000000000) (hB:B≤w.heap.size) :
  Ee Tryz.prog a o w (fun v' w'=>AZ T w' B v' (L ++ news)∧w.grownBy w' v.ownBlock∧(v'.ownBlock=v.ownBlock∨v'.ownBlock=some w.heap.size)):=by
 obtain ⟨v',w',hr,h1,h2,h3⟩:=ja.run_append hT o.type ad c news hn hl hB;refine .inl ⟨v',w',?_,h1,h2,h3⟩;unfold execOp;simp only [ho,resolve,invoke,builtin,Sem.run_bind,Sem.run_pure,Result.andThen_ok,List.map_toArray,List.map_cons,List.map_nil,hs,hx,hr]
theorem Ae {g:Nat} {t:TypeId} {cs:List Value} (h:w.heap[g]? = some (.cells cs.toArray t (0,0))):∀ j u,cs[j]? = some u→w.cell? ((⟨g,0,none⟩:Addr).add j)=some u:=by
 intro j u hj;have hc:=cell_of_row w g j _ _ (0,0) h;have e:(⟨g,0,none⟩:Addr).add j=⟨g,j,none⟩:=by rw [Addr.add_lit,Nat.zero_add]
 rw [e,hc];simpa using hj
end
def CB:BQ ByteArray:=⟨35,9,1,16,.string ⟨#[]⟩,fun s=>[.string s]⟩
theorem Cl:CB.Ok:=⟨Tryz.underlying35,by kernel_rfl,rfl,by decide,fun _=>rfl,fun x u hu=>by obtain rfl:u=.string x:=(AD.1 hu);rfl,by decide⟩
def Bo:BQ Ar:=⟨166,170,2,16,.agg #[.int .u8 0,.int .i64 0],fun x=>[.int .u8 x.c,.int .i64 x.t]⟩
theorem DO:Bo.Ok:=⟨Tryz.underlying166,by kernel_rfl,rfl,by decide,fun _=>rfl,fun x u hu=>by
 have h:u=.int .u8 x.c∨u=.int .i64 x.t:=by simpa [Bo] using hu
 rcases h with rfl | rfl <;> rfl,by decide⟩
structure NV where
 fin:Bool
 a:Option Addr
 n:Nat
 c:Nat
deriving DecidableEq
def Bk:BQ NV:=⟨69,168,2,32,.agg #[.bool false,.slice none 0 0],fun x=>[.bool x.fin,.slice x.a x.n x.c]⟩
theorem Cn:Bk.Ok:=⟨Tryz.underlying69,by kernel_rfl,rfl,by decide,fun _=>rfl,fun x u hu=>by
 have h:u=.bool x.fin∨u=.slice x.a x.n x.c:=by simpa [Bk] using hu
 rcases h with rfl | rfl <;> rfl,by decide⟩
structure SV where
 a:Option Addr
 n:Nat
 c:Nat
theorem AZ.strs {w:World} {B:Nat} {a:Option Addr} {n c:Nat} {L:List ByteArray} (h:AZ CB w B (.slice a n c) L):BH w a L∧n=L.length∧L.length≤c:=by
 obtain ⟨a',c',he,hc,_⟩:=h.form;injection he with e1 e2 e3;refine ⟨fun k hk=>?_,e2,by omega⟩;rcases h.blk with ⟨_,rfl⟩ | ⟨g,c2,ja,_,hg,_⟩
 · simp at hk
 ·injection ja with f1 f2 f3;subst f1;refine ⟨g,0,rfl,hg,?_⟩;have:=h.cell Cl hk (j:=0) (by decide);simpa [CB] using this
theorem AZ.arcs {w:World} {B:Nat} {a:Option Addr} {n c:Nat} {L:List Ar} (h:AZ Bo w B (.slice a n c) L):DD w a L∧n=L.length∧L.length≤c:=by
 obtain ⟨a',c',he,hc,_⟩:=h.form;injection he with e1 e2 e3;refine ⟨fun k hk=>?_,e2,by omega⟩;rcases h.blk with ⟨_,rfl⟩ | ⟨g,c2,ja,_,hg,_⟩
 · simp at hk
 ·injection ja with f1 f2 f3;subst f1;refine ⟨g,0,rfl,hg,?_,?_⟩
  ·have:=h.cell DO hk (j:=0) (by decide);simpa [Bo] using this
  ·have:=h.cell DO hk (j:=1) (by decide);simpa [Bo] using this
open Go.Shelf Go.RowKit
theorem szB:(Tryz.prog.info? 214).map (·.size)=some 2:=by kernel_rfl
theorem Sl:liesAt Tryz.prog Tryz.prog.depth 214 (2 / Tryz.prog.cellsOf 214) 0 214 1=true:=by kernel_rfl
theorem Sn:(Tryz.prog.info? 5).map (fun i=>(i.zero,i.size,i.bytes))=some (some (.int .u8 0),1,1):=by kernel_rfl
theorem Hu (b:Nat) (w:World) (h0:w.cell? ⟨b,0,none⟩=some (.pointer (some ⟨b,0,none⟩))) :
  Calls Tryz.prog 144 #[.pointer (some ⟨b,0,none⟩)] w fun e w'=>e=.returned (.tuple #[])∧w'=w:=by
 obtain ⟨j,hj,_⟩:=Option.map_eq_some_iff.1 szB
 go_enter Tryz.func144,Tryz.ntmps144
 go_wp2;rw [Lib.run_neq_ptr_same w _ Tryz.underlying212 hj];go_wp2
 go_end0
 exact ⟨rfl,rfl⟩
theorem He (b:Nat) (w:World) (h0:w.cell? ⟨b,0,none⟩=some (.pointer none)) (ja:w.shape? b=some (214,2)) (hfz:w.frozen? ⟨b,0,none⟩=false) :
  Calls Tryz.prog 144 #[.pointer (some ⟨b,0,none⟩)] w fun e w'=>e=.returned (.tuple #[])∧w'=w.setCell ⟨b,0,none⟩ (.pointer (some ⟨b,0,none⟩)):=by
 obtain ⟨j,hj,jb⟩:=Option.map_eq_some_iff.1 szB
 go_enter Tryz.func144,Tryz.ntmps144
 go_wp2;rw [Lib.run_to_unsafe w ⟨b,0,none⟩ Tryz.underlying212 Tryz.underlying244 hj (by rw [jb];decide) ja (Nat.zero_lt_succ 1)];simp only [Result.andThen];rw [Oper.upon_value];go_wp2;rw [run_callFunc_extern Tryz.func153 (by kernel_rfl) (by kernel_rfl) (by kernel_rfl) (e:=Extern.AbiNoEscape.same) (by kernel_rfl)];rw [Lib.run_noEscape];simp only [Result.andThen];rw [Oper.upon_value];go_wp2;rw [Lib.run_from_unsafe w ⟨b,0,none⟩ Tryz.underlying244 Tryz.underlying212 hj ja Sl];simp only [Result.andThen];rw [Oper.upon_value];go_wp2
 go_end0
 exact ⟨rfl,rfl⟩
theorem It (B b:Nat) (bs:List Value) (w:World) (h:Lib.IsBuilderF 214 5 B b bs w) :
  Calls Tryz.prog 144 #[.pointer (some ⟨b,0,none⟩)] w fun e w'=>e=.returned (.tuple #[])∧(Lib.BuilderAtF 214 5 B b (.pointer (some ⟨b,0,none⟩)) bs w'∧Below B w w'):=by
 rcases h with h | h
 ·refine (He b w h.cell0 h.shape h.frozen0).mono ?_;rintro e w' ⟨rfl,rfl⟩;exact ⟨rfl,h.used _,(Below.refl B w).setCell (p:=⟨b,0,none⟩) h.1 _⟩
 ·refine (Hu b w h.cell0).mono ?_;rintro e w' ⟨rfl,rfl⟩;exact ⟨rfl,h,Below.refl B _⟩
theorem Ef (B b:Nat) (bs:List Value) (s:ByteArray) (w:World) (h:Lib.IsBuilderF 214 5 B b bs w) (hlen:bs.length+s.size≤140737488355328) (hBw:B≤w.heap.size) :
  Calls Tryz.prog 127 #[.pointer (some ⟨b,0,none⟩),.string s] w fun e w'=>e=.returned (.tuple #[.int .i64 s.size,.nilIface])∧Lib.IsBuilderF 214 5 B b (bs ++ Lib.strCells s) w'∧Below B w w':=by
 obtain ⟨i0,hi,ji,jj,jk⟩:=info_parts Sn;have H:=A0 h;clear h
 go_enter Tryz.func127,Tryz.ntmps127
 go_wp2_with (go_at_call 144;refine (It B b bs _ H.out).mono ?_)
 rintro e w1 ⟨rfl,h1,jf⟩;obtain ⟨hB,v,je,jc,jh⟩:=h1;have c0:w1.cell? ⟨b,0,none⟩=some (.pointer (some ⟨b,0,none⟩)):=by rw [Lib.cell_of_heap je];rfl
 have c1:w1.cell? ⟨b,1,none⟩=some v:=by rw [Lib.cell_of_heap je];rfl
 go_wp2_with (at_builtin;refine Lib.wpList_append_own_stringF _ rfl _ _ 26 9 rfl B 5 i0 Tryz.underlying26 Tryz.underlying9 hi ji jj jk _ _ _ rfl jc s rfl ?c3 ?c4 ?c5 ?_)
 case c3=>unfold maxLen;omega
 case c4=>omega
 case c5=>have:=jf.size;omega
 intro v' w2 jb ja _;have jg:b<w1.heap.size:=by
  rcases Nat.lt_or_ge b w1.heap.size with h' | h'
  · exact h'
  · simp [Array.getElem?_eq_none h'] at je
 have jd:w2.heap[b]? = some (.cells #[.pointer (some ⟨b,0,none⟩),v] 214 (0,0)):=by
  rw [ja.block b jg (fun e=>jh e.symm)];exact je
 have d0:w2.cell? ⟨b,0,none⟩=some (.pointer (some ⟨b,0,none⟩)):=by rw [Lib.cell_of_heap jd];rfl
 have d1:w2.cell? ⟨b,1,none⟩=some v:=by rw [Lib.cell_of_heap jd];rfl
 have f1:w2.frozen? ⟨b,1,none⟩=false:=Lib.frozen_of_heap jd 1;obtain ⟨ao,n',cap,rfl⟩:∃ ao n' cap,v'=.slice ao n' cap:=by
  rcases jb.2 with ⟨hv,_⟩ | ⟨g,cap,cur,fz,hv,_⟩
  · exact ⟨_,_,_,hv⟩
  · exact ⟨_,_,_,hv⟩
 go_wp2
 go_ret2
 refine ⟨rfl,.inr ?_,?_⟩
 · exact Lib.BuilderAtF.put (T:=214) (e:=5) hB jd (bs':=bs ++ Lib.strCells s) (by simpa [Lib.strCells_length] using jb) (by decide)
 · exact (jf.grown ja (by have:=jf.size;omega) (fun k hk=>(jc.lt k hk).1)).setCell (p:=⟨b,1,none⟩) hB _
open Go.Shelf Go.RowKit Go.WideShapes
theorem P4 {a b:ByteArray} (h:a=b):Ending.returned (.string a)=.returned (.string b):=by rw [h]
def Co (x:Ar):List UInt8:=32 :: UInt8.ofNat x.c.toNat :: Lib.itoa x.t
def BJ (f:Bool) (X:List Ar):List UInt8:=Lib.formatBool f ++ X.flatMap Co
theorem Nl {f:Bool} {X:List Ar} {k:Nat} (hk:k<X.length):BJ f (X.take (k+1))=BJ f (X.take k) ++ Co X[k]:=by
 rw [BJ,AN hk,List.flatMap_append,← List.append_assoc];simp [BJ]
theorem QY (u:Nat):(Lib.decDigits u).length≤u+1:=by
 induction u using Nat.strongRecOn with
 | _
   u ih =>
  rw [Lib.decDigits];split
  · simp
  ·have:=ih (u / 10) (by omega);rw [AB];simp;omega
def Nm (x:Ar):Prop:=0≤x.c∧x.c≤127∧0≤x.t∧x.t≤1000000
theorem Ku {x:Ar} (h:Nm x):(Co x).length≤1000003:=by
 obtain ⟨h1,h2,h3,h4⟩:=h;have:(Lib.itoa x.t).length≤1000001:=by
  rw [Lib.itoa,if_neg (by omega)];have:=QY x.t.toNat;omega
 simp [Co];omega
theorem Kv {f:Bool} {X:List Ar} (h:∀ x∈X,Nm x):(BJ f X).length≤5+X.length*1000003:=by
 have h1:(Lib.formatBool f).length≤5:=by cases f <;> decide
 have h2:(X.flatMap Co).length≤X.length*1000003:=by
  induction X with
  | nil=>simp
  | cons x r ih =>
   rw [List.flatMap_cons,AB,List.length_cons,Nat.add_mul];have:=Ku (h x (by simp));have:=ih (fun y hy=>h y (by simp [hy]));omega
 rw [BJ,AB];omega
def Tab (w:World):Prop:=Lib.TabIs Tryz.prog w "internal/strconv.uint64pow10" .u64 Lib.pow10Tab
theorem TB:∃ g,Tryz.prog.globalNamed "internal/strconv.uint64pow10" = some g:=by
 have h:(Tryz.prog.globalNamed "internal/strconv.uint64pow10").isSome=true:=by kernel_rfl
 exact Option.isSome_iff_exists.1 h
theorem Tab.later {w w':World} (h:Tab w) (hb:Below w.heap.size w w'):Tab w':=by
 obtain ⟨g,hg⟩:=TB;unfold Tab Lib.TabIs World.var? at h ⊢;rw [hg] at h ⊢;simp only [Option.bind_some] at h ⊢;have ja:g<w.heap.size:=by
  rcases Nat.lt_or_ge g w.heap.size with h' | h'
  · exact h'
  · rw [Array.getElem?_eq_none h'] at h;cases h
 rw [hb.block g ja];exact h
theorem M5 {T e:TypeId} {B b:Nat} {bs:List Value} {w w':World} (h:Lib.IsBuilderF T e B b bs w) (hx:Ext w w'):Lib.IsBuilderF T e B b bs w':=by
 have key:∀ p,Lib.BuilderAtF T e B b p bs w→Lib.BuilderAtF T e B b p bs w':=by
  rintro p ⟨hB,v,hb,ja,jb⟩;refine ⟨hB,v,(Below.block hx b (A5.1 hb).1).trans hb,⟨ja.1,ja.2.imp id ?_⟩,jb⟩;rintro ⟨g,cap,cur,fz,rfl,h1,h2,h3⟩;exact ⟨g,cap,cur,fz,rfl,h1,(Below.block hx g (A5.1 h2).1).trans h2,h3⟩
 exact h.imp (key _) (key _)
theorem Nn (c:Int) (h0:0≤c) (h1:c≤127):Utf8.encode c=⟨#[UInt8.ofNat c.toNat]⟩:=by
 have hv:Utf8.valid c=true:=by simp [Utf8.valid];omega
 have hc:c.toNat<0x80:=by omega
 simp only [Utf8.encode,hv,if_true,hc]
theorem Rq (b:Bool) (w:World):Calls Tryz.prog 128 #[.bool b] w fun e w'=>e=.returned (.string ⟨(Lib.formatBool b).toArray⟩)∧w=w' :=
 (Tryz.strconv_FormatBool b w).mono fun e w' h=>⟨h.1,h.2.symm⟩
theorem Ah {w:World} {g:Nat} {a b:Value} {t:TypeId} {f:Nat × Nat} (h:w.heap[g]? = some (.cells #[a,b] t f)):w.cell? ⟨g,0,none⟩=some a∧w.cell? ⟨g,1,none⟩=some b:=by
 refine ⟨?_,?_⟩
 · rw [cell_of_row w g 0 _ _ f h];rfl
 · rw [cell_of_row w g 1 _ _ f h];rfl
def
  ContT (w1 wr:World) (b:Nat) (l0 l1:List UInt8) (done:Bool) (W:World):Prop :=
 Below b w1 W∧b≤W.heap.size∧match done with
  | true=>Lib.IsBuilderF 214 5 b b (Lib.byteCells l1) W
  | false=>Lib.IsBuilderF 214 5 b b (Lib.byteCells l0) W∧Below wr.heap.size wr W
theorem JI {w1 wr:World} {b:Nat} {l0 l1:List UInt8}:∀ (d:Bool) (W W':World),ContT w1 wr b l0 l1 d W→Ext W W'→ContT w1 wr b l0 l1 d W':=by
 intro d W W' ⟨h1,h2,h3⟩ hx;refine ⟨h1.trans (Below.mono hx h2),A8 h2 hx.size,?_⟩;cases d with
 | true=>exact M5 h3 hx
 | false=>exact ⟨M5 h3.1 hx,h3.2.trans (Below.mono hx h3.2.size)⟩
theorem contents_any (f:Bool) (X:List Ar) (a:Option Addr) (n cap:Nat) (w:World) (hX:DD w a X) (hn:n=X.length) (jT:∀ x∈X,Nm x) (hl:X.length≤10000) (ht:Tab w) :
  Calls Tryz.prog 101 #[.agg #[.bool f,.slice a n cap]] w fun e w'=>e=.returned (.string ⟨(BJ f X).toArray⟩)∧Below w.heap.size w w':=by
 subst hn;have HX:=A0 hX;have jJ:=A0 jT;have HT:=A0 ht;clear hX jT ht
 go_enter Tryz.func101,Tryz.ntmps101
 obtain ⟨w1,jl⟩:∃ w1,w1=w.alloc (.cells #[.bool f,.slice a X.length cap] 168):=⟨_,rfl⟩
 have jm:w1.heap.size=w.heap.size+1:=by rw [jl];simp
 have jL:Below w.heap.size w w1:=by rw [jl];exact (Below.refl _ _).alloc (A3 _) _
 have jj:Hid (w1.heap[w.heap.size]? = some (.cells #[.bool f,.slice a X.length cap] 168 (0,0))):=by rw [jl];exact heap_alloc_new _ _
 have jX:=A0 jL;have jd:Lib.IsBuilderF 214 5 w1.heap.size w1.heap.size [] (w1.alloc (.cells #[.pointer none,.slice none 0 0] 214)):=.of (Lib.fresh_isBuilder _ _ _);obtain ⟨g1,jz⟩:∃ g1,g1=w1.heap.size:=⟨_,rfl⟩
 rw [← jz] at jd;have jh:=A0 jd;clear jd jL
 go_upto_region 2 with fail
 have jB:w.heap.size+1=g1:=by omega
 rw [← jl,jB];clear jl;obtain ⟨w2,jG⟩:∃ w2,w2=w1.alloc (.cells #[.pointer none,.slice none 0 0] 214):=⟨_,rfl⟩
 have ju:Hid (Below g1 w1 w2):=by show Below _ _ _;rw [jG];exact (Below.refl _ _).alloc (by omega) _
 rw [← jG] at jh ⊢;clear jG;have jR:g1≤w2.heap.size:=by have:=ju.out.size;omega
 have c0:w2.cell? ⟨w.heap.size,0,none⟩=some (.bool f):=(ju.out.cell (p:=⟨w.heap.size,0,none⟩) (by show w.heap.size<g1;omega)).trans (by rw [cell_of_row _ _ _ _ _ _ jj.out];rfl);obtain ⟨s0,js⟩:∃ s0:ByteArray,s0=⟨(Lib.formatBool f).toArray⟩:=⟨_,rfl⟩
 have j0:=A0 js;have jD:s0.size≤140737488355328:=by rw [js];cases f <;> decide
 have jy:=Rq f;rw [← js] at jy;have jZ:=A0 jy;clear js jy;have jw:=A0 jB;have HW1S:=A0 jm;have HG1:=A0 jz;clear jB jm jz
 go_wp2_with fail
 refine (jZ.out _).mono ?_;rintro e w' ⟨rfl,rfl⟩
 go_wp2_with fail
 refine (Ef g1 g1 [] s0 _ jh.out (by simpa using jD) jR).mono ?_;rintro e w3 ⟨rfl,jc,jx⟩;have h0:([]:List Value) ++ Lib.strCells ⟨(Lib.formatBool f).toArray⟩=Lib.byteCells (BJ f []):=by
  simp [Lib.strCells,Lib.byteCells,BJ]
 rw [j0.out,h0] at jc;have jv:=A0 jc;have jI:=A0 (ju.out.trans jx);have j5:=A8 jR jx.size;clear jc jx h0 c0;have c1:w3.cell? ⟨w.heap.size,1,none⟩=some (.slice a X.length cap):=(jI.out.cell (p:=⟨w.heap.size,1,none⟩) (by show w.heap.size<g1;have:=jw.out;omega)).trans (by rw [cell_of_row _ _ _ _ _ _ jj.out];rfl);go_wp2
 go_loopw [13] (fun q wr=>∃ k:Nat,k≤X.length∧q=.int .i64 (k:Int)∧Lib.IsBuilderF 214 5 g1 g1 (Lib.byteCells (BJ f (X.take k))) wr∧Below g1 w1 wr∧g1≤wr.heap.size) (fun q _=>X.length - (intOf q).toNat)
 case atStart=>exact ⟨0,Nat.zero_le _,rfl,jv.out,jI.out,j5⟩
 case round =>
  obtain ⟨k,hk,rfl,jN,hB,jA⟩:=hrel;have jh:=A0 jN;have HB:=A0 hB;have jp:=A0 (jX.out.trans (hB.mono (by have:=jw.out;omega)));clear jN hB;by_cases jr:k<X.length
  ·obtain ⟨
       b,o,ha,hb,q0,q1⟩:=(HX.out.later jp.out (A3 _)) k jr
   have hidx:=EI a b o X.length cap k ha jr;have jK:=A0 (Nl (f:=f) jr);have jt:=jJ.out X[k] (AG jr);have hkl:=Kv (f:=f) (X:=X.take k) (fun x hx=>jJ.out x (List.mem_of_mem_take hx));have hkl2:(X.take k).length≤10000:=by have:=List.length_take_le' k X;omega
   have jH:=Ku jt;obtain ⟨x,hx⟩:∃ x,X[k]=x:=⟨_,rfl⟩
   rw [hx] at q0 q1 jK jt jH;obtain ⟨xc,xt⟩:=x;simp only [Nm] at q0 q1 jt;obtain ⟨x0,x1,x2,x3⟩:=jt;clear ha hx
   go_upto_region 6 with fail
   obtain ⟨wy,jo⟩:∃ wy,wy=wr.alloc (.cells #[.int .u8 xc,.int .i64 xt] 170):=⟨_,rfl⟩
   have jn:Below wr.heap.size wr wy:=by rw [jo];exact (Below.refl _ _).alloc (A3 _) _
   have HV:Hid (wy.heap[wr.heap.size]? = some (.cells #[.int .u8 xc,.int .i64 xt] 170 (0,0))):=by rw [jo];exact heap_alloc_new _ _
   have Jx:wr.heap.size<wy.heap.size:=by rw [jo];simp
   have j2:Hid (ContT w1 wy g1 (BJ f (X.take k)) (BJ f (X.take k) ++ Co ⟨xc,xt⟩) false wy) :=
    ⟨HB.out.trans (jn.mono jA),A8 jA jn.size,M5 jh.out jn,Below.refl _ _⟩
   have j1:Hid (Tab wy):=HT.out.later (jp.out.trans (jn.mono jp.out.size));rw [← jo];clear jo jn;refine An (by kernel_rfl) (Vs [vq (.pointer (some ⟨wr.heap.size,0,none⟩)),vq (.int .u8 xc),vq (.int .i32 xc),vq (.string ⟨#[UInt8.ofNat xc.toNat]⟩),vq (.string (⟨#[32]⟩ ++ ⟨#[UInt8.ofNat xc.toNat]⟩:ByteArray)),vq (.pointer (some ⟨wr.heap.size,1,none⟩)),vq (.int .i64 xt),vq (.string ⟨(Lib.itoa xt).toArray⟩),vq (.string ((⟨#[32]⟩ ++ ⟨#[UInt8.ofNat xc.toNat]⟩:ByteArray) ++ ⟨(Lib.itoa xt).toArray⟩:ByteArray)),fun _ _=>True]) (Xs [Ext,Ext,Ext,Ext,Ext,Ext,Ext,Ext,Ext,(fun _ _=>True)]) (fun fL=>(fun d W=>ContT w1 wy g1 (BJ f (X.take k)) (BJ f (X.take k) ++ Co ⟨xc,xt⟩) d W) (fL 9)) [0,1,3,7,15,0,32,96,255,511] 29 10 (by kernel_rfl) rfl ?hV ?hS ?hop ?hfin ?hlast
   case hV =>
    refine Az (Af (by simp only [AS,List.not_mem_nil,or_false,forall_eq_or_imp,forall_eq];exact ⟨AW _,AW _,AW _,AW _,AW _,AW _,AW _,AW _,AW _,fun _ _ _ _ _=>trivial⟩)) ?_;exact ⟨.inl rfl,.inl rfl,.inl rfl,.inl rfl,.inl rfl,.inl rfl,.inl rfl,.inl rfl,.inl rfl,.inr (Aw ⟨fun _ _=>fun _ _ _ h _=>h,fun _ _=>fun _ _ _ h _=>h,fun _ _=>fun _ _ _ h _=>h,fun _ _=>fun _ _ _ h _=>h,fun _ _=>fun _ _ _ h _=>h,fun _ _=>fun _ _ _ h _=>h,fun _ _=>fun _ _ _ h _=>h,fun _ _=>fun _ _ _ h _=>h,fun _ _=>fun _ _ _ h _=>h,fun h=>absurd rfl h,trivial⟩),trivial⟩
   case hS =>
    intro fL hf;show (fun d W=>ContT w1 wy g1 (BJ f (X.take k)) (BJ f (X.take k) ++ Co ⟨xc,xt⟩) d W) (fL 9) _;rw [hf 9 (by decide)];exact JI _ _ _ j2.out ⟨rfl,rfl,rfl,A3 _,fun _ _=>rfl⟩
   case hop =>
    refine ⟨?_,?_,?_,?_,?_,?_,?_,?c7,?_,?c9,trivial⟩
    all_goals first | rw [if_neg (by decide)] | rw [if_pos (by decide)]
    all_goals try intro ac W fL jg jq jS jQ jb je ja jF
    all_goals try have hS:(fun d W=>ContT w1 wy g1 (BJ f (X.take k)) (BJ f (X.take k) ++ Co ⟨xc,xt⟩) d W) (fL 9) W:=jb
    all_goals try (have jf:fL 9=true:=jS 9 (by decide);rw [jf] at hS)
    all_goals try (have jf:fL 9=false:=(by first | exact jq | exact jQ 9 (by decide) (by decide));rw [jf] at hS)
    all_goals try (
     have henc:=Nn xc x0 x1;have hw32:IntKind.i32.wrap xc=xc:=IntWalk.i32_in _ (by omega);have hadd:2+(Lib.itoa xt).length≤9223372036854775807:=by simp only [Co,List.length_cons] at jH;omega
     have jO:=hS.2.2.2;obtain ⟨v0,v1⟩:=Ah ((jO.block wr.heap.size Jx).trans HV.out))
    all_goals try have hh5:=gdA ac 5 (.pointer (some ⟨wr.heap.size,0,none⟩)) (ja 5 (by kernel_rfl))
    all_goals try have hh3:=gdA ac 3 (.pointer (some ⟨g1,0,none⟩)) (ja 3 (by kernel_rfl))
    all_goals try (have je:=DJ je;simp [Cg,AY,vq] at je)
    all_goals try clear ja jS jQ jF
    case c7 =>
     have j3:(fun d W=>ContT w1 wy g1 (BJ f (X.take k)) (BJ f (X.take k) ++ Co ⟨xc,xt⟩) d W) ((upd fL 7) 9) W:=jb;refine AX rfl (.inr ⟨129,#[.int .i64 xt],W,by (clear jg hS jb j3 jq;simp [go_sem,Act.eval, *]),?_⟩);refine (Tryz.strconv_Itoa xt (by omega) (by omega) W (j1.out.later jO)).mono ?_;rintro e w' ⟨he,k',os,rfl⟩;have hx:Ext W (Sort.grow (W.drewN k') os):=Lib.below_grow _ W (A3 _) k' os;exact ⟨_,he,rfl,hx,(show (fun d W=>ContT w1 wy g1 (BJ f (X.take k)) (BJ f (X.take k) ++ Co ⟨xc,xt⟩) d W) ((upd fL 7) 9) _ by
      rw [show upd fL 7 9=fL 9 from if_neg (by decide)];exact JI _ _ _ jb hx)⟩
    case c9 =>
     refine AX rfl (.inr ⟨127,#[.pointer (some ⟨g1,0,none⟩),.string ((⟨#[32]⟩ ++ ⟨#[UInt8.ofNat xc.toNat]⟩:ByteArray) ++ ⟨(Lib.itoa xt).toArray⟩:ByteArray)],W,by (clear jg hS jb jq;simp [go_sem,Act.eval, *]),?_⟩);obtain ⟨j7,jU,j8⟩:Below g1 w1 W∧g1≤W.heap.size∧Lib.IsBuilderF 214 5 g1 g1 (Lib.byteCells (BJ f (X.take k))) W:=⟨hS.1,hS.2.1,hS.2.2.1⟩
     have jC:(Lib.byteCells (BJ f (X.take k))).length+(((⟨#[32]⟩ ++ ⟨#[UInt8.ofNat xc.toNat]⟩:ByteArray) ++ ⟨(Lib.itoa xt).toArray⟩:ByteArray)).size≤140737488355328:=by
      have jE:(((⟨#[32]⟩ ++ ⟨#[UInt8.ofNat xc.toNat]⟩:ByteArray) ++ ⟨(Lib.itoa xt).toArray⟩:ByteArray)).size=2+(Lib.itoa xt).length:=by
       rw [ByteArray.size_append,ByteArray.size_append];show 1+1+(Lib.itoa xt).toArray.size=_;simp
      rw [Lib.byteCells_length,jE];simp only [Co,List.length_cons] at jH;omega
     have jW:=Ef g1 g1 _ ((⟨#[32]⟩ ++ ⟨#[UInt8.ofNat xc.toNat]⟩:ByteArray) ++ ⟨(Lib.itoa xt).toArray⟩:ByteArray) W j8 jC jU;refine jW.mono ?_;clear jW hS jb;rintro e w' ⟨he,jk,jM⟩;refine ⟨_,he,trivial,trivial,(show (fun d W=>ContT w1 wy g1 (BJ f (X.take k)) (BJ f (X.take k) ++ Co ⟨xc,xt⟩) d W) ((upd fL 9) 9) _ by
      rw [show upd fL 9 9=true from if_pos rfl];exact ⟨j7.trans jM,A8 jU jM.size,by
       have e9:Lib.byteCells (BJ f (X.take k)) ++ Lib.strCells ((⟨#[32]⟩ ++ ⟨#[UInt8.ofNat xc.toNat]⟩:ByteArray) ++ ⟨(Lib.itoa xt).toArray⟩:ByteArray)=Lib.byteCells (BJ f (X.take k) ++ Co ⟨xc,xt⟩):=by simp [Lib.strCells,Lib.byteCells,Co]
       rw [e9] at jk;exact jk⟩)⟩
    all_goals (refine AX rfl (.inl ⟨_,W,?_,rfl,Ext.refl _,jb⟩);clear jg hS jb jq;simp [go_sem,Act.eval, *];done)
   case hlast =>
    intro h;exact absurd rfl h
   case hfin =>
    intro _ ac W jg jP fL hf jb hv ja;have hS:(fun d W=>ContT w1 wy g1 (BJ f (X.take k)) (BJ f (X.take k) ++ Co ⟨xc,xt⟩) d W) (fL 9) W:=jb;clear jb;rw [hf 9 (by decide)] at hS;obtain ⟨sx,j9,jV⟩:=Ag [17,18,19,20,21,22,23,24,25,26] (by kernel_rfl) jg jP ja;rw [jV];simp only [List.foldl];simp only [Act.put,List.setIfInBounds_toArray,List.set_cons_succ,List.set_cons_zero];clear jV j9 hv ja jg jP hf;have jY:=A0 hS.1;have ji:=A0 hS.2.2;have j6:=hS.2.1;clear hS;rw [← jK.out] at ji
    go_wp2_with fail
    go_roundw
    case rel=>exact ⟨k+1,by omega,by go_num,ji.out,jY.out,j6⟩
    case measure=>simp [intOf];omega
  ·have HA:Hid (BJ f (X.take k)=BJ f X):=by show _=_;rw [AF (by omega)]
   go_wp2_with (go_at_call 130;refine (Tryz.Builder_String_any_k g1 g1 _ _ jh.out jA).mono ?_;rintro e w5 ⟨rfl,_,j4,_⟩)
   go_ret;exact ⟨P4 (by rw [HA.out]),jp.out.trans (j4.mono (by have:=jw.out;omega))⟩
def BX (w:World) (a:Option Addr) (len:Nat) (Z:Nat→Int):Prop :=
 len=0∨∃ b o,a=some ⟨b,o,none⟩∧len≤9223372036854775807∧b<w.heap.size∧∀ i,i<len→w.cell? ⟨b,o+i,none⟩=some (.int .u8 (Z i))∧0≤Z i∧Z i≤255
theorem BX.later {w w1:World} {a:Option Addr} {len:Nat} {Z:Nat→Int} {B:Nat} (h:BX w a len Z) (hb:Below B w w1) (hB:w.heap.size≤B):BX w1 a len Z:=by
 rcases h with h | ⟨b,o,ha,hl,ja,hr⟩
 · exact .inl h
 · exact .inr ⟨b,o,ha,hl,A7 ja hb.size,fun i hi=>⟨(hb.cell (p:=⟨b,_,none⟩) (A7 ja hB)).trans (hr i hi).1,(hr i hi).2⟩⟩
theorem BX.at {w:World} {a:Option Addr} {len:Nat} {Z:Nat→Int} (h:BX w a len Z) {k:Nat} (hk:k<len):∃ b o,a=some ⟨b,o,none⟩∧b<w.heap.size∧w.cell? ⟨b,o+k,none⟩=some (.int .u8 (Z k))∧0≤Z k∧Z k≤255:=by
 rcases h with h | ⟨b,o,ha,hl,ja,hr⟩
 · omega
 · exact ⟨b,o,ha,ja,hr k hk⟩
theorem F9 (a:Option Addr) (b o len cap k:Nat) (ha:a=some ⟨b,o,none⟩) (hk:k<len) (w:World) :
  (Instr.indexAt 26 (.slice a len cap) (.int .i64 (k:Int))).run Tryz.prog w=.ok (.pointer (some ⟨b,o+k,none⟩)) w:=by
 subst ha;have h0:(0:Int)≤(k:Int):=by omega
 have h1:(k:Int)<(len:Int):=by omega
 simp [go_sem,h0,h1]
theorem Jy {a b:ByteArray} (h:a=b):Ending.returned (.string a)=.returned (.string b):=by rw [h]
theorem Gd (b o n:Nat):(⟨b,o,none⟩:Addr).add n=⟨b,o+n,none⟩:=by
 unfold Addr.add;split <;> simp_all
theorem Mv {α:Type} {p:α→Bool}:∀ {L:List α} {k:Nat},k≤L.length→(∀ j (hj:j<L.length),j<k→p L[j]=true)→(∀ h:k<L.length,p L[k]=false)→L.takeWhile p=L.take k∧L.dropWhile p=L.drop k
 | [],k,hk,_,_=>by simp
 | x :: r,0,_,_,h=>by
  have:=h (by simp);simp only [List.getElem_cons_zero] at this;simp [List.takeWhile_cons,List.dropWhile_cons,this]
 | x
   :: r,k+1,hk,h1,h2=>by
  have hx:=h1 0 (by simp) (by omega);simp only [List.getElem_cons_zero] at hx;have ih:=Mv (p:=p) (L:=r) (k:=k) (by simpa using hk) (fun j hj hjk=>by
   have:=h1 (j+1) (by simpa using hj) (by omega);simpa using this) (fun h=>by
   have:=h2 (by simpa using h);simpa using this)
  simp [List.takeWhile_cons,List.dropWhile_cons,hx,ih.1,ih.2]
theorem Hv (a:Addr) (n cap k:Nat) (hk:k≤n) (hn:n≤cap) (w:World) :
  (Instr.slice 35 (.slice (some a) n cap) none (some (.int .i64 (k:Int))) none).run Tryz.prog w=.ok (.slice (some a) k cap) w:=by
 have h0:(0:Int)≤(k:Int):=by omega
 have h1:(k:Int)≤(cap:Int):=by omega
 simp [go_sem,Instr.slice,Instr.sliceBounds,Instr.sliceBound,asIntOf,h0,h1];intro h;omega
theorem Eg (b o n cap k:Nat) (hk:k≤n) (hn:n≤cap):∃ o',(k<n→o'=o+k)∧∀ w:World,
  (Instr.slice 35 (.slice (some ⟨b,o,none⟩) n cap) (some (.int .i64 (k:Int))) none none).run Tryz.prog w=.ok (.slice (some ⟨b,o',none⟩) (n - k) (cap - k)) w:=by
 have h0:(0:Int)≤(k:Int):=by omega
 have h1:(k:Int)≤(n:Int):=by omega
 have h2:(n:Int)≤(cap:Int):=by omega
 refine ⟨if cap=k then o else o+k,fun h=>if_neg (by omega),fun w=>?_⟩;simp [go_sem,Instr.slice,Instr.sliceBounds,Instr.sliceBound,asIntOf,h0,h1,h2,Addr.add,hk];by_cases e:cap=k
 · simp [e]
 ·by_cases e0:k=0
  · simp [e0]
  · simp [e,e0]
def Mw (M:List ByteArray) (w:World) (e:Ending) (w':World):Prop :=
 ∃ (b o c:Nat),e=.returned (.slice (some ⟨b,o,none⟩) M.length c)∧BH w' (some ⟨b,o,none⟩) M∧M.length≤c∧Below w.heap.size w w'
def Ap (s:ByteArray) (d:Nat):Int:=((s.data.toList.getD d 0).toNat:Int)
theorem Hw {s:ByteArray} {d:Nat} (h:d<s.size):Ap s d=(s[d].toNat:Int):=by
 have h2:d<s.data.toList.length:=by simpa using h
 unfold Ap;rw [AO,AA h2];rfl
def addN (fin:Bool) (A:List Ar) (D:List Nd):Nat × List Nd :=
 if D.findIdx (fun x=>decide (BJ x.fin x.arcs=BJ fin A))<D.length then (D.findIdx (fun x=>decide (BJ x.fin x.arcs=BJ fin A)),D) else (D.length,D ++ [⟨fin,A⟩])
def DW (d:Nat) (L:List ByteArray) (c:Int):Nat:=(L.takeWhile fun s=>decide (Ap s d=c)).length
def Cb (rec:List ByteArray→List Nd→Nat × List Nd) (d:Nat):Nat→List ByteArray→List Ar→List Nd→List Ar × List Nd
 | 0,_,A,D=>(A,D)
 | _+1,[],A,D=>(A,D)
 | n+1,x :: r,A,D=>Cb rec d n ((x :: r).drop (DW d (x :: r) (Ap x d))) (A ++ [⟨Ap x d,((rec ((x :: r).take (DW d (x :: r) (Ap x d))) D).1:Nat)⟩]) (rec ((x :: r).take (DW d (x :: r) (Ap x d))) D).2
def Kw (d:Nat) (L:List ByteArray):Bool:=match L with | []=>false | x :: _=>decide (x.size=d)
def BT (d:Nat) (L:List ByteArray):List ByteArray:=if Kw d L=true then L.tail else L
def
  nodeW:Nat→Nat→List ByteArray→List Nd→Nat × List Nd
 | 0,_,_,D=>(0,D)
 | m+1,d,L,D =>
  addN (Kw d L) (Cb (nodeW m (d+1)) d (BT d L).length (BT d L) [] D).1 (Cb (nodeW m (d+1)) d (BT d L).length (BT d L) [] D).2
theorem G6 {d:Nat} {x:ByteArray} {r:List ByteArray}:1≤DW d (x :: r) (Ap x d):=by
 unfold DW;rw [List.takeWhile_cons,if_pos (by simp)];simp
theorem Mx {d:Nat} {L:List ByteArray} {c:Int}:DW d L c≤L.length:=(List.takeWhile_prefix _).length_le
theorem QZ (fin:Bool) (A:List Ar) (D:List Nd):(addN fin A D).2.length≤D.length+1:=by
 unfold addN;split <;> simp
theorem Qa (fin:Bool) (A:List Ar) (D:List Nd):(addN fin A D).1<(addN fin A D).2.length:=by
 unfold addN;split
 · assumption
 · simp
theorem Kx {rec:List ByteArray→List Nd→Nat × List Nd} {d k:Nat} (hr:∀ L D,L≠[]→(rec L D).2.length≤D.length+L.length*k):∀ n L A D,(Cb rec d n L A D).2.length≤D.length+L.length*k
 | 0,_,_,_=>Nat.le_add_right _ _
 | _+1,[],_,_=>Nat.le_add_right _ _
 | n+1,x :: r,A,D=>by
  rw [Cb];have h1:=G6 (d:=d) (x:=x) (r:=r);have h2:=Mx (d:=d) (L:=x :: r) (c:=Ap x d);have h3:=Kx (d:=d) hr n ((x :: r).drop (DW d (x :: r) (Ap x d))) (A ++ [⟨Ap x d,((rec ((x :: r).take (DW d (x :: r) (Ap x d))) D).1:Nat)⟩]) (rec ((x :: r).take (DW d (x :: r) (Ap x d))) D).2;have h4:=hr ((x :: r).take (DW d (x :: r) (Ap x d))) D (by intro h;have:=congrArg List.length h;rw [AK] at this;simp at this;omega);rw [List.length_drop] at h3;rw [AK,Nat.min_eq_left h2] at h4;have h5:((x :: r).length - DW d (x :: r) (Ap x d))*k+DW d (x :: r) (Ap x d)*k=(x :: r).length*k:=by rw [← Nat.add_mul];congr 1;omega
  omega
theorem JJ (d:Nat) (L:List ByteArray):(BT d L).length≤L.length:=by
 unfold BT;split <;> simp
theorem Hx:∀ m d L D,L≠[]→(nodeW m d L D).2.length≤D.length+L.length*m
 | 0,_,_,_,_=>Nat.le_add_right _ _
 | m+1,d,L,D,hL=>by
  rw [nodeW];have h1:=Kx (rec:=nodeW m (d+1)) (d:=d) (k:=m) (Hx m (d+1)) (BT d L).length (BT d L) [] D;have h2:=QZ (Kw d L) (Cb (nodeW m (d+1)) d (BT d L).length (BT d L) [] D).1 (Cb (nodeW m (d+1)) d (BT d L).length (BT d L) [] D).2;have h3:(BT d L).length*m≤L.length*m:=Nat.mul_le_mul_right _ (JJ d L);have h4:1≤L.length:=by cases L with | nil=>exact absurd rfl hL | cons=>simp
  have h5:L.length*(m+1)=L.length*m+L.length:=Nat.mul_succ _ _;omega
theorem P5 (m d:Nat) (L:List ByteArray) (D:List Nd):(nodeW (m+1) d L D).1<(nodeW (m+1) d L D).2.length:=by
 rw [nodeW];exact Qa _ _ _
theorem No:∀ (m d:Nat) (L:List ByteArray) (D:List Nd),(nodeW m d L D).1≤(nodeW m d L D).2.length
 | 0,_,_,_=>Nat.zero_le _
 | m+1,d,L,D=>Nat.le_of_lt (P5 m d L D)
structure Pre (d m:Nat) (L:List ByteArray):Prop where
 ne:L≠[]
 ge:∀ x∈L,d≤x.size
 lt:∀ x∈L,x.size<d+m
 asc:∀ x∈L,∀ c∈x.data.toList,c.toNat<128
 same:∀ x∈L,∀ y∈L,x.data.toList.take d=y.data.toList.take d
 inc:L.Pairwise fun x y=>ltS x y=true
theorem Ky:∀ {a b:List UInt8} {d:Nat},a.take d=b.take d→d≤a.length→Op.bytesLess a b=true→d<b.length
 | _,[],d,_,_,h=>by unfold Op.bytesLess at h;cases h
 | [],y :: ys,d,he,hd,h=>by simp at hd;subst hd;simp
 | x :: xs,y :: ys,0,he,hd,h=>by simp
 | x :: xs,y :: ys,d+1,he,hd,h=>by
  simp only [List.take_succ_cons,List.cons.injEq] at he;obtain ⟨rfl,he⟩:=he;have hx:¬ x<x:=by rw [UInt8.lt_iff_toNat_lt];omega
  simp [Op.bytesLess,hx] at h;have:=Ky (d:=d) he (by simpa using hd) h;simpa using this
theorem FB (x:ByteArray):x.size=x.data.toList.length:=by simp
theorem Pre.longer {d m:Nat} {x:ByteArray} {r:List ByteArray} (h:Pre d m (x :: r)):∀ y∈r,d<y.size:=by
 intro y hy;have h1:=(AQ.1 h.inc).1 y hy;rw [ltS,ByteArray.toList_eq,ByteArray.toList_eq] at h1;have h2:=h.ge x (by simp);rw [FB] at h2 ⊢;exact Ky (h.same x (by simp) y (by simp [hy])) h2 h1
structure Rest (d m:Nat) (L:List ByteArray):Prop where
 gt:∀ x∈L,d<x.size
 lt:∀ x∈L,x.size<d+m
 asc:∀ x∈L,∀ c∈x.data.toList,c.toNat<128
 same:∀ x∈L,∀ y∈L,x.data.toList.take d=y.data.toList.take d
 inc:L.Pairwise fun x y=>ltS x y=true
theorem Pre.rest {d m:Nat} {L:List ByteArray} (h:Pre d m L):Rest d m (BT d L):=by
 cases L with
 | nil=>exact absurd rfl h.ne
 | cons x r =>
  unfold BT Kw;by_cases e:x.size=d
  ·rw [if_pos (by simpa using e)];exact ⟨h.longer,fun y hy=>h.lt y (List.mem_cons_of_mem _ hy),fun y hy=>h.asc y (List.mem_cons_of_mem _ hy),fun y hy z hz=>h.same y (List.mem_cons_of_mem _ hy) z (List.mem_cons_of_mem _ hz),(AQ.1 h.inc).2⟩
  ·rw [if_neg (by simpa using e)];refine ⟨fun y hy=>?_,h.lt,h.asc,h.same,h.inc⟩;rcases AS.1 hy with rfl | hy
   · have:=h.ge y (by simp);omega
   · exact h.longer y hy
theorem Rest.drop {d m:Nat} {L:List ByteArray} (h:Rest d m L) (k:Nat):Rest d m (L.drop k) :=
 ⟨fun x hx=>h.gt x (List.mem_of_mem_drop hx),fun x hx=>h.lt x (List.mem_of_mem_drop hx),fun x hx=>h.asc x (List.mem_of_mem_drop hx),fun x hx y hy=>h.same x (List.mem_of_mem_drop hx) y (List.mem_of_mem_drop hy),h.inc.drop⟩
theorem Iu {α:Type} {p:α→Bool} {L:List α} {x:α} (h:x∈L.take (L.takeWhile p).length):p x=true:=by
 have h2:L.take (L.takeWhile p).length=L.takeWhile p:=(List.prefix_iff_eq_take.1 (List.takeWhile_prefix p)).symm;rw [h2] at h;have h3:=List.all_takeWhile (p:=p) (l:=L);exact List.all_eq_true.1 h3 x h
theorem Hy {x y:ByteArray} {d:Nat} (hx:d<x.size) (hy:d<y.size) (h:x.data.toList.take d=y.data.toList.take d) (hb:Ap x d=Ap y d):x.data.toList.take (d+1)=y.data.toList.take (d+1):=by
 have h1:d<x.data.toList.length:=by rw [← FB];exact hx
 have h2:d<y.data.toList.length:=by rw [← FB];exact hy
 rw [AN h1,AN h2,h];congr 2;have e:Ap x d=(x.data.toList[d].toNat:Int):=by unfold Ap;rw [AO,AA h1];rfl
 have e2:Ap y d=(y.data.toList[d].toNat:Int):=by unfold Ap;rw [AO,AA h2];rfl
 rw [e,e2] at hb;exact UInt8.toNat_inj.1 (by omega)
theorem Rest.group {d m:Nat} {x:ByteArray} {r:List ByteArray} (h:Rest d (m+1) (x :: r)):Pre (d+1) m ((x :: r).take (DW d (x :: r) (Ap x d))):=by
 have hb:∀ y∈(x :: r).take (DW d (x :: r) (Ap x d)),Ap y d=Ap x d:=fun y hy=>by
  have:=Iu hy;simpa using this
 have hm:∀ y∈(x :: r).take (DW d (x :: r) (Ap x d)),y∈x :: r:=fun y hy=>List.mem_of_mem_take hy;refine ⟨fun e=>?_,fun y hy=>h.gt y (hm y hy),fun y hy=>by have:=h.lt y (hm y hy);omega,fun y hy=>h.asc y (hm y hy),fun y hy z hz=>?_,h.inc.take⟩
 ·have:=G6 (d:=d) (x:=x) (r:=r);have h2:=congrArg List.length e;rw [AK] at h2;simp at h2;omega
 · exact Hy (h.gt y (hm y hy)) (h.gt z (hm z hz)) (h.same y (hm y hy) z (hm z hz)) ((hb y hy).trans (hb z hz).symm)
open Go.RowKit Go.WideShapes Go.Maps Go.WideMaps
def CP (D:List Nd) (l:List UInt8):Nat:=D.findIdx fun x=>decide (BJ x.fin x.arcs=l)
def En (w:World) (g:Nat) (D:List Nd):Prop:=∃ (n:Nat) (M:DataW Unit),w.ownsMap Tryz.prog 9 (plainElem Tryz.prog 3) g n M∧n≤D.length ∧
 ∀ s:ByteArray,s.size≤maxLen→Maps.has M (.string s.data.toList)=decide (CP D s.data.toList<D.length)∧M.atKey (.string s.data.toList) (.lit (.int .i64 0))=.lit (.int .i64 (if CP D s.data.toList<D.length then (CP D s.data.toList:Int) else 0))
theorem P6:Keyed Tryz.prog 9:=string_keyed Tryz.underlying9
theorem En.new (w:World):En (w.alloc (.map #[] 0)) w.heap.size [] :=
 ⟨0,.map [],World.ownsMap_made _ _ _ _,A3 _,fun s _=>⟨by simp [CP,Maps.has],by simp [CP,DataW.atKey]⟩⟩
theorem En.kept {w w1:World} {g:Nat} {D:List Nd} (h:En w g D) (hk:w1.heap[g]? = w.heap[g]?):En w1 g D:=by
 obtain ⟨n,M,⟨es,clock,hb,h1,h2,h3⟩,h4⟩:=h;exact ⟨n,M,⟨es,clock,hk.trans hb,h1,h2,h3⟩,h4⟩
theorem En.obj {w:World} {g:Nat} {D:List Nd} (h:En w g D):∃ es c,w.heap[g]? = some (.map es c):=by
 obtain ⟨n,M,⟨es,clock,hb,_⟩,_⟩:=h;exact ⟨es,clock,hb⟩
theorem En.look {w:World} {g:Nat} {D:List Nd} (h:En w g D) (s:ByteArray) (hs:s.size≤maxLen) :
  (Instr.lookup 131 (.map (some g)) (.string s) true).run Tryz.prog w=.ok (.tuple #[.int .i64 (if CP D s.data.toList<D.length then (CP D s.data.toList:Int) else 0),.bool (decide (CP D s.data.toList<D.length))]) w:=by
 obtain ⟨n,M,h1,_,h3⟩:=h;obtain ⟨v,ps,ja,hv⟩:=h1.look_ok P6 Tryz.underlying131 (Tryz.zeroValue3 w) (plainElem_int (H:=Unit) Tryz.underlying3 (a:=0) (by decide)) (keyOf_string_mk Tryz.underlying9 hs);obtain ⟨e1,e2⟩:=h3 s hs;rw [e2] at hv;obtain ⟨a,rfl,hz,_⟩:=plainElem_int_inv Tryz.underlying3 hv;rw [e1] at ja;have:a=if CP D s.data.toList<D.length then (CP D s.data.toList:Int) else 0:=by
  have:=congrArg Prod.fst hz;simp only [DataW.lit.injEq,Lit.int.injEq,true_and] at this;exact this.symm
 rw [← this];exact ja
theorem M6 {D:List Nd} {nd:Nd} {l:List UInt8}:CP (D ++ [nd]) l=if CP D l<D.length then CP D l else if BJ nd.fin nd.arcs=l then D.length else D.length+1:=by
 unfold CP;rw [List.findIdx_append];split
 · rfl
 ·rw [List.findIdx_cons];by_cases h:BJ nd.fin nd.arcs=l
  · simp [h]
  · simp [h];omega
theorem Fi {w:World} {g:Nat} {D:List Nd} {ops:Array Oper} {rest:List Oper} {o:Oper} {a:Act} {Q:Exit→Act→World→Prop} (h:En w g D) (nd:Nd) (s:ByteArray) (hk:BJ nd.fin nd.arcs=s.data.toList) (hs:s.size≤maxLen) (jg:¬ CP D s.data.toList<D.length) (hD:D.length<1000000)
  (jd:o.guard=none) (m x v:Operand) (jh:o.op=Op.mapUpdate 131 m x v) (hm:a.eval m=.map (some g)) (hx:a.eval x=.string s) (hv:a.eval v=.int .i64 (D.length:Int))
  (hK:∀ w',En w' g (D ++ [nd])→w.grownBy w' (some g)→wpList Tryz.prog ops Q rest (a.put o.dst undef) w'):wpList Tryz.prog ops Q (o :: rest) a w:=by
 obtain ⟨n,M,h1,h2,h3⟩:=h;have ji:(Lit.int .i64 (D.length:Int)).wf=true:=by simp [Lit.wf,IntKind.min,IntKind.max,IntKind.bits,IntKind.signed];omega
 refine wpList_mapUpdate_own w jd m x v _ jh _ _ P6 Tryz.underlying131 _ g n M hm h1 (by unfold maxLen;omega) _ _ _ hx hv (keyOf_string_mk Tryz.underlying9 hs) _ _ (plainElem_int (H:=Unit) Tryz.underlying3 ji) ?_;intro w' ja je;refine hK w' ⟨n+1,_,ja,by rw [AB];simp;omega,fun t ht=>?_⟩ je;have hM:IsMap M:=h1.isMap;rw [M6];by_cases e:t=s
 ·subst e;have jb:WideAt.IsKeyLit (.string t.data.toList):=trivial;rw [Maps.has_put_same hM jb,Maps.atKey_put_same hM jb,if_neg jg,if_pos hk];simp
 ·have jc:Lit.string t.data.toList≠Lit.string s.data.toList:=fun h=>e (bytes_inj (by injection h));rw [Maps.has_put_other jc,Maps.atKey_put_other jc];obtain ⟨e1,e2⟩:=h3 t ht;rw [e1,e2];have jf:¬ BJ nd.fin nd.arcs=t.data.toList:=fun h=>e (bytes_inj (by rw [← h,hk]));rw [if_neg jf];by_cases hf:CP D t.data.toList<D.length
  · simp [hf];omega
  · simp [hf]
structure BSt (w:World) (B gB gM:Nat) (v:Value) (N:List NV) (D:List Nd):Prop where
 rep:w.heap[gB]? = some (.cells #[v,.map (some gM)] 133 (0,0))
 own:AZ Bk w B v N
 len:N.length=D.length
 arcs:∀ k (h:k<N.length) (h2:k<D.length),N[k].fin=D[k].fin∧AZ Bo w B (.slice N[k].a N[k].n N[k].c) D[k].arcs
 map:En w gM D
 gB:B≤gB
 gM:B≤gM
structure Fr (gB gM:Nat) (vb:Option Nat) (w w':World):Prop where
 os:w'.os=w.os
 tape:w'.tape=w.tape
 output:w'.output=w.output
 size:w.heap.size≤w'.heap.size
 block:∀ q,q<w.heap.size→q≠gB→q≠gM→vb≠some q→w'.heap[q]? = w.heap[q]?
theorem Fr.refl (gB gM:Nat) (vb:Option Nat) (w:World):Fr gB gM vb w w:=⟨rfl,rfl,rfl,A3 _,fun _ _ _ _ _=>rfl⟩
def Cp (vb vb1:Option Nat) (n:Nat):Prop:=vb1=vb∨∀ q,vb1=some q→n≤q
theorem Cp.trans {a b c:Option Nat} {n m:Nat} (h:Cp a b n) (h2:Cp b c m) (ja:n≤m):Cp a c n:=by
 rcases h2 with rfl | h2
 · exact h
 · exact .inr fun q hq=>A8 ja (h2 q hq)
theorem Fr.trans {gB gM:Nat} {vb vb1:Option Nat} {a b c:World} (h:Fr gB gM vb a b) (h2:Fr gB gM vb1 b c) (hn:Cp vb vb1 a.heap.size):Fr gB gM vb a c :=
 ⟨h2.os.trans h.os,h2.tape.trans h.tape,h2.output.trans h.output,A8 h.size h2.size,fun q hq h3 h4 h5=>(h2.block q (A7 hq h.size) h3 h4 (by
  rcases hn with rfl | hn
  · exact h5
  · intro e;have:=hn q e;omega)).trans (h.block q hq h3 h4 h5)⟩
theorem Fr.of_below {gB gM:Nat} {vb:Option Nat} {w w':World} (h:Below w.heap.size w w'):Fr gB gM vb w w':=⟨h.os,h.tape,h.output,h.size,fun q hq _ _ _=>h.block q hq⟩
theorem BSt.keep {w w':World} {B gB gM:Nat} {v:Value} {N:List NV} {D:List Nd} (h:BSt w B gB gM v N D) (hk:∀ q,q<w.heap.size→(q=gB∨q=gM∨v.ownBlock=some q∨∃ x∈N,(Value.slice x.a x.n x.c).ownBlock=some q)→w'.heap[q]? = w.heap[q]?):BSt w' B gB gM v N D:=by
 obtain ⟨es,c,hm⟩:=h.map.obj;refine ⟨(hk gB (A5.1 h.rep).1 (.inl rfl)).trans h.rep,h.own.keep fun g hg=>hk g (h.own.lt g hg) (.inr (.inr (.inl hg))),h.len,fun k h1 h2=>⟨(h.arcs k h1 h2).1,(h.arcs k h1 h2).2.keep fun g hg=>hk g ((h.arcs k h1 h2).2.lt g hg) (.inr (.inr (.inr ⟨N[k],AG h1,hg⟩)))⟩,h.map.kept (hk gM (A5.1 hm).1 (.inr (.inl rfl))),h.gB,h.gM⟩
theorem BSt.ext {w w':World} {B gB gM:Nat} {v:Value} {N:List NV} {D:List Nd} (h:BSt w B gB gM v N D) (hx:Ext w w'):BSt w' B gB gM v N D:=h.keep fun q hq _=>Below.block hx q hq
abbrev Wd:=List UInt8
abbrev Rst:=List (List UInt8)
def Aq (R:Rst) (c:Nat):Rst:=R.filterMap fun s=>match s with | []=>none | b :: t=>if b.toNat=c then some t else none
def Eo (R:Rst):Bool:=match R with | [] :: _=>true | _=>false
def FJ (lo n:Nat) (R:Rst):List (Nat × Rst):=(List.range' lo n).filterMap fun c=>if Aq R c=[] then none else some (c,Aq R c)
def grp (R:Rst):List (Nat × Rst):=FJ 33 94 R
def C8 (R:Rst):Prop:=R.Pairwise fun a b=>Op.bytesLess a b=true
def Dq (lo n:Nat) (R:Rst):Prop:=∀ s∈R,∃ b t,s=b :: t∧lo≤b.toNat∧b.toNat<lo+n
def Dx (R:Rst):Prop:=∀ s∈R,∀ b∈s,33≤UInt8.toNat b∧UInt8.toNat b<127
theorem DP {a b:UInt8} {x y:Wd}:Op.bytesLess (a :: x) (b :: y)=true↔a.toNat<b.toNat∨(a=b∧Op.bytesLess x y=true):=by
 simp only [Op.bytesLess,Bool.or_eq_true,Bool.and_eq_true,decide_eq_true_eq,beq_iff_eq,UInt8.lt_iff_toNat_lt]
theorem Kz:∀ (p:Wd) {x y:Wd},Op.bytesLess (p ++ x) (p ++ y)=Op.bytesLess x y
 | [],_,_=>rfl
 | a :: p,x,y=>by
  have h:¬ a<a:=by rw [UInt8.lt_iff_toNat_lt];omega
  simp [Op.bytesLess,h,Kz p]
theorem Hz {x:Wd}:Op.bytesLess x []=false:=by cases x <;> rfl
theorem C8.tail {x:Wd} {R:Rst} (h:C8 (x :: R)):C8 R:=(AQ.1 h).2
theorem C8.nonempty {x:Wd} {R:Rst} (h:C8 (x :: R)):∀ s∈R,s≠[]:=fun s hs e=>by
 have:=(AQ.1 h).1 s hs;rw [e,Hz] at this;cases this
theorem I0 {b:UInt8} {t:Wd} {R:Rst} {c:Nat} (h:b.toNat=c):Aq ((b :: t) :: R) c=t :: Aq R c:=by simp [Aq,h]
theorem DX {R:Rst} {c:Nat} {t:Wd}:t∈Aq R c↔∃ b:UInt8,b.toNat=c∧b :: t∈R:=by
 unfold Aq;rw [List.mem_filterMap];constructor
 ·rintro ⟨s,hs,h⟩;cases s with
  | nil=>cases h
  | cons b u =>
   simp only at h;split at h
   · injection h with h;subst h;exact ⟨b,by assumption,hs⟩
   · cases h
 ·rintro ⟨b,hb,h⟩;exact ⟨_,h,by simp [hb]⟩
theorem Iv (P Q:Rst) (c:Nat):Aq (P ++ Q) c=Aq P c ++ Aq Q c:=List.filterMap_append
theorem afterL_sort {R:Rst} {c:Nat} (h:C8 R):C8 (Aq R c):=by
 unfold C8 Aq;rw [List.pairwise_filterMap];refine List.Pairwise.imp ?_ h;intro a b ja t ht u hu;cases a with
 | nil=>cases ht
 | cons x a =>
  cases b with
  | nil=>cases hu
  | cons y b =>
   simp only at ht hu;split at ht
   ·split at hu
    ·injection ht with ht;injection hu with hu;subst ht hu;rcases DP.1 ja with h | ⟨_,h⟩
     · omega
     · exact h
    · cases hu
   · cases ht
theorem Jz {R:Rst} {c:Nat} (h:Dx R):Dx (Aq R c):=fun s hs b hb=>by
 obtain ⟨x,_,hx⟩:=DX.1 hs;exact h _ hx b (List.mem_cons_of_mem _ hb)
theorem heads_split {b:UInt8} {n:Nat}:∀ {R:Rst},C8 R→Dq b.toNat n R→Aq R b.toNat=(R.takeWhile fun s=>s.head? == some b).map List.tail ∧
  Dq (b.toNat+1) (n - 1) (R.dropWhile fun s=>s.head? == some b)∧(R.takeWhile fun s=>s.head? == some b).map (fun s=>b :: s.tail)=(R.takeWhile fun s=>s.head? == some b)
 | [],_,_=>⟨rfl,fun s hs=>by simp at hs,rfl⟩
 | x
   :: r,hs,hh=>by
  obtain ⟨y,t,rfl,h1,h2⟩:=hh x (by simp);by_cases e:y=b
  ·subst e;obtain ⟨i1,i2,i3⟩:=heads_split (R:=r) (hs.tail) fun s ja=>hh s (List.mem_cons_of_mem _ ja);simp only [List.takeWhile_cons,List.dropWhile_cons,List.head?_cons,beq_self_eq_true,if_true,List.map_cons,List.tail_cons];exact ⟨by rw [I0 rfl,i1],i2,by rw [i3]⟩
  ·have jc:((y :: t).head? == some b)=false:=by simpa using e
   simp only [List.takeWhile_cons,List.dropWhile_cons,jc,Bool.false_eq_true,if_false];have hlt:b.toNat<y.toNat:=by
    have:y.toNat≠b.toNat:=fun h=>e (UInt8.toNat_inj.1 h);omega
   have jb:∀ s∈(y :: t) :: r,∃ c u,s=c :: u∧b.toNat+1≤c.toNat∧c.toNat<b.toNat+n:=fun s ja=>by
    obtain ⟨c,u,rfl,h3,h4⟩:=hh s ja;refine ⟨c,u,rfl,?_,h4⟩;rcases AS.1 ja with h5 | h5
    · injection h5 with h5;subst h5;omega
    ·rcases DP.1 ((AQ.1 hs).1 _ h5) with h6 | ⟨h6,_⟩
     · omega
     · subst h6;omega
   refine ⟨?_,fun s ja=>?_,rfl⟩
   ·rw [List.map_nil];unfold Aq;rw [List.filterMap_eq_nil_iff];intro s ja;obtain ⟨c,u,rfl,h3,_⟩:=jb s ja;simp;omega
   ·obtain ⟨c,u,rfl,h3,h4⟩:=jb s ja;exact ⟨c,u,rfl,h3,by omega⟩
theorem M7 {lo n c:Nat} {R:Rst} (h:Dq lo n R) (hc:c<lo∨lo+n≤c):Aq R c=[]:=by
 unfold Aq;rw [List.filterMap_eq_nil_iff];intro s hs;obtain ⟨b,t,rfl,h3,h4⟩:=h s hs;simp;omega
theorem I1 {b:UInt8} {R:Rst} {c:Nat} (hc:c≠b.toNat):Aq (R.takeWhile fun s=>s.head? == some b) c=[]:=by
 unfold Aq;rw [List.filterMap_eq_nil_iff];intro s hs;have h:=List.all_takeWhile (p:=fun s:Wd=>s.head? == some b) (l:=R);have h2:=List.all_eq_true.1 h s hs;cases s with
 | nil=>rfl
 | cons y t =>
  have:y=b:=by simpa using h2
  subst this;simp;omega
theorem L3 {b:UInt8} {R:Rst} {c:Nat} (hc:c≠b.toNat):Aq R c=Aq (R.dropWhile fun s=>s.head? == some b) c:=by
 conv=>lhs;rw [← List.takeWhile_append_dropWhile (p:=fun s:Wd=>s.head? == some b) (l:=R)]
 rw [Iv,I1 hc];rfl
theorem G7 (lo n:Nat):FJ lo n []=[]:=by
 unfold FJ;rw [List.filterMap_eq_nil_iff];intro c _;rfl
theorem L4 {α β:Type} {f g:α→Option β}:∀ {l:List α},(∀ x∈l,f x=g x)→l.filterMap f=l.filterMap g
 | [],_=>rfl
 | x :: r,h=>by rw [List.filterMap_cons,List.filterMap_cons,h x (by simp),L4 fun y hy=>h y (List.mem_cons_of_mem _ hy)]
theorem M8 {lo n:Nat} {R Q:Rst} (h:∀ c,lo≤c→c<lo+n→Aq R c=Aq Q c):FJ lo n R=FJ lo n Q:=by
 unfold FJ;refine L4 fun c hc=>?_;have:=List.mem_range'_1.1 hc;rw [h c this.1 this.2]
theorem JK {lo n:Nat} {b:UInt8} {t:Wd} {r:Rst} (hs:C8 ((b :: t) :: r)) (hh:Dq lo n ((b :: t) :: r)) :
  FJ lo n ((b :: t) :: r)=(b.toNat,(((b :: t) :: r).takeWhile fun s=>s.head? == some b).map List.tail) :: FJ (b.toNat+1) (lo+n - (b.toNat+1)) (((b :: t) :: r).dropWhile fun s=>s.head? == some b):=by
 obtain ⟨b',t',e,h1,h2⟩:=hh (b :: t) (by simp);injection e with e1 e2;subst e1 e2;have ja:Dq b.toNat (lo+n - b.toNat) ((b :: t) :: r):=fun s jb=>by
  obtain ⟨c,u,rfl,h3,h4⟩:=hh s jb;refine ⟨c,u,rfl,?_,by omega⟩;rcases AS.1 jb with h5 | h5
  · injection h5 with h5;subst h5;exact A3 _
  ·rcases DP.1 ((AQ.1 hs).1 _ h5) with h6 | ⟨h6,_⟩
   · omega
   · subst h6;exact A3 _
 obtain ⟨i1,i2,_⟩:=heads_split hs ja;have hr:List.range' lo n=List.range' lo (b.toNat - lo) ++ (b.toNat :: List.range' (b.toNat+1) (lo+n - (b.toNat+1))):=by
  have e1:b.toNat :: List.range' (b.toNat+1) (lo+n - (b.toNat+1))=List.range' b.toNat (lo+n - b.toNat):=by
   rw [show lo+n - b.toNat=(lo+n - (b.toNat+1))+1 from by omega,List.range'_succ]
  rw [e1];have:=List.range'_append (s:=lo) (m:=b.toNat - lo) (n:=lo+n - b.toNat) (step:=1);rw [show lo+1*(b.toNat - lo)=b.toNat from by omega,show b.toNat - lo+(lo+n - b.toNat)=n from by omega] at this;exact this.symm
 have jd:Aq ((b :: t) :: r) b.toNat≠[]:=by rw [I0 rfl];simp
 have jc:=M8 (lo:=b.toNat+1) (n:=lo+n - (b.toNat+1)) (R:=(b :: t) :: r) (Q:=((b :: t) :: r).dropWhile fun s=>s.head? == some b) fun c h3 h4=>L3 (by omega);rw [← jc,← i1];unfold FJ;rw [hr,List.filterMap_append,List.filterMap_cons,if_neg jd];have hz:(List.range' lo (b.toNat - lo)).filterMap (fun c=>if Aq ((b :: t) :: r) c=[] then none else some (c,Aq ((b :: t) :: r) c))=[]:=by
  rw [List.filterMap_eq_nil_iff];intro c hc;have:=List.mem_range'_1.1 hc;rw [M7 ja (.inl (by omega)),if_pos rfl]
 rw [hz];rfl
def Iw (G:List (Nat × Rst)):Rst:=G.flatMap fun g=>g.2.map (UInt8.ofNat g.1 :: ·)
theorem K0 {b:UInt8} {R:Rst}:(R.dropWhile fun s=>s.head? == some b).length≤R.length:=(List.dropWhile_sublist _).length_le
theorem Np {b:UInt8} {R:Rst} (h:C8 R):C8 (R.dropWhile fun s=>s.head? == some b):=List.Pairwise.sublist (List.dropWhile_sublist _) h
theorem I2 {b:UInt8} {t:Wd} {r:Rst} {lo n:Nat} (hs:C8 ((b :: t) :: r)) (hh:Dq lo n ((b :: t) :: r)):Dq (b.toNat+1) (lo+n - (b.toNat+1)) (((b :: t) :: r).dropWhile fun s=>s.head? == some b):=by
 have ja:Dq b.toNat (lo+n - b.toNat) ((b :: t) :: r):=fun s jb=>by
  obtain ⟨c,u,rfl,h3,h4⟩:=hh s jb;refine ⟨c,u,rfl,?_,by omega⟩;rcases AS.1 jb with h5 | h5
  · injection h5 with h5;subst h5;exact A3 _
  ·rcases DP.1 ((AQ.1 hs).1 _ h5) with h6 | ⟨h6,_⟩
   · omega
   · subst h6;exact A3 _
 have:=(heads_split hs ja).2.1
 rwa [show lo+n - b.toNat - 1=lo+n - (b.toNat+1) from by omega] at this
theorem catG_grpR:∀ (k lo n:Nat) (R:Rst),R.length≤k→C8 R→Dq lo n R→Iw (FJ lo n R)=R
 | _,_,_,[],_,_,_=>by rw [G7];rfl
 | 0,_,_,_ :: _,h,_,_=>by simp at h
 | k
   +
    1,lo,n,x :: r,hk,hs,hh=>by
  obtain ⟨b,t,rfl,h1,h2⟩:=hh x (by simp);rw [JK hs hh];have ja:Dq b.toNat (lo+n - b.toNat) ((b :: t) :: r):=fun s jb=>by
   obtain ⟨c,u,rfl,h3,h4⟩:=hh s jb;refine ⟨c,u,rfl,?_,by omega⟩;rcases AS.1 jb with h5 | h5
   · injection h5 with h5;subst h5;exact A3 _
   ·rcases DP.1 ((AQ.1 hs).1 _ h5) with h6 | ⟨h6,_⟩
    · omega
    · subst h6;exact A3 _
  obtain ⟨i1,i2,i3⟩:=heads_split hs ja;have hd:(((b :: t) :: r).dropWhile fun s=>s.head? == some b)=r.dropWhile fun s=>s.head? == some b:=by simp [List.dropWhile_cons]
  have ih:=catG_grpR k (b.toNat+1) (lo+n - (b.toNat+1)) (((b :: t) :: r).dropWhile fun s=>s.head? == some b) (by rw [hd];have:=K0 (b:=b) (R:=r);simp at hk;omega) (Np hs) (I2 hs hh);unfold Iw at ih ⊢;rw [List.flatMap_cons,ih];simp only [UInt8.ofNat_toNat,List.map_map];have:(fun s:Wd=>b :: s) ∘ List.tail=fun s:Wd=>b :: s.tail:=rfl;rw [this,i3];exact List.takeWhile_append_dropWhile
theorem Qb {R:Rst}:grp ([] :: R)=grp R:=rfl
theorem L5 {R:Rst} (hb:Dx R) (hn:∀ s∈R,s≠[]):Dq 33 94 R:=fun s hs=>by
 cases s with
 | nil=>exact absurd rfl (hn _ hs)
 | cons b t=>exact ⟨b,t,rfl,(hb _ hs b (by simp)).1,(hb _ hs b (by simp)).2⟩
theorem recon {R:Rst} (hs:C8 R) (hb:Dx R):R=(if Eo R=true then [[]] else []) ++ Iw (grp R):=by
 cases R with
 | nil=>unfold grp;rw [G7];rfl
 | cons x r =>
  cases x with
  | nil =>
   have h1:Eo ([] :: r)=true:=rfl;rw [if_pos h1,Qb];have:=catG_grpR r.length 33 94 r (A3 _) hs.tail (L5 (fun s h=>hb s (List.mem_cons_of_mem _ h)) hs.nonempty);unfold grp;rw [this];rfl
  | cons b t =>
   have h1:Eo ((b :: t) :: r)=false:=rfl;rw [h1];have hh:Dq 33 94 ((b :: t) :: r):=L5 hb fun s h=>by
    rcases AS.1 h with rfl | h
    · simp
    · exact hs.nonempty s h
   have:=catG_grpR _ 33 94 _ (A3 _) hs hh;unfold grp;rw [this];simp
theorem Nq {R Q:Rst} (hs:C8 R) (hb:Dx R) (jb:C8 Q) (ja:Dx Q) (hf:Eo R=Eo Q) (hg:grp R=grp Q):R=Q:=by
 rw [recon hs hb,recon jb ja,hf,hg]
theorem Hk {R:Rst} {g:Nat × Rst} (h:g∈grp R):33≤g.1∧g.1<127∧g.2=Aq R g.1∧g.2≠[]:=by
 unfold grp FJ at h;obtain ⟨c,hc,h2⟩:=List.mem_filterMap.1 h;have:=List.mem_range'_1.1 hc;split at h2
 · cases h2
 ·injection h2 with h2;subst h2;exact ⟨this.1,this.2,rfl,by assumption⟩
theorem My (R:Rst):(grp R).length≤94:=by
 have:=List.length_filterMap_le (fun c=>if Aq R c=[] then none else some (c,Aq R c)) (List.range' 33 94);simpa [grp,FJ] using this
def Qc (l:List UInt8):Nat:=l.foldl (fun a c=>a*10+(c.toNat - 48)) 0
theorem decD (u:Nat):Qc (Lib.decDigits u)=u∧∀ c∈Lib.decDigits u,48≤c.toNat:=by
 induction u using Nat.strongRecOn with
 | _
   u
    ih =>
  rw [Lib.decDigits];have h1:∀ k,k<10→(UInt8.ofNat (48+k)).toNat=48+k:=fun k hk=>by
   rw [UInt8.toNat_ofNat'];omega
  split
  ·rename_i h;refine ⟨?_,fun c hc=>?_⟩
   · simp only [Qc,List.foldl_cons,List.foldl_nil,h1 u h];omega
   · obtain rfl:=AD.1 hc;rw [h1 u h];omega
  ·rename_i h;obtain ⟨i1,i2⟩:=ih (u / 10) (by omega);have h2:=h1 (u % 10) (by omega);refine ⟨?_,fun c hc=>?_⟩
   ·unfold Qc at i1 ⊢;rw [List.foldl_append,i1];simp only [List.foldl_cons,List.foldl_nil,h2];omega
   ·rcases AT.1 hc with hc | hc
    · exact i2 c hc
    · obtain rfl:=AD.1 hc;rw [h2];omega
theorem JL {l r:List UInt8} (h:∀ c∈l,48≤c.toNat) (hr:r=[]∨∃ q,r=32 :: q):(l ++ r).takeWhile (fun c=>decide (48≤UInt8.toNat c))=l∧(l ++ r).dropWhile (fun c=>decide (48≤UInt8.toNat c))=r:=by
 induction l with
 | nil =>
  rcases hr with rfl | ⟨q,rfl⟩
  · exact ⟨rfl,rfl⟩
  ·have:(decide (48≤UInt8.toNat (32:UInt8)))=false:=rfl;simp [List.takeWhile_cons,List.dropWhile_cons]
 | cons c l ih =>
  have hc:=h c (by simp);obtain ⟨i1,i2⟩:=ih fun d hd=>h d (List.mem_cons_of_mem _ hd);simp only [List.cons_append,List.takeWhile_cons,List.dropWhile_cons,hc,decide_true,if_true];exact ⟨by rw [i1],i2⟩
theorem JM (X:List Ar):X.flatMap Co=[]∨∃ q,X.flatMap Co=32 :: q:=by
 cases X with
 | nil=>exact .inl rfl
 | cons x r=>exact .inr ⟨_,rfl⟩
def L6 (x:Ar):Prop:=0≤x.c∧x.c<256∧0≤x.t
theorem I3:∀ {X Y:List Ar},(∀ x∈X,L6 x)→(∀ x∈Y,L6 x)→X.flatMap Co=Y.flatMap Co→X=Y
 | [],[],_,_,_=>rfl
 | [],y :: s,_,_,h=>by rw [List.flatMap_nil,List.flatMap_cons,Co] at h;cases h
 | x :: r,[],_,_,h=>by rw [List.flatMap_nil,List.flatMap_cons,Co] at h;cases h
 | x
   :: r,y :: s,hX,hY,h=>by
  rw [List.flatMap_cons,List.flatMap_cons,Co,Co] at h;simp only [List.cons_append,List.cons.injEq,true_and] at h;obtain ⟨h1,h2⟩:=h;obtain ⟨x0,x1,x2⟩:=hX x (by simp);obtain ⟨y0,y1,y2⟩:=hY y (by simp);have e1:Lib.itoa x.t=Lib.decDigits x.t.toNat:=by rw [Lib.itoa,if_neg (by omega)]
  have e2:Lib.itoa y.t=Lib.decDigits y.t.toNat:=by rw [Lib.itoa,if_neg (by omega)]
  rw [e1,e2] at h2;obtain ⟨a1,a2⟩:=JL (decD x.t.toNat).2 (JM r);obtain ⟨b1,b2⟩:=JL (decD y.t.toNat).2 (JM s);rw [h2] at a1 a2;have h3:Lib.decDigits x.t.toNat=Lib.decDigits y.t.toNat:=a1.symm.trans b1;have h4:r.flatMap Co=s.flatMap Co:=a2.symm.trans b2;have h5:=I3 (fun z hz=>hX z (List.mem_cons_of_mem _ hz)) (fun z hz=>hY z (List.mem_cons_of_mem _ hz)) h4;have h6:x.t=y.t:=by
   have:=congrArg Qc h3;rw [(decD _).1,(decD _).1] at this;omega
  have h7:x.c=y.c:=by
   have:=congrArg UInt8.toNat h1;rw [UInt8.toNat_ofNat',UInt8.toNat_ofNat'] at this;omega
  obtain ⟨xc,xt⟩:=x;obtain ⟨yc,yt⟩:=y;simp only at h6 h7;rw [h5,h6,h7]
theorem P7 {f g:Bool} {X Y:List Ar} (hX:∀ x∈X,L6 x) (hY:∀ x∈Y,L6 x) (h:BJ f X=BJ g Y):f=g∧X=Y:=by
 unfold BJ at h;have hT:Lib.formatBool true=[116,114,117,101]:=by decide
 have hF:Lib.formatBool false=[102,97,108,115,101]:=by decide
 cases f <;> cases g <;> simp only [hT,hF,List.cons_append,List.nil_append,List.cons.injEq] at h
 · exact ⟨rfl,I3 hX hY h.2.2.2.2.2⟩
 · exact absurd h.1 (by decide)
 · exact absurd h.1 (by decide)
 · exact ⟨rfl,I3 hX hY h.2.2.2.2⟩
inductive CV (R:List Rst) (n:Nat):List (Nat × Rst)→List Ar→Prop
 | nil:CV R n [] []
 | cons {c t:Nat} {g:Rst} {G:List (Nat × Rst)} {X:List Ar}:c<256→t<n→R[t]? = some g→CV R n G X→CV R n ((c,g) :: G) (⟨(c:Int),(t:Int)⟩ :: X)
theorem CV.mono {R R':List Rst} {n n':Nat} {G:List (Nat × Rst)} {X:List Ar} (h:CV R n G X) (hR:R <+: R') (hn:n≤n'):CV R' n' G X:=by
 induction h with
 | nil=>exact .nil
 | cons h1 h2 h3 _ ih =>
  refine .cons h1 (by omega) ?_ ih;obtain ⟨E,rfl⟩:=hR;obtain ⟨hl,he⟩:=List.getElem?_eq_some_iff.1 h3;rw [AI hl];exact h3
theorem CV.snoc {R:List Rst} {n:Nat} {G:List (Nat × Rst)} {X:List Ar} {c t:Nat} {g:Rst} (h:CV R n G X) (hc:c<256) (ht:t<n) (hg:R[t]? = some g):CV R n (G ++ [(c,g)]) (X ++ [⟨(c:Int),(t:Int)⟩]):=by
 induction h with
 | nil=>exact .cons hc ht hg .nil
 | cons h1 h2 h3 _ ih=>exact .cons h1 h2 h3 ih
theorem CV.len {R:List Rst} {n:Nat} {G:List (Nat × Rst)} {X:List Ar} (h:CV R n G X):X.length=G.length:=by
 induction h with
 | nil=>rfl
 | cons _ _ _ _ ih=>simp [ih]
theorem CV.mem {R:List Rst} {n:Nat} {G:List (Nat × Rst)} {X:List Ar} (h:CV R n G X):∀ x∈X,L6 x∧x.t<(n:Int):=by
 induction h with
 | nil=>intro x hx;cases hx
 | cons h1 h2 h3 _ ih =>
  intro x hx;rcases AS.1 hx with rfl | hx
  · exact ⟨⟨by simp,by simp;omega,by simp⟩,by simp;omega⟩
  · exact ih x hx
theorem JN {R:List Rst} (h:R.Nodup) {i j:Nat} {g:Rst} (hi:R[i]? = some g) (hj:R[j]? = some g):i=j:=by
 obtain ⟨h1,e1⟩:=List.getElem?_eq_some_iff.1 hi;obtain ⟨h2,e2⟩:=List.getElem?_eq_some_iff.1 hj;exact (List.getElem_inj h).1 (e1.trans e2.symm)
theorem CV.inj {R:List Rst} (hR:R.Nodup) {n n':Nat} {G:List (Nat × Rst)} {X Y:List Ar} (h:CV R n G X) (h2:CV R n' G Y):X=Y:=by
 induction h generalizing Y with
 | nil=>cases h2;rfl
 | cons h1 h3 h4 _ ih =>
  cases h2 with
  | cons k1 k2 k3 k4=>rw [JN hR h4 k3,ih k4]
theorem CV.groups {R:List Rst} {n n':Nat} {G G':List (Nat × Rst)} {X:List Ar} (h:CV R n G X) (h2:CV R n' G' X):G=G':=by
 induction h generalizing G' with
 | nil=>cases h2;rfl
 | @cons c t g G X h1 h3 h4 _ ih =>
  generalize hY:(⟨(c:Int),(t:Int)⟩ :: X:List Ar)=Y at h2;cases h2 with
  | nil=>cases hY
  | @cons c' t' g' G' X' k1 k2 k3 k4 =>
   injection hY with e1 e2;injection e1 with e3 e4;obtain rfl:c=c':=by omega
   obtain rfl:t=t':=by omega
   subst e2;rw [h4] at k3;injection k3 with k3;rw [k3,ih k4]
structure G8 (D:List Nd) (R:List Rst):Prop where
 len:R.length=D.length
 nodup:R.Nodup
 ok:∀ r∈R,C8 r∧Dx r∧r≠[]
 nd:∀ k (h:k<D.length) (h2:k<R.length),D[k].fin=Eo R[k]∧CV R k (grp R[k]) D[k].arcs
theorem G8.nil:G8 [] []:=⟨rfl,List.nodup_nil,fun r h=>(by cases h),fun k h=>(by simp at h)⟩
theorem G8.down {D:List Nd} {R:List Rst} (h:G8 D R):∀ i (h:i<D.length),(∀ x∈D[i].arcs,0≤x.t∧x.t<(i:Int))∧D[i].arcs.length≤1000:=fun i hi=>by
 obtain ⟨h1,h2⟩:=h.nd i hi (by rw [h.len];exact hi);refine ⟨fun x hx=>⟨(h2.mem x hx).1.2.2,(h2.mem x hx).2⟩,?_⟩;rw [h2.len];have:=My (R[i]'(by rw [h.len];exact hi));omega
theorem addN_tab {D:List Nd} {R:List Rst} (h:G8 D R) {r:Rst} (hs:C8 r) (hb:Dx r) (je:r≠[]) {fin:Bool} {A:List Ar} (hf:fin=Eo r) (hA:CV R D.length (grp r) A) :
  ∃ R',G8 (addN fin A D).2 R'∧R <+: R'∧R'[(addN fin A D).1]? = some r:=by
 unfold addN;by_cases hk:D.findIdx (fun x=>decide (BJ x.fin x.arcs=BJ fin A))<D.length
 ·rw [if_pos hk];refine ⟨R,h,List.prefix_refl _,?_⟩;have ja:D.findIdx (fun x=>decide (BJ x.fin x.arcs=BJ fin A))<R.length:=by rw [h.len];exact hk
  have h1:=List.findIdx_getElem (w:=hk);obtain ⟨h2,h3⟩:=h.nd _ hk ja;obtain ⟨h4,h5⟩:=P7 (fun x hx=>(h3.mem x hx).1) (fun x hx=>(hA.mem x hx).1) (of_decide_eq_true h1);rw [h5] at h3;have h6:=h3.groups hA;obtain ⟨o1,o2,_⟩:=h.ok _ (AG ja);rw [AA ja];exact congrArg some (Nq o1 o2 hs hb (by rw [← h2,h4,hf]) h6)
 ·rw [if_neg hk];have jf:r ∉ R:=fun hr=>by
   obtain ⟨k,ja,he⟩:=List.getElem_of_mem hr;have jc:k<D.length:=by rw [← h.len];exact ja
   obtain ⟨h2,h3⟩:=h.nd k jc ja;rw [he] at h2 h3;have h4:=h3.inj h.nodup hA;apply hk;refine List.findIdx_lt_length_of_exists ⟨D[k],AG jc,?_⟩;simp [h2,h4,hf]
  have jb:R <+: R ++ [r]:=List.prefix_append _ _;refine ⟨R ++ [r],⟨by simp [h.len],?_,fun x hx=>?_,fun k jd hk2=>?_⟩,jb,?_⟩
  ·rw [List.nodup_append];exact ⟨h.nodup,by simp,fun a ha b hb e=>by
    obtain rfl:=AD.1 hb;subst e;exact jf ha⟩
  ·rcases AT.1 hx with hx | hx
   · exact h.ok x hx
   · obtain rfl:=AD.1 hx;exact ⟨hs,hb,je⟩
  ·by_cases jc:k<D.length
   ·have ja:k<R.length:=by rw [h.len];exact jc
    simp only [List.getElem_append_left jc,List.getElem_append_left ja];obtain ⟨h2,h3⟩:=h.nd k jc ja;exact ⟨h2,h3.mono jb (A3 _)⟩
   ·obtain rfl:k=D.length:=by simp at jd;omega
    have e1:(D ++ [(⟨fin,A⟩:Nd)])[D.length]=⟨fin,A⟩:=by simp
    have e2:(R ++ [r])[D.length]=r:=by simp [← h.len]
    rw [e1,e2];exact ⟨hf,hA.mono jb (A3 _)⟩
  · rw [← h.len];simp
def Aj (d:Nat) (L:List ByteArray):Rst:=L.map fun s=>s.data.toList.drop d
def Dy (L:List ByteArray):Prop:=∀ s∈L,∀ b∈s.data.toList,33≤UInt8.toNat b∧UInt8.toNat b<127
theorem Ep {d:Nat} {L:List ByteArray} (ja:∀ x∈L,∀ y∈L,x.data.toList.take d=y.data.toList.take d) (jb:L.Pairwise fun x y=>ltS x y=true):C8 (Aj d L):=by
 unfold C8 Aj;rw [AR];refine List.Pairwise.imp_of_mem ?_ jb;intro a b ha hb jc;rw [ltS,ByteArray.toList_eq,ByteArray.toList_eq,← List.take_append_drop d a.data.toList,← List.take_append_drop d b.data.toList,ja a ha b hb,Kz] at jc;exact jc
theorem ER {d:Nat} {L:List ByteArray} (h:Dy L):Dx (Aj d L):=fun s hs b hb=>by
 obtain ⟨x,hx,rfl⟩:=AH.1 hs;exact h x hx b (List.mem_of_mem_drop hb)
theorem FC {s:ByteArray} {d:Nat} (h:d<s.size):∃ b:UInt8,s.data.toList.drop d=b :: s.data.toList.drop (d+1)∧Ap s d=(b.toNat:Int):=by
 have h2:d<s.data.toList.length:=by simpa using h
 refine ⟨s.data.toList[d],AE h2,?_⟩;unfold Ap;rw [AO,AA h2];rfl
theorem tw_rest {d:Nat} {b:UInt8}:∀ {L:List ByteArray},(∀ x∈L,d<x.size)→((Aj d L).takeWhile fun s=>s.head? == some b)=Aj d (L.take (DW d L (b.toNat:Int)))∧((Aj d L).dropWhile fun s=>s.head? == some b)=Aj d (L.drop (DW d L (b.toNat:Int)))
 | [],_=>⟨rfl,rfl⟩
 | x
   :: r,h=>by
  obtain ⟨y,e1,e2⟩:=FC (h x (by simp));obtain ⟨i1,i2⟩:=tw_rest (d:=d) (b:=b) (L:=r) fun z hz=>h z (List.mem_cons_of_mem _ hz);unfold Aj DW at *;rw [List.map_cons,List.takeWhile_cons,List.dropWhile_cons,List.takeWhile_cons,e1];by_cases e:y=b
  ·subst e;have:Ap x d=(y.toNat:Int):=e2;simp only [List.head?_cons,beq_self_eq_true,if_true,this,decide_true,List.length_cons,List.take_succ_cons,List.drop_succ_cons,List.map_cons,e1];exact ⟨by rw [i1],i2⟩
  ·have jb:((y :: List.drop (d+1) x.data.toList).head? == some b)=false:=by simpa using e
   have ja:decide (Ap x d=(b.toNat:Int))=false:=by
    rw [e2];refine decide_eq_false fun h=>e (UInt8.toNat_inj.1 (by omega))
   rw [jb,ja];simp [e1]
theorem Nr {d:Nat} {L:List ByteArray}:(Aj d L).map List.tail=Aj (d+1) L:=by
 unfold Aj;rw [List.map_map];refine List.map_congr_left fun s _=>?_;simp
theorem JO {rec:List ByteArray→List Nd→Nat × List Nd} {d m:Nat} (hr:∀ L D R,Pre (d+1) m L→Dy L→G8 D R→∃ R',G8 (rec L D).2 R'∧R <+: R'∧R'[(rec L D).1]? = some (Aj (d+1) L)) :
  ∀ n lo k L A D R G0,L.length≤n→Rest d (m+1) L→Dy L→Dq lo k (Aj d L)→G8 D R→CV R D.length G0 A→lo+k≤256 →
  ∃ R',G8 (Cb rec d n L A D).2 R'∧R <+: R'∧CV R' (Cb rec d n L A D).2.length (G0 ++ FJ lo k (Aj d L)) (Cb rec d n L A D).1
 | 0,lo,k,L,A,D,R,G0,hl,_,_,_,hT,hA,_=>by
  obtain rfl:L=[]:=List.eq_nil_of_length_eq_zero (by omega);rw [Cb];exact ⟨R,hT,List.prefix_refl _,by show CV R D.length (G0 ++ FJ lo k []) A;rw [G7,List.append_nil];exact hA⟩
 | n+1,lo,k,[],A,D,R,G0,hl,_,_,_,hT,hA,_=>by
  rw [Cb];exact ⟨R,hT,List.prefix_refl _,by show CV R D.length (G0 ++ FJ lo k []) A;rw [G7,List.append_nil];exact hA⟩
 | n
   + 1,lo,k,x :: r,A,D,R,G0,hl,hR,hB,hH,hT,hA,hk=>by
  rw [Cb];obtain ⟨b,e1,e2⟩:=FC (hR.gt x (by simp));have hs:=Ep hR.same hR.inc;obtain ⟨t1,t2⟩:=tw_rest (b:=b) hR.gt;rw [← e2] at t1 t2;obtain ⟨g,hg⟩:∃ g,DW d (x :: r) (Ap x d)=g:=⟨_,rfl⟩
  have jm:=G6 (d:=d) (x:=x) (r:=r);have ja:=hR.group;rw [hg] at t1 t2 jm ja ⊢;have jk:Dy ((x :: r).take g):=fun s hs=>hB s (List.mem_of_mem_take hs);have jj:Dy ((x :: r).drop g):=fun s hs=>hB s (List.mem_of_mem_drop hs);obtain ⟨R1,jb,jd,jh⟩:=hr _ D R ja jk hT;have hL:Aj d (x :: r)=(b :: x.data.toList.drop (d+1)) :: Aj d r:=by unfold Aj;rw [List.map_cons,e1]
  have jg:=JK (lo:=lo) (n:=k) (b:=b) (t:=x.data.toList.drop (d+1)) (r:=Aj d r) (by rw [← hL];exact hs) (by rw [← hL];exact hH);have jf:=I2 (lo:=lo) (n:=k) (b:=b) (t:=x.data.toList.drop (d+1)) (r:=Aj d r) (by rw [← hL];exact hs) (by rw [← hL];exact hH);rw [← hL,t2] at jf;rw [← hL,t1,t2,Nr] at jg;have jo:(rec ((x :: r).take g) D).1<(rec ((x :: r).take g) D).2.length:=by
   rw [← jb.len];exact (List.getElem?_eq_some_iff.1 jh).1
  have jc:b.toNat<256:=b.toNat_lt;have jn:D.length≤(rec ((x :: r).take g) D).2.length:=by
   rw [← jb.len,← hT.len];exact jd.length_le
  have je:=(hA.mono jd jn).snoc jc jo jh;rw [← e2] at je;have hlo:b.toNat+1≤lo+k:=by
   obtain ⟨b',t',e,h3,h4⟩:=hH (b :: x.data.toList.drop (d+1)) (by rw [hL];simp);injection e with e _;subst e;omega
  obtain ⟨R2,jl,jp,ji⟩:=JO hr n (b.toNat+1) (lo+k - (b.toNat+1)) ((x :: r).drop g) _ _ R1 _ (by rw [List.length_drop];simp at hl ⊢;omega) (hR.drop g) jj jf jb je (by omega);refine ⟨R2,jl,jd.trans jp,?_⟩;rw [jg,List.append_cons G0];exact ji
theorem nodeW_tab:∀ m d L D R,Pre d m L→Dy L→G8 D R→∃ R',G8 (nodeW m d L D).2 R'∧R <+: R'∧R'[(nodeW m d L D).1]? = some (Aj d L)
 | 0,d,L,D,R,hP,_,_=>by
  exfalso;obtain ⟨x,hx⟩:=List.exists_mem_of_ne_nil _ hP.ne;have:=hP.ge x hx;have:=hP.lt x hx;omega
 | m
   +
    1,d,L,D,R,hP,hB,hT=>by
  rw [nodeW];have ja:=hP.rest;have jc:∀ s∈BT d L,s∈L:=fun s hs=>by
   unfold BT at hs;split at hs
   · exact List.mem_of_mem_tail hs
   · exact hs
  have je:Dy (BT d L):=fun s hs=>hB s (jc s hs);have hH:Dq 33 94 (Aj d (BT d L)):=fun s hs=>by
   obtain ⟨x,hx,rfl⟩:=AH.1 hs;obtain ⟨b,e1,_⟩:=FC (ja.gt x hx);have:=ER (d:=d) je _ hs b (by rw [e1];simp);exact ⟨b,_,e1,this.1,this.2⟩
  obtain ⟨R1,jf,jj,jd⟩:=JO (rec:=nodeW m (d+1)) (d:=d) (m:=m) (fun L D R h1 h2 h3=>nodeW_tab m (d+1) L D R h1 h2 h3) (BT d L).length 33 94 (BT d L) [] D R [] (A3 _) ja je hH hT .nil (by omega);have hs:=Ep hP.same hP.inc;have jh:=ER (d:=d) hB;have jb:Kw d L=Eo (Aj d L)∧grp (Aj d L)=FJ 33 94 (Aj d (BT d L)):=by
   cases hL:L with
   | nil=>exact absurd hL hP.ne
   | cons x r =>
    have hxge:=hP.ge x (by rw [hL];simp);unfold BT Kw;by_cases e:x.size=d
    ·have e0:x.data.toList.drop d=[]:=List.drop_of_length_le (by simp;omega);have e1:Aj d (x :: r)=[] :: Aj d r:=by unfold Aj;rw [List.map_cons,e0]
     rw [if_pos (by simpa using e),e1];exact ⟨by simpa [Eo] using e,rfl⟩
    ·obtain ⟨b,e1,_⟩:=FC (s:=x) (d:=d) (by omega);have e2:Aj d (x :: r)=(b :: x.data.toList.drop (d+1)) :: Aj d r:=by unfold Aj;rw [List.map_cons,e1]
     rw [if_neg (by simpa using e)];exact ⟨by rw [e2];simpa [Eo] using e,rfl⟩
  rw [List.nil_append,← jb.2] at jd;obtain ⟨R2,jg,jk,ji⟩:=addN_tab jf hs jh (fun h=>hP.ne (List.map_eq_nil_iff.1 h)) jb.1 jd;exact ⟨R2,jg,jj.trans jk,ji⟩
end Go.Proofs.YtpljngaejaehcaaGreatDoor
