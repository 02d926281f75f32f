/- Texts that the claims share: DStr, DDict, DNodes, DRow, DAfter, DIns, DBuild, DCont. -/
import Derived.Deep.RegionHeld3
import Derived.Deep.DeepCutAuto
import Derived.Laws.Cover1
import Derived.Test.YthjmdgejnakcmaaGreatDoorChecked
import Derived.Deep.QuietTactic
import Derived.BigQuiet
import Derived.Laws.StructEq
import Derived.Maps.AppendAt
import Derived.Laws.AppendOwn
import Derived.Laws.OwnMore
import Derived.Shelf.Strings.BuilderF
import Derived.Lib.FrozenHead2
import Derived.Lib.AppendIntMem
import Derived.Test.YthjmdgejnakcmaaGreatDoorMA1
set_option maxHeartbeats 3200000
set_option maxRecDepth 100000
set_option linter.unusedVariables false
set_option linter.unusedSimpArgs false
namespace Go.Proofs.YthjmdgejnakcmaaGreatDoor
open Go.RowKit
def BP (c:Int):Int:=if 97≤c∧c≤122 then 1 else if 65≤c∧c≤90 then 2 else if 48≤c∧c≤57 then 3 else 0
def FY (l:List UInt8):Bool:=l.all fun c=>!(BP (c.toNat:Int) == 0)
def DO (s:ByteArray):Bool:=FY s.data.toList
def DC (s:ByteArray):Bool:=decide (1≤s.size) && (decide (s.size≤20) && DO s)
theorem IF (s:ByteArray) (k:Nat) (h:k<s.size):s.data.toList.take (k+1)=s.data.toList.take k ++ [s[k]]:=by
 rw [AZ (by simpa using h)];rfl
theorem ET (s:ByteArray) (k:Nat) (h:¬ k<s.size):s.data.toList.take k=s.data.toList:=AM (by simp;exact Nat.le_of_not_lt h)
theorem DS {p:UInt8→Bool} (s:ByteArray) (k:Nat) (h:k<s.size) (hp:p s[k]=false):s.data.toList.all p=false:=by
 rw [List.all_eq_false];refine ⟨s[k],?_,by simp [hp]⟩;show s.data[k]∈s.data.toList;simp
theorem EU {p:UInt8→Bool} (s:ByteArray) (k:Nat) (h:k<s.size) (ht:(s.data.toList.take k).all p=true) (hp:p s[k]=true):(s.data.toList.take (k+1)).all p=true:=by
 rw [IF s k h,List.all_append,ht];simp [hp]
theorem Dj (c:Int) (w:World) (h0:0≤c) (h1:c≤255) :
  Calls Tryz.prog 103 #[.int .u8 c] w fun e w'=>e=.returned (.int .i64 (BP c))∧w=w':=by
 rcases (show (97≤c∧c≤122)∨(65≤c∧c≤90)∨(48≤c∧c≤57)∨c<48∨(57<c∧c<65)∨(90<c∧c<97)∨122<c from by omega) with h | h | h | h | h | h | h
 all_goals
  go_enter Tryz.func103,Tryz.ntmps103
  go_wp2;go_ret;refine ⟨BY ?_,rfl⟩;unfold BP;omega
theorem allKnown_any (s:ByteArray) (w:World) (hs:s.size≤9223372036854775807) :
  Calls Tryz.prog 104 #[.string s] w fun e w'=>e=.returned (.bool (DO s))∧w=w':=by
 go_enter Tryz.func104,Tryz.ntmps104
 go_wp2
 go_loop [6] (fun i=>∃ k:Nat,k≤s.size∧i=.int .i64 k∧FY (s.data.toList.take k)=true) (fun i=>s.size - (intOf i).toNat)
 case atStart=>exact ⟨0,Nat.zero_le _,rfl,rfl⟩
 case round =>
  obtain ⟨k,hk,rfl,ht⟩:=hrel;have HT:=A6 ht;clear ht;by_cases ja:k<s.size
  ·have b0:(0:Int)≤(s[k].toNat:Int):=by omega
   have b1:(s[k].toNat:Int)≤255:=by have:=s[k].toNat_lt;omega
   by_cases hc:BP (s[k].toNat:Int)=0
   ·have jb:(BP (s[k].toNat:Int) == 0)=true:=by rw [hc];rfl
    have HC:Hid ((!(BP (s[k].toNat:Int) == 0))=false):=by show _=false;rw [hc];rfl
    clear hc
    go_wp2_with (go_at_call 103;refine (Dj _ _ b0 b1).mono ?_;rintro e w' ⟨rfl,rfl⟩)
    go_ret;exact ⟨Au (DS s k ja HC.out).symm,rfl⟩
   ·have jb:(BP (s[k].toNat:Int) == 0)=false:=by simpa using hc
    have HC:Hid ((!(BP (s[k].toNat:Int) == 0))=true):=by show _=true;simpa using hc
    clear hc
    go_wp2_with (go_at_call 103;refine (Dj _ _ b0 b1).mono ?_;rintro e w' ⟨rfl,rfl⟩)
    go_round
    case rel=>exact ⟨k+1,by omega,by go_num,EU s k ja HT.out HC.out⟩
    case measure=>simp [intOf];omega
  ·have HA:=A6 (ET s k ja);go_wp2;go_ret;exact ⟨Au (by rw [DO,← HA.out];exact HT.out.symm),rfl⟩
def inB (a b c:Int):Bool:=decide (b≤a) && decide (a≤c)
theorem Hj {a b c:Int} (h:b≤a) (h2:a≤c):inB a b c=true:=by simp [inB,h,h2]
theorem Gj {a b c:Int} (h:¬ (b≤a∧a≤c)):inB a b c=false:=by
 unfold inB;rw [Bool.and_eq_false_iff];simp;omega
theorem Fe (a b c:Int) (w:World):Calls Tryz.prog 80 #[.int .i64 a,.int .i64 b,.int .i64 c] w fun e w'=>e=.returned (.bool (inB a b c))∧w'=w:=by
 by_cases h:b≤a
 ·by_cases h2:a≤c
  ·have H:=A6 (Hj h h2)
   go_enter Tryz.func80,Tryz.ntmps80
   go_wp2;go_ret;exact ⟨Au (by rw [H.out];try (simp [h2])),rfl⟩
  ·have H:=A6 (Gj (a:=a) (b:=b) (c:=c) (by omega))
   go_enter Tryz.func80,Tryz.ntmps80
   go_wp2;go_ret;exact ⟨Au (by rw [H.out];try (simp;omega)),rfl⟩
 ·have H:=A6 (Gj (a:=a) (b:=b) (c:=c) (by omega))
  go_enter Tryz.func80,Tryz.ntmps80
  go_wp2;go_ret;exact ⟨Au (by rw [H.out];try (simp;omega)),rfl⟩
theorem Ff {c:Int}:(BP c == 0)=(!(decide (97≤c) && decide (c≤122)) && (!(decide (65≤c) && decide (c≤90)) && !(decide (48≤c) && decide (c≤57)))):=by
 unfold BP;by_cases h:97≤c∧c≤122
 · simp [h]
 ·by_cases h2:65≤c∧c≤90
  · rw [if_neg h,if_pos h2];simp [h2]
  ·by_cases h3:48≤c∧c≤57
   · rw [if_neg h,if_neg h2,if_pos h3];simp [h3]
   · rw [if_neg h,if_neg h2,if_neg h3];simp;omega
theorem plain_any (s:ByteArray) (w:World) (hs:s.size≤9223372036854775807) :
  Calls Tryz.prog 82 #[.string s] w fun e w'=>e=.returned (.bool (DO s))∧w=w':=by
 go_enter Tryz.func82,Tryz.ntmps82
 go_wp2
 go_loop [3] (fun i=>∃ k:Nat,k≤s.size∧i=.int .i64 k∧FY (s.data.toList.take k)=true) (fun i=>s.size - (intOf i).toNat)
 case atStart=>exact ⟨0,Nat.zero_le _,rfl,rfl⟩
 case round
       =>
  obtain ⟨k,hk,rfl,ht⟩:=hrel;have HT:=A6 ht;clear ht;by_cases ja:k<s.size
  ·have
      b0:(0:Int)≤(s[k].toNat:Int):=by omega
   have b1:(s[k].toNat:Int)≤255:=by have:=s[k].toNat_lt;omega
   rcases (show ((97:Int)≤(s[k].toNat:Int)∧(s[k].toNat:Int)≤122)∨((65:Int)≤(s[k].toNat:Int)∧(s[k].toNat:Int)≤90)∨((48:Int)≤(s[k].toNat:Int)∧(s[k].toNat:Int)≤57)∨((122:Int)<(s[k].toNat:Int))∨((90:Int)<(s[k].toNat:Int)∧(s[k].toNat:Int)<97)∨((57:Int)<(s[k].toNat:Int)∧(s[k].toNat:Int)<65)∨((s[k].toNat:Int)<48) by omega) with h | h | h | h | h | h | h
   all_goals first
    | (
      have HC:Hid ((!(BP (s[k].toNat:Int) == 0))=true):=by
       show _=true;rw [Ff];simp;omega
      go_wp2
      go_round
      case rel=>exact ⟨k+1,by omega,by go_num,EU s k ja HT.out HC.out⟩
      case measure=>simp [intOf];omega)
    | (
      have HC:Hid ((!(BP (s[k].toNat:Int) == 0))=false):=by
       show _=false;rw [Ff];simp;omega
      go_wp2;go_ret;exact ⟨Au (DS s k ja HC.out).symm,rfl⟩)
  ·have HA:=A6 (ET s k ja);go_wp2;go_ret;exact ⟨Au (by rw [DO,← HA.out];exact HT.out.symm),rfl⟩
theorem Hk (s:ByteArray) (w:World) :
  Calls Tryz.prog 76 #[.string s] w fun e w'=>e=.returned (.bool (DC s))∧w=w':=by
 by_cases h1:1≤s.size
 ·by_cases h2:s.size≤20
  ·have i1:(1:Int)≤(s.size:Int):=by omega
   have i2:(s.size:Int)≤20:=by omega
   have H:Hid (DC s=DO s):=by show _=_;simp [DC,h1,h2]
   go_enter Tryz.func76,Tryz.ntmps76
   go_wp2_with (go_at_call 104;refine (allKnown_any _ _ (by omega)).mono ?_;rintro e w' ⟨rfl,rfl⟩)
   go_ret;exact ⟨Au H.out.symm,rfl⟩
  ·have i1:(1:Int)≤(s.size:Int):=by omega
   have i2:¬ (s.size:Int)≤20:=by omega
   have H:Hid (DC s=false):=by show _=_;simp [DC,h1,h2]
   go_enter Tryz.func76,Tryz.ntmps76
   go_wp2;go_ret;exact ⟨Au H.out.symm,rfl⟩
 ·have i1:¬ (1:Int)≤(s.size:Int):=by omega
  have H:Hid (DC s=false):=by show _=_;simp [DC,h1]
  go_enter Tryz.func76,Tryz.ntmps76
  go_wp2;go_ret;exact ⟨Au H.out.symm,rfl⟩
theorem G9 (s:ByteArray) (w:World) :
  Calls Tryz.prog 89 #[.string s] w fun e w'=>e=.returned (.bool (DC s))∧w=w':=by
 obtain ⟨o,ho⟩:∃ o,inB (s.size:Int) 1 20=o:=⟨_,rfl⟩
 have HO:=A6 ho;have ja:(decide (1≤s.size) && decide (s.size≤20))=o:=by
  rw [← ho,inB,show decide ((1:Int)≤(s.size:Int))=decide (1≤s.size) from by rw [decide_eq_decide];omega,show decide ((s.size:Int)≤20)=decide (s.size≤20) from by rw [decide_eq_decide];omega]
 have H:Hid (DC s=(o && DO s)):=by show _=_;rw [DC,← Bool.and_assoc,ja]
 cases o with
 | true =>
  have hs:s.size≤20:=by simp at ja;exact ja.2
  clear ho ja
  go_enter Tryz.func89,Tryz.ntmps89
  go_wp2_with (first
   | (go_at_call 80;refine (Fe _ _ _ _).mono ?_;rintro e w' ⟨he,rfl⟩;rw [HO.out] at he;subst he)
   | (go_at_call 82;refine (plain_any _ _ (by omega)).mono ?_;rintro e w' ⟨rfl,rfl⟩))
  go_ret;exact ⟨Au (by rw [H.out];rfl),rfl⟩
 | false =>
  clear ho ja
  go_enter Tryz.func89,Tryz.ntmps89
  go_wp2_with (first
   | (go_at_call 80;refine (Fe _ _ _ _).mono ?_;rintro e w' ⟨he,rfl⟩;rw [HO.out] at he;subst he)
   | (go_at_call 82;refine (plain_any _ _ (by omega)).mono ?_;rintro e w' ⟨rfl,rfl⟩))
  go_ret;exact ⟨Au (by rw [H.out];rfl),rfl⟩
open Go.RowKit Go.WideShapes
def Bz (w:World) (a:Option Addr) (L:List ByteArray):Prop:=∀ k (hk:k<L.length),∃ b o,a=some ⟨b,o,none⟩∧b<w.heap.size∧w.cell? ⟨b,o+k,none⟩=some (.string L[k])
theorem Bz.at {w:World} {a:Option Addr} {L:List ByteArray} (h:Bz w a L) {k:Nat} (hk:k<L.length):∃ b o,a=some ⟨b,o,none⟩∧b<w.heap.size∧w.cell? ⟨b,o+k,none⟩=some (.string L[k]):=h k hk
theorem Bz.later {w w1:World} {a:Option Addr} {L:List ByteArray} {B:Nat} (h:Bz w a L) (hb:Below B w w1) (hB:w.heap.size≤B):Bz w1 a L:=fun k hk=>by
 obtain ⟨b,o,ha,h1,h2⟩:=h k hk;exact ⟨b,o,ha,by have:=hb.size;omega,(hb.cell (p:=⟨b,o+k,none⟩) (by show b<B;omega)).trans h2⟩
theorem Bz.nil (w:World) (a:Option Addr):Bz w a []:=fun k hk=>by simp at hk
theorem Cy (a:Option Addr) (b o len cap k:Nat) (ha:a=some ⟨b,o,none⟩) (hk:k<len) (w:World) :
  (Instr.indexAt 37 (.slice a len cap) (.int .i64 (k:Int))).run Tryz.prog w=.ok (.pointer (some ⟨b,o+k,none⟩)) w:=by
 subst ha;have h0:(0:Int)≤(k:Int):=by omega
 have h1:(k:Int)<(len:Int):=by omega
 simp [go_sem,h0,h1]
theorem Hl (s t:ByteArray):(s.toList == t.toList)=decide (s=t):=by
 rw [Bool.eq_iff_iff];simp only [beq_iff_eq,decide_eq_true_eq];constructor
 · intro h;rw [ByteArray.toList_eq,ByteArray.toList_eq] at h;exact bytes_inj h
 · rintro rfl;rfl
def J4 (L:List ByteArray) (s:ByteArray):Int:=if L.findIdx (fun x=>decide (x=s))<L.length then (L.findIdx (fun x=>decide (x=s)):Int) else -1
theorem Sq {L:List ByteArray} {s:ByteArray} {k:Nat} (hk:k<L.length) (ja:∀ j (hj:j<L.length),j<k→L[j]≠s) (h:L[k]=s):J4 L s=k:=by
 have:L.findIdx (fun x=>decide (x=s))=k:=(List.findIdx_eq hk).2 ⟨by simp [h],fun j hj=>by simpa using ja j (by omega) hj⟩;rw [J4,this,if_pos hk]
theorem Sr {L:List ByteArray} {s:ByteArray} (ja:∀ j (hj:j<L.length),L[j]≠s):J4 L s = -1:=by
 rw [J4,if_neg];intro h;have:=List.findIdx_getElem (w:=h);simp only [decide_eq_true_eq] at this;exact ja _ h this
theorem rindex_any (L:List ByteArray) (n:Nat) (a:Option Addr) (cap:Nat) (s:ByteArray) (w:World) (hR:Bz w a L) (hL:n=L.length) (hn:n≤9223372036854775807) :
  Calls Tryz.prog 60 #[.slice a n cap,.string s] w fun e w'=>e=.returned (.int .i64 (J4 L s))∧w=w':=by
 subst hL;have HR:=A6 hR;clear hR
 go_enter Tryz.func60,Tryz.ntmps60
 go_wp2
 go_loop [5] (fun i=>∃ k:Nat,k≤L.length∧i=.int .i64 k∧∀ j (hj:j<L.length),j<k→L[j]≠s) (fun i=>L.length - (intOf i).toNat)
 case atStart=>exact ⟨0,Nat.zero_le _,rfl,fun j _ h=>by omega⟩
 case round =>
  obtain ⟨k,hk,rfl,jb⟩:=hrel;have HN:=A6 jb;clear jb;by_cases ja:k<L.length
  ·obtain ⟨b,o,ha,hb,h0⟩:=HR.out.at ja;have hidx:=Cy a b o L.length cap k ha ja;have HA:=A6 ha;clear ha;obtain ⟨x,hx⟩:∃ x,L[k]=x:=⟨_,rfl⟩
   have HX:=A6 hx;rw [hx] at h0;clear hx;by_cases hq:x=s
   ·have HQ:=A6 hq;have jc:(x.toList == s.toList)=true:=by rw [Hl];simp [hq]
    clear hq;go_wp2;go_ret;exact ⟨BY (Sq ja HN.out (HX.out.trans HQ.out)).symm,rfl⟩
   ·have HQ:Hid (¬ x=s):=hq;have jc:(x.toList == s.toList)=false:=by rw [Hl];exact decide_eq_false hq
    clear hq;go_wp2
    go_round
    case rel=>exact ⟨k+1,by omega,by go_num,fun j hj hjk=>by
     by_cases e:j=k
     · subst e;exact fun h=>HQ.out (HX.out.symm.trans h)
     · exact HN.out j hj (by omega)⟩
    case measure=>simp [intOf];omega
  ·have HA:=A6 (Sr (L:=L) (s:=s) fun j hj=>HN.out j hj (by omega));go_wp2;go_ret;exact ⟨BY HA.out.symm,rfl⟩
def Md (s p:ByteArray):Bool:=p.data.toList.isPrefixOf s.data.toList
theorem JS {s p:ByteArray}:Md s p=true↔p.data.toList <+: s.data.toList:=List.isPrefixOf_iff_prefix
theorem Qz {s p:ByteArray} (h:p.size≤s.size):((s.extract 0 p.size).toList == p.toList)=Md s p:=by
 rw [Bool.eq_iff_iff,JS,beq_iff_eq,ByteArray.toList_eq,ByteArray.toList_eq];have e:(s.extract 0 p.size).data.toList=s.data.toList.take p.data.toList.length:=by
  simp [ByteArray.data_extract]
 rw [e,List.prefix_iff_eq_take];exact eq_comm
theorem Pf {s p:ByteArray} (h:¬ p.size≤s.size):Md s p=false:=by
 rw [← Bool.not_eq_true,JS];intro h2;have:=h2.length_le;simp at this;exact h (by simpa using this)
theorem R3 (s p:ByteArray) (w:World) (hs:s.size≤9223372036854775807) :
  Calls Tryz.prog 73 #[.string s,.string p] w fun e w'=>e=.returned (.bool (Md s p))∧w=w':=by
 by_cases h:p.size≤s.size
 ·have h1:(p.size:Int)≤(s.size:Int):=by omega
  have HB:=A6 (Qz h)
  go_enter Tryz.func73,Tryz.ntmps73
  go_wp2;go_ret;exact ⟨Au (by rw [← HB.out]),rfl⟩
 ·have h1:¬ (p.size:Int)≤(s.size:Int):=by omega
  have HB:=A6 (Pf h)
  go_enter Tryz.func73,Tryz.ntmps73
  go_wp2;go_ret;exact ⟨Au HB.out.symm,rfl⟩
theorem Es (s p:ByteArray) (w:World) (hs:s.size≤9223372036854775807) :
  Calls Tryz.prog 43 #[.string s,.string p] w fun e w'=>e=.returned (.bool (Md s p))∧w=w':=by
 go_enter Tryz.func43,Tryz.ntmps43
 go_wp2_with (go_at_call 73;refine (R3 _ _ _ hs).mono ?_;rintro e w' ⟨rfl,rfl⟩)
 go_ret;exact ⟨rfl,rfl⟩
theorem R4 {L M:List ByteArray} {k:Nat} (hl:L.length=M.length) (hk:¬ k<L.length) (h:L.take k=M.take k):L=M:=by
 rwa [AM (by omega),AM (by omega)] at h
theorem sameWords_any (L M:List ByteArray) (n m:Nat) (a b:Option Addr) (c d:Nat) (w:World) (hR:Bz w a L) (hQ:Bz w b M) (hL:n=L.length) (hM:m=M.length) (hn:n≤9223372036854775807) (hm:m≤9223372036854775807) :
  Calls Tryz.prog 111 #[.slice a n c,.slice b m d] w fun e w'=>e=.returned (.bool (decide (L=M)))∧Below w.heap.size w w':=by
 subst hL hM;have HR:=A6 hR;have HQ:=A6 hQ;clear hR hQ;by_cases hl:L.length=M.length
 ·have jh:((L.length:Int) != (M.length:Int))=false:=by simp [hl]
  have HL:=A6 hl;clear hl
  go_enter Tryz.func111,Tryz.ntmps111
  go_wp2
  go_loopw [5] (fun i wr=>∃ k:Nat,k≤L.length∧i=.int .i64 k∧L.take k=M.take k∧Below w.heap.size w wr) (fun i _=>L.length - (intOf i).toNat)
  case atStart=>exact ⟨0,Nat.zero_le _,rfl,rfl,Below.refl _ _⟩
  case round =>
   obtain ⟨k,hk,rfl,ht,hB⟩:=hrel;have HT:=A6 ht;clear ht;by_cases jb:k<L.length
   ·have ja:k<M.length:=by have:=HL.out;omega
    obtain ⟨b1,o1,jc,hb1,h1⟩:=(HR.out.later hB (A7 _)).at jb;obtain ⟨b2,o2,jd,hb2,h2⟩:=(HQ.out.later hB (A7 _)).at ja;have hi1:=Cy a b1 o1 L.length c k jc jb;have hi2:=Cy b b2 o2 M.length d k jd ja;have HA:=A6 jc;have HA2:=A6 jd;clear jc jd;have je:=A6 (AZ jb);have jf:=A6 (AZ ja);obtain ⟨x,hx⟩:∃ x,L[k]=x:=⟨_,rfl⟩
    obtain ⟨y,hy⟩:∃ y,M[k]=y:=⟨_,rfl⟩
    have HX:=A6 hx;have HY:=A6 hy;rw [hx] at h1 je;rw [hy] at h2 jf;clear hx hy;by_cases hq:x=y
    ·have HN:Hid (L.take (k+1)=M.take (k+1)):=by show _=_;rw [je.out,jf.out,HT.out,hq]
     have jg:(x.toList == y.toList)=true:=by rw [Hl];simp [hq]
     clear hq;go_wp2
     go_quiet (fail)
     go_wp2
     go_roundw
     case rel=>exact ⟨k+1,by omega,by go_num,HN.out,below_drewN hB _⟩
     case measure=>simp [intOf];omega
    ·have HN:Hid (decide (L=M)=false):=decide_eq_false fun h=>hq (by have:=HX.out;have:=HY.out;subst h;simp_all);have jg:(x.toList == y.toList)=false:=by rw [Hl];exact decide_eq_false hq
     clear hq;go_wp2
     go_quiet (fail)
     go_wp2;go_ret;exact ⟨Au HN.out.symm,below_drewN hB _⟩
   ·have HN:Hid (decide (L=M)=true):=decide_eq_true (R4 HL.out jb HT.out);go_wp2;go_ret;exact ⟨Au HN.out.symm,hB⟩
 ·have HN:Hid (decide (L=M)=false):=decide_eq_false fun h=>hl (by rw [h]);have jh:((L.length:Int) != (M.length:Int))=true:=by simp;omega
  clear hl
  go_enter Tryz.func111,Tryz.ntmps111
  go_wp2;go_ret;exact ⟨Au HN.out.symm,by go_grown⟩
def ltS (s t:ByteArray):Bool:=Op.bytesLess s.toList t.toList
def Et (L:List ByteArray) (k:Nat):Prop:=∀ i (h:i<L.length),i<k→DC L[i]=true∧(0<i→ltS (L[i - 1]'(by omega)) L[i]=true)
def Cz (L:List ByteArray):Prop:=1≤L.length∧L.length≤200∧Et L L.length
noncomputable def En (L:List ByteArray):Bool:=@decide (Cz L) (Classical.propDecidable _)
theorem GA {L:List ByteArray} (h:Cz L):En L=true:=@decide_eq_true _ (Classical.propDecidable _) h
theorem Db {L:List ByteArray} (h:¬ Cz L):En L=false:=@decide_eq_false _ (Classical.propDecidable _) h
theorem Et.step {L:List ByteArray} {k:Nat} (h:Et L k) (hk:k<L.length) (h1:DC L[k]=true) (h2:0<k→ltS (L[k - 1]'(by omega)) L[k]=true):Et L (k+1):=by
 intro i hi hik;by_cases e:i=k
 · subst e;exact ⟨h1,h2⟩
 · exact h i hi (by omega)
theorem Gk:∀ a b:List UInt8,(Op.bytesLess a b || a == b)=!(Op.bytesLess b a)
 | [],[]=>by simp [Op.bytesLess]
 | [],_ :: _=>by simp [Op.bytesLess]
 | _ :: _,[]=>by simp [Op.bytesLess]
 | x
   :: xs,y :: ys=>by
  have ih:=Gk xs ys;have e1:∀ u v:UInt8,(u<v)=(u.toNat<v.toNat):=fun u v=>by rw [UInt8.lt_iff_toNat_lt]
  simp only [Op.bytesLess];rcases Nat.lt_trichotomy x.toNat y.toNat with h | h | h
  ·have h1:x<y:=by rw [e1];exact h
   have h2:¬ y<x:=by rw [e1];omega
   have h3:¬ y=x:=by rintro rfl;omega
   simp [h1,h2,h3]
  ·have h3:x=y:=UInt8.toNat_inj.1 h;subst h3;have h1:¬ x<x:=by rw [e1];omega
   simpa [h1] using ih
  ·have h1:y<x:=by rw [e1];exact h
   have h2:¬ x<y:=by rw [e1];omega
   have h3:¬ x=y:=by rintro rfl;omega
   simp [h1,h2,h3]
theorem Pg (s t:ByteArray):(ltS s t || s.toList == t.toList)=!(ltS t s):=Gk _ _
theorem dictionary_any (L:List ByteArray) (n:Nat) (a:Option Addr) (cap:Nat) (w:World) (hR:Bz w a L) (hL:n=L.length) (hn:n≤9223372036854775807) :
  Calls Tryz.prog 46 #[.slice a n cap] w fun e w'=>e=.returned (.bool (En L))∧w=w':=by
 subst hL;have HR:=A6 hR;clear hR;by_cases h1:1≤L.length
 ·have i1
      :
       ¬
        (L.length:Int)<1:=by omega
  by_cases h2:L.length≤200
  ·have i2
       :
        ¬
         (200:Int)<(L.length:Int):=by omega
   go_enter Tryz.func46,Tryz.ntmps46
   go_wp2
   go_loop [15] (fun i=>∃ k:Nat,k≤L.length∧i=.int .i64 k∧Et L k) (fun i=>L.length - (intOf i).toNat)
   case atStart=>exact ⟨0,Nat.zero_le _,rfl,fun i _ h=>by omega⟩
   case round =>
    obtain ⟨k,hk,rfl,hg⟩:=hrel;have HG:=A6 hg;clear hg;by_cases ja:k<L.length
    ·obtain ⟨
         b,o,ha,hb,h0⟩:=HR.out.at ja
     have hidx:=Cy a b o L.length cap k ha ja;obtain ⟨x,hx⟩:∃ x,L[k]=x:=⟨_,rfl⟩
     have HX:=A6 hx;rw [hx] at h0;clear hx;obtain ⟨q,hq⟩:∃ q,DC x=q:=⟨_,rfl⟩
     have HQ:=A6 hq;clear hq;cases q with
     | false =>
      have HN:Hid (En L=false):=Db fun h=>by
       have:=(h.2.2 k ja ja).1;rw [HX.out,HQ.out] at this;cases this
      clear ha
      go_wp2_with (go_at_call 76;refine (Hk _ _).mono ?_;rintro e w' ⟨he,rfl⟩;rw [HQ.out] at he;subst he)
      go_ret;exact ⟨Au HN.out.symm,rfl⟩
     | true =>
      by_cases jf:k=0
      ·have je:¬ (0:Int)<(k:Int):=by omega
       have HS:Hid (Et L (k+1)):=HG.out.step ja (by rw [HX.out];exact HQ.out) (fun h=>by omega);clear ha jf
       go_wp2_with (go_at_call 76;refine (Hk _ _).mono ?_;rintro e w' ⟨he,rfl⟩;rw [HQ.out] at he;subst he)
       go_round
       case rel=>exact ⟨k+1,by omega,by go_num,HS.out⟩
       case measure=>simp [intOf];omega
      ·have hj:k - 1<L.length:=by omega
       obtain ⟨j,jd⟩:∃ j,k - 1=j:=⟨_,rfl⟩
       obtain ⟨b2,o2,jc,hb2,h2⟩:=HR.out.at hj;obtain ⟨y,hy⟩:∃ y,L[k - 1]=y:=⟨_,rfl⟩
       have HY:=A6 hy;rw [hy] at h2;rw [jd] at h2 hj;have hidx2:=Cy a b2 o2 L.length cap j jc hj;have hw1:IntKind.i64.wrap ((k:Int) - 1)=(j:Int):=by rw [IntWalk.i64_in _ (by omega)];omega
       have je:(0:Int)<(k:Int):=by omega
       clear hy ha jc jd;obtain ⟨q,hq⟩:∃ q,Op.bytesLess y.toList x.toList=q:=⟨_,rfl⟩
       have jb:Hid (ltS y x=q):=hq;cases q with
       | true =>
        have HS:Hid (Et L (k+1)):=HG.out.step ja (by rw [HX.out];exact HQ.out) (fun h=>by rw [HY.out,HX.out];exact jb.out)
        go_wp2_with (go_at_call 76;refine (Hk _ _).mono ?_;rintro e w' ⟨he,rfl⟩;rw [HQ.out] at he;subst he)
        go_round
        case rel=>exact ⟨k+1,by omega,by go_num,HS.out⟩
        case measure=>simp [intOf];omega
       | false =>
        have HN:Hid (En L=false):=Db fun h=>by
         have:=(h.2.2 k ja ja).2 (by omega);rw [HY.out,HX.out,jb.out] at this;cases this
        go_wp2_with (go_at_call 76;refine (Hk _ _).mono ?_;rintro e w' ⟨he,rfl⟩;rw [HQ.out] at he;subst he)
        go_ret;exact ⟨Au HN.out.symm,rfl⟩
    ·have HN:Hid (En L=true):=GA ⟨h1,h2,fun i hi _=>HG.out i hi (by omega)⟩;go_wp2;go_ret;exact ⟨Au HN.out.symm,rfl⟩
  ·have i2:(200:Int)<(L.length:Int):=by omega
   have HN:Hid (En L=false):=Db fun h=>h2 h.2.1
   go_enter Tryz.func46,Tryz.ntmps46
   go_wp2;go_ret;exact ⟨Au HN.out.symm,rfl⟩
 ·have i1:(L.length:Int)<1:=by omega
  have HN:Hid (En L=false):=Db fun h=>h1 h.1
  go_enter Tryz.func46,Tryz.ntmps46
  go_wp2;go_ret;exact ⟨Au HN.out.symm,rfl⟩
theorem rdictionary_any (L:List ByteArray) (n:Nat) (a:Option Addr) (cap:Nat) (w:World) (hR:Bz w a L) (hL:n=L.length) (hn:n≤9223372036854775807) :
  Calls Tryz.prog 58 #[.slice a n cap] w fun e w'=>e=.returned (.bool (En L))∧Below w.heap.size w w':=by
 subst hL;have HR:=A6 hR;clear hR
 go_enter Tryz.func58,Tryz.ntmps58
 go_wp2
 go_loopw [3] (fun i wr=>∃ k:Nat,k≤L.length∧i=.int .i64 k∧Et L k∧Below w.heap.size w wr) (fun i _=>L.length - (intOf i).toNat)
 case atStart=>exact ⟨0,Nat.zero_le _,rfl,fun i _ h=>by omega,Below.refl _ _⟩
 case round =>
  obtain ⟨k,hk,rfl,hg,hB⟩:=hrel;have HG:=A6 hg;have jd:=A6 hB;clear hg;by_cases jf:k<L.length
  ·obtain ⟨
       b,o,ha,hb,h0⟩:=(HR.out.later hB (A7 _)).at jf
   have hidx:=Cy a b o L.length cap k ha jf;obtain ⟨x,hx⟩:∃ x,L[k]=x:=⟨_,rfl⟩
   have HX:=A6 hx;rw [hx] at h0;have jh:=A6 h0;clear hx hB h0;obtain ⟨q,hq⟩:∃ q,DC x=q:=⟨_,rfl⟩
   have HQ:=A6 hq;clear hq;cases q with
   | false =>
    have HN:Hid (En L=false):=Db fun h=>by
     have:=(h.2.2 k jf jf).1;rw [HX.out,HQ.out] at this;cases this
    clear ha
    go_upto_region 4 with fail
    refine B6 (by kernel_rfl) (Vs [vq (.slice a L.length cap),vq (.int .i64 (k:Int)),vq (.pointer (some ⟨b,o+k,none⟩)),vq (.string x),vq (.bool false),vq (.bool true),vq (.bool true),vq (undef),vq (undef),vq (undef),vq (undef),vq (undef),vq (undef),vq (undef),vq (undef),vq (undef),vq (undef),vq (undef),vq (undef),vq (undef),vq (undef),vq (.bool true)]) (fun W=>Below wr.heap.size wr W) 40 (by kernel_rfl) rfl ?hVx ?hSx ?hS (BN ?hop) ?hfin
    case hop =>
     refine ⟨?_,?_,?_,?_,?k4,?_,?_,?_,?_,?_,?_,?_,?_,?_,?_,?_,?_,?_,?_,?_,?_,?_,trivial⟩
     all_goals
      intro A W jc hS jb ja;have x0':=(hS.cell (p:=⟨b,o+k,none⟩) hb).trans jh.out;have h0:A.tmps.getD 0 undef=.slice a L.length cap:=ja 0 (by kernel_rfl);have h3:A.tmps.getD 3 undef=.int .i64 (k:Int):=ja 3 (by kernel_rfl);clear ja;simp [Aq,Region.binds,Vs,vq] at jb
     case k4 =>
      refine Ao rfl (.inr ⟨89,#[.string x],W,by (clear jc hS;simp [go_sem,Act.eval, *]),?_⟩);refine (G9 x W).mono ?_;rintro e w' ⟨he,rfl⟩;rw [HQ.out] at he;exact ⟨_,he,rfl,Ext.refl _⟩
     all_goals first
      | (refine Ao rfl (.inl ⟨_,W,?_,rfl,Ext.refl _⟩);clear jc hS;simp [go_sem,Act.eval, *];done)
      | exact C2 (j:=6) (d:=16) (b:=true) rfl (by kernel_rfl) (by simp only [jb]) rfl rfl
      | exact J3 (j:=9) (d:=19) rfl (by kernel_rfl) (by simp only [jb]) rfl
    case hVx=>exact Av (by simp only [Aj,List.not_mem_nil,or_false,forall_eq_or_imp,forall_eq];and_intros <;> exact An _)
    case hSx=>exact fun W W' h hx=>h.trans (Below.mono hx h.size)
    case hS=>exact Below.refl _ _
    case hfin =>
     intro A W jc je hS hv ja;obtain ⟨x,hx,hA⟩:=Aw [10,11,12,13,14,15,16,17,18,19,20,21,22,23,24,25,26,27,28,29,30,31] (by kernel_rfl) jc je ja;have e31:x 31=.bool true:=(hx 31).trans (hv 21 (by decide));rw [hA];simp only [List.foldl];rw [e31];clear e31;simp only [Act.put,List.setIfInBounds_toArray,List.set_cons_succ,List.set_cons_zero];clear hA hx hv ja jc je;have jg:=A6 (jd.out.trans (hS.mono jd.out.size));clear hS
     go_wp2_with fail
     go_ret;exact ⟨Au HN.out.symm,jg.out⟩
   | true =>
    by_cases jp:k=0
    ·have jr:¬ (0:Int)<(k:Int):=by omega
     have HS:Hid (Et L (k+1)):=HG.out.step jf (by rw [HX.out];exact HQ.out) (fun h=>by omega);have jq:=A6 jp;clear ha jp
     go_upto_region 4 with fail
     refine B6 (by kernel_rfl) (Vs [vq (.slice a L.length cap),vq (.int .i64 (k:Int)),vq (.pointer (some ⟨b,o+k,none⟩)),vq (.string x),vq (.bool true),vq (.bool false),vq (.bool false),vq (.int .i64 (k:Int)),vq (.bool false),vq (.bool false),vq (undef),vq (undef),vq (undef),vq (undef),vq (undef),vq (undef),vq (undef),vq (undef),vq (undef),vq (undef),vq (.bool false),vq (.bool false)]) (fun W=>Below wr.heap.size wr W) 40 (by kernel_rfl) rfl ?hVx ?hSx ?hS (BN ?hop) ?hfin
     case hop =>
      refine ⟨?_,?_,?_,?_,?k4,?_,?_,?_,?k8,?_,?_,?_,?_,?_,?_,?_,?_,?_,?_,?_,?_,?_,trivial⟩
      all_goals
       intro A W jc hS jb ja;have x0':=(hS.cell (p:=⟨b,o+k,none⟩) hb).trans jh.out;have h0:A.tmps.getD 0 undef=.slice a L.length cap:=ja 0 (by kernel_rfl);have h3:A.tmps.getD 3 undef=.int .i64 (k:Int):=ja 3 (by kernel_rfl);clear ja;simp [Aq,Region.binds,Vs,vq] at jb
      case k4 =>
       refine Ao rfl (.inr ⟨89,#[.string x],W,by (clear jc hS;simp [go_sem,Act.eval, *]),?_⟩);refine (G9 x W).mono ?_;rintro e w' ⟨he,rfl⟩;rw [HQ.out] at he;exact ⟨_,he,rfl,Ext.refl _⟩
      case k8 =>
       refine B2 (j:=6) (d:=16) (b:=false) rfl (by kernel_rfl) (by simp only [jb]) rfl (.inl ⟨_,W,?_,rfl,Ext.refl _⟩);clear jc hS;simp [go_sem,Act.eval, *];exact jq.out
      all_goals first
       | (refine Ao rfl (.inl ⟨_,W,?_,rfl,Ext.refl _⟩);clear jc hS;simp [go_sem,Act.eval, *];done)
       | (refine B2 (j:=6) (d:=16) (b:=false) rfl (by kernel_rfl) (by simp only [jb]) rfl (.inl ⟨_,W,?_,rfl,Ext.refl _⟩);clear jc hS;simp [go_sem,Act.eval, *];done)
       | exact C2 (j:=9) (d:=19) (b:=false) rfl (by kernel_rfl) (by simp only [jb]) rfl rfl
     case hVx=>exact Av (by simp only [Aj,List.not_mem_nil,or_false,forall_eq_or_imp,forall_eq];and_intros <;> exact An _)
     case hSx=>exact fun W W' h hx=>h.trans (Below.mono hx h.size)
     case hS=>exact Below.refl _ _
     case hfin =>
      intro A W jc je hS hv ja;obtain ⟨x,hx,hA⟩:=Aw [10,11,12,13,14,15,16,17,18,19,20,21,22,23,24,25,26,27,28,29,30,31] (by kernel_rfl) jc je ja;have e31:x 31=.bool false:=(hx 31).trans (hv 21 (by decide));rw [hA];simp only [List.foldl];rw [e31];clear e31;simp only [Act.put,List.setIfInBounds_toArray,List.set_cons_succ,List.set_cons_zero];clear hA hx hv ja jc je;have jg:=A6 (jd.out.trans (hS.mono jd.out.size));clear hS
      go_wp2_with fail
      go_roundw
      case rel=>exact ⟨k+1,by omega,by go_num,HS.out,jg.out⟩
      case measure=>simp [intOf];omega
    ·have hj:k - 1<L.length:=by omega
     obtain ⟨j,jo⟩:∃ j,k - 1=j:=⟨_,rfl⟩
     obtain ⟨b2,o2,jm,jn,h2⟩:=(HR.out.later jd.out (A7 _)).at hj;obtain ⟨y,hy⟩:∃ y,L[k - 1]=y:=⟨_,rfl⟩
     have HY:=A6 hy;rw [hy] at h2;rw [jo] at h2 hj;have hidx2:=Cy a b2 o2 L.length cap j jm hj;have hw1:IntKind.i64.wrap ((k:Int) - 1)=(j:Int):=by rw [IntWalk.i64_in _ (by omega)];omega
     have jr:(0:Int)<(k:Int):=by omega
     have hkp:0<k:=by omega
     have jl:=A6 h2;clear hy ha jm jo h2;obtain ⟨q,hq⟩:∃ q,ltS y x=q:=⟨_,rfl⟩
     have jk:=A6 hq;have ji:(Op.bytesLess x.toList y.toList || x.toList == y.toList)=!q:=by rw [← hq];exact Pg x y
     clear hq;cases q with
     | true =>
      have HS:Hid (Et L (k+1)):=HG.out.step jf (by rw [HX.out];exact HQ.out) (fun h=>by rw [HY.out,HX.out];exact jk.out);have jj:(Op.bytesLess x.toList y.toList || x.toList == y.toList)=false:=ji;clear ji
      go_upto_region 4 with fail
      refine B6 (by kernel_rfl) (Vs [vq (.slice a L.length cap),vq (.int .i64 (k:Int)),vq (.pointer (some ⟨b,o+k,none⟩)),vq (.string x),vq (.bool true),vq (.bool false),vq (.bool false),vq (.int .i64 (k:Int)),vq (.bool true),vq (.bool true),vq (.slice a L.length cap),vq (.int .i64 (k:Int)),vq (.pointer (some ⟨b,o+k,none⟩)),vq (.string x),vq (.slice a L.length cap),vq (.int .i64 (k:Int)),vq (.int .i64 (j:Int)),vq (.pointer (some ⟨b2,o2+j,none⟩)),vq (.string y),vq (.bool false),vq (.bool false),vq (.bool false)]) (fun W=>Below wr.heap.size wr W) 40 (by kernel_rfl) rfl ?hVx ?hSx ?hS (BN ?hop) ?hfin
      case hop =>
       refine ⟨?_,?_,?_,?_,?k4,?_,?_,?_,?_,?_,?_,?_,?_,?_,?_,?_,?_,?_,?_,?_,?_,?_,trivial⟩
       all_goals
        intro A W jc hS jb ja;have x0':=(hS.cell (p:=⟨b,o+k,none⟩) hb).trans jh.out;have y0':=(hS.cell (p:=⟨b2,o2+j,none⟩) jn).trans jl.out;have h0:A.tmps.getD 0 undef=.slice a L.length cap:=ja 0 (by kernel_rfl);have h3:A.tmps.getD 3 undef=.int .i64 (k:Int):=ja 3 (by kernel_rfl);clear ja;simp [Aq,Region.binds,Vs,vq] at jb
       case k4 =>
        refine Ao rfl (.inr ⟨89,#[.string x],W,by (clear jc hS;simp [go_sem,Act.eval, *]),?_⟩);refine (G9 x W).mono ?_;rintro e w' ⟨he,rfl⟩;rw [HQ.out] at he;exact ⟨_,he,rfl,Ext.refl _⟩
       all_goals first
        | (refine Ao rfl (.inl ⟨_,W,?_,rfl,Ext.refl _⟩);clear jc hS;simp [go_sem,Act.eval, *];done)
        | (refine B2 (j:=6) (d:=16) (b:=false) rfl (by kernel_rfl) (by simp only [jb]) rfl (.inl ⟨_,W,?_,rfl,Ext.refl _⟩);clear jc hS;simp [go_sem,Act.eval, *];done)
        | (refine B2 (j:=9) (d:=19) (b:=true) rfl (by kernel_rfl) (by simp only [jb]) rfl (.inl ⟨_,W,?_,rfl,Ext.refl _⟩);clear jc hS;simp [go_sem,Act.eval, *];done)
      case hVx=>exact Av (by simp only [Aj,List.not_mem_nil,or_false,forall_eq_or_imp,forall_eq];and_intros <;> exact An _)
      case hSx=>exact fun W W' h hx=>h.trans (Below.mono hx h.size)
      case hS=>exact Below.refl _ _
      case hfin =>
       intro A W jc je hS hv ja;obtain ⟨x,hx,hA⟩:=Aw [10,11,12,13,14,15,16,17,18,19,20,21,22,23,24,25,26,27,28,29,30,31] (by kernel_rfl) jc je ja;have e31:x 31=.bool false:=(hx 31).trans (hv 21 (by decide));rw [hA];simp only [List.foldl];rw [e31];clear e31;simp only [Act.put,List.setIfInBounds_toArray,List.set_cons_succ,List.set_cons_zero];clear hA hx hv ja jc je;have jg:=A6 (jd.out.trans (hS.mono jd.out.size));clear hS
       go_wp2_with fail
       go_roundw
       case rel=>exact ⟨k+1,by omega,by go_num,HS.out,jg.out⟩
       case measure=>simp [intOf];omega
     | false =>
      have HN:Hid (En L=false):=Db fun h=>by
       have:=(h.2.2 k jf jf).2 (by omega);rw [HY.out,HX.out,jk.out] at this;cases this
      have jj:(Op.bytesLess x.toList y.toList || x.toList == y.toList)=true:=ji;clear ji
      go_upto_region 4 with fail
      refine B6 (by kernel_rfl) (Vs [vq (.slice a L.length cap),vq (.int .i64 (k:Int)),vq (.pointer (some ⟨b,o+k,none⟩)),vq (.string x),vq (.bool true),vq (.bool false),vq (.bool false),vq (.int .i64 (k:Int)),vq (.bool true),vq (.bool true),vq (.slice a L.length cap),vq (.int .i64 (k:Int)),vq (.pointer (some ⟨b,o+k,none⟩)),vq (.string x),vq (.slice a L.length cap),vq (.int .i64 (k:Int)),vq (.int .i64 (j:Int)),vq (.pointer (some ⟨b2,o2+j,none⟩)),vq (.string y),vq (.bool true),vq (.bool true),vq (.bool true)]) (fun W=>Below wr.heap.size wr W) 40 (by kernel_rfl) rfl ?hVx ?hSx ?hS (BN ?hop) ?hfin
      case hop =>
       refine ⟨?_,?_,?_,?_,?k4,?_,?_,?_,?_,?_,?_,?_,?_,?_,?_,?_,?_,?_,?_,?_,?_,?_,trivial⟩
       all_goals
        intro A W jc hS jb ja;have x0':=(hS.cell (p:=⟨b,o+k,none⟩) hb).trans jh.out;have y0':=(hS.cell (p:=⟨b2,o2+j,none⟩) jn).trans jl.out;have h0:A.tmps.getD 0 undef=.slice a L.length cap:=ja 0 (by kernel_rfl);have h3:A.tmps.getD 3 undef=.int .i64 (k:Int):=ja 3 (by kernel_rfl);clear ja;simp [Aq,Region.binds,Vs,vq] at jb
       case k4 =>
        refine Ao rfl (.inr ⟨89,#[.string x],W,by (clear jc hS;simp [go_sem,Act.eval, *]),?_⟩);refine (G9 x W).mono ?_;rintro e w' ⟨he,rfl⟩;rw [HQ.out] at he;exact ⟨_,he,rfl,Ext.refl _⟩
       all_goals first
        | (refine Ao rfl (.inl ⟨_,W,?_,rfl,Ext.refl _⟩);clear jc hS;simp [go_sem,Act.eval, *];done)
        | (refine B2 (j:=6) (d:=16) (b:=false) rfl (by kernel_rfl) (by simp only [jb]) rfl (.inl ⟨_,W,?_,rfl,Ext.refl _⟩);clear jc hS;simp [go_sem,Act.eval, *];done)
        | (refine B2 (j:=9) (d:=19) (b:=true) rfl (by kernel_rfl) (by simp only [jb]) rfl (.inl ⟨_,W,?_,rfl,Ext.refl _⟩);clear jc hS;simp [go_sem,Act.eval, *];done)
      case hVx=>exact Av (by simp only [Aj,List.not_mem_nil,or_false,forall_eq_or_imp,forall_eq];and_intros <;> exact An _)
      case hSx=>exact fun W W' h hx=>h.trans (Below.mono hx h.size)
      case hS=>exact Below.refl _ _
      case hfin =>
       intro A W jc je hS hv ja;obtain ⟨x,hx,hA⟩:=Aw [10,11,12,13,14,15,16,17,18,19,20,21,22,23,24,25,26,27,28,29,30,31] (by kernel_rfl) jc je ja;have e31:x 31=.bool true:=(hx 31).trans (hv 21 (by decide));rw [hA];simp only [List.foldl];rw [e31];clear e31;simp only [Act.put,List.setIfInBounds_toArray,List.set_cons_succ,List.set_cons_zero];clear hA hx hv ja jc je;have jg:=A6 (jd.out.trans (hS.mono jd.out.size));clear hS
       go_wp2_with fail
       go_ret;exact ⟨Au HN.out.symm,jg.out⟩
  ·obtain ⟨u,hu⟩:∃ u,decide (1≤L.length)=u:=⟨_,rfl⟩
   clear hB;by_cases h1:1≤L.length
   ·have i1:(1:Int)≤(L.length:Int):=by omega
    by_cases h2:L.length≤200
    ·have i2:(L.length:Int)≤200:=by omega
     have HN:Hid (En L=true):=GA ⟨h1,h2,fun i hi _=>HG.out i hi (by omega)⟩;go_wp2;go_ret;exact ⟨Au HN.out.symm,jd.out⟩
    ·have i2:¬ (L.length:Int)≤200:=by omega
     have HN:Hid (En L=false):=Db fun h=>h2 h.2.1;go_wp2;go_ret;exact ⟨Au HN.out.symm,jd.out⟩
   ·have i1:¬ (1:Int)≤(L.length:Int):=by omega
    have HN:Hid (En L=false):=Db fun h=>h1 h.1;go_wp2;go_ret;exact ⟨Au HN.out.symm,jd.out⟩
structure Ar where
 c:Int
 t:Int
deriving DecidableEq,Inhabited
structure Nd where
 fin:Bool
 arcs:List Ar
deriving DecidableEq,Inhabited
def E5 (w:World) (a:Option Addr) (X:List Ar):Prop:=∀ k (hk:k<X.length),∃ b o,a=some ⟨b,o,none⟩∧b<w.heap.size∧w.cell? ⟨b,o+k*2,none⟩=some (.int .u8 X[k].c)∧w.cell? ⟨b,o+k*2+1,none⟩=some (.int .i64 X[k].t)
theorem E5.later {w w1:World} {a:Option Addr} {X:List Ar} {B:Nat} (h:E5 w a X) (hb:Below B w w1) (hB:w.heap.size≤B):E5 w1 a X:=fun k hk=>by
 obtain ⟨b,o,ha,h1,h2,h3⟩:=h k hk;exact ⟨b,o,ha,by have:=hb.size;omega,(hb.cell (p:=⟨b,o+k*2,none⟩) (by show b<B;omega)).trans h2,(hb.cell (p:=⟨b,o+k*2+1,none⟩) (by show b<B;omega)).trans h3⟩
def Cc (w:World) (a:Option Addr) (D:List Nd):Prop:=∀ k (hk:k<D.length),∃ b o,a=some ⟨b,o,none⟩∧b<w.heap.size∧w.cell? ⟨b,o+k*2,none⟩=some (.bool D[k].fin) ∧
 ∃ aa cc,w.cell? ⟨b,o+k*2+1,none⟩=some (.slice aa D[k].arcs.length cc)∧D[k].arcs.length≤9223372036854775807∧E5 w aa D[k].arcs
theorem Cc.later {w w1:World} {a:Option Addr} {D:List Nd} {B:Nat} (h:Cc w a D) (hb:Below B w w1) (hB:w.heap.size≤B):Cc w1 a D:=fun k hk=>by
 obtain ⟨b,o,ha,h1,h2,aa,cc,h3,h4,h5⟩:=h k hk;exact ⟨b,o,ha,by have:=hb.size;omega,(hb.cell (p:=⟨b,o+k*2,none⟩) (by show b<B;omega)).trans h2,aa,cc,(hb.cell (p:=⟨b,o+k*2+1,none⟩) (by show b<B;omega)).trans h3,h4,h5.later hb hB⟩
theorem Cc.nil (w:World) (a:Option Addr):Cc w a []:=fun k hk=>by simp at hk
theorem E5.at {w:World} {a:Option Addr} {X:List Ar} (h:E5 w a X) {k:Nat} (hk:k<X.length):∃ b o,a=some ⟨b,o,none⟩∧b<w.heap.size∧w.cell? ⟨b,o+k*2,none⟩=some (.int .u8 X[k].c)∧w.cell? ⟨b,o+k*2+1,none⟩=some (.int .i64 X[k].t):=h k hk
theorem Cc.at {w:World} {a:Option Addr} {D:List Nd} (h:Cc w a D) {k:Nat} (hk:k<D.length):∃ b o,a=some ⟨b,o,none⟩∧b<w.heap.size∧w.cell? ⟨b,o+k*2,none⟩=some (.bool D[k].fin) ∧
 ∃ aa cc,w.cell? ⟨b,o+k*2+1,none⟩=some (.slice aa D[k].arcs.length cc)∧D[k].arcs.length≤9223372036854775807∧E5 w aa D[k].arcs:=h k hk
theorem F5 (a:Option Addr) (b o len cap k:Nat) (ha:a=some ⟨b,o,none⟩) (hk:k<len) (w:World) :
  (Instr.indexAt 131 (.slice a len cap) (.int .i64 (k:Int))).run Tryz.prog w=.ok (.pointer (some ⟨b,o+k*2,none⟩)) w:=by
 subst ha;have h0:(0:Int)≤(k:Int):=by omega
 have h1:(k:Int)<(len:Int):=by omega
 simp [go_sem,h0,h1]
theorem GB (a:Option Addr) (b o len cap k:Nat) (ha:a=some ⟨b,o,none⟩) (hk:k<len) (w:World) :
  (Instr.indexAt 35 (.slice a len cap) (.int .i64 (k:Int))).run Tryz.prog w=.ok (.pointer (some ⟨b,o+k*2,none⟩)) w:=by
 subst ha;have h0:(0:Int)≤(k:Int):=by omega
 have h1:(k:Int)<(len:Int):=by omega
 simp [go_sem,h0,h1]
structure Cu (α:Type) where
 sl:TypeId
 e:TypeId
 k:Nat
 bytes:Nat
 z:Value
 enc:α→List Value
structure Cu.Ok {α:Type} (T:Cu α):Prop where
 und:Tryz.prog.underlying T.sl=some (.slice T.e)
 info:(Tryz.prog.info? T.e).map (fun i=>(i.zero,i.size,i.bytes))=some (some T.z,T.k,T.bytes)
 zs:T.z.cells.size=T.k
 k0:0<T.k
 len:∀ x,(T.enc x).length=T.k
 one:∀ x,∀ u∈T.enc x,u.oneCell'=true
 b:T.bytes≤64
section
variable {α:Type} {T:Cu α} {w w1:World} {B C:Nat} {v:Value} {L:List α}
def As (T:Cu α) (w:World) (B:Nat) (v:Value) (L:List α):Prop:=w.ownsRow B T.e T.k v L.length (L.flatMap T.enc)
theorem F6 (h:T.Ok):∀ L:List α,(L.flatMap T.enc).length=L.length*T.k
 | []=>by simp
 | x :: r=>by rw [List.flatMap_cons,AF,F6 h r,h.len,List.length_cons,Nat.add_mul];omega
theorem flat_get (h:T.Ok):∀ {L:List α} {i j:Nat} (hi:i<L.length) (hj:j<T.k),(L.flatMap T.enc)[i*T.k+j]? = (T.enc L[i])[j]?
 | x :: r,0,j,_,hj=>by
  rw [List.flatMap_cons,Nat.zero_mul,Nat.zero_add,AQ (by rw [h.len];omega)];rfl
 | x :: r,i+1,j,hi,hj=>by
  rw [List.flatMap_cons,AR (by rw [h.len,Nat.add_mul];omega)];have:(i+1)*T.k+j - (T.enc x).length=i*T.k+j:=by rw [h.len,Nat.add_mul];omega
  rw [this];exact flat_get h (L:=r) (by simpa using hi) hj
theorem As.nil (T:Cu α) (w:World) (B:Nat):As T w B (.slice none 0 0) []:=⟨by simp,.inl ⟨rfl,rfl⟩⟩
theorem As.empty (T:Cu α) {g:Nat} (h:w.heap[g]? = some (.cells #[] T.e (0,0))) (hB:B≤g):As T w B (.slice (some ⟨g,0,none⟩) 0 0) [] :=
 ⟨by simp,.inr ⟨g,0,#[],rfl,hB,h,A7 _,Nat.zero_le _,by simp,by simp⟩⟩
theorem As.one (h:T.Ok) {g:Nat} {x:α} (hg:w.heap[g]? = some (.cells (T.enc x).toArray T.e (0,0))) (hB:B≤g):As T w B (.slice (some ⟨g,0,none⟩) 1 1) [x] :=
 ⟨by simp [h.len],.inr ⟨g,1,_,rfl,hB,hg,A7 _,by unfold maxLen;omega,by simp [h.len],by simp [h.len];rw [AM (by rw [h.len];exact A7 _)]⟩⟩
theorem As.form (h:As T w B v L):∃ a c,v=.slice a L.length c∧L.length≤c∧c≤maxLen:=by
 rcases h.2 with ⟨rfl,h0⟩ | ⟨g,cap,cur,rfl,h1,h2,h3,h4,_⟩
 · exact ⟨none,0,by rw [h0],by omega,Nat.zero_le _⟩
 · exact ⟨_,cap,rfl,h3,h4⟩
theorem As.blk (h:As T w B v L):(v=.slice none 0 0∧L=[])∨∃ g c,v=.slice (some ⟨g,0,none⟩) L.length c∧B≤g∧g<w.heap.size∧L.length≤c:=by
 rcases h.2 with ⟨rfl,h0⟩ | ⟨g,cap,cur,rfl,h1,h2,h3,h4,_⟩
 · exact .inl ⟨rfl,List.eq_nil_of_length_eq_zero h0⟩
 · exact .inr ⟨g,cap,rfl,h1,(A9.1 h2).1,h3⟩
theorem As.cell (hT:T.Ok) {g n c:Nat} (h:As T w B (.slice (some ⟨g,0,none⟩) n c) L) {i j:Nat} (hi:i<L.length) (hj:j<T.k):w.cell? ⟨g,i*T.k+j,none⟩=(T.enc L[i])[j]?:=by
 have hg:=flat_get hT hi hj;have ja:j<(T.enc L[i]).length:=by rw [hT.len];exact hj
 rw [AE ja] at hg ⊢;have:=World.ownsRow.cells (g:=g) h rfl (i*T.k+j) _ hg;rw [Addr.add_lit] at this;simpa using this
theorem As.keep (h:As T w B v L) (hk:∀ g,v.ownBlock=some g→w1.heap[g]? = w.heap[g]?):As T w1 B v L:=by
 refine ⟨h.1,h.2.imp id ?_⟩;rintro ⟨g,cap,cur,rfl,h1,h2,h3⟩;exact ⟨g,cap,cur,rfl,h1,(hk g rfl).trans h2,h3⟩
theorem As.below (h:As T w B v L) (hb:Below C w w1) (hv:∀ g,v.ownBlock=some g→g<C):As T w1 B v L:=h.keep fun g hg=>hb.block g (hv g hg)
theorem As.ge (h:As T w B v L):∀ g,v.ownBlock=some g→B≤g:=by
 intro g hg;rcases h.2 with ⟨rfl,_⟩ | ⟨g',cap,cur,rfl,h1,h2,h3⟩
 · cases hg
 · cases hg;exact h1
theorem As.lt (h:As T w B v L):∀ g,v.ownBlock=some g→g<w.heap.size:=by
 intro g hg;rcases h.2 with ⟨rfl,_⟩ | ⟨g',cap,cur,rfl,h1,h2,h3⟩
 · cases hg
 · cases hg;exact (A9.1 h2).1
theorem As.later (h:As T w B v L) (hb:Below C w w1) (hC:w.heap.size≤C):As T w1 B v L:=h.below hb fun g hg=>AB (h.lt g hg) hC
theorem As.mono (h:As T w B v L) (hC:C≤B):As T w C v L:=by
 refine ⟨h.1,h.2.imp id ?_⟩;rintro ⟨g,cap,cur,rfl,h1,h2⟩;exact ⟨g,cap,cur,rfl,AC hC h1,h2⟩
theorem As.grown {row:Option Nat} (h:As T w B v L) (hg:w.grownBy w1 row) (hr:∀ q,v.ownBlock=some q→some q≠row):As T w1 B v L:=h.keep fun g hb=>hg.block g (h.lt g hb) (hr g hb)
theorem As.run_append (hT:T.Ok) (h:As T w B v L) (ty:TypeId) (a:Addr) (c:Nat) (news:List α) (hn:∀ j u,(news.flatMap T.enc)[j]? = some u→w.cell? (a.add j)=some u) (hl:L.length+news.length≤1000000000000) (hB:B≤w.heap.size) :
  ∃ v' w',(Builtin.append_ #[T.sl,T.sl] ty #[v,.slice (some a) news.length c]).run Tryz.prog w=.ok v' w'∧As T w' B v' (L ++ news)∧w.grownBy w' v.ownBlock∧(v'.ownBlock=v.ownBlock∨v'.ownBlock=some w.heap.size):=by
 obtain ⟨i0,hi,ja,jb,jc⟩:=info_parts hT.info;have hb:(L.length+news.length)*T.bytes≤1000000000000*64:=Nat.mul_le_mul hl hT.b;obtain ⟨v',w',hr,h1,h2,_,h3⟩:=run_append_own_at (P:=Tryz.prog) w B T.sl ty T.e i0 T.z T.k T.bytes hT.und hi ja jb jc hT.zs hT.k0 v L.length (L.flatMap T.enc) h a news.length c (news.flatMap T.enc) (F6 hT news) hn
  (fun u hu=>by obtain ⟨x,_,h2⟩:=List.mem_flatMap.1 hu;exact hT.one x u h2) (by unfold maxLen;omega) (by omega) hB
 refine ⟨v',w',hr,?_,h2,h3⟩;unfold As;rw [AF,List.flatMap_append];exact h1
theorem B5 (hT:T.Ok) {ops:Array Oper} {rest:List Oper} {o:Oper} {a:Act} {Q:Exit→Act→World→Prop} (jc:o.guard=none) (s x:Operand)
  (ho:o.op=.call { callee:=.builtin .append,args:=#[s,x],argTypes:=#[T.sl,T.sl] }) (hs:a.eval s=v) (ja:As T w B v L) (ad:Addr) (c:Nat) (news:List α) (hx:a.eval x=.slice (some ad) news.length c)
  (hn:∀ j u,(news.flatMap T.enc)[j]? = some u→w.cell? (ad.add j)=some u) (hl:L.length+news.length≤1000000000000) (hB:B≤w.heap.size)
  (h:∀ v' w',As T w' B v' (L ++ news)→w.grownBy w' v.ownBlock→(v'.ownBlock=v.ownBlock∨v'.ownBlock=some w.heap.size)→wpList Tryz.prog ops Q rest (a.put o.dst v') w'):wpList Tryz.prog ops Q (o :: rest) a w:=by
 refine wpList_plain jc fun K' jb=>?_;obtain ⟨v',w',hr,h1,h2,h3⟩:=ja.run_append hT o.type ad c news hn hl hB;unfold Oper.wp;simp only [execOp,ho,resolve,invoke,builtin,Sem.run_bind,Sem.run_pure,Result.andThen_ok,List.map_toArray,List.map_cons,List.map_nil,hs,hx,hr];exact jb _ _ (h v' w' h1 h2 h3)
theorem FP.mono {P:Program} {a:Act} {o:Oper} {w:World} {R S:Value→World→Prop} (h:FP P a o w R) (hs:∀ v w',R v w'→S v w'):FP P a o w S:=by
 rcases h with ⟨v,w',h1,h2⟩ | ⟨f,args,w',h1,h2⟩
 · exact .inl ⟨v,w',h1,hs _ _ h2⟩
 · exact .inr ⟨f,args,w',h1,h2.mono fun e w'' ⟨v,he,hv⟩=>⟨v,he,hs _ _ hv⟩⟩
theorem C4 (hT:T.Ok) {o:Oper} {a:Act} (s x:Operand) (ho:o.op=.call { callee:=.builtin .append,args:=#[s,x],argTypes:=#[T.sl,T.sl] }) (hs:a.eval s=v) (ja:As T w B v L) (ad:Addr) (c:Nat) (news:List α)
  (hx:a.eval x=.slice (some ad) news.length c) (hn:∀ j u,(news.flatMap T.enc)[j]? = some u→w.cell? (ad.add j)=some u) (hl:L.length+news.length≤1000000000000) (hB:B≤w.heap.size) :
  FP Tryz.prog a o w (fun v' w'=>As T w' B v' (L ++ news)∧w.grownBy w' v.ownBlock∧(v'.ownBlock=v.ownBlock∨v'.ownBlock=some w.heap.size)):=by
 obtain ⟨v',w',hr,h1,h2,h3⟩:=ja.run_append hT o.type ad c news hn hl hB;refine .inl ⟨v',w',?_,h1,h2,h3⟩;unfold execOp;simp only [ho,resolve,invoke,builtin,Sem.run_bind,Sem.run_pure,Result.andThen_ok,List.map_toArray,List.map_cons,List.map_nil,hs,hx,hr]
theorem BA {g:Nat} {t:TypeId} {cs:List Value} (h:w.heap[g]? = some (.cells cs.toArray t (0,0))):∀ j u,cs[j]? = some u→w.cell? ((⟨g,0,none⟩:Addr).add j)=some u:=by
 intro j u hj;have hc:=cell_of_row w g j _ _ (0,0) h;have e:(⟨g,0,none⟩:Addr).add j=⟨g,j,none⟩:=by rw [Addr.add_lit,Nat.zero_add]
 rw [e,hc];simpa using hj
end
def C0:Cu ByteArray:=⟨37,9,1,16,.string ⟨#[]⟩,fun s=>[.string s]⟩
theorem CX:C0.Ok:=⟨Tryz.underlying37,by kernel_rfl,rfl,by decide,fun _=>rfl,fun x u hu=>by obtain rfl:u=.string x:=(AJ.1 hu);rfl,by decide⟩
def C5:Cu Ar:=⟨131,155,2,16,.agg #[.int .u8 0,.int .i64 0],fun x=>[.int .u8 x.c,.int .i64 x.t]⟩
theorem Dl:C5.Ok:=⟨Tryz.underlying131,by kernel_rfl,rfl,by decide,fun _=>rfl,fun x u hu=>by
 have h:u=.int .u8 x.c∨u=.int .i64 x.t:=by simpa [C5] using hu
 rcases h with rfl | rfl <;> rfl,by decide⟩
structure NV where
 fin:Bool
 a:Option Addr
 n:Nat
 c:Nat
deriving DecidableEq
def Bj:Cu NV:=⟨35,153,2,32,.agg #[.bool false,.slice none 0 0],fun x=>[.bool x.fin,.slice x.a x.n x.c]⟩
theorem CH:Bj.Ok:=⟨Tryz.underlying35,by kernel_rfl,rfl,by decide,fun _=>rfl,fun x u hu=>by
 have h:u=.bool x.fin∨u=.slice x.a x.n x.c:=by simpa [Bj] using hu
 rcases h with rfl | rfl <;> rfl,by decide⟩
structure SV where
 a:Option Addr
 n:Nat
 c:Nat
def JC:Cu SV:=⟨165,37,1,24,.slice none 0 0,fun x=>[.slice x.a x.n x.c]⟩
theorem JT:JC.Ok:=⟨Tryz.underlying165,by kernel_rfl,rfl,by decide,fun _=>rfl,fun x u hu=>by obtain rfl:u=.slice x.a x.n x.c:=(AJ.1 hu);rfl,by decide⟩
theorem As.strs {w:World} {B:Nat} {a:Option Addr} {n c:Nat} {L:List ByteArray} (h:As C0 w B (.slice a n c) L):Bz w a L∧n=L.length∧L.length≤c:=by
 obtain ⟨a',c',he,hc,_⟩:=h.form;injection he with e1 e2 e3;refine ⟨fun k hk=>?_,e2,by omega⟩;rcases h.blk with ⟨_,rfl⟩ | ⟨g,c2,ja,_,hg,_⟩
 · simp at hk
 ·injection ja with f1 f2 f3;subst f1;refine ⟨g,0,rfl,hg,?_⟩;have:=h.cell CX hk (j:=0) (by decide);simpa [C0] using this
theorem As.arcs {w:World} {B:Nat} {a:Option Addr} {n c:Nat} {L:List Ar} (h:As C5 w B (.slice a n c) L):E5 w a L∧n=L.length∧L.length≤c:=by
 obtain ⟨a',c',he,hc,_⟩:=h.form;injection he with e1 e2 e3;refine ⟨fun k hk=>?_,e2,by omega⟩;rcases h.blk with ⟨_,rfl⟩ | ⟨g,c2,ja,_,hg,_⟩
 · simp at hk
 ·injection ja with f1 f2 f3;subst f1;refine ⟨g,0,rfl,hg,?_,?_⟩
  ·have:=h.cell Dl hk (j:=0) (by decide);simpa [C5] using this
  ·have:=h.cell Dl hk (j:=1) (by decide);simpa [C5] using this
def Il (s:ByteArray):ByteArray:=s.extract 1 s.size
def CR (s:ByteArray) (c:Int):Bool:=decide (0<s.size) && decide (((s.data.toList.headD 0).toNat:Int)=c)
def Cd (L:List ByteArray) (c:Int):List ByteArray:=(L.filter fun s=>CR s c).map Il
theorem Me {L:List ByteArray} {c:Int} {k:Nat} (hk:k<L.length):Cd (L.take (k+1)) c=Cd (L.take k) c ++ if CR L[k] c=true then [Il L[k]] else []:=by
 rw [Cd,AZ hk,List.filter_append,List.map_append,Cd];congr 1;by_cases h:CR L[k] c=true <;> simp [h]
theorem Ny (L:List ByteArray) (c:Int):(Cd L c).length≤L.length:=by
 rw [Cd,AW];exact List.length_filter_le _ _
theorem R5 (s:ByteArray) (h:0<s.size):s.data.toList.headD 0=s[0]:=by
 have h2:0<s.data.toList.length:=by simpa using h
 have e:s.data.toList=s.data.toList[0] :: s.data.toList.drop 1:=by
  have:=AK h2;simpa using this
 rw [e];rfl
theorem after_any (L:List ByteArray) (n:Nat) (a:Option Addr) (cap:Nat) (c:Int) (w:World) (hR:Bz w a L) (hL:n=L.length) (hn:n≤100000) :
  Calls Tryz.prog 112 #[.slice a n cap,.int .u8 c] w fun e w'=>∃ v,e=.returned v∧As C0 w' w.heap.size v (Cd L c)∧Below w.heap.size w w':=by
 subst hL;have HR:=A6 hR;clear hR
 go_enter Tryz.func112,Tryz.ntmps112
 go_wp2
 go_loopw [6,5] (fun i v wr=>∃ k:Nat,k≤L.length∧i=.int .i64 (k:Int)∧As C0 wr w.heap.size v (Cd (L.take k) c)∧Below w.heap.size w wr) (fun i _ _=>L.length - (intOf i).toNat)
 case atStart=>exact ⟨0,Nat.zero_le _,rfl,As.empty C0 (heap_alloc_new _ _) (A7 _),(Below.refl _ _).alloc (A7 _) _⟩
 case round =>
  obtain ⟨k,hk,rfl,jc,hB⟩:=hrel;have HO:=A6 jc;have HB:=A6 hB;have jk:=hB.size;clear jc hB;by_cases je:k<L.length
  ·obtain ⟨b,o,ha,hb,h0⟩:=(HR.out.later HB.out (A7 _)).at je;have hidx:=Cy a b o L.length cap k ha je;have jd:=A6 (Me (c:=c) je);obtain ⟨x,hx⟩:∃ x,L[k]=x:=⟨_,rfl⟩
   rw [hx] at h0 jd;clear hx ha;by_cases hs:0<x.size
   ·have jj:(0:Int)<(x.size:Int):=by omega
    have jf:=A6 (R5 x hs);by_cases hq:((x[0]'hs).toNat:Int)=c
    ·have ji:(((x[0]'hs).toNat:Int) == c)=true:=by simp [hq]
     have HN:Hid (Cd (L.take (k+1)) c=Cd (L.take k) c ++ [Il x]):=by
      show _=_;rw [jd.out,if_pos (by simp only [CR,jf.out];simp [hs,hq])]
     have hl:(Cd (L.take k) c).length≤100000:=by have:=Ny (L.take k) c;have:=List.length_take_le' k L;omega
     have HL:=A6 hl;clear hq hl
     go_wp2_with (first
      | (at_builtin;go_loud (refine B5 CX rfl _ _ rfl rfl (HO.out.later ((Below.refl _ wr).alloc (A7 _) _) (A7 _)) ⟨wr.heap.size,0,none⟩ 1 [Il x] rfl (BA (heap_alloc_new _ _)) (by have:=HL.out;simp only [AI];omega) (by simp only [AA];omega) ?_);intro v5 w5 jb ja _;have jh:=A6 jb;have jg:=A6 (HB.out.trans ((((Below.refl w.heap.size wr).alloc jk _).grown ja (by simp only [AA];omega) HO.out.ge)));clear jb ja))
     go_roundw
     case rel=>exact ⟨k+1,by omega,by go_num,by rw [HN.out];exact jh.out,jg.out⟩
     case measure=>simp [intOf];omega
    ·have ji:(((x[0]'hs).toNat:Int) == c)=false:=by rw [beq_eq_false_iff_ne];exact hq
     have HN:Hid (Cd (L.take (k+1)) c=Cd (L.take k) c):=by
      show _=_;rw [jd.out,if_neg (by simp only [CR,jf.out];simp [hq]),List.append_nil]
     clear hq;go_wp2
     go_roundw
     case rel=>exact ⟨k+1,by omega,by go_num,by rw [HN.out];exact HO.out,HB.out⟩
     case measure=>simp [intOf];omega
   ·have jj:¬ (0:Int)<(x.size:Int):=by omega
    have HN:Hid (Cd (L.take (k+1)) c=Cd (L.take k) c):=by
     show _=_;rw [jd.out,if_neg (by simp [CR,hs]),List.append_nil]
    go_wp2
    go_roundw
    case rel=>exact ⟨k+1,by omega,by go_num,by rw [HN.out];exact HO.out,HB.out⟩
    case measure=>simp [intOf];omega
  ·have HA:Hid (Cd (L.take k) c=Cd L c):=by show _=_;rw [AM (by omega)]
   go_wp2;go_ret;exact ⟨_,rfl,by rw [← HA.out];exact HO.out,HB.out⟩
def Ce (w:World) (a:Option Addr) (len:Nat) (Z:Nat→Int):Prop :=
 len=0∨∃ b o,a=some ⟨b,o,none⟩∧len≤9223372036854775807∧b<w.heap.size∧∀ i,i<len→w.cell? ⟨b,o+i,none⟩=some (.int .u8 (Z i))∧0≤Z i∧Z i≤255
theorem Ce.later {w w1:World} {a:Option Addr} {len:Nat} {Z:Nat→Int} {B:Nat} (h:Ce w a len Z) (hb:Below B w w1) (hB:w.heap.size≤B):Ce w1 a len Z:=by
 rcases h with h | ⟨b,o,ha,hl,ja,hr⟩
 · exact .inl h
 · exact .inr ⟨b,o,ha,hl,AB ja hb.size,fun i hi=>⟨(hb.cell (p:=⟨b,_,none⟩) (AB ja hB)).trans (hr i hi).1,(hr i hi).2⟩⟩
theorem Ce.at {w:World} {a:Option Addr} {len:Nat} {Z:Nat→Int} (h:Ce w a len Z) {k:Nat} (hk:k<len):∃ b o,a=some ⟨b,o,none⟩∧b<w.heap.size∧w.cell? ⟨b,o+k,none⟩=some (.int .u8 (Z k))∧0≤Z k∧Z k≤255:=by
 rcases h with h | ⟨b,o,ha,hl,ja,hr⟩
 · omega
 · exact ⟨b,o,ha,ja,hr k hk⟩
theorem GC (a:Option Addr) (b o len cap k:Nat) (ha:a=some ⟨b,o,none⟩) (hk:k<len) (w:World) :
  (Instr.indexAt 26 (.slice a len cap) (.int .i64 (k:Int))).run Tryz.prog w=.ok (.pointer (some ⟨b,o+k,none⟩)) w:=by
 subst ha;have h0:(0:Int)≤(k:Int):=by omega
 have h1:(k:Int)<(len:Int):=by omega
 simp [go_sem,h0,h1]
theorem P0 {a b:ByteArray} (h:a=b):Ending.returned (.string a)=.returned (.string b):=by rw [h]
theorem GD (b o n:Nat):(⟨b,o,none⟩:Addr).add n=⟨b,o+n,none⟩:=by
 unfold Addr.add;split <;> simp_all
def GS (L:List ByteArray) (s:ByteArray):List ByteArray:=if 0≤J4 L s then L else L.takeWhile (fun x=>ltS x s) ++ s :: L.dropWhile (fun x=>ltS x s)
theorem Lg {α:Type} {p:α→Bool}:∀ {L:List α} {k:Nat},k≤L.length→(∀ j (hj:j<L.length),j<k→p L[j]=true)→(∀ h:k<L.length,p L[k]=false)→L.takeWhile p=L.take k∧L.dropWhile p=L.drop k
 | [],k,hk,_,_=>by simp
 | x :: r,0,_,_,h=>by
  have:=h (by simp);simp only [List.getElem_cons_zero] at this;simp [List.takeWhile_cons,List.dropWhile_cons,this]
 | x
   :: r,k+1,hk,h1,h2=>by
  have hx:=h1 0 (by simp) (by omega);simp only [List.getElem_cons_zero] at hx;have ih:=Lg (p:=p) (L:=r) (k:=k) (by simpa using hk) (fun j hj hjk=>by
   have:=h1 (j+1) (by simpa using hj) (by omega);simpa using this) (fun h=>by
   have:=h2 (by simpa using h);simpa using this)
  simp [List.takeWhile_cons,List.dropWhile_cons,hx,ih.1,ih.2]
theorem Fg (a:Addr) (n cap k:Nat) (hk:k≤n) (hn:n≤cap) (w:World) :
  (Instr.slice 37 (.slice (some a) n cap) none (some (.int .i64 (k:Int))) none).run Tryz.prog w=.ok (.slice (some a) k cap) w:=by
 have h0:(0:Int)≤(k:Int):=by omega
 have h1:(k:Int)≤(cap:Int):=by omega
 simp [go_sem,Instr.slice,Instr.sliceBounds,Instr.sliceBound,asIntOf,h0,h1];intro h;omega
theorem E6 (b o n cap k:Nat) (hk:k≤n) (hn:n≤cap):∃ o',(k<n→o'=o+k)∧∀ w:World,
  (Instr.slice 37 (.slice (some ⟨b,o,none⟩) n cap) (some (.int .i64 (k:Int))) none none).run Tryz.prog w=.ok (.slice (some ⟨b,o',none⟩) (n - k) (cap - k)) w:=by
 have h0:(0:Int)≤(k:Int):=by omega
 have h1:(k:Int)≤(n:Int):=by omega
 have h2:(n:Int)≤(cap:Int):=by omega
 refine ⟨if cap=k then o else o+k,fun h=>if_neg (by omega),fun w=>?_⟩;simp [go_sem,Instr.slice,Instr.sliceBounds,Instr.sliceBound,asIntOf,h0,h1,h2,Addr.add,hk];by_cases e:cap=k
 · simp [e]
 ·by_cases e0:k=0
  · simp [e0]
  · simp [e,e0]
theorem Gl {w:World} {b o:Nat} {L M:List ByteArray} {k:Nat} (h:Bz w (some ⟨b,o,none⟩) L) (hM:∀ j (hj:j<M.length),∃ h2:k+j<L.length,M[j]=L[k+j]) :
  ∀ j u,(M.flatMap C0.enc)[j]? = some u→w.cell? ((⟨b,o+k,none⟩:Addr).add j)=some u:=by
 intro j u hu;have e:M.flatMap C0.enc=M.map Value.string:=by
  clear hM hu
  induction M with
  | nil=>rfl
  | cons x r ih=>rw [List.flatMap_cons,ih];rfl
 rw [e,List.getElem?_map] at hu;have hj:j<M.length:=by
  by_cases h:j<M.length
  · exact h
  · rw [Ac (by omega)] at hu;cases hu
 rw [AE hj] at hu;obtain ⟨h2,h3⟩:=hM j hj;obtain ⟨b',o',e1,_,hc⟩:=h (k+j) h2;injection e1 with e1;injection e1 with e1 e2;subst e1 e2;rw [GD,Nat.add_assoc,hc,← h3];simpa using hu
def P1 (M:List ByteArray) (w:World) (e:Ending) (w':World):Prop :=
 ∃ (b o c:Nat),e=.returned (.slice (some ⟨b,o,none⟩) M.length c)∧Bz w' (some ⟨b,o,none⟩) M∧M.length≤c∧Below w.heap.size w w'
theorem R6 {L:List ByteArray} {s:ByteArray} {k:Nat} (h0:¬ 0≤J4 L s) (hk:k≤L.length) (h1:∀ j (hj:j<L.length),j<k→ltS L[j] s=true) (h2:∀ h:k<L.length,ltS L[k] s=false):GS L s=L.take k ++ [s] ++ L.drop k:=by
 obtain ⟨e1,e2⟩:=Lg (p:=fun x=>ltS x s) hk h1 h2;rw [GS,if_neg h0,e1,e2];simp
theorem R8 (L:List ByteArray) (s:ByteArray):(GS L s).length≤L.length+1:=by
 unfold GS;split
 · omega
 ·have:=congrArg List.length (List.takeWhile_append_dropWhile (p:=fun x=>ltS x s) (l:=L));simp only [AF,List.length_cons] at this ⊢;omega
theorem insert_any (L:List ByteArray) (n b o cap:Nat) (s:ByteArray) (w:World) (hR:Bz w (some ⟨b,o,none⟩) L) (hL:n=L.length) (hc:n≤cap) (hn:n≤100000) :
  Calls Tryz.prog 31 #[.slice (some ⟨b,o,none⟩) n cap,.string s] w (P1 (GS L s) w):=by
 subst hL;have HR:=A6 hR;clear hR;by_cases h0:0≤J4 L s
 ·have HI:Hid (GS L s=L):=by show _=_;rw [GS,if_pos h0]
  obtain ⟨q,hq⟩:∃ q,J4 L s=q:=⟨_,rfl⟩
  have HQ:=A6 hq;rw [hq] at h0;clear hq
  go_enter Tryz.func31,Tryz.ntmps31
  go_wp2_with (go_at_call 60;refine (rindex_any L _ _ _ _ _ HR.out rfl (by omega)).mono ?_;rintro e w' ⟨he,rfl⟩;rw [HQ.out] at he;subst he)
  go_ret;rw [HI.out];exact ⟨b,o,cap,rfl,HR.out,hc,Below.refl _ _⟩
 ·have H0
      := A6 h0
  obtain ⟨q,hq⟩:∃ q,J4 L s=q:=⟨_,rfl⟩
  have HQ:=A6 hq;have hqn:¬ 0≤q:=by rw [← hq];exact h0
  clear hq h0
  go_enter Tryz.func31,Tryz.ntmps31
  go_wp2_with (go_at_call 60;refine (rindex_any L _ _ _ _ _ HR.out rfl (by omega)).mono ?_;rintro e w' ⟨he,rfl⟩;rw [HQ.out] at he;subst he)
  go_loop [5] (fun i=>∃ k:Nat,k≤L.length∧i=.int .i64 (k:Int)∧∀ j (hj:j<L.length),j<k→ltS L[j] s=true) (fun i=>L.length - (intOf i).toNat)
  case atStart=>exact ⟨0,Nat.zero_le _,rfl,fun j _ h=>by omega⟩
  case round =>
   obtain ⟨k,hk,rfl,hg⟩:=hrel;have HG:=A6 hg;clear hg;have jr:∀ (h2:∀ h:k<L.length,ltS L[k] s=false),Hid (GS L s=L.take k ++ [s] ++ L.drop k):=fun h2=>R6 (by have:=H0.out;omega) hk HG.out h2;have jo:=A6 jr;have hlow:=Fg ⟨b,o,none⟩ L.length cap k hk hc;obtain ⟨o',jE,hhigh⟩:=E6 b o L.length cap k hk hc;have jB:=A6 jE;have jx:(L.take k).length=k:=by rw [AV];omega
   have jD:(L.drop k).length=L.length - k:=by rw [List.length_drop]
   have jh:=A6 jx;have jm:=A6 jD;have js:Hid (As C0 (w.alloc (.cells #[] 9)) w.heap.size (.slice (some ⟨w.heap.size,0,none⟩) 0 0) []):=As.empty C0 (heap_alloc_new _ _) (A7 _);have jA:Hid (∀ j u,((L.take k).flatMap C0.enc)[j]? = some u→(w.alloc (.cells #[] 9)).cell? ((⟨b,o,none⟩:Addr).add j)=some u) :=
    Gl (k:=0) (HR.out.later ((Below.refl _ w).alloc (A7 _) _) (A7 _)) (fun j hj=>⟨by rw [jx] at hj;omega,by rw [List.getElem_take];congr 1;omega⟩)
   clear jr jE jx jD;by_cases jy:k<L.length
   ·obtain ⟨b1,o1,ha,hb,h1⟩:=HR.out.at jy;have hidx:=Cy (some ⟨b,o,none⟩) b1 o1 L.length cap k ha jy;obtain ⟨x,hx⟩:∃ x,L[k]=x:=⟨_,rfl⟩
    have HX:=A6 hx;rw [hx] at h1;clear hx ha;obtain ⟨r,hr⟩:∃ r,Op.bytesLess x.toList s.toList=r:=⟨_,rfl⟩
    have jC:Hid (ltS x s=r):=hr;cases r with
    | true =>
     have HN:Hid (∀ j (hj:j<L.length),j<k+1→ltS L[j] s=true):=fun j hj hjk=>by
      by_cases e:j=k
      · subst e;rw [HX.out];exact jC.out
      · exact HG.out j hj (by omega)
     go_wp2
     go_round
     case rel=>exact ⟨k+1,by omega,by go_num,HN.out⟩
     case measure=>simp [intOf];omega
    | false =>
     have HN:=jo.out (fun _=>by rw [HX.out];exact jC.out)
     go_wp2_with (first | (at_builtin;go_loud (refine B5 CX rfl _ _ rfl rfl js.out ⟨b,o,none⟩ cap (L.take k) (by rw [jh.out];rfl) jA.out (by have:=jh.out;simp only [List.length_nil];omega) (by simp) ?_;intro v5 w5 jd ja jj;have jp:=A6 jd;have jn:Hid (Below w.heap.size w w5):=(((Below.refl w.heap.size w).alloc (A7 _) _).grown ja (by simp only [AA];omega) js.out.ge);have jz:=jn.out.size;clear jd ja jj)) | (at_builtin;go_loud (refine B5 CX rfl _ _ rfl rfl (jp.out.later ((Below.refl _ w5).alloc (A7 _) _) (A7 _)) ⟨w5.heap.size,0,none⟩ 1 [s] rfl (BA (heap_alloc_new _ _)) (by have:=jh.out;simp only [AI,List.nil_append];omega) (by simp only [AA];omega) ?_;intro v6 w6 je jb jk;have jq:=A6 je;have ji:Hid (Below w.heap.size w w6):=(jn.out.trans (((Below.refl w.heap.size w5).alloc jz _).grown jb (by simp only [AA];omega) jp.out.ge));have jF:=ji.out.size;clear je jb jk)) | (at_builtin;go_loud (refine B5 CX rfl _ _ rfl rfl jq.out ⟨b,o',none⟩ (cap - k) (L.drop k) (by rw [jm.out];rfl) (fun j u hu=>by have jw:k<L.length:=(by rcases Nat.lt_or_ge k L.length with h | h;exact h;exfalso;rw [List.drop_eq_nil_of_le h] at hu;simp at hu);have e:=jB.out jw;subst e;exact Gl (HR.out.later ji.out (A7 _)) (fun j hj=>⟨by have:=jm.out;omega,by rw [List.getElem_drop]⟩) j u hu) (by have:=jm.out;have:=jh.out;simp only [AF,AI,List.nil_append];omega) (by omega) ?_;intro v7 w7 jf jc jl;have ju:=A6 jf;have jt:Hid (Below w.heap.size w w7):=(ji.out.trans ((Below.refl w.heap.size w6).grown jc (by omega) jq.out.ge));clear jf jc jl)))
     go_ret;have jg:=ju.out;rw [List.nil_append,← HN.out] at jg;rcases jg.blk with ⟨_,h⟩ | ⟨g,c,hv,_,_,jv⟩;· exfalso;have h2:=HN.out;rw [h] at h2;simp at h2
     ·subst hv;exact ⟨g,0,c,rfl,jg.strs.1,jv,jt.out⟩
   ·have HN:=jo.out (fun h=>absurd h jy)
    go_wp2_with (first | (at_builtin;go_loud (refine B5 CX rfl _ _ rfl rfl js.out ⟨b,o,none⟩ cap (L.take k) (by rw [jh.out];rfl) jA.out (by have:=jh.out;simp only [List.length_nil];omega) (by simp) ?_;intro v5 w5 jd ja jj;have jp:=A6 jd;have jn:Hid (Below w.heap.size w w5):=(((Below.refl w.heap.size w).alloc (A7 _) _).grown ja (by simp only [AA];omega) js.out.ge);have jz:=jn.out.size;clear jd ja jj)) | (at_builtin;go_loud (refine B5 CX rfl _ _ rfl rfl (jp.out.later ((Below.refl _ w5).alloc (A7 _) _) (A7 _)) ⟨w5.heap.size,0,none⟩ 1 [s] rfl (BA (heap_alloc_new _ _)) (by have:=jh.out;simp only [AI,List.nil_append];omega) (by simp only [AA];omega) ?_;intro v6 w6 je jb jk;have jq:=A6 je;have ji:Hid (Below w.heap.size w w6):=(jn.out.trans (((Below.refl w.heap.size w5).alloc jz _).grown jb (by simp only [AA];omega) jp.out.ge));have jF:=ji.out.size;clear je jb jk)) | (at_builtin;go_loud (refine B5 CX rfl _ _ rfl rfl jq.out ⟨b,o',none⟩ (cap - k) (L.drop k) (by rw [jm.out];rfl) (fun j u hu=>by have jw:k<L.length:=(by rcases Nat.lt_or_ge k L.length with h | h;exact h;exfalso;rw [List.drop_eq_nil_of_le h] at hu;simp at hu);have e:=jB.out jw;subst e;exact Gl (HR.out.later ji.out (A7 _)) (fun j hj=>⟨by have:=jm.out;omega,by rw [List.getElem_drop]⟩) j u hu) (by have:=jm.out;have:=jh.out;simp only [AF,AI,List.nil_append];omega) (by omega) ?_;intro v7 w7 jf jc jl;have ju:=A6 jf;have jt:Hid (Below w.heap.size w w7):=(ji.out.trans ((Below.refl w.heap.size w6).grown jc (by omega) jq.out.ge));clear jf jc jl)))
    go_ret;have jg:=ju.out;rw [List.nil_append,← HN.out] at jg;rcases jg.blk with ⟨_,h⟩ | ⟨g,c,hv,_,_,jv⟩;· exfalso;have h2:=HN.out;rw [h] at h2;simp at h2
    ·subst hv;exact ⟨g,0,c,rfl,jg.strs.1,jv,jt.out⟩
open Go.Shelf Go.RowKit
theorem szB:(Tryz.prog.info? 179).map (·.size)=some 2:=by kernel_rfl
theorem Ua:liesAt Tryz.prog Tryz.prog.depth 179 (2 / Tryz.prog.cellsOf 179) 0 179 1=true:=by kernel_rfl
theorem Ub:(Tryz.prog.info? 5).map (fun i=>(i.zero,i.size,i.bytes))=some (some (.int .u8 0),1,1):=by kernel_rfl
theorem JU (b:Nat) (w:World) (h0:w.cell? ⟨b,0,none⟩=some (.pointer (some ⟨b,0,none⟩))) :
  Calls Tryz.prog 124 #[.pointer (some ⟨b,0,none⟩)] w fun e w'=>e=.returned (.tuple #[])∧w'=w:=by
 obtain ⟨j,hj,_⟩:=Option.map_eq_some_iff.1 szB
 go_enter Tryz.func124,Tryz.ntmps124
 go_wp2;rw [Lib.run_neq_ptr_same w _ Tryz.underlying177 hj];go_wp2
 go_end0
 exact ⟨rfl,rfl⟩
theorem J5 (b:Nat) (w:World) (h0:w.cell? ⟨b,0,none⟩=some (.pointer none)) (ja:w.shape? b=some (179,2)) (hfz:w.frozen? ⟨b,0,none⟩=false) :
  Calls Tryz.prog 124 #[.pointer (some ⟨b,0,none⟩)] w fun e w'=>e=.returned (.tuple #[])∧w'=w.setCell ⟨b,0,none⟩ (.pointer (some ⟨b,0,none⟩)):=by
 obtain ⟨j,hj,jb⟩:=Option.map_eq_some_iff.1 szB
 go_enter Tryz.func124,Tryz.ntmps124
 go_wp2;rw [Lib.run_to_unsafe w ⟨b,0,none⟩ Tryz.underlying177 Tryz.underlying226 hj (by rw [jb];decide) ja (Nat.zero_lt_succ 1)];simp only [Result.andThen];rw [Oper.upon_value];go_wp2;rw [run_callFunc_extern Tryz.func144 (by kernel_rfl) (by kernel_rfl) (by kernel_rfl) (e:=Extern.AbiNoEscape.same) (by kernel_rfl)];rw [Lib.run_noEscape];simp only [Result.andThen];rw [Oper.upon_value];go_wp2;rw [Lib.run_from_unsafe w ⟨b,0,none⟩ Tryz.underlying226 Tryz.underlying177 hj ja Ua];simp only [Result.andThen];rw [Oper.upon_value];go_wp2
 go_end0
 exact ⟨rfl,rfl⟩
theorem KT (B b:Nat) (bs:List Value) (w:World) (h:Lib.IsBuilderF 179 5 B b bs w) :
  Calls Tryz.prog 124 #[.pointer (some ⟨b,0,none⟩)] w fun e w'=>e=.returned (.tuple #[])∧(Lib.BuilderAtF 179 5 B b (.pointer (some ⟨b,0,none⟩)) bs w'∧Below B w w'):=by
 rcases h with h | h
 ·refine (J5 b w h.cell0 h.shape h.frozen0).mono ?_;rintro e w' ⟨rfl,rfl⟩;exact ⟨rfl,h.used _,(Below.refl B w).setCell (p:=⟨b,0,none⟩) h.1 _⟩
 ·refine (JU b w h.cell0).mono ?_;rintro e w' ⟨rfl,rfl⟩;exact ⟨rfl,h,Below.refl B _⟩
theorem FR (B b:Nat) (bs:List Value) (s:ByteArray) (w:World) (h:Lib.IsBuilderF 179 5 B b bs w) (hlen:bs.length+s.size≤140737488355328) (hBw:B≤w.heap.size) :
  Calls Tryz.prog 105 #[.pointer (some ⟨b,0,none⟩),.string s] w fun e w'=>e=.returned (.tuple #[.int .i64 s.size,.nilIface])∧Lib.IsBuilderF 179 5 B b (bs ++ Lib.strCells s) w'∧Below B w w':=by
 obtain ⟨i0,hi,ji,jj,jk⟩:=info_parts Ub;have H:=A6 h;clear h
 go_enter Tryz.func105,Tryz.ntmps105
 go_wp2_with (go_at_call 124;refine (KT B b bs _ H.out).mono ?_)
 rintro e w1 ⟨rfl,h1,jf⟩;obtain ⟨hB,v,je,jc,jh⟩:=h1;have c0:w1.cell? ⟨b,0,none⟩=some (.pointer (some ⟨b,0,none⟩)):=by rw [Lib.cell_of_heap je];rfl
 have c1:w1.cell? ⟨b,1,none⟩=some v:=by rw [Lib.cell_of_heap je];rfl
 go_wp2_with (at_builtin;refine Lib.wpList_append_own_stringF _ rfl _ _ 26 9 rfl B 5 i0 Tryz.underlying26 Tryz.underlying9 hi ji jj jk _ _ _ rfl jc s rfl ?c3 ?c4 ?c5 ?_)
 case c3=>unfold maxLen;omega
 case c4=>omega
 case c5=>have:=jf.size;omega
 intro v' w2 jb ja _;have jg:b<w1.heap.size:=by
  rcases Nat.lt_or_ge b w1.heap.size with h' | h'
  · exact h'
  · simp [Array.getElem?_eq_none h'] at je
 have jd:w2.heap[b]? = some (.cells #[.pointer (some ⟨b,0,none⟩),v] 179 (0,0)):=by
  rw [ja.block b jg (fun e=>jh e.symm)];exact je
 have d0:w2.cell? ⟨b,0,none⟩=some (.pointer (some ⟨b,0,none⟩)):=by rw [Lib.cell_of_heap jd];rfl
 have d1:w2.cell? ⟨b,1,none⟩=some v:=by rw [Lib.cell_of_heap jd];rfl
 have f1:w2.frozen? ⟨b,1,none⟩=false:=Lib.frozen_of_heap jd 1;obtain ⟨ao,n',cap,rfl⟩:∃ ao n' cap,v'=.slice ao n' cap:=by
  rcases jb.2 with ⟨hv,_⟩ | ⟨g,cap,cur,fz,hv,_⟩
  · exact ⟨_,_,_,hv⟩
  · exact ⟨_,_,_,hv⟩
 go_wp2
 go_ret2
 refine ⟨rfl,.inr ?_,?_⟩
 · exact Lib.BuilderAtF.put (T:=179) (e:=5) hB jd (bs':=bs ++ Lib.strCells s) (by simpa [Lib.strCells_length] using jb) (by decide)
 · exact (jf.grown ja (by have:=jf.size;omega) (fun k hk=>(jc.lt k hk).1)).setCell (p:=⟨b,1,none⟩) hB _
open Go.Shelf Go.RowKit Go.WideShapes
theorem R9 {a b:ByteArray} (h:a=b):Ending.returned (.string a)=.returned (.string b):=by rw [h]
def Dm (x:Ar):List UInt8:=32 :: UInt8.ofNat x.c.toNat :: Lib.itoa x.t
def Bs (f:Bool) (X:List Ar):List UInt8:=Lib.formatBool f ++ X.flatMap Dm
theorem Ph {f:Bool} {X:List Ar} {k:Nat} (hk:k<X.length):Bs f (X.take (k+1))=Bs f (X.take k) ++ Dm X[k]:=by
 rw [Bs,AZ hk,List.flatMap_append,← List.append_assoc];simp [Bs]
theorem Ss (u:Nat):(Lib.decDigits u).length≤u+1:=by
 induction u using Nat.strongRecOn with
 | _
   u ih =>
  rw [Lib.decDigits];split
  · simp
  ·have:=ih (u / 10) (by omega);rw [AF];simp;omega
def Pi (x:Ar):Prop:=0≤x.c∧x.c≤127∧0≤x.t∧x.t≤1000000
theorem Mf {x:Ar} (h:Pi x):(Dm x).length≤1000003:=by
 obtain ⟨h1,h2,h3,h4⟩:=h;have:(Lib.itoa x.t).length≤1000001:=by
  rw [Lib.itoa,if_neg (by omega)];have:=Ss x.t.toNat;omega
 simp [Dm];omega
theorem Mg {f:Bool} {X:List Ar} (h:∀ x∈X,Pi x):(Bs f X).length≤5+X.length*1000003:=by
 have h1:(Lib.formatBool f).length≤5:=by cases f <;> decide
 have h2:(X.flatMap Dm).length≤X.length*1000003:=by
  induction X with
  | nil=>simp
  | cons x r ih =>
   rw [List.flatMap_cons,AF,List.length_cons,Nat.add_mul];have:=Mf (h x (by simp));have:=ih (fun y hy=>h y (by simp [hy]));omega
 rw [Bs,AF];omega
def Tab (w:World):Prop:=Lib.TabIs Tryz.prog w "internal/strconv.uint64pow10" .u64 Lib.pow10Tab
theorem V4:∃ g,Tryz.prog.globalNamed "internal/strconv.uint64pow10" = some g:=by
 have h:(Tryz.prog.globalNamed "internal/strconv.uint64pow10").isSome=true:=by kernel_rfl
 exact Option.isSome_iff_exists.1 h
theorem Tab.later {w w':World} (h:Tab w) (hb:Below w.heap.size w w'):Tab w':=by
 obtain ⟨g,hg⟩:=V4;unfold Tab Lib.TabIs World.var? at h ⊢;rw [hg] at h ⊢;simp only [Option.bind_some] at h ⊢;have ja:g<w.heap.size:=by
  rcases Nat.lt_or_ge g w.heap.size with h' | h'
  · exact h'
  · rw [Array.getElem?_eq_none h'] at h;cases h
 rw [hb.block g ja];exact h
theorem Nz {T e:TypeId} {B b:Nat} {bs:List Value} {w w':World} (h:Lib.IsBuilderF T e B b bs w) (hx:Ext w w'):Lib.IsBuilderF T e B b bs w':=by
 have key:∀ p,Lib.BuilderAtF T e B b p bs w→Lib.BuilderAtF T e B b p bs w':=by
  rintro p ⟨hB,v,hb,ja,jb⟩;refine ⟨hB,v,(Below.block hx b (A9.1 hb).1).trans hb,⟨ja.1,ja.2.imp id ?_⟩,jb⟩;rintro ⟨g,cap,cur,fz,rfl,h1,h2,h3⟩;exact ⟨g,cap,cur,fz,rfl,h1,(Below.block hx g (A9.1 h2).1).trans h2,h3⟩
 exact h.imp (key _) (key _)
theorem Pj (c:Int) (h0:0≤c) (h1:c≤127):Utf8.encode c=⟨#[UInt8.ofNat c.toNat]⟩:=by
 have hv:Utf8.valid c=true:=by simp [Utf8.valid];omega
 have hc:c.toNat<0x80:=by omega
 simp only [Utf8.encode,hv,if_true,hc]
theorem Ty (b:Bool) (w:World):Calls Tryz.prog 106 #[.bool b] w fun e w'=>e=.returned (.string ⟨(Lib.formatBool b).toArray⟩)∧w=w' :=
 (Tryz.strconv_FormatBool b w).mono fun e w' h=>⟨h.1,h.2.symm⟩
theorem Az {w:World} {g:Nat} {a b:Value} {t:TypeId} {f:Nat × Nat} (h:w.heap[g]? = some (.cells #[a,b] t f)):w.cell? ⟨g,0,none⟩=some a∧w.cell? ⟨g,1,none⟩=some b:=by
 refine ⟨?_,?_⟩
 · rw [cell_of_row w g 0 _ _ f h];rfl
 · rw [cell_of_row w g 1 _ _ f h];rfl
def
  ContT (w1 wr:World) (b:Nat) (l0 l1:List UInt8) (done:Bool) (W:World):Prop :=
 Below b w1 W∧b≤W.heap.size∧match done with
  | true=>Lib.IsBuilderF 179 5 b b (Lib.byteCells l1) W
  | false=>Lib.IsBuilderF 179 5 b b (Lib.byteCells l0) W∧Below wr.heap.size wr W
theorem Ky {w1 wr:World} {b:Nat} {l0 l1:List UInt8}:∀ (d:Bool) (W W':World),ContT w1 wr b l0 l1 d W→Ext W W'→ContT w1 wr b l0 l1 d W':=by
 intro d W W' ⟨h1,h2,h3⟩ hx;refine ⟨h1.trans (Below.mono hx h2),AC h2 hx.size,?_⟩;cases d with
 | true=>exact Nz h3 hx
 | false=>exact ⟨Nz h3.1 hx,h3.2.trans (Below.mono hx h3.2.size)⟩
theorem contents_any (f:Bool) (X:List Ar) (a:Option Addr) (n cap:Nat) (w:World) (hX:E5 w a X) (hn:n=X.length) (jT:∀ x∈X,Pi x) (hl:X.length≤10000) (ht:Tab w) :
  Calls Tryz.prog 77 #[.agg #[.bool f,.slice a n cap]] w fun e w'=>e=.returned (.string ⟨(Bs f X).toArray⟩)∧Below w.heap.size w w':=by
 subst hn;have HX:=A6 hX;have jJ:=A6 jT;have HT:=A6 ht;clear hX jT ht
 go_enter Tryz.func77,Tryz.ntmps77
 obtain ⟨w1,jl⟩:∃ w1,w1=w.alloc (.cells #[.bool f,.slice a X.length cap] 153):=⟨_,rfl⟩
 have jm:w1.heap.size=w.heap.size+1:=by rw [jl];simp
 have jL:Below w.heap.size w w1:=by rw [jl];exact (Below.refl _ _).alloc (A7 _) _
 have jj:Hid (w1.heap[w.heap.size]? = some (.cells #[.bool f,.slice a X.length cap] 153 (0,0))):=by rw [jl];exact heap_alloc_new _ _
 have jX:=A6 jL;have jd:Lib.IsBuilderF 179 5 w1.heap.size w1.heap.size [] (w1.alloc (.cells #[.pointer none,.slice none 0 0] 179)):=.of (Lib.fresh_isBuilder _ _ _);obtain ⟨g1,jz⟩:∃ g1,g1=w1.heap.size:=⟨_,rfl⟩
 rw [← jz] at jd;have jh:=A6 jd;clear jd jL
 go_upto_region 2 with fail
 have jB:w.heap.size+1=g1:=by omega
 rw [← jl,jB];clear jl;obtain ⟨w2,jG⟩:∃ w2,w2=w1.alloc (.cells #[.pointer none,.slice none 0 0] 179):=⟨_,rfl⟩
 have ju:Hid (Below g1 w1 w2):=by show Below _ _ _;rw [jG];exact (Below.refl _ _).alloc (by omega) _
 rw [← jG] at jh ⊢;clear jG;have jR:g1≤w2.heap.size:=by have:=ju.out.size;omega
 have c0:w2.cell? ⟨w.heap.size,0,none⟩=some (.bool f):=(ju.out.cell (p:=⟨w.heap.size,0,none⟩) (by show w.heap.size<g1;omega)).trans (by rw [cell_of_row _ _ _ _ _ _ jj.out];rfl);obtain ⟨s0,js⟩:∃ s0:ByteArray,s0=⟨(Lib.formatBool f).toArray⟩:=⟨_,rfl⟩
 have j0:=A6 js;have jD:s0.size≤140737488355328:=by rw [js];cases f <;> decide
 have jy:=Ty f;rw [← js] at jy;have jZ:=A6 jy;clear js jy;have jw:=A6 jB;have HW1S:=A6 jm;have HG1:=A6 jz;clear jB jm jz
 go_wp2_with fail
 refine (jZ.out _).mono ?_;rintro e w' ⟨rfl,rfl⟩
 go_wp2_with fail
 refine (FR g1 g1 [] s0 _ jh.out (by simpa using jD) jR).mono ?_;rintro e w3 ⟨rfl,jc,jx⟩;have h0:([]:List Value) ++ Lib.strCells ⟨(Lib.formatBool f).toArray⟩=Lib.byteCells (Bs f []):=by
  simp [Lib.strCells,Lib.byteCells,Bs]
 rw [j0.out,h0] at jc;have jv:=A6 jc;have jI:=A6 (ju.out.trans jx);have j5:=AC jR jx.size;clear jc jx h0 c0;have c1:w3.cell? ⟨w.heap.size,1,none⟩=some (.slice a X.length cap):=(jI.out.cell (p:=⟨w.heap.size,1,none⟩) (by show w.heap.size<g1;have:=jw.out;omega)).trans (by rw [cell_of_row _ _ _ _ _ _ jj.out];rfl);go_wp2
 go_loopw [13] (fun q wr=>∃ k:Nat,k≤X.length∧q=.int .i64 (k:Int)∧Lib.IsBuilderF 179 5 g1 g1 (Lib.byteCells (Bs f (X.take k))) wr∧Below g1 w1 wr∧g1≤wr.heap.size) (fun q _=>X.length - (intOf q).toNat)
 case atStart=>exact ⟨0,Nat.zero_le _,rfl,jv.out,jI.out,j5⟩
 case round =>
  obtain ⟨k,hk,rfl,jN,hB,jA⟩:=hrel;have jh:=A6 jN;have HB:=A6 hB;have jp:=A6 (jX.out.trans (hB.mono (by have:=jw.out;omega)));clear jN hB;by_cases jr:k<X.length
  ·obtain ⟨
       b,o,ha,hb,q0,q1⟩:=(HX.out.later jp.out (A7 _)) k jr
   have hidx:=F5 a b o X.length cap k ha jr;have jK:=A6 (Ph (f:=f) jr);have jt:=jJ.out X[k] (AO jr);have hkl:=Mg (f:=f) (X:=X.take k) (fun x hx=>jJ.out x (List.mem_of_mem_take hx));have hkl2:(X.take k).length≤10000:=by have:=List.length_take_le' k X;omega
   have jH:=Mf jt;obtain ⟨x,hx⟩:∃ x,X[k]=x:=⟨_,rfl⟩
   rw [hx] at q0 q1 jK jt jH;obtain ⟨xc,xt⟩:=x;simp only [Pi] at q0 q1 jt;obtain ⟨x0,x1,x2,x3⟩:=jt;clear ha hx
   go_upto_region 6 with fail
   obtain ⟨wy,jo⟩:∃ wy,wy=wr.alloc (.cells #[.int .u8 xc,.int .i64 xt] 155):=⟨_,rfl⟩
   have jn:Below wr.heap.size wr wy:=by rw [jo];exact (Below.refl _ _).alloc (A7 _) _
   have HV:Hid (wy.heap[wr.heap.size]? = some (.cells #[.int .u8 xc,.int .i64 xt] 155 (0,0))):=by rw [jo];exact heap_alloc_new _ _
   have Ji:wr.heap.size<wy.heap.size:=by rw [jo];simp
   have j2:Hid (ContT w1 wy g1 (Bs f (X.take k)) (Bs f (X.take k) ++ Dm ⟨xc,xt⟩) false wy) :=
    ⟨HB.out.trans (jn.mono jA),AC jA jn.size,Nz jh.out jn,Below.refl _ _⟩
   have j1:Hid (Tab wy):=HT.out.later (jp.out.trans (jn.mono jp.out.size));rw [← jo];clear jo jn;refine B4 (by kernel_rfl) (Vs [vq (.pointer (some ⟨wr.heap.size,0,none⟩)),vq (.int .u8 xc),vq (.int .i32 xc),vq (.string ⟨#[UInt8.ofNat xc.toNat]⟩),vq (.string (⟨#[32]⟩ ++ ⟨#[UInt8.ofNat xc.toNat]⟩:ByteArray)),vq (.pointer (some ⟨wr.heap.size,1,none⟩)),vq (.int .i64 xt),vq (.string ⟨(Lib.itoa xt).toArray⟩),vq (.string ((⟨#[32]⟩ ++ ⟨#[UInt8.ofNat xc.toNat]⟩:ByteArray) ++ ⟨(Lib.itoa xt).toArray⟩:ByteArray)),fun _ _=>True]) (Xs [Ext,Ext,Ext,Ext,Ext,Ext,Ext,Ext,Ext,(fun _ _=>True)]) (fun fL=>(fun d W=>ContT w1 wy g1 (Bs f (X.take k)) (Bs f (X.take k) ++ Dm ⟨xc,xt⟩) d W) (fL 9)) [0,1,3,7,15,0,32,96,255,511] 29 10 (by kernel_rfl) rfl ?hV ?hS ?hop ?hfin ?hlast
   case hV =>
    refine BC (Av (by simp only [Aj,List.not_mem_nil,or_false,forall_eq_or_imp,forall_eq];exact ⟨An _,An _,An _,An _,An _,An _,An _,An _,An _,fun _ _ _ _ _=>trivial⟩)) ?_;exact ⟨.inl rfl,.inl rfl,.inl rfl,.inl rfl,.inl rfl,.inl rfl,.inl rfl,.inl rfl,.inl rfl,.inr (BO ⟨fun _ _=>fun _ _ _ h _=>h,fun _ _=>fun _ _ _ h _=>h,fun _ _=>fun _ _ _ h _=>h,fun _ _=>fun _ _ _ h _=>h,fun _ _=>fun _ _ _ h _=>h,fun _ _=>fun _ _ _ h _=>h,fun _ _=>fun _ _ _ h _=>h,fun _ _=>fun _ _ _ h _=>h,fun _ _=>fun _ _ _ h _=>h,fun h=>absurd rfl h,trivial⟩),trivial⟩
   case hS =>
    intro fL hf;show (fun d W=>ContT w1 wy g1 (Bs f (X.take k)) (Bs f (X.take k) ++ Dm ⟨xc,xt⟩) d W) (fL 9) _;rw [hf 9 (by decide)];exact Ky _ _ _ j2.out ⟨rfl,rfl,rfl,A7 _,fun _ _=>rfl⟩
   case hop =>
    refine ⟨?_,?_,?_,?_,?_,?_,?_,?c7,?_,?c9,trivial⟩
    all_goals first | rw [if_neg (by decide)] | rw [if_pos (by decide)]
    all_goals try intro ac W fL jg jq jS jQ jb je ja jF
    all_goals try have hS:(fun d W=>ContT w1 wy g1 (Bs f (X.take k)) (Bs f (X.take k) ++ Dm ⟨xc,xt⟩) d W) (fL 9) W:=jb
    all_goals try (have jf:fL 9=true:=jS 9 (by decide);rw [jf] at hS)
    all_goals try (have jf:fL 9=false:=(by first | exact jq | exact jQ 9 (by decide) (by decide));rw [jf] at hS)
    all_goals try (
     have henc:=Pj xc x0 x1;have hw32:IntKind.i32.wrap xc=xc:=IntWalk.i32_in _ (by omega);have hadd:2+(Lib.itoa xt).length≤9223372036854775807:=by simp only [Dm,List.length_cons] at jH;omega
     have jO:=hS.2.2.2;obtain ⟨v0,v1⟩:=Az ((jO.block wr.heap.size Ji).trans HV.out))
    all_goals try have hh5:=gdA ac 5 (.pointer (some ⟨wr.heap.size,0,none⟩)) (ja 5 (by kernel_rfl))
    all_goals try have hh3:=gdA ac 3 (.pointer (some ⟨g1,0,none⟩)) (ja 3 (by kernel_rfl))
    all_goals try (have je:=DN je;simp [D8,Aq,vq] at je)
    all_goals try clear ja jS jQ jF
    case c7 =>
     have j3:(fun d W=>ContT w1 wy g1 (Bs f (X.take k)) (Bs f (X.take k) ++ Dm ⟨xc,xt⟩) d W) ((upd fL 7) 9) W:=jb;refine Ao rfl (.inr ⟨107,#[.int .i64 xt],W,by (clear jg hS jb j3 jq;simp [go_sem,Act.eval, *]),?_⟩);refine (Tryz.strconv_Itoa xt (by omega) (by omega) W (j1.out.later jO)).mono ?_;rintro e w' ⟨he,k',os,rfl⟩;have hx:Ext W (Sort.grow (W.drewN k') os):=Lib.below_grow _ W (A7 _) k' os;exact ⟨_,he,rfl,hx,(show (fun d W=>ContT w1 wy g1 (Bs f (X.take k)) (Bs f (X.take k) ++ Dm ⟨xc,xt⟩) d W) ((upd fL 7) 9) _ by
      rw [show upd fL 7 9=fL 9 from if_neg (by decide)];exact Ky _ _ _ jb hx)⟩
    case c9 =>
     refine Ao rfl (.inr ⟨105,#[.pointer (some ⟨g1,0,none⟩),.string ((⟨#[32]⟩ ++ ⟨#[UInt8.ofNat xc.toNat]⟩:ByteArray) ++ ⟨(Lib.itoa xt).toArray⟩:ByteArray)],W,by (clear jg hS jb jq;simp [go_sem,Act.eval, *]),?_⟩);obtain ⟨j7,jU,j8⟩:Below g1 w1 W∧g1≤W.heap.size∧Lib.IsBuilderF 179 5 g1 g1 (Lib.byteCells (Bs f (X.take k))) W:=⟨hS.1,hS.2.1,hS.2.2.1⟩
     have jC:(Lib.byteCells (Bs f (X.take k))).length+(((⟨#[32]⟩ ++ ⟨#[UInt8.ofNat xc.toNat]⟩:ByteArray) ++ ⟨(Lib.itoa xt).toArray⟩:ByteArray)).size≤140737488355328:=by
      have jE:(((⟨#[32]⟩ ++ ⟨#[UInt8.ofNat xc.toNat]⟩:ByteArray) ++ ⟨(Lib.itoa xt).toArray⟩:ByteArray)).size=2+(Lib.itoa xt).length:=by
       rw [ByteArray.size_append,ByteArray.size_append];show 1+1+(Lib.itoa xt).toArray.size=_;simp
      rw [Lib.byteCells_length,jE];simp only [Dm,List.length_cons] at jH;omega
     have jW:=FR g1 g1 _ ((⟨#[32]⟩ ++ ⟨#[UInt8.ofNat xc.toNat]⟩:ByteArray) ++ ⟨(Lib.itoa xt).toArray⟩:ByteArray) W j8 jC jU;refine jW.mono ?_;clear jW hS jb;rintro e w' ⟨he,jk,jM⟩;refine ⟨_,he,trivial,trivial,(show (fun d W=>ContT w1 wy g1 (Bs f (X.take k)) (Bs f (X.take k) ++ Dm ⟨xc,xt⟩) d W) ((upd fL 9) 9) _ by
      rw [show upd fL 9 9=true from if_pos rfl];exact ⟨j7.trans jM,AC jU jM.size,by
       have e9:Lib.byteCells (Bs f (X.take k)) ++ Lib.strCells ((⟨#[32]⟩ ++ ⟨#[UInt8.ofNat xc.toNat]⟩:ByteArray) ++ ⟨(Lib.itoa xt).toArray⟩:ByteArray)=Lib.byteCells (Bs f (X.take k) ++ Dm ⟨xc,xt⟩):=by simp [Lib.strCells,Lib.byteCells,Dm]
       rw [e9] at jk;exact jk⟩)⟩
    all_goals (refine Ao rfl (.inl ⟨_,W,?_,rfl,Ext.refl _,jb⟩);clear jg hS jb jq;simp [go_sem,Act.eval, *];done)
   case hlast =>
    intro h;exact absurd rfl h
   case hfin =>
    intro _ ac W jg jP fL hf jb hv ja;have hS:(fun d W=>ContT w1 wy g1 (Bs f (X.take k)) (Bs f (X.take k) ++ Dm ⟨xc,xt⟩) d W) (fL 9) W:=jb;clear jb;rw [hf 9 (by decide)] at hS;obtain ⟨sx,j9,jV⟩:=Aw [17,18,19,20,21,22,23,24,25,26] (by kernel_rfl) jg jP ja;rw [jV];simp only [List.foldl];simp only [Act.put,List.setIfInBounds_toArray,List.set_cons_succ,List.set_cons_zero];clear jV j9 hv ja jg jP hf;have jY:=A6 hS.1;have ji:=A6 hS.2.2;have j6:=hS.2.1;clear hS;rw [← jK.out] at ji
    go_wp2_with fail
    go_roundw
    case rel=>exact ⟨k+1,by omega,by go_num,ji.out,jY.out,j6⟩
    case measure=>simp [intOf];omega
  ·have HA:Hid (Bs f (X.take k)=Bs f X):=by show _=_;rw [AM (by omega)]
   go_wp2_with (go_at_call 108;refine (Tryz.Builder_String_any_k g1 g1 _ _ jh.out jA).mono ?_;rintro e w5 ⟨rfl,_,j4,_⟩)
   go_ret;exact ⟨R9 (by rw [HA.out]),jp.out.trans (j4.mono (by have:=jw.out;omega))⟩
end Go.Proofs.YthjmdgejnakcmaaGreatDoor
