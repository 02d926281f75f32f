/- Texts that the claims share: DStr, DDict, DNodes, DRow, DAfter, DIns, DBuild, DCont. -/
import Derived.Deep.RegionHeld3
import Derived.Deep.DeepCutAuto
import Derived.Laws.Cover1
import Derived.Test.YthjmdgejnakcmaaGreatDoorChecked
import Derived.Deep.QuietTactic
import Derived.BigQuiet
import Derived.Laws.StructEq
import Derived.Maps.AppendAt
import Derived.Laws.AppendOwn
import Derived.Laws.OwnMore
import Derived.Shelf.Strings.BuilderF
import Derived.Lib.FrozenHead2
import Derived.Lib.AppendIntMem
import Derived.Test.YthjmdgejnakcmaaGreatDoorMA1
set_option linter.unusedVariables false
set_option linter.unusedSimpArgs false
namespace Go.Proofs.YthjmdgejnakcmaaGreatDoor
open Go.RowKit
def BX (c:Int):Int:=if 97≤c∧c≤122 then 1 else if 65≤c∧c≤90 then 2 else if 48≤c∧c≤57 then 3 else 0
def G7 (l:List UInt8):Bool:=l.all fun c=>!(BX (c.toNat:Int) == 0)
def DE (s:ByteArray):Bool:=G7 s.data.toList
def CZ (s:ByteArray):Bool:=decide (1≤s.size) && (decide (s.size≤20) && DE s)
theorem Hb (s:ByteArray) (k:Nat) (h:k<s.size):s.data.toList.take (k+1)=s.data.toList.take k ++ [s[k]]:=by
 rw [AO (by simpa using h)];rfl
theorem F1 (s:ByteArray) (k:Nat) (h:¬ k<s.size):s.data.toList.take k=s.data.toList:=AF (by simp;exact Nat.le_of_not_lt h)
theorem Dp {p:UInt8→Bool} (s:ByteArray) (k:Nat) (h:k<s.size) (hp:p s[k]=false):s.data.toList.all p=false:=by
 rw [List.all_eq_false]
 refine ⟨s[k],?_,by simp [hp]⟩
 show s.data[k]∈s.data.toList
 simp
theorem F2 {p:UInt8→Bool} (s:ByteArray) (k:Nat) (h:k<s.size) (ht:(s.data.toList.take k).all p=true) (hp:p s[k]=true):(s.data.toList.take (k+1)).all p=true:=by
 rw [Hb s k h,List.all_append,ht];simp [hp]
theorem Jv (c:Int) (w:World) (h0:0≤c) (h1:c≤255) :
  Calls Tryz.prog 103 #[.int .u8 c] w fun e w'=>e=.returned (.int .i64 (BX c))∧w=w':=by
 rcases (show (97≤c∧c≤122)∨(65≤c∧c≤90)∨(48≤c∧c≤57)∨c<48∨(57<c∧c<65)∨(90<c∧c<97)∨122<c from by omega) with h | h | h | h | h | h | h
 all_goals
  go_enter Tryz.func103,Tryz.ntmps103
  go_wp2
  go_ret
  refine ⟨CM ?_,rfl⟩
  unfold BX
  omega
theorem
    allKnown_any (s:ByteArray) (w:World) (hs:s.size≤9223372036854775807) :
  Calls Tryz.prog 104 #[.string s] w fun e w'=>e=.returned (.bool (DE s))∧w=w':=by
 go_enter Tryz.func104,Tryz.ntmps104
 go_wp2
 go_loop [6] (fun i=>∃ k:Nat,k≤s.size∧i=.int .i64 k∧G7 (s.data.toList.take k)=true) (fun i=>s.size - (intOf i).toNat)
 case atStart=>exact ⟨0,Nat.zero_le _,rfl,rfl⟩
 case round =>
  obtain ⟨k,hk,rfl,ht⟩:=hrel
  have HT:=A0 ht;clear ht
  by_cases hlt:k<s.size
  ·
   have b0:(0:Int)≤(s[k].toNat:Int):=by omega
   have b1:(s[k].toNat:Int)≤255:=by have:=s[k].toNat_lt;omega
   by_cases hc:BX (s[k].toNat:Int)=0
   ·
    have hcb:(BX (s[k].toNat:Int) == 0)=true:=by rw [hc];rfl
    have HC:Hid ((!(BX (s[k].toNat:Int) == 0))=false):=by show _=false;rw [hc];rfl
    clear hc
    go_wp2_with (go_at_call 103;refine (Jv _ _ b0 b1).mono ?_;rintro e w' ⟨rfl,rfl⟩)
    go_ret
    exact ⟨Ae (Dp s k hlt HC.out).symm,rfl⟩
   ·
    have hcb:(BX (s[k].toNat:Int) == 0)=false:=by simpa using hc
    have HC:Hid ((!(BX (s[k].toNat:Int) == 0))=true):=by show _=true;simpa using hc
    clear hc
    go_wp2_with (go_at_call 103;refine (Jv _ _ b0 b1).mono ?_;rintro e w' ⟨rfl,rfl⟩)
    go_round
    case rel=>exact ⟨k+1,by omega,by go_num,F2 s k hlt HT.out HC.out⟩
    case measure=>simp [intOf];omega
  ·
   have HA:=A0 (F1 s k hlt)
   go_wp2
   go_ret
   exact ⟨Ae (by rw [DE,← HA.out];exact HT.out.symm),rfl⟩
def inB (a b c:Int):Bool:=decide (b≤a) && decide (a≤c)
theorem Gb {a b c:Int} (h:b≤a) (h2:a≤c):inB a b c=true:=by simp [inB,h,h2]
theorem GC {a b c:Int} (h:¬ (b≤a∧a≤c)):inB a b c=false:=by
 unfold inB;rw [Bool.and_eq_false_iff];simp;omega
theorem F6 (a b c:Int) (w:World):Calls Tryz.prog 80 #[.int .i64 a,.int .i64 b,.int .i64 c] w fun e w'=>e=.returned (.bool (inB a b c))∧w'=w:=by
 by_cases h:b≤a
 ·
  by_cases h2:a≤c
  ·
   have H:=A0 (Gb h h2)
   go_enter Tryz.func80,Tryz.ntmps80
   go_wp2
   go_ret
   exact ⟨Ae (by rw [H.out];try (simp [h2])),rfl⟩
  ·
   have H:=A0 (GC (a:=a) (b:=b) (c:=c) (by omega))
   go_enter Tryz.func80,Tryz.ntmps80
   go_wp2
   go_ret
   exact ⟨Ae (by rw [H.out];try (simp;omega)),rfl⟩
 ·
  have H:=A0 (GC (a:=a) (b:=b) (c:=c) (by omega))
  go_enter Tryz.func80,Tryz.ntmps80
  go_wp2
  go_ret
  exact ⟨Ae (by rw [H.out];try (simp;omega)),rfl⟩
theorem F7 {c:Int}:(BX c == 0)=(!(decide (97≤c) && decide (c≤122)) && (!(decide (65≤c) && decide (c≤90)) && !(decide (48≤c) && decide (c≤57)))):=by
 unfold BX
 by_cases h:97≤c∧c≤122
 · simp [h]
 ·
  by_cases h2:65≤c∧c≤90
  · rw [if_neg h,if_pos h2];simp [h2]
  ·
   by_cases h3:48≤c∧c≤57
   · rw [if_neg h,if_neg h2,if_pos h3];simp [h3]
   · rw [if_neg h,if_neg h2,if_neg h3];simp;omega
set_option maxHeartbeats 1600000 in
theorem
    plain_any (s:ByteArray) (w:World) (hs:s.size≤9223372036854775807) :
  Calls Tryz.prog 82 #[.string s] w fun e w'=>e=.returned (.bool (DE s))∧w=w':=by
 go_enter Tryz.func82,Tryz.ntmps82
 go_wp2
 go_loop [3] (fun i=>∃ k:Nat,k≤s.size∧i=.int .i64 k∧G7 (s.data.toList.take k)=true) (fun i=>s.size - (intOf i).toNat)
 case atStart=>exact ⟨0,Nat.zero_le _,rfl,rfl⟩
 case round
       =>
  obtain ⟨k,hk,rfl,ht⟩:=hrel
  have HT:=A0 ht;clear ht
  by_cases hlt:k<s.size
  ·
   have
      b0:(0:Int)≤(s[k].toNat:Int):=by omega
   have b1:(s[k].toNat:Int)≤255:=by have:=s[k].toNat_lt;omega
   rcases (show ((97:Int)≤(s[k].toNat:Int)∧(s[k].toNat:Int)≤122)∨((65:Int)≤(s[k].toNat:Int)∧(s[k].toNat:Int)≤90)∨((48:Int)≤(s[k].toNat:Int)∧(s[k].toNat:Int)≤57)∨((122:Int)<(s[k].toNat:Int))∨((90:Int)<(s[k].toNat:Int)∧(s[k].toNat:Int)<97)∨((57:Int)<(s[k].toNat:Int)∧(s[k].toNat:Int)<65)∨((s[k].toNat:Int)<48) by omega) with h | h | h | h | h | h | h
   all_goals first
    | (
      have HC:Hid ((!(BX (s[k].toNat:Int) == 0))=true):=by
       show _=true
       rw [F7];simp;omega
      go_wp2
      go_round
      case rel=>exact ⟨k+1,by omega,by go_num,F2 s k hlt HT.out HC.out⟩
      case measure=>simp [intOf];omega)
    | (
      have HC:Hid ((!(BX (s[k].toNat:Int) == 0))=false):=by
       show _=false
       rw [F7];simp;omega
      go_wp2
      go_ret
      exact ⟨Ae (Dp s k hlt HC.out).symm,rfl⟩)
  ·
   have HA:=A0 (F1 s k hlt)
   go_wp2
   go_ret
   exact ⟨Ae (by rw [DE,← HA.out];exact HT.out.symm),rfl⟩
theorem Gc (s:ByteArray) (w:World) :
  Calls Tryz.prog 76 #[.string s] w fun e w'=>e=.returned (.bool (CZ s))∧w=w':=by
 by_cases h1:1≤s.size
 ·
  by_cases h2:s.size≤20
  ·
   have i1:(1:Int)≤(s.size:Int):=by omega
   have i2:(s.size:Int)≤20:=by omega
   have H:Hid (CZ s=DE s):=by show _=_;simp [CZ,h1,h2]
   go_enter Tryz.func76,Tryz.ntmps76
   go_wp2_with (go_at_call 104;refine (allKnown_any _ _ (by omega)).mono ?_;rintro e w' ⟨rfl,rfl⟩)
   go_ret
   exact ⟨Ae H.out.symm,rfl⟩
  ·
   have i1:(1:Int)≤(s.size:Int):=by omega
   have i2:¬ (s.size:Int)≤20:=by omega
   have H:Hid (CZ s=false):=by show _=_;simp [CZ,h1,h2]
   go_enter Tryz.func76,Tryz.ntmps76
   go_wp2
   go_ret
   exact ⟨Ae H.out.symm,rfl⟩
 ·
  have i1:¬ (1:Int)≤(s.size:Int):=by omega
  have H:Hid (CZ s=false):=by show _=_;simp [CZ,h1]
  go_enter Tryz.func76,Tryz.ntmps76
  go_wp2
  go_ret
  exact ⟨Ae H.out.symm,rfl⟩
theorem FT (s:ByteArray) (w:World) :
  Calls Tryz.prog 89 #[.string s] w fun e w'=>e=.returned (.bool (CZ s))∧w=w':=by
 obtain ⟨o,ho⟩:∃ o,inB (s.size:Int) 1 20=o:=⟨_,rfl⟩
 have HO:=A0 ho
 have ho2:(decide (1≤s.size) && decide (s.size≤20))=o:=by
  rw [← ho,inB,show decide ((1:Int)≤(s.size:Int))=decide (1≤s.size) from by rw [decide_eq_decide];omega,show decide ((s.size:Int)≤20)=decide (s.size≤20) from by rw [decide_eq_decide];omega]
 have H:Hid (CZ s=(o && DE s)):=by show _=_;rw [CZ,← Bool.and_assoc,ho2]
 cases o with
 | true =>
  have hs:s.size≤20:=by simp at ho2;exact ho2.2
  clear ho ho2
  go_enter Tryz.func89,Tryz.ntmps89
  go_wp2_with (first
   | (go_at_call 80;refine (F6 _ _ _ _).mono ?_;rintro e w' ⟨he,rfl⟩;rw [HO.out] at he;subst he)
   | (go_at_call 82;refine (plain_any _ _ (by omega)).mono ?_;rintro e w' ⟨rfl,rfl⟩))
  go_ret
  exact ⟨Ae (by rw [H.out];rfl),rfl⟩
 | false =>
  clear ho ho2
  go_enter Tryz.func89,Tryz.ntmps89
  go_wp2_with (first
   | (go_at_call 80;refine (F6 _ _ _ _).mono ?_;rintro e w' ⟨he,rfl⟩;rw [HO.out] at he;subst he)
   | (go_at_call 82;refine (plain_any _ _ (by omega)).mono ?_;rintro e w' ⟨rfl,rfl⟩))
  go_ret
  exact ⟨Ae (by rw [H.out];rfl),rfl⟩
open Go.RowKit Go.WideShapes
def Ba (w:World) (a:Option Addr) (L:List ByteArray):Prop:=∀ k (hk:k<L.length),∃ b o,a=some ⟨b,o,none⟩∧b<w.heap.size∧w.cell? ⟨b,o+k,none⟩=some (.string L[k])
theorem Ba.at {w:World} {a:Option Addr} {L:List ByteArray} (h:Ba w a L) {k:Nat} (hk:k<L.length):∃ b o,a=some ⟨b,o,none⟩∧b<w.heap.size∧w.cell? ⟨b,o+k,none⟩=some (.string L[k]):=h k hk
theorem Ba.later {w w1:World} {a:Option Addr} {L:List ByteArray} {B:Nat} (h:Ba w a L) (hb:Below B w w1) (hB:w.heap.size≤B):Ba w1 a L:=fun k hk=>by
 obtain ⟨b,o,ha,h1,h2⟩:=h k hk
 exact ⟨b,o,ha,by have:=hb.size;omega,(hb.cell (p:=⟨b,o+k,none⟩) (by show b<B;omega)).trans h2⟩
theorem Ba.nil (w:World) (a:Option Addr):Ba w a []:=fun k hk=>by simp at hk
theorem CR (a:Option Addr) (b o len cap k:Nat) (ha:a=some ⟨b,o,none⟩) (hk:k<len) (w:World) :
  (Instr.indexAt 37 (.slice a len cap) (.int .i64 (k:Int))).run Tryz.prog w=.ok (.pointer (some ⟨b,o+k,none⟩)) w:=by
 subst ha
 have h0:(0:Int)≤(k:Int):=by omega
 have h1:(k:Int)<(len:Int):=by omega
 simp [go_sem,h0,h1]
theorem Ee (s t:ByteArray):(s.toList == t.toList)=decide (s=t):=by
 rw [Bool.eq_iff_iff]
 simp only [beq_iff_eq,decide_eq_true_eq]
 constructor
 · intro h;rw [ByteArray.toList_eq,ByteArray.toList_eq] at h;exact bytes_inj h
 · rintro rfl;rfl
def II (L:List ByteArray) (s:ByteArray):Int:=if L.findIdx (fun x=>decide (x=s))<L.length then (L.findIdx (fun x=>decide (x=s)):Int) else -1
theorem RE {L:List ByteArray} {s:ByteArray} {k:Nat} (hk:k<L.length) (hno:∀ j (hj:j<L.length),j<k→L[j]≠s) (h:L[k]=s):II L s=k:=by
 have:L.findIdx (fun x=>decide (x=s))=k:=(List.findIdx_eq hk).2 ⟨by simp [h],fun j hj=>by simpa using hno j (by omega) hj⟩
 rw [II,this,if_pos hk]
theorem RF {L:List ByteArray} {s:ByteArray} (hno:∀ j (hj:j<L.length),L[j]≠s):II L s = -1:=by
 rw [II,if_neg]
 intro h
 have:=List.findIdx_getElem (w:=h)
 simp only [decide_eq_true_eq] at this
 exact hno _ h this
set_option maxHeartbeats 1600000 in
theorem
    rindex_any (L:List ByteArray) (n:Nat) (a:Option Addr) (cap:Nat) (s:ByteArray) (w:World) (hR:Ba w a L) (hL:n=L.length) (hn:n≤9223372036854775807) :
  Calls Tryz.prog 60 #[.slice a n cap,.string s] w fun e w'=>e=.returned (.int .i64 (II L s))∧w=w':=by
 subst hL
 have HR:=A0 hR;clear hR
 go_enter Tryz.func60,Tryz.ntmps60
 go_wp2
 go_loop [5] (fun i=>∃ k:Nat,k≤L.length∧i=.int .i64 k∧∀ j (hj:j<L.length),j<k→L[j]≠s) (fun i=>L.length - (intOf i).toNat)
 case atStart=>exact ⟨0,Nat.zero_le _,rfl,fun j _ h=>by omega⟩
 case round =>
  obtain ⟨k,hk,rfl,hno⟩:=hrel
  have HN:=A0 hno;clear hno
  by_cases hlt:k<L.length
  ·
   obtain ⟨b,o,ha,hb,h0⟩:=HR.out.at hlt
   have hidx:=CR a b o L.length cap k ha hlt
   have HA:=A0 ha;clear ha
   obtain ⟨x,hx⟩:∃ x,L[k]=x:=⟨_,rfl⟩
   have HX:=A0 hx
   rw [hx] at h0
   clear hx
   by_cases hq:x=s
   ·
    have HQ:=A0 hq
    have hbq:(x.toList == s.toList)=true:=by rw [Ee];simp [hq]
    clear hq
    go_wp2
    go_ret
    exact ⟨CM (RE hlt HN.out (HX.out.trans HQ.out)).symm,rfl⟩
   ·
    have HQ:Hid (¬ x=s):=hq
    have hbq:(x.toList == s.toList)=false:=by rw [Ee];exact decide_eq_false hq
    clear hq
    go_wp2
    go_round
    case rel=>exact ⟨k+1,by omega,by go_num,fun j hj hjk=>by
     by_cases e:j=k
     · subst e;exact fun h=>HQ.out (HX.out.symm.trans h)
     · exact HN.out j hj (by omega)⟩
    case measure=>simp [intOf];omega
  ·
   have HA:=A0 (RF (L:=L) (s:=s) fun j hj=>HN.out j hj (by omega))
   go_wp2
   go_ret
   exact ⟨CM HA.out.symm,rfl⟩
theorem Po {L M:List ByteArray} {k:Nat} (hl:L.length=M.length) (hk:¬ k<L.length) (h:L.take k=M.take k):L=M:=by
 rwa [AF (by omega),AF (by omega)] at h
set_option maxHeartbeats 1600000 in
theorem
    sameWords_any (L M:List ByteArray) (n m:Nat) (a b:Option Addr) (c d:Nat) (w:World) (hR:Ba w a L) (hQ:Ba w b M) (hL:n=L.length) (hM:m=M.length) (hn:n≤9223372036854775807) (hm:m≤9223372036854775807) :
  Calls Tryz.prog 111 #[.slice a n c,.slice b m d] w fun e w'=>e=.returned (.bool (decide (L=M)))∧Below w.heap.size w w':=by
 subst hL hM
 have HR:=A0 hR;have HQ:=A0 hQ;clear hR hQ
 by_cases hl:L.length=M.length
 ·
  have hlI:((L.length:Int) != (M.length:Int))=false:=by simp [hl]
  have HL:=A0 hl
  clear hl
  go_enter Tryz.func111,Tryz.ntmps111
  go_wp2
  go_loopw [5] (fun i wr=>∃ k:Nat,k≤L.length∧i=.int .i64 k∧L.take k=M.take k∧Below w.heap.size w wr) (fun i _=>L.length - (intOf i).toNat)
  case atStart=>exact ⟨0,Nat.zero_le _,rfl,rfl,Below.refl _ _⟩
  case round =>
   obtain ⟨k,hk,rfl,ht,hB⟩:=hrel
   have HT:=A0 ht;clear ht
   by_cases hlt:k<L.length
   ·
    have hlt2:k<M.length:=by have:=HL.out;omega
    obtain ⟨b1,o1,ha1,hb1,h1⟩:=(HR.out.later hB (A3 _)).at hlt
    obtain ⟨b2,o2,ha2,hb2,h2⟩:=(HQ.out.later hB (A3 _)).at hlt2
    have hi1:=CR a b1 o1 L.length c k ha1 hlt
    have hi2:=CR b b2 o2 M.length d k ha2 hlt2
    have HA:=A0 ha1;have HA2:=A0 ha2;clear ha1 ha2
    have HS1:=A0 (AO hlt);have HS2:=A0 (AO hlt2)
    obtain ⟨x,hx⟩:∃ x,L[k]=x:=⟨_,rfl⟩
    obtain ⟨y,hy⟩:∃ y,M[k]=y:=⟨_,rfl⟩
    have HX:=A0 hx;have HY:=A0 hy
    rw [hx] at h1 HS1
    rw [hy] at h2 HS2
    clear hx hy
    by_cases hq:x=y
    ·
     have HN:Hid (L.take (k+1)=M.take (k+1)):=by show _=_;rw [HS1.out,HS2.out,HT.out,hq]
     have hbq:(x.toList == y.toList)=true:=by rw [Ee];simp [hq]
     clear hq
     go_wp2
     go_quiet (fail)
     go_wp2
     go_roundw
     case rel=>exact ⟨k+1,by omega,by go_num,HN.out,below_drewN hB _⟩
     case measure=>simp [intOf];omega
    ·
     have HN:Hid (decide (L=M)=false):=decide_eq_false fun h=>hq (by have:=HX.out;have:=HY.out;subst h;simp_all)
     have hbq:(x.toList == y.toList)=false:=by rw [Ee];exact decide_eq_false hq
     clear hq
     go_wp2
     go_quiet (fail)
     go_wp2
     go_ret
     exact ⟨Ae HN.out.symm,below_drewN hB _⟩
   ·
    have HN:Hid (decide (L=M)=true):=decide_eq_true (Po HL.out hlt HT.out)
    go_wp2
    go_ret
    exact ⟨Ae HN.out.symm,hB⟩
 ·
  have HN:Hid (decide (L=M)=false):=decide_eq_false fun h=>hl (by rw [h])
  have hlI:((L.length:Int) != (M.length:Int))=true:=by simp;omega
  clear hl
  go_enter Tryz.func111,Tryz.ntmps111
  go_wp2
  go_ret
  exact ⟨Ae HN.out.symm,by go_grown⟩
def ltS (s t:ByteArray):Bool:=Op.bytesLess s.toList t.toList
def EC (L:List ByteArray) (k:Nat):Prop:=∀ i (h:i<L.length),i<k→CZ L[i]=true∧(0<i→ltS (L[i - 1]'(by omega)) L[i]=true)
def CP (L:List ByteArray):Prop:=1≤L.length∧L.length≤200∧EC L L.length
noncomputable def E9 (L:List ByteArray):Bool:=@decide (CP L) (Classical.propDecidable _)
theorem FU {L:List ByteArray} (h:CP L):E9 L=true:=@decide_eq_true _ (Classical.propDecidable _) h
theorem D5 {L:List ByteArray} (h:¬ CP L):E9 L=false:=@decide_eq_false _ (Classical.propDecidable _) h
theorem EC.step {L:List ByteArray} {k:Nat} (h:EC L k) (hk:k<L.length) (h1:CZ L[k]=true) (h2:0<k→ltS (L[k - 1]'(by omega)) L[k]=true):EC L (k+1):=by
 intro i hi hik
 by_cases e:i=k
 · subst e;exact ⟨h1,h2⟩
 · exact h i hi (by omega)
theorem GD:∀ a b:List UInt8,(Op.bytesLess a b || a == b)=!(Op.bytesLess b a)
 | [],[]=>by simp [Op.bytesLess]
 | [],_ :: _=>by simp [Op.bytesLess]
 | _ :: _,[]=>by simp [Op.bytesLess]
 | x
   :: xs,y :: ys=>by
  have ih:=GD xs ys
  have e1:∀ u v:UInt8,(u<v)=(u.toNat<v.toNat):=fun u v=>by rw [UInt8.lt_iff_toNat_lt]
  simp only [Op.bytesLess]
  rcases Nat.lt_trichotomy x.toNat y.toNat with h | h | h
  ·
   have h1:x<y:=by rw [e1];exact h
   have h2:¬ y<x:=by rw [e1];omega
   have h3:¬ y=x:=by rintro rfl;omega
   simp [h1,h2,h3]
  ·
   have h3:x=y:=UInt8.toNat_inj.1 h
   subst h3
   have h1:¬ x<x:=by rw [e1];omega
   simpa [h1] using ih
  ·
   have h1:y<x:=by rw [e1];exact h
   have h2:¬ x<y:=by rw [e1];omega
   have h3:¬ x=y:=by rintro rfl;omega
   simp [h1,h2,h3]
theorem OF (s t:ByteArray):(ltS s t || s.toList == t.toList)=!(ltS t s):=GD _ _
set_option maxHeartbeats 1600000 in
set_option maxRecDepth 100000 in
theorem
    dictionary_any (L:List ByteArray) (n:Nat) (a:Option Addr) (cap:Nat) (w:World) (hR:Ba w a L) (hL:n=L.length) (hn:n≤9223372036854775807) :
  Calls Tryz.prog 46 #[.slice a n cap] w fun e w'=>e=.returned (.bool (E9 L))∧w=w':=by
 subst hL
 have HR:=A0 hR;clear hR
 by_cases h1:1≤L.length
 ·
  have i1
      :
       ¬
        (L.length:Int)<1:=by omega
  by_cases h2:L.length≤200
  ·
   have i2
       :
        ¬
         (200:Int)<(L.length:Int):=by omega
   go_enter Tryz.func46,Tryz.ntmps46
   go_wp2
   go_loop [15] (fun i=>∃ k:Nat,k≤L.length∧i=.int .i64 k∧EC L k) (fun i=>L.length - (intOf i).toNat)
   case atStart=>exact ⟨0,Nat.zero_le _,rfl,fun i _ h=>by omega⟩
   case round =>
    obtain ⟨k,hk,rfl,hg⟩:=hrel
    have HG:=A0 hg;clear hg
    by_cases hlt:k<L.length
    ·
     obtain ⟨
         b,o,ha,hb,h0⟩:=HR.out.at hlt
     have hidx:=CR a b o L.length cap k ha hlt
     obtain ⟨x,hx⟩:∃ x,L[k]=x:=⟨_,rfl⟩
     have HX:=A0 hx
     rw [hx] at h0
     clear hx
     obtain ⟨q,hq⟩:∃ q,CZ x=q:=⟨_,rfl⟩
     have HQ:=A0 hq
     clear hq
     cases q with
     | false =>
      have HN:Hid (E9 L=false):=D5 fun h=>by
       have:=(h.2.2 k hlt hlt).1
       rw [HX.out,HQ.out] at this;cases this
      clear ha
      go_wp2_with (go_at_call 76;refine (Gc _ _).mono ?_;rintro e w' ⟨he,rfl⟩;rw [HQ.out] at he;subst he)
      go_ret
      exact ⟨Ae HN.out.symm,rfl⟩
     | true =>
      by_cases hk0:k=0
      ·
       have hgt:¬ (0:Int)<(k:Int):=by omega
       have HS:Hid (EC L (k+1)):=HG.out.step hlt (by rw [HX.out];exact HQ.out) (fun h=>by omega)
       clear ha hk0
       go_wp2_with (go_at_call 76;refine (Gc _ _).mono ?_;rintro e w' ⟨he,rfl⟩;rw [HQ.out] at he;subst he)
       go_round
       case rel=>exact ⟨k+1,by omega,by go_num,HS.out⟩
       case measure=>simp [intOf];omega
      ·
       have hj:k - 1<L.length:=by omega
       obtain ⟨j,hjk⟩:∃ j,k - 1=j:=⟨_,rfl⟩
       obtain ⟨b2,o2,ha2,hb2,h2⟩:=HR.out.at hj
       obtain ⟨y,hy⟩:∃ y,L[k - 1]=y:=⟨_,rfl⟩
       have HY:=A0 hy
       rw [hy] at h2
       rw [hjk] at h2 hj
       have hidx2:=CR a b2 o2 L.length cap j ha2 hj
       have hw1:IntKind.i64.wrap ((k:Int) - 1)=(j:Int):=by rw [IntWalk.i64_in _ (by omega)];omega
       have hgt:(0:Int)<(k:Int):=by omega
       clear hy ha ha2 hjk
       obtain ⟨q,hq⟩:∃ q,Op.bytesLess y.toList x.toList=q:=⟨_,rfl⟩
       have HLT:Hid (ltS y x=q):=hq
       cases q with
       | true =>
        have HS:Hid (EC L (k+1)):=HG.out.step hlt (by rw [HX.out];exact HQ.out) (fun h=>by rw [HY.out,HX.out];exact HLT.out)
        go_wp2_with (go_at_call 76;refine (Gc _ _).mono ?_;rintro e w' ⟨he,rfl⟩;rw [HQ.out] at he;subst he)
        go_round
        case rel=>exact ⟨k+1,by omega,by go_num,HS.out⟩
        case measure=>simp [intOf];omega
       | false =>
        have HN:Hid (E9 L=false):=D5 fun h=>by
         have:=(h.2.2 k hlt hlt).2 (by omega)
         rw [HY.out,HX.out,HLT.out] at this;cases this
        go_wp2_with (go_at_call 76;refine (Gc _ _).mono ?_;rintro e w' ⟨he,rfl⟩;rw [HQ.out] at he;subst he)
        go_ret
        exact ⟨Ae HN.out.symm,rfl⟩
    ·
     have HN:Hid (E9 L=true):=FU ⟨h1,h2,fun i hi _=>HG.out i hi (by omega)⟩
     go_wp2
     go_ret
     exact ⟨Ae HN.out.symm,rfl⟩
  ·
   have i2:(200:Int)<(L.length:Int):=by omega
   have HN:Hid (E9 L=false):=D5 fun h=>h2 h.2.1
   go_enter Tryz.func46,Tryz.ntmps46
   go_wp2
   go_ret
   exact ⟨Ae HN.out.symm,rfl⟩
 ·
  have i1:(L.length:Int)<1:=by omega
  have HN:Hid (E9 L=false):=D5 fun h=>h1 h.1
  go_enter Tryz.func46,Tryz.ntmps46
  go_wp2
  go_ret
  exact ⟨Ae HN.out.symm,rfl⟩
set_option maxHeartbeats 1600000 in
set_option maxRecDepth 100000 in
theorem
    rdictionary_any (L:List ByteArray) (n:Nat) (a:Option Addr) (cap:Nat) (w:World) (hR:Ba w a L) (hL:n=L.length) (hn:n≤9223372036854775807) :
  Calls Tryz.prog 58 #[.slice a n cap] w fun e w'=>e=.returned (.bool (E9 L))∧Below w.heap.size w w':=by
 subst hL
 have HR:=A0 hR;clear hR
 go_enter Tryz.func58,Tryz.ntmps58
 go_wp2
 go_loopw [3] (fun i wr=>∃ k:Nat,k≤L.length∧i=.int .i64 k∧EC L k∧Below w.heap.size w wr) (fun i _=>L.length - (intOf i).toNat)
 case atStart=>exact ⟨0,Nat.zero_le _,rfl,fun i _ h=>by omega,Below.refl _ _⟩
 case round =>
  obtain ⟨k,hk,rfl,hg,hB⟩:=hrel
  have HG:=A0 hg;have HBR:=A0 hB;clear hg
  by_cases hlt:k<L.length
  ·
   obtain ⟨
       b,o,ha,hb,h0⟩:=(HR.out.later hB (A3 _)).at hlt
   have hidx:=CR a b o L.length cap k ha hlt
   obtain ⟨x,hx⟩:∃ x,L[k]=x:=⟨_,rfl⟩
   have HX:=A0 hx
   rw [hx] at h0
   have HX0:=A0 h0
   clear hx hB h0
   obtain ⟨q,hq⟩:∃ q,CZ x=q:=⟨_,rfl⟩
   have HQ:=A0 hq
   clear hq
   cases q with
   | false =>
    have HN:Hid (E9 L=false):=D5 fun h=>by
     have:=(h.2.2 k hlt hlt).1
     rw [HX.out,HQ.out] at this;cases this
    clear ha
    go_upto_region 4 with fail
    refine Ag (by kernel_rfl) (Vs [vq (.slice a L.length cap),vq (.int .i64 (k:Int)),vq (.pointer (some ⟨b,o+k,none⟩)),vq (.string x),vq (.bool false),vq (.bool true),vq (.bool true),vq (undef),vq (undef),vq (undef),vq (undef),vq (undef),vq (undef),vq (undef),vq (undef),vq (undef),vq (undef),vq (undef),vq (undef),vq (undef),vq (undef),vq (.bool true)]) (fun W=>Below wr.heap.size wr W) 40 (by kernel_rfl) rfl ?hVx ?hSx ?hS (Ao ?hop) ?hfin
    case hop =>
     refine ⟨?_,?_,?_,?_,?k4,?_,?_,?_,?_,?_,?_,?_,?_,?_,?_,?_,?_,?_,?_,?_,?_,?_,trivial⟩
     all_goals
      intro A W hsz hS hdep hbase
      have x0':=(hS.cell (p:=⟨b,o+k,none⟩) hb).trans HX0.out
      have h0:A.tmps.getD 0 undef=.slice a L.length cap:=hbase 0 (by kernel_rfl)
      have h3:A.tmps.getD 3 undef=.int .i64 (k:Int):=hbase 3 (by kernel_rfl)
      clear hbase
      simp [Aa,Region.binds,Vs,vq] at hdep
     case k4 =>
      refine AZ rfl (.inr ⟨89,#[.string x],W,by (clear hsz hS;simp [go_sem,Act.eval, *]),?_⟩)
      refine (FT x W).mono ?_
      rintro e w' ⟨he,rfl⟩
      rw [HQ.out] at he
      exact ⟨_,he,rfl,Ext.refl _⟩
     all_goals first
      | (refine AZ rfl (.inl ⟨_,W,?_,rfl,Ext.refl _⟩);clear hsz hS;simp [go_sem,Act.eval, *];done)
      | exact Av (j:=6) (d:=16) (b:=true) rfl (by kernel_rfl) (by simp only [hdep]) rfl rfl
      | exact CG (j:=9) (d:=19) rfl (by kernel_rfl) (by simp only [hdep]) rfl
    case hVx=>exact Ac (by simp only [AU,List.not_mem_nil,or_false,forall_eq_or_imp,forall_eq];and_intros <;> exact AY _)
    case hSx=>exact fun W W' h hx=>h.trans (Below.mono hx h.size)
    case hS=>exact Below.refl _ _
    case hfin =>
     intro A W hsz hdf hS hv hbase
     obtain ⟨x,hx,hA⟩:=Af [10,11,12,13,14,15,16,17,18,19,20,21,22,23,24,25,26,27,28,29,30,31] (by kernel_rfl) hsz hdf hbase
     have e31:x 31=.bool true:=(hx 31).trans (hv 21 (by decide))
     rw [hA]
     simp only [List.foldl]
     rw [e31]
     clear e31
     simp only [Act.put,List.setIfInBounds_toArray,List.set_cons_succ,List.set_cons_zero]
     clear hA hx hv hbase hsz hdf
     have HBX:=A0 (HBR.out.trans (hS.mono HBR.out.size))
     clear hS
     go_wp2_with fail
     go_ret
     exact ⟨Ae HN.out.symm,HBX.out⟩
   | true =>
    by_cases hk0:k=0
    ·
     have hgt:¬ (0:Int)<(k:Int):=by omega
     have HS:Hid (EC L (k+1)):=HG.out.step hlt (by rw [HX.out];exact HQ.out) (fun h=>by omega)
     have HK0:=A0 hk0
     clear ha hk0
     go_upto_region 4 with fail
     refine Ag (by kernel_rfl) (Vs [vq (.slice a L.length cap),vq (.int .i64 (k:Int)),vq (.pointer (some ⟨b,o+k,none⟩)),vq (.string x),vq (.bool true),vq (.bool false),vq (.bool false),vq (.int .i64 (k:Int)),vq (.bool false),vq (.bool false),vq (undef),vq (undef),vq (undef),vq (undef),vq (undef),vq (undef),vq (undef),vq (undef),vq (undef),vq (undef),vq (.bool false),vq (.bool false)]) (fun W=>Below wr.heap.size wr W) 40 (by kernel_rfl) rfl ?hVx ?hSx ?hS (Ao ?hop) ?hfin
     case hop =>
      refine ⟨?_,?_,?_,?_,?k4,?_,?_,?_,?k8,?_,?_,?_,?_,?_,?_,?_,?_,?_,?_,?_,?_,?_,trivial⟩
      all_goals
       intro A W hsz hS hdep hbase
       have x0':=(hS.cell (p:=⟨b,o+k,none⟩) hb).trans HX0.out
       have h0:A.tmps.getD 0 undef=.slice a L.length cap:=hbase 0 (by kernel_rfl)
       have h3:A.tmps.getD 3 undef=.int .i64 (k:Int):=hbase 3 (by kernel_rfl)
       clear hbase
       simp [Aa,Region.binds,Vs,vq] at hdep
      case k4 =>
       refine AZ rfl (.inr ⟨89,#[.string x],W,by (clear hsz hS;simp [go_sem,Act.eval, *]),?_⟩)
       refine (FT x W).mono ?_
       rintro e w' ⟨he,rfl⟩
       rw [HQ.out] at he
       exact ⟨_,he,rfl,Ext.refl _⟩
      case k8 =>
       refine Ad (j:=6) (d:=16) (b:=false) rfl (by kernel_rfl) (by simp only [hdep]) rfl (.inl ⟨_,W,?_,rfl,Ext.refl _⟩);clear hsz hS;simp [go_sem,Act.eval, *];exact HK0.out
      all_goals first
       | (refine AZ rfl (.inl ⟨_,W,?_,rfl,Ext.refl _⟩);clear hsz hS;simp [go_sem,Act.eval, *];done)
       | (refine Ad (j:=6) (d:=16) (b:=false) rfl (by kernel_rfl) (by simp only [hdep]) rfl (.inl ⟨_,W,?_,rfl,Ext.refl _⟩);clear hsz hS;simp [go_sem,Act.eval, *];done)
       | exact Av (j:=9) (d:=19) (b:=false) rfl (by kernel_rfl) (by simp only [hdep]) rfl rfl
     case hVx=>exact Ac (by simp only [AU,List.not_mem_nil,or_false,forall_eq_or_imp,forall_eq];and_intros <;> exact AY _)
     case hSx=>exact fun W W' h hx=>h.trans (Below.mono hx h.size)
     case hS=>exact Below.refl _ _
     case hfin =>
      intro A W hsz hdf hS hv hbase
      obtain ⟨x,hx,hA⟩:=Af [10,11,12,13,14,15,16,17,18,19,20,21,22,23,24,25,26,27,28,29,30,31] (by kernel_rfl) hsz hdf hbase
      have e31:x 31=.bool false:=(hx 31).trans (hv 21 (by decide))
      rw [hA]
      simp only [List.foldl]
      rw [e31]
      clear e31
      simp only [Act.put,List.setIfInBounds_toArray,List.set_cons_succ,List.set_cons_zero]
      clear hA hx hv hbase hsz hdf
      have HBX:=A0 (HBR.out.trans (hS.mono HBR.out.size))
      clear hS
      go_wp2_with fail
      go_roundw
      case rel=>exact ⟨k+1,by omega,by go_num,HS.out,HBX.out⟩
      case measure=>simp [intOf];omega
    ·
     have hj:k - 1<L.length:=by omega
     obtain ⟨j,hjk⟩:∃ j,k - 1=j:=⟨_,rfl⟩
     obtain ⟨b2,o2,ha2,hb2,h2⟩:=(HR.out.later HBR.out (A3 _)).at hj
     obtain ⟨y,hy⟩:∃ y,L[k - 1]=y:=⟨_,rfl⟩
     have HY:=A0 hy
     rw [hy] at h2
     rw [hjk] at h2 hj
     have hidx2:=CR a b2 o2 L.length cap j ha2 hj
     have hw1:IntKind.i64.wrap ((k:Int) - 1)=(j:Int):=by rw [IntWalk.i64_in _ (by omega)];omega
     have hgt:(0:Int)<(k:Int):=by omega
     have hkp:0<k:=by omega
     have HX2:=A0 h2
     clear hy ha ha2 hjk h2
     obtain ⟨q,hq⟩:∃ q,ltS y x=q:=⟨_,rfl⟩
     have HLT:=A0 hq
     have hle:(Op.bytesLess x.toList y.toList || x.toList == y.toList)=!q:=by rw [← hq];exact OF x y
     clear hq
     cases q with
     | true =>
      have HS:Hid (EC L (k+1)):=HG.out.step hlt (by rw [HX.out];exact HQ.out) (fun h=>by rw [HY.out,HX.out];exact HLT.out)
      have hle2:(Op.bytesLess x.toList y.toList || x.toList == y.toList)=false:=hle
      clear hle
      go_upto_region 4 with fail
      refine Ag (by kernel_rfl) (Vs [vq (.slice a L.length cap),vq (.int .i64 (k:Int)),vq (.pointer (some ⟨b,o+k,none⟩)),vq (.string x),vq (.bool true),vq (.bool false),vq (.bool false),vq (.int .i64 (k:Int)),vq (.bool true),vq (.bool true),vq (.slice a L.length cap),vq (.int .i64 (k:Int)),vq (.pointer (some ⟨b,o+k,none⟩)),vq (.string x),vq (.slice a L.length cap),vq (.int .i64 (k:Int)),vq (.int .i64 (j:Int)),vq (.pointer (some ⟨b2,o2+j,none⟩)),vq (.string y),vq (.bool false),vq (.bool false),vq (.bool false)]) (fun W=>Below wr.heap.size wr W) 40 (by kernel_rfl) rfl ?hVx ?hSx ?hS (Ao ?hop) ?hfin
      case hop =>
       refine ⟨?_,?_,?_,?_,?k4,?_,?_,?_,?_,?_,?_,?_,?_,?_,?_,?_,?_,?_,?_,?_,?_,?_,trivial⟩
       all_goals
        intro A W hsz hS hdep hbase
        have x0':=(hS.cell (p:=⟨b,o+k,none⟩) hb).trans HX0.out
        have y0':=(hS.cell (p:=⟨b2,o2+j,none⟩) hb2).trans HX2.out
        have h0:A.tmps.getD 0 undef=.slice a L.length cap:=hbase 0 (by kernel_rfl)
        have h3:A.tmps.getD 3 undef=.int .i64 (k:Int):=hbase 3 (by kernel_rfl)
        clear hbase
        simp [Aa,Region.binds,Vs,vq] at hdep
       case k4 =>
        refine AZ rfl (.inr ⟨89,#[.string x],W,by (clear hsz hS;simp [go_sem,Act.eval, *]),?_⟩)
        refine (FT x W).mono ?_
        rintro e w' ⟨he,rfl⟩
        rw [HQ.out] at he
        exact ⟨_,he,rfl,Ext.refl _⟩
       all_goals first
        | (refine AZ rfl (.inl ⟨_,W,?_,rfl,Ext.refl _⟩);clear hsz hS;simp [go_sem,Act.eval, *];done)
        | (refine Ad (j:=6) (d:=16) (b:=false) rfl (by kernel_rfl) (by simp only [hdep]) rfl (.inl ⟨_,W,?_,rfl,Ext.refl _⟩);clear hsz hS;simp [go_sem,Act.eval, *];done)
        | (refine Ad (j:=9) (d:=19) (b:=true) rfl (by kernel_rfl) (by simp only [hdep]) rfl (.inl ⟨_,W,?_,rfl,Ext.refl _⟩);clear hsz hS;simp [go_sem,Act.eval, *];done)
      case hVx=>exact Ac (by simp only [AU,List.not_mem_nil,or_false,forall_eq_or_imp,forall_eq];and_intros <;> exact AY _)
      case hSx=>exact fun W W' h hx=>h.trans (Below.mono hx h.size)
      case hS=>exact Below.refl _ _
      case hfin =>
       intro A W hsz hdf hS hv hbase
       obtain ⟨x,hx,hA⟩:=Af [10,11,12,13,14,15,16,17,18,19,20,21,22,23,24,25,26,27,28,29,30,31] (by kernel_rfl) hsz hdf hbase
       have e31:x 31=.bool false:=(hx 31).trans (hv 21 (by decide))
       rw [hA]
       simp only [List.foldl]
       rw [e31]
       clear e31
       simp only [Act.put,List.setIfInBounds_toArray,List.set_cons_succ,List.set_cons_zero]
       clear hA hx hv hbase hsz hdf
       have HBX:=A0 (HBR.out.trans (hS.mono HBR.out.size))
       clear hS
       go_wp2_with fail
       go_roundw
       case rel=>exact ⟨k+1,by omega,by go_num,HS.out,HBX.out⟩
       case measure=>simp [intOf];omega
     | false =>
      have HN:Hid (E9 L=false):=D5 fun h=>by
       have:=(h.2.2 k hlt hlt).2 (by omega)
       rw [HY.out,HX.out,HLT.out] at this;cases this
      have hle2:(Op.bytesLess x.toList y.toList || x.toList == y.toList)=true:=hle
      clear hle
      go_upto_region 4 with fail
      refine Ag (by kernel_rfl) (Vs [vq (.slice a L.length cap),vq (.int .i64 (k:Int)),vq (.pointer (some ⟨b,o+k,none⟩)),vq (.string x),vq (.bool true),vq (.bool false),vq (.bool false),vq (.int .i64 (k:Int)),vq (.bool true),vq (.bool true),vq (.slice a L.length cap),vq (.int .i64 (k:Int)),vq (.pointer (some ⟨b,o+k,none⟩)),vq (.string x),vq (.slice a L.length cap),vq (.int .i64 (k:Int)),vq (.int .i64 (j:Int)),vq (.pointer (some ⟨b2,o2+j,none⟩)),vq (.string y),vq (.bool true),vq (.bool true),vq (.bool true)]) (fun W=>Below wr.heap.size wr W) 40 (by kernel_rfl) rfl ?hVx ?hSx ?hS (Ao ?hop) ?hfin
      case hop =>
       refine ⟨?_,?_,?_,?_,?k4,?_,?_,?_,?_,?_,?_,?_,?_,?_,?_,?_,?_,?_,?_,?_,?_,?_,trivial⟩
       all_goals
        intro A W hsz hS hdep hbase
        have x0':=(hS.cell (p:=⟨b,o+k,none⟩) hb).trans HX0.out
        have y0':=(hS.cell (p:=⟨b2,o2+j,none⟩) hb2).trans HX2.out
        have h0:A.tmps.getD 0 undef=.slice a L.length cap:=hbase 0 (by kernel_rfl)
        have h3:A.tmps.getD 3 undef=.int .i64 (k:Int):=hbase 3 (by kernel_rfl)
        clear hbase
        simp [Aa,Region.binds,Vs,vq] at hdep
       case k4 =>
        refine AZ rfl (.inr ⟨89,#[.string x],W,by (clear hsz hS;simp [go_sem,Act.eval, *]),?_⟩)
        refine (FT x W).mono ?_
        rintro e w' ⟨he,rfl⟩
        rw [HQ.out] at he
        exact ⟨_,he,rfl,Ext.refl _⟩
       all_goals first
        | (refine AZ rfl (.inl ⟨_,W,?_,rfl,Ext.refl _⟩);clear hsz hS;simp [go_sem,Act.eval, *];done)
        | (refine Ad (j:=6) (d:=16) (b:=false) rfl (by kernel_rfl) (by simp only [hdep]) rfl (.inl ⟨_,W,?_,rfl,Ext.refl _⟩);clear hsz hS;simp [go_sem,Act.eval, *];done)
        | (refine Ad (j:=9) (d:=19) (b:=true) rfl (by kernel_rfl) (by simp only [hdep]) rfl (.inl ⟨_,W,?_,rfl,Ext.refl _⟩);clear hsz hS;simp [go_sem,Act.eval, *];done)
      case hVx=>exact Ac (by simp only [AU,List.not_mem_nil,or_false,forall_eq_or_imp,forall_eq];and_intros <;> exact AY _)
      case hSx=>exact fun W W' h hx=>h.trans (Below.mono hx h.size)
      case hS=>exact Below.refl _ _
      case hfin =>
       intro A W hsz hdf hS hv hbase
       obtain ⟨x,hx,hA⟩:=Af [10,11,12,13,14,15,16,17,18,19,20,21,22,23,24,25,26,27,28,29,30,31] (by kernel_rfl) hsz hdf hbase
       have e31:x 31=.bool true:=(hx 31).trans (hv 21 (by decide))
       rw [hA]
       simp only [List.foldl]
       rw [e31]
       clear e31
       simp only [Act.put,List.setIfInBounds_toArray,List.set_cons_succ,List.set_cons_zero]
       clear hA hx hv hbase hsz hdf
       have HBX:=A0 (HBR.out.trans (hS.mono HBR.out.size))
       clear hS
       go_wp2_with fail
       go_ret
       exact ⟨Ae HN.out.symm,HBX.out⟩
  ·
   obtain ⟨u,hu⟩:∃ u,decide (1≤L.length)=u:=⟨_,rfl⟩
   clear hB
   by_cases h1:1≤L.length
   ·
    have i1:(1:Int)≤(L.length:Int):=by omega
    by_cases h2:L.length≤200
    ·
     have i2:(L.length:Int)≤200:=by omega
     have HN:Hid (E9 L=true):=FU ⟨h1,h2,fun i hi _=>HG.out i hi (by omega)⟩
     go_wp2
     go_ret
     exact ⟨Ae HN.out.symm,HBR.out⟩
    ·
     have i2:¬ (L.length:Int)≤200:=by omega
     have HN:Hid (E9 L=false):=D5 fun h=>h2 h.2.1
     go_wp2
     go_ret
     exact ⟨Ae HN.out.symm,HBR.out⟩
   ·
    have i1:¬ (1:Int)≤(L.length:Int):=by omega
    have HN:Hid (E9 L=false):=D5 fun h=>h1 h.1
    go_wp2
    go_ret
    exact ⟨Ae HN.out.symm,HBR.out⟩
structure Ar where
 c:Int
 t:Int
deriving DecidableEq,Inhabited
structure Nd where
 fin:Bool
 arcs:List Ar
deriving DecidableEq,Inhabited
def Dd (w:World) (a:Option Addr) (X:List Ar):Prop:=∀ k (hk:k<X.length),∃ b o,a=some ⟨b,o,none⟩∧b<w.heap.size∧w.cell? ⟨b,o+k*2,none⟩=some (.int .u8 X[k].c)∧w.cell? ⟨b,o+k*2+1,none⟩=some (.int .i64 X[k].t)
theorem Dd.later {w w1:World} {a:Option Addr} {X:List Ar} {B:Nat} (h:Dd w a X) (hb:Below B w w1) (hB:w.heap.size≤B):Dd w1 a X:=fun k hk=>by
 obtain ⟨b,o,ha,h1,h2,h3⟩:=h k hk
 exact ⟨b,o,ha,by have:=hb.size;omega,(hb.cell (p:=⟨b,o+k*2,none⟩) (by show b<B;omega)).trans h2,(hb.cell (p:=⟨b,o+k*2+1,none⟩) (by show b<B;omega)).trans h3⟩
def Bs (w:World) (a:Option Addr) (D:List Nd):Prop:=∀ k (hk:k<D.length),∃ b o,a=some ⟨b,o,none⟩∧b<w.heap.size∧w.cell? ⟨b,o+k*2,none⟩=some (.bool D[k].fin) ∧
 ∃ aa cc,w.cell? ⟨b,o+k*2+1,none⟩=some (.slice aa D[k].arcs.length cc)∧D[k].arcs.length≤9223372036854775807∧Dd w aa D[k].arcs
theorem Bs.later {w w1:World} {a:Option Addr} {D:List Nd} {B:Nat} (h:Bs w a D) (hb:Below B w w1) (hB:w.heap.size≤B):Bs w1 a D:=fun k hk=>by
 obtain ⟨b,o,ha,h1,h2,aa,cc,h3,h4,h5⟩:=h k hk
 exact ⟨b,o,ha,by have:=hb.size;omega,(hb.cell (p:=⟨b,o+k*2,none⟩) (by show b<B;omega)).trans h2,aa,cc,(hb.cell (p:=⟨b,o+k*2+1,none⟩) (by show b<B;omega)).trans h3,h4,h5.later hb hB⟩
theorem Bs.nil (w:World) (a:Option Addr):Bs w a []:=fun k hk=>by simp at hk
theorem Dd.at {w:World} {a:Option Addr} {X:List Ar} (h:Dd w a X) {k:Nat} (hk:k<X.length):∃ b o,a=some ⟨b,o,none⟩∧b<w.heap.size∧w.cell? ⟨b,o+k*2,none⟩=some (.int .u8 X[k].c)∧w.cell? ⟨b,o+k*2+1,none⟩=some (.int .i64 X[k].t):=h k hk
theorem Bs.at {w:World} {a:Option Addr} {D:List Nd} (h:Bs w a D) {k:Nat} (hk:k<D.length):∃ b o,a=some ⟨b,o,none⟩∧b<w.heap.size∧w.cell? ⟨b,o+k*2,none⟩=some (.bool D[k].fin) ∧
 ∃ aa cc,w.cell? ⟨b,o+k*2+1,none⟩=some (.slice aa D[k].arcs.length cc)∧D[k].arcs.length≤9223372036854775807∧Dd w aa D[k].arcs:=h k hk
theorem Dw (a:Option Addr) (b o len cap k:Nat) (ha:a=some ⟨b,o,none⟩) (hk:k<len) (w:World) :
  (Instr.indexAt 131 (.slice a len cap) (.int .i64 (k:Int))).run Tryz.prog w=.ok (.pointer (some ⟨b,o+k*2,none⟩)) w:=by
 subst ha
 have h0:(0:Int)≤(k:Int):=by omega
 have h1:(k:Int)<(len:Int):=by omega
 simp [go_sem,h0,h1]
theorem EM (a:Option Addr) (b o len cap k:Nat) (ha:a=some ⟨b,o,none⟩) (hk:k<len) (w:World) :
  (Instr.indexAt 35 (.slice a len cap) (.int .i64 (k:Int))).run Tryz.prog w=.ok (.pointer (some ⟨b,o+k*2,none⟩)) w:=by
 subst ha
 have h0:(0:Int)≤(k:Int):=by omega
 have h1:(k:Int)<(len:Int):=by omega
 simp [go_sem,h0,h1]
structure CH (α:Type) where
 sl:TypeId
 e:TypeId
 k:Nat
 bytes:Nat
 z:Value
 enc:α→List Value
structure CH.Ok {α:Type} (T:CH α):Prop where
 und:Tryz.prog.underlying T.sl=some (.slice T.e)
 info:(Tryz.prog.info? T.e).map (fun i=>(i.zero,i.size,i.bytes))=some (some T.z,T.k,T.bytes)
 zs:T.z.cells.size=T.k
 k0:0<T.k
 len:∀ x,(T.enc x).length=T.k
 one:∀ x,∀ u∈T.enc x,u.oneCell'=true
 b:T.bytes≤64
section
variable {α:Type} {T:CH α} {w w1:World} {B C:Nat} {v:Value} {L:List α}
def Ab (T:CH α) (w:World) (B:Nat) (v:Value) (L:List α):Prop:=w.ownsRow B T.e T.k v L.length (L.flatMap T.enc)
theorem EN (h:T.Ok):∀ L:List α,(L.flatMap T.enc).length=L.length*T.k
 | []=>by simp
 | x :: r=>by rw [List.flatMap_cons,AB,EN h r,h.len,List.length_cons,Nat.add_mul];omega
theorem flat_get (h:T.Ok):∀ {L:List α} {i j:Nat} (hi:i<L.length) (hj:j<T.k),(L.flatMap T.enc)[i*T.k+j]? = (T.enc L[i])[j]?
 | x :: r,0,j,_,hj=>by
  rw [List.flatMap_cons,Nat.zero_mul,Nat.zero_add,AI (by rw [h.len];omega)];rfl
 | x :: r,i+1,j,hi,hj=>by
  rw [List.flatMap_cons,AJ (by rw [h.len,Nat.add_mul];omega)]
  have:(i+1)*T.k+j - (T.enc x).length=i*T.k+j:=by rw [h.len,Nat.add_mul];omega
  rw [this]
  exact flat_get h (L:=r) (by simpa using hi) hj
theorem Ab.nil (T:CH α) (w:World) (B:Nat):Ab T w B (.slice none 0 0) []:=⟨by simp,.inl ⟨rfl,rfl⟩⟩
theorem Ab.empty (T:CH α) {g:Nat} (h:w.heap[g]? = some (.cells #[] T.e (0,0))) (hB:B≤g):Ab T w B (.slice (some ⟨g,0,none⟩) 0 0) [] :=
 ⟨by simp,.inr ⟨g,0,#[],rfl,hB,h,A3 _,Nat.zero_le _,by simp,by simp⟩⟩
theorem Ab.one (h:T.Ok) {g:Nat} {x:α} (hg:w.heap[g]? = some (.cells (T.enc x).toArray T.e (0,0))) (hB:B≤g):Ab T w B (.slice (some ⟨g,0,none⟩) 1 1) [x] :=
 ⟨by simp [h.len],.inr ⟨g,1,_,rfl,hB,hg,A3 _,by unfold maxLen;omega,by simp [h.len],by simp [h.len];rw [AF (by rw [h.len];exact A3 _)]⟩⟩
theorem Ab.form (h:Ab T w B v L):∃ a c,v=.slice a L.length c∧L.length≤c∧c≤maxLen:=by
 rcases h.2 with ⟨rfl,h0⟩ | ⟨g,cap,cur,rfl,h1,h2,h3,h4,_⟩
 · exact ⟨none,0,by rw [h0],by omega,Nat.zero_le _⟩
 · exact ⟨_,cap,rfl,h3,h4⟩
theorem Ab.blk (h:Ab T w B v L):(v=.slice none 0 0∧L=[])∨∃ g c,v=.slice (some ⟨g,0,none⟩) L.length c∧B≤g∧g<w.heap.size∧L.length≤c:=by
 rcases h.2 with ⟨rfl,h0⟩ | ⟨g,cap,cur,rfl,h1,h2,h3,h4,_⟩
 · exact .inl ⟨rfl,List.eq_nil_of_length_eq_zero h0⟩
 · exact .inr ⟨g,cap,rfl,h1,(A5.1 h2).1,h3⟩
theorem Ab.cell (hT:T.Ok) {g n c:Nat} (h:Ab T w B (.slice (some ⟨g,0,none⟩) n c) L) {i j:Nat} (hi:i<L.length) (hj:j<T.k):w.cell? ⟨g,i*T.k+j,none⟩=(T.enc L[i])[j]?:=by
 have hg:=flat_get hT hi hj
 have hj2:j<(T.enc L[i]).length:=by rw [hT.len];exact hj
 rw [AA hj2] at hg ⊢
 have:=World.ownsRow.cells (g:=g) h rfl (i*T.k+j) _ hg
 rw [Addr.add_lit] at this
 simpa using this
theorem Ab.keep (h:Ab T w B v L) (hk:∀ g,v.ownBlock=some g→w1.heap[g]? = w.heap[g]?):Ab T w1 B v L:=by
 refine ⟨h.1,h.2.imp id ?_⟩
 rintro ⟨g,cap,cur,rfl,h1,h2,h3⟩
 exact ⟨g,cap,cur,rfl,h1,(hk g rfl).trans h2,h3⟩
theorem Ab.below (h:Ab T w B v L) (hb:Below C w w1) (hv:∀ g,v.ownBlock=some g→g<C):Ab T w1 B v L:=h.keep fun g hg=>hb.block g (hv g hg)
theorem Ab.ge (h:Ab T w B v L):∀ g,v.ownBlock=some g→B≤g:=by
 intro g hg
 rcases h.2 with ⟨rfl,_⟩ | ⟨g',cap,cur,rfl,h1,h2,h3⟩
 · cases hg
 · cases hg;exact h1
theorem Ab.lt (h:Ab T w B v L):∀ g,v.ownBlock=some g→g<w.heap.size:=by
 intro g hg
 rcases h.2 with ⟨rfl,_⟩ | ⟨g',cap,cur,rfl,h1,h2,h3⟩
 · cases hg
 · cases hg;exact (A5.1 h2).1
theorem Ab.later (h:Ab T w B v L) (hb:Below C w w1) (hC:w.heap.size≤C):Ab T w1 B v L:=h.below hb fun g hg=>A7 (h.lt g hg) hC
theorem Ab.mono (h:Ab T w B v L) (hC:C≤B):Ab T w C v L:=by
 refine ⟨h.1,h.2.imp id ?_⟩
 rintro ⟨g,cap,cur,rfl,h1,h2⟩
 exact ⟨g,cap,cur,rfl,A8 hC h1,h2⟩
theorem Ab.grown {row:Option Nat} (h:Ab T w B v L) (hg:w.grownBy w1 row) (hr:∀ q,v.ownBlock=some q→some q≠row):Ab T w1 B v L:=h.keep fun g hb=>hg.block g (h.lt g hb) (hr g hb)
theorem Ab.run_append (hT:T.Ok) (h:Ab T w B v L) (ty:TypeId) (a:Addr) (c:Nat) (news:List α) (hn:∀ j u,(news.flatMap T.enc)[j]? = some u→w.cell? (a.add j)=some u) (hl:L.length+news.length≤1000000000000) (hB:B≤w.heap.size) :
  ∃ v' w',(Builtin.append_ #[T.sl,T.sl] ty #[v,.slice (some a) news.length c]).run Tryz.prog w=.ok v' w'∧Ab T w' B v' (L ++ news)∧w.grownBy w' v.ownBlock∧(v'.ownBlock=v.ownBlock∨v'.ownBlock=some w.heap.size):=by
 obtain ⟨i0,hi,hz0,hz1,hz2⟩:=info_parts hT.info
 have hb:(L.length+news.length)*T.bytes≤1000000000000*64:=Nat.mul_le_mul hl hT.b
 obtain ⟨v',w',hr,h1,h2,_,h3⟩:=run_append_own_at (P:=Tryz.prog) w B T.sl ty T.e i0 T.z T.k T.bytes hT.und hi hz0 hz1 hz2 hT.zs hT.k0 v L.length (L.flatMap T.enc) h a news.length c (news.flatMap T.enc) (EN hT news) hn
  (fun u hu=>by obtain ⟨x,_,h2⟩:=List.mem_flatMap.1 hu;exact hT.one x u h2) (by unfold maxLen;omega) (by omega) hB
 refine ⟨v',w',hr,?_,h2,h3⟩
 unfold Ab
 rw [AB,List.flatMap_append]
 exact h1
theorem Aj (hT:T.Ok) {ops:Array Oper} {rest:List Oper} {o:Oper} {a:Act} {Q:Exit→Act→World→Prop} (hgd:o.guard=none) (s x:Operand)
  (ho:o.op=.call { callee:=.builtin .append,args:=#[s,x],argTypes:=#[T.sl,T.sl] }) (hs:a.eval s=v) (hown:Ab T w B v L) (ad:Addr) (c:Nat) (news:List α) (hx:a.eval x=.slice (some ad) news.length c)
  (hn:∀ j u,(news.flatMap T.enc)[j]? = some u→w.cell? (ad.add j)=some u) (hl:L.length+news.length≤1000000000000) (hB:B≤w.heap.size)
  (h:∀ v' w',Ab T w' B v' (L ++ news)→w.grownBy w' v.ownBlock→(v'.ownBlock=v.ownBlock∨v'.ownBlock=some w.heap.size)→wpList Tryz.prog ops Q rest (a.put o.dst v') w'):wpList Tryz.prog ops Q (o :: rest) a w:=by
 refine wpList_plain hgd fun K' hK'=>?_
 obtain ⟨v',w',hr,h1,h2,h3⟩:=hown.run_append hT o.type ad c news hn hl hB
 unfold Oper.wp
 simp only [execOp,ho,resolve,invoke,builtin,Sem.run_bind,Sem.run_pure,Result.andThen_ok,List.map_toArray,List.map_cons,List.map_nil,hs,hx,hr]
 exact hK' _ _ (h v' w' h1 h2 h3)
theorem Ep.mono {P:Program} {a:Act} {o:Oper} {w:World} {R S:Value→World→Prop} (h:Ep P a o w R) (hs:∀ v w',R v w'→S v w'):Ep P a o w S:=by
 rcases h with ⟨v,w',h1,h2⟩ | ⟨f,args,w',h1,h2⟩
 · exact .inl ⟨v,w',h1,hs _ _ h2⟩
 · exact .inr ⟨f,args,w',h1,h2.mono fun e w'' ⟨v,he,hv⟩=>⟨v,he,hs _ _ hv⟩⟩
theorem BN (hT:T.Ok) {o:Oper} {a:Act} (s x:Operand) (ho:o.op=.call { callee:=.builtin .append,args:=#[s,x],argTypes:=#[T.sl,T.sl] }) (hs:a.eval s=v) (hown:Ab T w B v L) (ad:Addr) (c:Nat) (news:List α)
  (hx:a.eval x=.slice (some ad) news.length c) (hn:∀ j u,(news.flatMap T.enc)[j]? = some u→w.cell? (ad.add j)=some u) (hl:L.length+news.length≤1000000000000) (hB:B≤w.heap.size) :
  Ep Tryz.prog a o w (fun v' w'=>Ab T w' B v' (L ++ news)∧w.grownBy w' v.ownBlock∧(v'.ownBlock=v.ownBlock∨v'.ownBlock=some w.heap.size)):=by
 obtain ⟨v',w',hr,h1,h2,h3⟩:=hown.run_append hT o.type ad c news hn hl hB
 refine .inl ⟨v',w',?_,h1,h2,h3⟩
 unfold execOp
 simp only [ho,resolve,invoke,builtin,Sem.run_bind,Sem.run_pure,Result.andThen_ok,List.map_toArray,List.map_cons,List.map_nil,hs,hx,hr]
theorem An {g:Nat} {t:TypeId} {cs:List Value} (h:w.heap[g]? = some (.cells cs.toArray t (0,0))):∀ j u,cs[j]? = some u→w.cell? ((⟨g,0,none⟩:Addr).add j)=some u:=by
 intro j u hj
 have hc:=cell_of_row w g j _ _ (0,0) h
 have e:(⟨g,0,none⟩:Addr).add j=⟨g,j,none⟩:=by rw [Addr.add_lit,Nat.zero_add]
 rw [e,hc]
 simpa using hj
end
def B8:CH ByteArray:=⟨37,9,1,16,.string ⟨#[]⟩,fun s=>[.string s]⟩
theorem Bd:B8.Ok:=⟨Tryz.underlying37,by kernel_rfl,rfl,by decide,fun _=>rfl,fun x u hu=>by obtain rfl:u=.string x:=(AD.1 hu);rfl,by decide⟩
def Bh:CH Ar:=⟨131,155,2,16,.agg #[.int .u8 0,.int .i64 0],fun x=>[.int .u8 x.c,.int .i64 x.t]⟩
theorem DF:Bh.Ok:=⟨Tryz.underlying131,by kernel_rfl,rfl,by decide,fun _=>rfl,fun x u hu=>by
 have h:u=.int .u8 x.c∨u=.int .i64 x.t:=by simpa [Bh] using hu
 rcases h with rfl | rfl <;> rfl,by decide⟩
structure NV where
 fin:Bool
 a:Option Addr
 n:Nat
 c:Nat
deriving DecidableEq
def BG:CH NV:=⟨35,153,2,32,.agg #[.bool false,.slice none 0 0],fun x=>[.bool x.fin,.slice x.a x.n x.c]⟩
theorem Bz:BG.Ok:=⟨Tryz.underlying35,by kernel_rfl,rfl,by decide,fun _=>rfl,fun x u hu=>by
 have h:u=.bool x.fin∨u=.slice x.a x.n x.c:=by simpa [BG] using hu
 rcases h with rfl | rfl <;> rfl,by decide⟩
structure SV where
 a:Option Addr
 n:Nat
 c:Nat
def IP:CH SV:=⟨165,37,1,24,.slice none 0 0,fun x=>[.slice x.a x.n x.c]⟩
theorem In:IP.Ok:=⟨Tryz.underlying165,by kernel_rfl,rfl,by decide,fun _=>rfl,fun x u hu=>by obtain rfl:u=.slice x.a x.n x.c:=(AD.1 hu);rfl,by decide⟩
theorem Ab.strs {w:World} {B:Nat} {a:Option Addr} {n c:Nat} {L:List ByteArray} (h:Ab B8 w B (.slice a n c) L):Ba w a L∧n=L.length∧L.length≤c:=by
 obtain ⟨a',c',he,hc,_⟩:=h.form
 injection he with e1 e2 e3
 refine ⟨fun k hk=>?_,e2,by omega⟩
 rcases h.blk with ⟨_,rfl⟩ | ⟨g,c2,he2,_,hg,_⟩
 · simp at hk
 ·
  injection he2 with f1 f2 f3
  subst f1
  refine ⟨g,0,rfl,hg,?_⟩
  have:=h.cell Bd hk (j:=0) (by decide)
  simpa [B8] using this
theorem Ab.arcs {w:World} {B:Nat} {a:Option Addr} {n c:Nat} {L:List Ar} (h:Ab Bh w B (.slice a n c) L):Dd w a L∧n=L.length∧L.length≤c:=by
 obtain ⟨a',c',he,hc,_⟩:=h.form
 injection he with e1 e2 e3
 refine ⟨fun k hk=>?_,e2,by omega⟩
 rcases h.blk with ⟨_,rfl⟩ | ⟨g,c2,he2,_,hg,_⟩
 · simp at hk
 ·
  injection he2 with f1 f2 f3
  subst f1
  refine ⟨g,0,rfl,hg,?_,?_⟩
  ·
   have:=h.cell DF hk (j:=0) (by decide)
   simpa [Bh] using this
  ·
   have:=h.cell DF hk (j:=1) (by decide)
   simpa [Bh] using this
def I5 (s:ByteArray):ByteArray:=s.extract 1 s.size
def Cf (s:ByteArray) (c:Int):Bool:=decide (0<s.size) && decide (((s.data.toList.headD 0).toNat:Int)=c)
def CC (L:List ByteArray) (c:Int):List ByteArray:=(L.filter fun s=>Cf s c).map I5
theorem LX {L:List ByteArray} {c:Int} {k:Nat} (hk:k<L.length):CC (L.take (k+1)) c=CC (L.take k) c ++ if Cf L[k] c=true then [I5 L[k]] else []:=by
 rw [CC,AO hk,List.filter_append,List.map_append,CC]
 congr 1
 by_cases h:Cf L[k] c=true <;> simp [h]
theorem Mf (L:List ByteArray) (c:Int):(CC L c).length≤L.length:=by
 rw [CC,AN];exact List.length_filter_le _ _
theorem Pp (s:ByteArray) (h:0<s.size):s.data.toList.headD 0=s[0]:=by
 have h2:0<s.data.toList.length:=by simpa using h
 have e:s.data.toList=s.data.toList[0] :: s.data.toList.drop 1:=by
  have:=AE h2
  simpa using this
 rw [e];rfl
set_option maxHeartbeats 1600000 in
set_option maxRecDepth 100000 in
theorem
    after_any (L:List ByteArray) (n:Nat) (a:Option Addr) (cap:Nat) (c:Int) (w:World) (hR:Ba w a L) (hL:n=L.length) (hn:n≤100000) :
  Calls Tryz.prog 112 #[.slice a n cap,.int .u8 c] w fun e w'=>∃ v,e=.returned v∧Ab B8 w' w.heap.size v (CC L c)∧Below w.heap.size w w':=by
 subst hL
 have HR:=A0 hR;clear hR
 go_enter Tryz.func112,Tryz.ntmps112
 go_wp2
 go_loopw [6,5] (fun i v wr=>∃ k:Nat,k≤L.length∧i=.int .i64 (k:Int)∧Ab B8 wr w.heap.size v (CC (L.take k) c)∧Below w.heap.size w wr) (fun i _ _=>L.length - (intOf i).toNat)
 case atStart=>exact ⟨0,Nat.zero_le _,rfl,Ab.empty B8 (heap_alloc_new _ _) (A3 _),(Below.refl _ _).alloc (A3 _) _⟩
 case round =>
  obtain ⟨k,hk,rfl,hown,hB⟩:=hrel
  have HO:=A0 hown;have HB:=A0 hB
  have hzB:=hB.size
  clear hown hB
  by_cases hlt:k<L.length
  ·
   obtain ⟨b,o,ha,hb,h0⟩:=(HR.out.later HB.out (A3 _)).at hlt
   have hidx:=CR a b o L.length cap k ha hlt
   have HSU:=A0 (LX (c:=c) hlt)
   obtain ⟨x,hx⟩:∃ x,L[k]=x:=⟨_,rfl⟩
   rw [hx] at h0 HSU
   clear hx ha
   by_cases hs:0<x.size
   ·
    have hsI:(0:Int)<(x.size:Int):=by omega
    have HHD:=A0 (Pp x hs)
    by_cases hq:((x[0]'hs).toNat:Int)=c
    ·
     have hqb:(((x[0]'hs).toNat:Int) == c)=true:=by simp [hq]
     have HN:Hid (CC (L.take (k+1)) c=CC (L.take k) c ++ [I5 x]):=by
      show _=_
      rw [HSU.out,if_pos (by simp only [Cf,HHD.out];simp [hs,hq])]
     have hl:(CC (L.take k) c).length≤100000:=by have:=Mf (L.take k) c;have:=List.length_take_le' k L;omega
     have HL:=A0 hl
     clear hq hl
     go_wp2_with (first
      | (at_builtin;go_loud (refine Aj Bd rfl _ _ rfl rfl (HO.out.later ((Below.refl _ wr).alloc (A3 _) _) (A3 _)) ⟨wr.heap.size,0,none⟩ 1 [I5 x] rfl (An (heap_alloc_new _ _)) (by have:=HL.out;simp only [AC];omega) (by simp only [A6];omega) ?_);intro v5 w5 hown5 hgrow5 _;have HO5:=A0 hown5;have HB5:=A0 (HB.out.trans ((((Below.refl w.heap.size wr).alloc hzB _).grown hgrow5 (by simp only [A6];omega) HO.out.ge)));clear hown5 hgrow5))
     go_roundw
     case rel=>exact ⟨k+1,by omega,by go_num,by rw [HN.out];exact HO5.out,HB5.out⟩
     case measure=>simp [intOf];omega
    ·
     have hqb:(((x[0]'hs).toNat:Int) == c)=false:=by rw [beq_eq_false_iff_ne];exact hq
     have HN:Hid (CC (L.take (k+1)) c=CC (L.take k) c):=by
      show _=_
      rw [HSU.out,if_neg (by simp only [Cf,HHD.out];simp [hq]),List.append_nil]
     clear hq
     go_wp2
     go_roundw
     case rel=>exact ⟨k+1,by omega,by go_num,by rw [HN.out];exact HO.out,HB.out⟩
     case measure=>simp [intOf];omega
   ·
    have hsI:¬ (0:Int)<(x.size:Int):=by omega
    have HN:Hid (CC (L.take (k+1)) c=CC (L.take k) c):=by
     show _=_
     rw [HSU.out,if_neg (by simp [Cf,hs]),List.append_nil]
    go_wp2
    go_roundw
    case rel=>exact ⟨k+1,by omega,by go_num,by rw [HN.out];exact HO.out,HB.out⟩
    case measure=>simp [intOf];omega
  ·
   have HA:Hid (CC (L.take k) c=CC L c):=by show _=_;rw [AF (by omega)]
   go_wp2
   go_ret
   exact ⟨_,rfl,by rw [← HA.out];exact HO.out,HB.out⟩
def Bt (w:World) (a:Option Addr) (len:Nat) (Z:Nat→Int):Prop :=
 len=0∨∃ b o,a=some ⟨b,o,none⟩∧len≤9223372036854775807∧b<w.heap.size∧∀ i,i<len→w.cell? ⟨b,o+i,none⟩=some (.int .u8 (Z i))∧0≤Z i∧Z i≤255
theorem Bt.later {w w1:World} {a:Option Addr} {len:Nat} {Z:Nat→Int} {B:Nat} (h:Bt w a len Z) (hb:Below B w w1) (hB:w.heap.size≤B):Bt w1 a len Z:=by
 rcases h with h | ⟨b,o,ha,hl,hlt,hr⟩
 · exact .inl h
 · exact .inr ⟨b,o,ha,hl,A7 hlt hb.size,fun i hi=>⟨(hb.cell (p:=⟨b,_,none⟩) (A7 hlt hB)).trans (hr i hi).1,(hr i hi).2⟩⟩
theorem Bt.at {w:World} {a:Option Addr} {len:Nat} {Z:Nat→Int} (h:Bt w a len Z) {k:Nat} (hk:k<len):∃ b o,a=some ⟨b,o,none⟩∧b<w.heap.size∧w.cell? ⟨b,o+k,none⟩=some (.int .u8 (Z k))∧0≤Z k∧Z k≤255:=by
 rcases h with h | ⟨b,o,ha,hl,hlt,hr⟩
 · omega
 · exact ⟨b,o,ha,hlt,hr k hk⟩
theorem EO (a:Option Addr) (b o len cap k:Nat) (ha:a=some ⟨b,o,none⟩) (hk:k<len) (w:World) :
  (Instr.indexAt 26 (.slice a len cap) (.int .i64 (k:Int))).run Tryz.prog w=.ok (.pointer (some ⟨b,o+k,none⟩)) w:=by
 subst ha
 have h0:(0:Int)≤(k:Int):=by omega
 have h1:(k:Int)<(len:Int):=by omega
 simp [go_sem,h0,h1]
theorem Nh {a b:ByteArray} (h:a=b):Ending.returned (.string a)=.returned (.string b):=by rw [h]
theorem FV (b o n:Nat):(⟨b,o,none⟩:Addr).add n=⟨b,o+n,none⟩:=by
 unfold Addr.add;split <;> simp_all
def Fh (L:List ByteArray) (s:ByteArray):List ByteArray:=if 0≤II L s then L else L.takeWhile (fun x=>ltS x s) ++ s :: L.dropWhile (fun x=>ltS x s)
theorem Ka {α:Type} {p:α→Bool}:∀ {L:List α} {k:Nat},k≤L.length→(∀ j (hj:j<L.length),j<k→p L[j]=true)→(∀ h:k<L.length,p L[k]=false)→L.takeWhile p=L.take k∧L.dropWhile p=L.drop k
 | [],k,hk,_,_=>by simp
 | x :: r,0,_,_,h=>by
  have:=h (by simp)
  simp only [List.getElem_cons_zero] at this
  simp [List.takeWhile_cons,List.dropWhile_cons,this]
 | x
   :: r,k+1,hk,h1,h2=>by
  have hx:=h1 0 (by simp) (by omega)
  simp only [List.getElem_cons_zero] at hx
  have ih:=Ka (p:=p) (L:=r) (k:=k) (by simpa using hk) (fun j hj hjk=>by
   have:=h1 (j+1) (by simpa using hj) (by omega)
   simpa using this) (fun h=>by
   have:=h2 (by simpa using h)
   simpa using this)
  simp [List.takeWhile_cons,List.dropWhile_cons,hx,ih.1,ih.2]
theorem F8 (a:Addr) (n cap k:Nat) (hk:k≤n) (hn:n≤cap) (w:World) :
  (Instr.slice 37 (.slice (some a) n cap) none (some (.int .i64 (k:Int))) none).run Tryz.prog w=.ok (.slice (some a) k cap) w:=by
 have h0:(0:Int)≤(k:Int):=by omega
 have h1:(k:Int)≤(cap:Int):=by omega
 simp [go_sem,Instr.slice,Instr.sliceBounds,Instr.sliceBound,asIntOf,h0,h1];intro h;omega
theorem De (b o n cap k:Nat) (hk:k≤n) (hn:n≤cap):∃ o',(k<n→o'=o+k)∧∀ w:World,
  (Instr.slice 37 (.slice (some ⟨b,o,none⟩) n cap) (some (.int .i64 (k:Int))) none none).run Tryz.prog w=.ok (.slice (some ⟨b,o',none⟩) (n - k) (cap - k)) w:=by
 have h0:(0:Int)≤(k:Int):=by omega
 have h1:(k:Int)≤(n:Int):=by omega
 have h2:(n:Int)≤(cap:Int):=by omega
 refine ⟨if cap=k then o else o+k,fun h=>if_neg (by omega),fun w=>?_⟩
 simp [go_sem,Instr.slice,Instr.sliceBounds,Instr.sliceBound,asIntOf,h0,h1,h2,Addr.add,hk]
 by_cases e:cap=k
 · simp [e]
 ·
  by_cases e0:k=0
  · simp [e0]
  · simp [e,e0]
theorem GE {w:World} {b o:Nat} {L M:List ByteArray} {k:Nat} (h:Ba w (some ⟨b,o,none⟩) L) (hM:∀ j (hj:j<M.length),∃ h2:k+j<L.length,M[j]=L[k+j]) :
  ∀ j u,(M.flatMap B8.enc)[j]? = some u→w.cell? ((⟨b,o+k,none⟩:Addr).add j)=some u:=by
 intro j u hu
 have e:M.flatMap B8.enc=M.map Value.string:=by
  clear hM hu
  induction M with
  | nil=>rfl
  | cons x r ih=>rw [List.flatMap_cons,ih];rfl
 rw [e,List.getElem?_map] at hu
 have hj:j<M.length:=by
  by_cases h:j<M.length
  · exact h
  · rw [AQ (by omega)] at hu;cases hu
 rw [AA hj] at hu
 obtain ⟨h2,h3⟩:=hM j hj
 obtain ⟨b',o',e1,_,hc⟩:=h (k+j) h2
 injection e1 with e1
 injection e1 with e1 e2
 subst e1 e2
 rw [FV,Nat.add_assoc,hc,← h3]
 simpa using hu
def Ni (M:List ByteArray) (w:World) (e:Ending) (w':World):Prop :=
 ∃ (b o c:Nat),e=.returned (.slice (some ⟨b,o,none⟩) M.length c)∧Ba w' (some ⟨b,o,none⟩) M∧M.length≤c∧Below w.heap.size w w'
theorem Pq {L:List ByteArray} {s:ByteArray} {k:Nat} (h0:¬ 0≤II L s) (hk:k≤L.length) (h1:∀ j (hj:j<L.length),j<k→ltS L[j] s=true) (h2:∀ h:k<L.length,ltS L[k] s=false):Fh L s=L.take k ++ [s] ++ L.drop k:=by
 obtain ⟨e1,e2⟩:=Ka (p:=fun x=>ltS x s) hk h1 h2
 rw [Fh,if_neg h0,e1,e2];simp
theorem Pr (L:List ByteArray) (s:ByteArray):(Fh L s).length≤L.length+1:=by
 unfold Fh
 split
 · omega
 ·
  have:=congrArg List.length (List.takeWhile_append_dropWhile (p:=fun x=>ltS x s) (l:=L))
  simp only [AB,List.length_cons] at this ⊢;omega
set_option maxHeartbeats 3200000 in
set_option maxRecDepth 100000 in
theorem
    insert_any (L:List ByteArray) (n b o cap:Nat) (s:ByteArray) (w:World) (hR:Ba w (some ⟨b,o,none⟩) L) (hL:n=L.length) (hc:n≤cap) (hn:n≤100000) :
  Calls Tryz.prog 31 #[.slice (some ⟨b,o,none⟩) n cap,.string s] w (Ni (Fh L s) w):=by
 subst hL
 have HR:=A0 hR;clear hR
 by_cases h0:0≤II L s
 ·
  have HI:Hid (Fh L s=L):=by show _=_;rw [Fh,if_pos h0]
  obtain ⟨q,hq⟩:∃ q,II L s=q:=⟨_,rfl⟩
  have HQ:=A0 hq
  rw [hq] at h0
  clear hq
  go_enter Tryz.func31,Tryz.ntmps31
  go_wp2_with (go_at_call 60;refine (rindex_any L _ _ _ _ _ HR.out rfl (by omega)).mono ?_;rintro e w' ⟨he,rfl⟩;rw [HQ.out] at he;subst he)
  go_ret
  rw [HI.out]
  exact ⟨b,o,cap,rfl,HR.out,hc,Below.refl _ _⟩
 ·
  have H0
      := A0 h0
  obtain ⟨q,hq⟩:∃ q,II L s=q:=⟨_,rfl⟩
  have HQ:=A0 hq
  have hqn:¬ 0≤q:=by rw [← hq];exact h0
  clear hq h0
  go_enter Tryz.func31,Tryz.ntmps31
  go_wp2_with (go_at_call 60;refine (rindex_any L _ _ _ _ _ HR.out rfl (by omega)).mono ?_;rintro e w' ⟨he,rfl⟩;rw [HQ.out] at he;subst he)
  go_loop [5] (fun i=>∃ k:Nat,k≤L.length∧i=.int .i64 (k:Int)∧∀ j (hj:j<L.length),j<k→ltS L[j] s=true) (fun i=>L.length - (intOf i).toNat)
  case atStart=>exact ⟨0,Nat.zero_le _,rfl,fun j _ h=>by omega⟩
  case round =>
   obtain ⟨k,hk,rfl,hg⟩:=hrel
   have HG:=A0 hg
   clear hg
   have hend:∀ (h2:∀ h:k<L.length,ltS L[k] s=false),Hid (Fh L s=L.take k ++ [s] ++ L.drop k):=fun h2=>Pq (by have:=H0.out;omega) hk HG.out h2
   have HEND:=A0 hend
   have hlow:=F8 ⟨b,o,none⟩ L.length cap k hk hc
   obtain ⟨o',ho',hhigh⟩:=De b o L.length cap k hk hc
   have HO':=A0 ho'
   have hlk:(L.take k).length=k:=by rw [AM];omega
   have hld:(L.drop k).length=L.length - k:=by rw [List.length_drop]
   have HLK:=A0 hlk;have HLD:=A0 hld
   have HOE:Hid (Ab B8 (w.alloc (.cells #[] 9)) w.heap.size (.slice (some ⟨w.heap.size,0,none⟩) 0 0) []):=Ab.empty B8 (heap_alloc_new _ _) (A3 _)
   have HCE:Hid (∀ j u,((L.take k).flatMap B8.enc)[j]? = some u→(w.alloc (.cells #[] 9)).cell? ((⟨b,o,none⟩:Addr).add j)=some u) :=
    GE (k:=0) (HR.out.later ((Below.refl _ w).alloc (A3 _) _) (A3 _)) (fun j hj=>⟨by rw [hlk] at hj;omega,by rw [List.getElem_take];congr 1;omega⟩)
   clear hend ho' hlk hld
   by_cases hlt:k<L.length
   ·
    obtain ⟨b1,o1,ha,hb,h1⟩:=HR.out.at hlt
    have hidx:=CR (some ⟨b,o,none⟩) b1 o1 L.length cap k ha hlt
    obtain ⟨x,hx⟩:∃ x,L[k]=x:=⟨_,rfl⟩
    have HX:=A0 hx
    rw [hx] at h1
    clear hx ha
    obtain ⟨r,hr⟩:∃ r,Op.bytesLess x.toList s.toList=r:=⟨_,rfl⟩
    have HRR:Hid (ltS x s=r):=hr
    cases r with
    | true =>
     have HN:Hid (∀ j (hj:j<L.length),j<k+1→ltS L[j] s=true):=fun j hj hjk=>by
      by_cases e:j=k
      · subst e;rw [HX.out];exact HRR.out
      · exact HG.out j hj (by omega)
     go_wp2
     go_round
     case rel=>exact ⟨k+1,by omega,by go_num,HN.out⟩
     case measure=>simp [intOf];omega
    | false =>
     have HN:=HEND.out (fun _=>by rw [HX.out];exact HRR.out)
     go_wp2_with (first | (at_builtin;go_loud (refine Aj Bd rfl _ _ rfl rfl HOE.out ⟨b,o,none⟩ cap (L.take k) (by rw [HLK.out];rfl) HCE.out (by have:=HLK.out;simp only [List.length_nil];omega) (by simp) ?_;intro v5 w5 hown5 hgrow5 hat5;have HO5:=A0 hown5;have HB5:Hid (Below w.heap.size w w5):=(((Below.refl w.heap.size w).alloc (A3 _) _).grown hgrow5 (by simp only [A6];omega) HOE.out.ge);have hz5:=HB5.out.size;clear hown5 hgrow5 hat5)) | (at_builtin;go_loud (refine Aj Bd rfl _ _ rfl rfl (HO5.out.later ((Below.refl _ w5).alloc (A3 _) _) (A3 _)) ⟨w5.heap.size,0,none⟩ 1 [s] rfl (An (heap_alloc_new _ _)) (by have:=HLK.out;simp only [AC,List.nil_append];omega) (by simp only [A6];omega) ?_;intro v6 w6 hown6 hgrow6 hat6;have HO6:=A0 hown6;have HB6:Hid (Below w.heap.size w w6):=(HB5.out.trans (((Below.refl w.heap.size w5).alloc hz5 _).grown hgrow6 (by simp only [A6];omega) HO5.out.ge));have hz6:=HB6.out.size;clear hown6 hgrow6 hat6)) | (at_builtin;go_loud (refine Aj Bd rfl _ _ rfl rfl HO6.out ⟨b,o',none⟩ (cap - k) (L.drop k) (by rw [HLD.out];rfl) (fun j u hu=>by have hkl:k<L.length:=(by rcases Nat.lt_or_ge k L.length with h | h;exact h;exfalso;rw [List.drop_eq_nil_of_le h] at hu;simp at hu);have e:=HO'.out hkl;subst e;exact GE (HR.out.later HB6.out (A3 _)) (fun j hj=>⟨by have:=HLD.out;omega,by rw [List.getElem_drop]⟩) j u hu) (by have:=HLD.out;have:=HLK.out;simp only [AB,AC,List.nil_append];omega) (by omega) ?_;intro v7 w7 hown7 hgrow7 hat7;have HO7:=A0 hown7;have HB7:Hid (Below w.heap.size w w7):=(HB6.out.trans ((Below.refl w.heap.size w6).grown hgrow7 (by omega) HO6.out.ge));clear hown7 hgrow7 hat7)))
     go_ret;have hfin:=HO7.out;rw [List.nil_append,← HN.out] at hfin;rcases hfin.blk with ⟨_,h⟩ | ⟨g,c,hv,_,_,hcc⟩;· exfalso;have h2:=HN.out;rw [h] at h2;simp at h2
     ·
      subst hv
      exact ⟨g,0,c,rfl,hfin.strs.1,hcc,HB7.out⟩
   ·
    have HN:=HEND.out (fun h=>absurd h hlt)
    go_wp2_with (first | (at_builtin;go_loud (refine Aj Bd rfl _ _ rfl rfl HOE.out ⟨b,o,none⟩ cap (L.take k) (by rw [HLK.out];rfl) HCE.out (by have:=HLK.out;simp only [List.length_nil];omega) (by simp) ?_;intro v5 w5 hown5 hgrow5 hat5;have HO5:=A0 hown5;have HB5:Hid (Below w.heap.size w w5):=(((Below.refl w.heap.size w).alloc (A3 _) _).grown hgrow5 (by simp only [A6];omega) HOE.out.ge);have hz5:=HB5.out.size;clear hown5 hgrow5 hat5)) | (at_builtin;go_loud (refine Aj Bd rfl _ _ rfl rfl (HO5.out.later ((Below.refl _ w5).alloc (A3 _) _) (A3 _)) ⟨w5.heap.size,0,none⟩ 1 [s] rfl (An (heap_alloc_new _ _)) (by have:=HLK.out;simp only [AC,List.nil_append];omega) (by simp only [A6];omega) ?_;intro v6 w6 hown6 hgrow6 hat6;have HO6:=A0 hown6;have HB6:Hid (Below w.heap.size w w6):=(HB5.out.trans (((Below.refl w.heap.size w5).alloc hz5 _).grown hgrow6 (by simp only [A6];omega) HO5.out.ge));have hz6:=HB6.out.size;clear hown6 hgrow6 hat6)) | (at_builtin;go_loud (refine Aj Bd rfl _ _ rfl rfl HO6.out ⟨b,o',none⟩ (cap - k) (L.drop k) (by rw [HLD.out];rfl) (fun j u hu=>by have hkl:k<L.length:=(by rcases Nat.lt_or_ge k L.length with h | h;exact h;exfalso;rw [List.drop_eq_nil_of_le h] at hu;simp at hu);have e:=HO'.out hkl;subst e;exact GE (HR.out.later HB6.out (A3 _)) (fun j hj=>⟨by have:=HLD.out;omega,by rw [List.getElem_drop]⟩) j u hu) (by have:=HLD.out;have:=HLK.out;simp only [AB,AC,List.nil_append];omega) (by omega) ?_;intro v7 w7 hown7 hgrow7 hat7;have HO7:=A0 hown7;have HB7:Hid (Below w.heap.size w w7):=(HB6.out.trans ((Below.refl w.heap.size w6).grown hgrow7 (by omega) HO6.out.ge));clear hown7 hgrow7 hat7)))
    go_ret;have hfin:=HO7.out;rw [List.nil_append,← HN.out] at hfin;rcases hfin.blk with ⟨_,h⟩ | ⟨g,c,hv,_,_,hcc⟩;· exfalso;have h2:=HN.out;rw [h] at h2;simp at h2
    ·
     subst hv
     exact ⟨g,0,c,rfl,hfin.strs.1,hcc,HB7.out⟩
open Go.Shelf Go.RowKit
theorem szB:(Tryz.prog.info? 179).map (·.size)=some 2:=by kernel_rfl
theorem TA:liesAt Tryz.prog Tryz.prog.depth 179 (2 / Tryz.prog.cellsOf 179) 0 179 1=true:=by kernel_rfl
theorem TB:(Tryz.prog.info? 5).map (fun i=>(i.zero,i.size,i.bytes))=some (some (.int .u8 0),1,1):=by kernel_rfl
set_option maxHeartbeats 1000000 in
set_option maxRecDepth 100000 in
theorem Io (b:Nat) (w:World) (h0:w.cell? ⟨b,0,none⟩=some (.pointer (some ⟨b,0,none⟩))) :
  Calls Tryz.prog 124 #[.pointer (some ⟨b,0,none⟩)] w fun e w'=>e=.returned (.tuple #[])∧w'=w:=by
 obtain ⟨j,hj,_⟩:=Option.map_eq_some_iff.1 szB
 go_enter Tryz.func124,Tryz.ntmps124
 go_wp2
 rw [Lib.run_neq_ptr_same w _ Tryz.underlying177 hj]
 go_wp2
 go_end0
 exact ⟨rfl,rfl⟩
set_option maxHeartbeats 1000000 in
set_option maxRecDepth 100000 in
theorem IJ (b:Nat) (w:World) (h0:w.cell? ⟨b,0,none⟩=some (.pointer none)) (hsh:w.shape? b=some (179,2)) (hfz:w.frozen? ⟨b,0,none⟩=false) :
  Calls Tryz.prog 124 #[.pointer (some ⟨b,0,none⟩)] w fun e w'=>e=.returned (.tuple #[])∧w'=w.setCell ⟨b,0,none⟩ (.pointer (some ⟨b,0,none⟩)):=by
 obtain ⟨j,hj,hjs⟩:=Option.map_eq_some_iff.1 szB
 go_enter Tryz.func124,Tryz.ntmps124
 go_wp2
 rw [Lib.run_to_unsafe w ⟨b,0,none⟩ Tryz.underlying177 Tryz.underlying226 hj (by rw [hjs];decide) hsh (Nat.zero_lt_succ 1)]
 simp only [Result.andThen]
 rw [Oper.upon_value]
 go_wp2
 rw [run_callFunc_extern Tryz.func144 (by kernel_rfl) (by kernel_rfl) (by kernel_rfl) (e:=Extern.AbiNoEscape.same) (by kernel_rfl)]
 rw [Lib.run_noEscape]
 simp only [Result.andThen]
 rw [Oper.upon_value]
 go_wp2
 rw [Lib.run_from_unsafe w ⟨b,0,none⟩ Tryz.underlying226 Tryz.underlying177 hj hsh TA]
 simp only [Result.andThen]
 rw [Oper.upon_value]
 go_wp2
 go_end0
 exact ⟨rfl,rfl⟩
theorem JZ (B b:Nat) (bs:List Value) (w:World) (h:Lib.IsBuilderF 179 5 B b bs w) :
  Calls Tryz.prog 124 #[.pointer (some ⟨b,0,none⟩)] w fun e w'=>e=.returned (.tuple #[])∧(Lib.BuilderAtF 179 5 B b (.pointer (some ⟨b,0,none⟩)) bs w'∧Below B w w'):=by
 rcases h with h | h
 ·
  refine (IJ b w h.cell0 h.shape h.frozen0).mono ?_
  rintro e w' ⟨rfl,rfl⟩
  exact ⟨rfl,h.used _,(Below.refl B w).setCell (p:=⟨b,0,none⟩) h.1 _⟩
 ·
  refine (Io b w h.cell0).mono ?_
  rintro e w' ⟨rfl,rfl⟩
  exact ⟨rfl,h,Below.refl B _⟩
set_option maxHeartbeats 1000000 in
set_option maxRecDepth 100000 in
theorem Er (B b:Nat) (bs:List Value) (s:ByteArray) (w:World) (h:Lib.IsBuilderF 179 5 B b bs w) (hlen:bs.length+s.size≤140737488355328) (hBw:B≤w.heap.size) :
  Calls Tryz.prog 105 #[.pointer (some ⟨b,0,none⟩),.string s] w fun e w'=>e=.returned (.tuple #[.int .i64 s.size,.nilIface])∧Lib.IsBuilderF 179 5 B b (bs ++ Lib.strCells s) w'∧Below B w w':=by
 obtain ⟨i0,hi,hz0,hz1,hz2⟩:=info_parts TB
 have H:=A0 h
 clear h
 go_enter Tryz.func105,Tryz.ntmps105
 go_wp2_with (go_at_call 124;refine (JZ B b bs _ H.out).mono ?_)
 rintro e w1 ⟨rfl,h1,hb1⟩
 obtain ⟨hB,v,hbk,hown,hne⟩:=h1
 have c0:w1.cell? ⟨b,0,none⟩=some (.pointer (some ⟨b,0,none⟩)):=by rw [Lib.cell_of_heap hbk];rfl
 have c1:w1.cell? ⟨b,1,none⟩=some v:=by rw [Lib.cell_of_heap hbk];rfl
 go_wp2_with (at_builtin;refine Lib.wpList_append_own_stringF _ rfl _ _ 26 9 rfl B 5 i0 Tryz.underlying26 Tryz.underlying9 hi hz0 hz1 hz2 _ _ _ rfl hown s rfl ?c3 ?c4 ?c5 ?_)
 case c3=>unfold maxLen;omega
 case c4=>omega
 case c5=>have:=hb1.size;omega
 intro v' w2 hown' hgrow _
 have hlt:b<w1.heap.size:=by
  rcases Nat.lt_or_ge b w1.heap.size with h' | h'
  · exact h'
  · simp [Array.getElem?_eq_none h'] at hbk
 have hb2:w2.heap[b]? = some (.cells #[.pointer (some ⟨b,0,none⟩),v] 179 (0,0)):=by
  rw [hgrow.block b hlt (fun e=>hne e.symm)]
  exact hbk
 have d0:w2.cell? ⟨b,0,none⟩=some (.pointer (some ⟨b,0,none⟩)):=by rw [Lib.cell_of_heap hb2];rfl
 have d1:w2.cell? ⟨b,1,none⟩=some v:=by rw [Lib.cell_of_heap hb2];rfl
 have f1:w2.frozen? ⟨b,1,none⟩=false:=Lib.frozen_of_heap hb2 1
 obtain ⟨ao,n',cap,rfl⟩:∃ ao n' cap,v'=.slice ao n' cap:=by
  rcases hown'.2 with ⟨hv,_⟩ | ⟨g,cap,cur,fz,hv,_⟩
  · exact ⟨_,_,_,hv⟩
  · exact ⟨_,_,_,hv⟩
 go_wp2
 go_ret2
 refine ⟨rfl,.inr ?_,?_⟩
 · exact Lib.BuilderAtF.put (T:=179) (e:=5) hB hb2 (bs':=bs ++ Lib.strCells s) (by simpa [Lib.strCells_length] using hown') (by decide)
 · exact (hb1.grown hgrow (by have:=hb1.size;omega) (fun k hk=>(hown.lt k hk).1)).setCell (p:=⟨b,1,none⟩) hB _
open Go.Shelf Go.RowKit Go.WideShapes
theorem Ps {a b:ByteArray} (h:a=b):Ending.returned (.string a)=.returned (.string b):=by rw [h]
def DG (x:Ar):List UInt8:=32 :: UInt8.ofNat x.c.toNat :: Lib.itoa x.t
def BP (f:Bool) (X:List Ar):List UInt8:=Lib.formatBool f ++ X.flatMap DG
theorem OG {f:Bool} {X:List Ar} {k:Nat} (hk:k<X.length):BP f (X.take (k+1))=BP f (X.take k) ++ DG X[k]:=by
 rw [BP,AO hk,List.flatMap_append,← List.append_assoc];simp [BP]
theorem RG (u:Nat):(Lib.decDigits u).length≤u+1:=by
 induction u using Nat.strongRecOn with
 | _
   u ih =>
  rw [Lib.decDigits]
  split
  · simp
  ·
   have:=ih (u / 10) (by omega)
   rw [AB];simp;omega
def OH (x:Ar):Prop:=0≤x.c∧x.c≤127∧0≤x.t∧x.t≤1000000
theorem LY {x:Ar} (h:OH x):(DG x).length≤1000003:=by
 obtain ⟨h1,h2,h3,h4⟩:=h
 have:(Lib.itoa x.t).length≤1000001:=by
  rw [Lib.itoa,if_neg (by omega)]
  have:=RG x.t.toNat;omega
 simp [DG];omega
theorem LZ {f:Bool} {X:List Ar} (h:∀ x∈X,OH x):(BP f X).length≤5+X.length*1000003:=by
 have h1:(Lib.formatBool f).length≤5:=by cases f <;> decide
 have h2:(X.flatMap DG).length≤X.length*1000003:=by
  induction X with
  | nil=>simp
  | cons x r ih =>
   rw [List.flatMap_cons,AB,List.length_cons,Nat.add_mul]
   have:=LY (h x (by simp));have:=ih (fun y hy=>h y (by simp [hy]));omega
 rw [BP,AB];omega
def Tab (w:World):Prop:=Lib.TabIs Tryz.prog w "internal/strconv.uint64pow10" .u64 Lib.pow10Tab
theorem Tb:∃ g,Tryz.prog.globalNamed "internal/strconv.uint64pow10" = some g:=by
 have h:(Tryz.prog.globalNamed "internal/strconv.uint64pow10").isSome=true:=by kernel_rfl
 exact Option.isSome_iff_exists.1 h
theorem Tab.later {w w':World} (h:Tab w) (hb:Below w.heap.size w w'):Tab w':=by
 obtain ⟨g,hg⟩:=Tb
 unfold Tab Lib.TabIs World.var? at h ⊢
 rw [hg] at h ⊢
 simp only [Option.bind_some] at h ⊢
 have hlt:g<w.heap.size:=by
  rcases Nat.lt_or_ge g w.heap.size with h' | h'
  · exact h'
  · rw [Array.getElem?_eq_none h'] at h;cases h
 rw [hb.block g hlt]
 exact h
theorem Mg {T e:TypeId} {B b:Nat} {bs:List Value} {w w':World} (h:Lib.IsBuilderF T e B b bs w) (hx:Ext w w'):Lib.IsBuilderF T e B b bs w':=by
 have key:∀ p,Lib.BuilderAtF T e B b p bs w→Lib.BuilderAtF T e B b p bs w':=by
  rintro p ⟨hB,v,hb,hown,hne⟩
  refine ⟨hB,v,(Below.block hx b (A5.1 hb).1).trans hb,⟨hown.1,hown.2.imp id ?_⟩,hne⟩
  rintro ⟨g,cap,cur,fz,rfl,h1,h2,h3⟩
  exact ⟨g,cap,cur,fz,rfl,h1,(Below.block hx g (A5.1 h2).1).trans h2,h3⟩
 exact h.imp (key _) (key _)
theorem OI (c:Int) (h0:0≤c) (h1:c≤127):Utf8.encode c=⟨#[UInt8.ofNat c.toNat]⟩:=by
 have hv:Utf8.valid c=true:=by simp [Utf8.valid];omega
 have hc:c.toNat<0x80:=by omega
 simp only [Utf8.encode,hv,if_true,hc]
theorem Sc (b:Bool) (w:World):Calls Tryz.prog 106 #[.bool b] w fun e w'=>e=.returned (.string ⟨(Lib.formatBool b).toArray⟩)∧w=w' :=
 (Tryz.strconv_FormatBool b w).mono fun e w' h=>⟨h.1,h.2.symm⟩
theorem Ak {w:World} {g:Nat} {a b:Value} {t:TypeId} {f:Nat × Nat} (h:w.heap[g]? = some (.cells #[a,b] t f)):w.cell? ⟨g,0,none⟩=some a∧w.cell? ⟨g,1,none⟩=some b:=by
 refine ⟨?_,?_⟩
 · rw [cell_of_row w g 0 _ _ f h];rfl
 · rw [cell_of_row w g 1 _ _ f h];rfl
def
  ContT (w1 wr:World) (b:Nat) (l0 l1:List UInt8) (done:Bool) (W:World):Prop :=
 Below b w1 W∧b≤W.heap.size∧match done with
  | true=>Lib.IsBuilderF 179 5 b b (Lib.byteCells l1) W
  | false=>Lib.IsBuilderF 179 5 b b (Lib.byteCells l0) W∧Below wr.heap.size wr W
theorem Jw {w1 wr:World} {b:Nat} {l0 l1:List UInt8}:∀ (d:Bool) (W W':World),ContT w1 wr b l0 l1 d W→Ext W W'→ContT w1 wr b l0 l1 d W':=by
 intro d W W' ⟨h1,h2,h3⟩ hx
 refine ⟨h1.trans (Below.mono hx h2),A8 h2 hx.size,?_⟩
 cases d with
 | true=>exact Mg h3 hx
 | false=>exact ⟨Mg h3.1 hx,h3.2.trans (Below.mono hx h3.2.size)⟩
set_option maxHeartbeats 1000000 in
set_option maxRecDepth 100000 in
theorem
    contents_any (f:Bool) (X:List Ar) (a:Option Addr) (n cap:Nat) (w:World) (hX:Dd w a X) (hn:n=X.length) (hok:∀ x∈X,OH x) (hl:X.length≤10000) (ht:Tab w) :
  Calls Tryz.prog 77 #[.agg #[.bool f,.slice a n cap]] w fun e w'=>e=.returned (.string ⟨(BP f X).toArray⟩)∧Below w.heap.size w w':=by
 subst hn
 have HX:=A0 hX;have HOK:=A0 hok;have HT:=A0 ht;clear hX hok ht
 go_enter Tryz.func77,Tryz.ntmps77
 obtain ⟨w1,hw1⟩:∃ w1,w1=w.alloc (.cells #[.bool f,.slice a X.length cap] 153):=⟨_,rfl⟩
 have hw1s:w1.heap.size=w.heap.size+1:=by rw [hw1];simp
 have hB1:Below w.heap.size w w1:=by rw [hw1];exact (Below.refl _ _).alloc (A3 _) _
 have HBOX:Hid (w1.heap[w.heap.size]? = some (.cells #[.bool f,.slice a X.length cap] 153 (0,0))):=by rw [hw1];exact heap_alloc_new _ _
 have HB1:=A0 hB1
 have hbld:Lib.IsBuilderF 179 5 w1.heap.size w1.heap.size [] (w1.alloc (.cells #[.pointer none,.slice none 0 0] 179)):=.of (Lib.fresh_isBuilder _ _ _)
 obtain ⟨g1,hg1⟩:∃ g1,g1=w1.heap.size:=⟨_,rfl⟩
 rw [← hg1] at hbld
 have HBL:=A0 hbld
 clear hbld hB1
 go_upto_region 2 with fail
 have hgs:w.heap.size+1=g1:=by omega
 rw [← hw1,hgs]
 clear hw1
 obtain ⟨w2,hw2⟩:∃ w2,w2=w1.alloc (.cells #[.pointer none,.slice none 0 0] 179):=⟨_,rfl⟩
 have HB2:Hid (Below g1 w1 w2):=by show Below _ _ _;rw [hw2];exact (Below.refl _ _).alloc (by omega) _
 rw [← hw2] at HBL ⊢
 clear hw2
 have hg2:g1≤w2.heap.size:=by have:=HB2.out.size;omega
 have c0:w2.cell? ⟨w.heap.size,0,none⟩=some (.bool f):=(HB2.out.cell (p:=⟨w.heap.size,0,none⟩) (by show w.heap.size<g1;omega)).trans (by rw [cell_of_row _ _ _ _ _ _ HBOX.out];rfl)
 obtain ⟨s0,hs0⟩:∃ s0:ByteArray,s0=⟨(Lib.formatBool f).toArray⟩:=⟨_,rfl⟩
 have HS0:=A0 hs0
 have hsz0:s0.size≤140737488355328:=by rw [hs0];cases f <;> decide
 have hfb:=Sc f
 rw [← hs0] at hfb
 have HFB:=A0 hfb
 clear hs0 hfb
 have HGS:=A0 hgs;have HW1S:=A0 hw1s;have HG1:=A0 hg1
 clear hgs hw1s hg1
 go_wp2_with fail
 refine (HFB.out _).mono ?_
 rintro e w' ⟨rfl,rfl⟩
 go_wp2_with fail
 refine (Er g1 g1 [] s0 _ HBL.out (by simpa using hsz0) hg2).mono ?_
 rintro e w3 ⟨rfl,hbl3,hb3⟩
 have h0:([]:List Value) ++ Lib.strCells ⟨(Lib.formatBool f).toArray⟩=Lib.byteCells (BP f []):=by
  simp [Lib.strCells,Lib.byteCells,BP]
 rw [HS0.out,h0] at hbl3
 have HBL3:=A0 hbl3
 have HB3:=A0 (HB2.out.trans hb3)
 have hg3:=A8 hg2 hb3.size
 clear hbl3 hb3 h0 c0
 have c1:w3.cell? ⟨w.heap.size,1,none⟩=some (.slice a X.length cap):=(HB3.out.cell (p:=⟨w.heap.size,1,none⟩) (by show w.heap.size<g1;have:=HGS.out;omega)).trans (by rw [cell_of_row _ _ _ _ _ _ HBOX.out];rfl)
 go_wp2
 go_loopw [13] (fun q wr=>∃ k:Nat,k≤X.length∧q=.int .i64 (k:Int)∧Lib.IsBuilderF 179 5 g1 g1 (Lib.byteCells (BP f (X.take k))) wr∧Below g1 w1 wr∧g1≤wr.heap.size) (fun q _=>X.length - (intOf q).toNat)
 case atStart=>exact ⟨0,Nat.zero_le _,rfl,HBL3.out,HB3.out,hg3⟩
 case round =>
  obtain ⟨k,hk,rfl,hbl,hB,hgr⟩:=hrel
  have HBL:=A0 hbl;have HB:=A0 hB
  have HBw:=A0 (HB1.out.trans (hB.mono (by have:=HGS.out;omega)))
  clear hbl hB
  by_cases hlt:k<X.length
  ·
   obtain ⟨
       b,o,ha,hb,q0,q1⟩:=(HX.out.later HBw.out (A3 _)) k hlt
   have hidx:=Dw a b o X.length cap k ha hlt
   have HSU:=A0 (OG (f:=f) hlt)
   have hxo:=HOK.out X[k] (AG hlt)
   have hkl:=LZ (f:=f) (X:=X.take k) (fun x hx=>HOK.out x (List.mem_of_mem_take hx))
   have hkl2:(X.take k).length≤10000:=by have:=List.length_take_le' k X;omega
   have hxl:=LY hxo
   obtain ⟨x,hx⟩:∃ x,X[k]=x:=⟨_,rfl⟩
   rw [hx] at q0 q1 HSU hxo hxl
   obtain ⟨xc,xt⟩:=x
   simp only [OH] at q0 q1 hxo
   obtain ⟨x0,x1,x2,x3⟩:=hxo
   clear ha hx
   go_upto_region 6 with fail
   obtain ⟨wy,hwy⟩:∃ wy,wy=wr.alloc (.cells #[.int .u8 xc,.int .i64 xt] 155):=⟨_,rfl⟩
   have hwb:Below wr.heap.size wr wy:=by rw [hwy];exact (Below.refl _ _).alloc (A3 _) _
   have HV:Hid (wy.heap[wr.heap.size]? = some (.cells #[.int .u8 xc,.int .i64 xt] 155 (0,0))):=by rw [hwy];exact heap_alloc_new _ _
   have hws:wr.heap.size<wy.heap.size:=by rw [hwy];simp
   have HTY:Hid (ContT w1 wy g1 (BP f (X.take k)) (BP f (X.take k) ++ DG ⟨xc,xt⟩) false wy) :=
    ⟨HB.out.trans (hwb.mono hgr),A8 hgr hwb.size,Mg HBL.out hwb,Below.refl _ _⟩
   have HTB:Hid (Tab wy):=HT.out.later (HBw.out.trans (hwb.mono HBw.out.size))
   rw [← hwy]
   clear hwy hwb
   refine Am (by kernel_rfl) (Vs [vq (.pointer (some ⟨wr.heap.size,0,none⟩)),vq (.int .u8 xc),vq (.int .i32 xc),vq (.string ⟨#[UInt8.ofNat xc.toNat]⟩),vq (.string (⟨#[32]⟩ ++ ⟨#[UInt8.ofNat xc.toNat]⟩:ByteArray)),vq (.pointer (some ⟨wr.heap.size,1,none⟩)),vq (.int .i64 xt),vq (.string ⟨(Lib.itoa xt).toArray⟩),vq (.string ((⟨#[32]⟩ ++ ⟨#[UInt8.ofNat xc.toNat]⟩:ByteArray) ++ ⟨(Lib.itoa xt).toArray⟩:ByteArray)),fun _ _=>True]) (Xs [Ext,Ext,Ext,Ext,Ext,Ext,Ext,Ext,Ext,(fun _ _=>True)]) (fun fL=>(fun d W=>ContT w1 wy g1 (BP f (X.take k)) (BP f (X.take k) ++ DG ⟨xc,xt⟩) d W) (fL 9)) [0,1,3,7,15,0,32,96,255,511] 29 10 (by kernel_rfl) rfl ?hV ?hS ?hop ?hfin ?hlast
   case hV =>
    refine Ay (Ac (by simp only [AU,List.not_mem_nil,or_false,forall_eq_or_imp,forall_eq];exact ⟨AY _,AY _,AY _,AY _,AY _,AY _,AY _,AY _,AY _,fun _ _ _ _ _=>trivial⟩)) ?_
    exact ⟨.inl rfl,.inl rfl,.inl rfl,.inl rfl,.inl rfl,.inl rfl,.inl rfl,.inl rfl,.inl rfl,.inr (B4 ⟨fun _ _=>fun _ _ _ h _=>h,fun _ _=>fun _ _ _ h _=>h,fun _ _=>fun _ _ _ h _=>h,fun _ _=>fun _ _ _ h _=>h,fun _ _=>fun _ _ _ h _=>h,fun _ _=>fun _ _ _ h _=>h,fun _ _=>fun _ _ _ h _=>h,fun _ _=>fun _ _ _ h _=>h,fun _ _=>fun _ _ _ h _=>h,fun h=>absurd rfl h,trivial⟩),trivial⟩
   case hS =>
    intro fL hf
    show (fun d W=>ContT w1 wy g1 (BP f (X.take k)) (BP f (X.take k) ++ DG ⟨xc,xt⟩) d W) (fL 9) _
    rw [hf 9 (by decide)]
    exact Jw _ _ _ HTY.out ⟨rfl,rfl,rfl,A3 _,fun _ _=>rfl⟩
   case hop =>
    refine ⟨?_,?_,?_,?_,?_,?_,?_,?c7,?_,?c9,trivial⟩
    all_goals first | rw [if_neg (by decide)] | rw [if_pos (by decide)]
    all_goals try intro ac W fL hsz hfi hms hdn hS0 hdep hbase hund
    all_goals try have hS:(fun d W=>ContT w1 wy g1 (BP f (X.take k)) (BP f (X.take k) ++ DG ⟨xc,xt⟩) d W) (fL 9) W:=hS0
    all_goals try (have hfl9:fL 9=true:=hms 9 (by decide);rw [hfl9] at hS)
    all_goals try (have hfl9:fL 9=false:=(by first | exact hfi | exact hdn 9 (by decide) (by decide));rw [hfl9] at hS)
    all_goals try (
     have henc:=OI xc x0 x1
     have hw32:IntKind.i32.wrap xc=xc:=IntWalk.i32_in _ (by omega)
     have hadd:2+(Lib.itoa xt).length≤9223372036854775807:=by simp only [DG,List.length_cons] at hxl;omega
     have hbw:=hS.2.2.2
     obtain ⟨v0,v1⟩:=Ak ((hbw.block wr.heap.size hws).trans HV.out))
    all_goals try have hh5:=gdA ac 5 (.pointer (some ⟨wr.heap.size,0,none⟩)) (hbase 5 (by kernel_rfl))
    all_goals try have hh3:=gdA ac 3 (.pointer (some ⟨g1,0,none⟩)) (hbase 3 (by kernel_rfl))
    all_goals try (have hdep:=DS hdep;simp [D1,Aa,vq] at hdep)
    all_goals try clear hbase hms hdn hund
    case c7 =>
     have hS1:(fun d W=>ContT w1 wy g1 (BP f (X.take k)) (BP f (X.take k) ++ DG ⟨xc,xt⟩) d W) ((upd fL 7) 9) W:=hS0
     refine AZ rfl (.inr ⟨107,#[.int .i64 xt],W,by (clear hsz hS hS0 hS1 hfi;simp [go_sem,Act.eval, *]),?_⟩)
     refine (Tryz.strconv_Itoa xt (by omega) (by omega) W (HTB.out.later hbw)).mono ?_
     rintro e w' ⟨he,k',os,rfl⟩
     have hx:Ext W (Sort.grow (W.drewN k') os):=Lib.below_grow _ W (A3 _) k' os
     exact ⟨_,he,rfl,hx,(show (fun d W=>ContT w1 wy g1 (BP f (X.take k)) (BP f (X.take k) ++ DG ⟨xc,xt⟩) d W) ((upd fL 7) 9) _ by
      rw [show upd fL 7 9=fL 9 from if_neg (by decide)]
      exact Jw _ _ _ hS0 hx)⟩
    case c9 =>
     refine AZ rfl (.inr ⟨105,#[.pointer (some ⟨g1,0,none⟩),.string ((⟨#[32]⟩ ++ ⟨#[UInt8.ofNat xc.toNat]⟩:ByteArray) ++ ⟨(Lib.itoa xt).toArray⟩:ByteArray)],W,by (clear hsz hS hS0 hfi;simp [go_sem,Act.eval, *]),?_⟩)
     obtain ⟨hq1,hq2,hq3⟩:Below g1 w1 W∧g1≤W.heap.size∧Lib.IsBuilderF 179 5 g1 g1 (Lib.byteCells (BP f (X.take k))) W:=⟨hS.1,hS.2.1,hS.2.2.1⟩
     have hlen:(Lib.byteCells (BP f (X.take k))).length+(((⟨#[32]⟩ ++ ⟨#[UInt8.ofNat xc.toNat]⟩:ByteArray) ++ ⟨(Lib.itoa xt).toArray⟩:ByteArray)).size≤140737488355328:=by
      have hsz9:(((⟨#[32]⟩ ++ ⟨#[UInt8.ofNat xc.toNat]⟩:ByteArray) ++ ⟨(Lib.itoa xt).toArray⟩:ByteArray)).size=2+(Lib.itoa xt).length:=by
       rw [ByteArray.size_append,ByteArray.size_append]
       show 1+1+(Lib.itoa xt).toArray.size=_
       simp
      rw [Lib.byteCells_length,hsz9];simp only [DG,List.length_cons] at hxl;omega
     have hwc:=Er g1 g1 _ ((⟨#[32]⟩ ++ ⟨#[UInt8.ofNat xc.toNat]⟩:ByteArray) ++ ⟨(Lib.itoa xt).toArray⟩:ByteArray) W hq3 hlen hq2
     refine hwc.mono ?_
     clear hwc hS hS0
     rintro e w' ⟨he,hbl9,hb9⟩
     refine ⟨_,he,trivial,trivial,(show (fun d W=>ContT w1 wy g1 (BP f (X.take k)) (BP f (X.take k) ++ DG ⟨xc,xt⟩) d W) ((upd fL 9) 9) _ by
      rw [show upd fL 9 9=true from if_pos rfl]
      exact ⟨hq1.trans hb9,A8 hq2 hb9.size,by
       have e9:Lib.byteCells (BP f (X.take k)) ++ Lib.strCells ((⟨#[32]⟩ ++ ⟨#[UInt8.ofNat xc.toNat]⟩:ByteArray) ++ ⟨(Lib.itoa xt).toArray⟩:ByteArray)=Lib.byteCells (BP f (X.take k) ++ DG ⟨xc,xt⟩):=by simp [Lib.strCells,Lib.byteCells,DG]
       rw [e9] at hbl9;exact hbl9⟩)⟩
    all_goals (refine AZ rfl (.inl ⟨_,W,?_,rfl,Ext.refl _,hS0⟩);clear hsz hS hS0 hfi;simp [go_sem,Act.eval, *];done)
   case hlast =>
    intro h;exact absurd rfl h
   case hfin =>
    intro _ ac W hsz hdf fL hf hS0 hv hbase
    have hS:(fun d W=>ContT w1 wy g1 (BP f (X.take k)) (BP f (X.take k) ++ DG ⟨xc,xt⟩) d W) (fL 9) W:=hS0
    clear hS0
    rw [hf 9 (by decide)] at hS
    obtain ⟨sx,hsx,hsA⟩:=Af [17,18,19,20,21,22,23,24,25,26] (by kernel_rfl) hsz hdf hbase
    rw [hsA]
    simp only [List.foldl]
    simp only [Act.put,List.setIfInBounds_toArray,List.set_cons_succ,List.set_cons_zero]
    clear hsA hsx hv hbase hsz hdf hf
    have HBX:=A0 hS.1
    have HBL9:=A0 hS.2.2
    have hg9:=hS.2.1
    clear hS
    rw [← HSU.out] at HBL9
    go_wp2_with fail
    go_roundw
    case rel=>exact ⟨k+1,by omega,by go_num,HBL9.out,HBX.out,hg9⟩
    case measure=>simp [intOf];omega
  ·
   have HA:Hid (BP f (X.take k)=BP f X):=by show _=_;rw [AF (by omega)]
   go_wp2_with (go_at_call 108;refine (Tryz.Builder_String_any_k g1 g1 _ _ HBL.out hgr).mono ?_;rintro e w5 ⟨rfl,_,hb5,_⟩)
   go_ret
   exact ⟨Ps (by rw [HA.out]),HBw.out.trans (hb5.mono (by have:=HGS.out;omega))⟩
end Go.Proofs.YthjmdgejnakcmaaGreatDoor
