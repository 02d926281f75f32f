/- Texts that the claims share: DStr, DDict, DNodes, DRow, DAfter, DIns, DBuild. -/
import Derived.Deep.RegionHeld3
import Derived.Deep.DeepCutAuto
import Derived.Laws.Cover1
import Derived.Test.YthjmdgejnakcmaaGreatDoorChecked
import Derived.Deep.QuietTactic
import Derived.BigQuiet
import Derived.Laws.StructEq
import Derived.Maps.AppendAt
import Derived.Laws.AppendOwn
import Derived.Laws.OwnMore
import Derived.Shelf.Strings.BuilderF
import Derived.Lib.FrozenHead2
import Derived.Test.YthjmdgejnakcmaaGreatDoorMA1
namespace Go.Proofs.YthjmdgejnakcmaaGreatDoor
open Go.RowKit
set_option linter.unusedVariables false
set_option linter.unusedSimpArgs false
def classF (c:Int):Int:=if 97≤c∧c≤122 then 1 else if 65≤c∧c≤90 then 2 else if 48≤c∧c≤57 then 3 else 0
def knownL (l:List UInt8):Bool:=l.all fun c=>!(classF (c.toNat:Int) == 0)
def knownB (s:ByteArray):Bool:=knownL s.data.toList
def wordB (s:ByteArray):Bool:=decide (1≤s.size) && (decide (s.size≤20) && knownB s)
theorem take_snoc (s:ByteArray) (k:Nat) (h:k<s.size):s.data.toList.take (k+1)=s.data.toList.take k ++ [s[k]]:=by
 rw [List.take_succ_eq_append_getElem (by simpa using h)];rfl
theorem take_all (s:ByteArray) (k:Nat) (h:¬ k<s.size):s.data.toList.take k=s.data.toList:=List.take_of_length_le (by simp;exact Nat.le_of_not_lt h)
theorem all_false {p:UInt8→Bool} (s:ByteArray) (k:Nat) (h:k<s.size) (hp:p s[k]=false):s.data.toList.all p=false:=by
 rw [List.all_eq_false]
 refine ⟨s[k],?_,by simp [hp]⟩
 show s.data[k]∈s.data.toList
 simp
theorem all_snoc {p:UInt8→Bool} (s:ByteArray) (k:Nat) (h:k<s.size) (ht:(s.data.toList.take k).all p=true) (hp:p s[k]=true):(s.data.toList.take (k+1)).all p=true:=by
 rw [take_snoc s k h,List.all_append,ht];simp [hp]
theorem class_any (c:Int) (w:World) (h0:0≤c) (h1:c≤255) :
  Calls Tryz.prog 103 #[.int .u8 c] w fun e w'=>e=.returned (.int .i64 (classF c))∧w=w':=by
 rcases (show (97≤c∧c≤122)∨(65≤c∧c≤90)∨(48≤c∧c≤57)∨c<48∨(57<c∧c<65)∨(90<c∧c<97)∨122<c from by omega) with h | h | h | h | h | h | h
 all_goals
  go_enter Tryz.func103,Tryz.ntmps103
  go_wp2
  go_ret
  refine ⟨ret_int ?_,rfl⟩
  unfold classF
  omega
theorem
    allKnown_any (s:ByteArray) (w:World) (hs:s.size≤9223372036854775807) :
  Calls Tryz.prog 104 #[.string s] w fun e w'=>e=.returned (.bool (knownB s))∧w=w':=by
 go_enter Tryz.func104,Tryz.ntmps104
 go_wp2
 go_loop [6] (fun i=>∃ k:Nat,k≤s.size∧i=.int .i64 k∧knownL (s.data.toList.take k)=true) (fun i=>s.size - (intOf i).toNat)
 case atStart=>exact ⟨0,Nat.zero_le _,rfl,rfl⟩
 case round =>
  obtain ⟨k,hk,rfl,ht⟩:=hrel
  have HT:=Lib.hid ht;clear ht
  by_cases hlt:k<s.size
  ·
   have b0:(0:Int)≤(s[k].toNat:Int):=by omega
   have b1:(s[k].toNat:Int)≤255:=by have:=s[k].toNat_lt;omega
   by_cases hc:classF (s[k].toNat:Int)=0
   ·
    have hcb:(classF (s[k].toNat:Int) == 0)=true:=by rw [hc];rfl
    have HC:Hid ((!(classF (s[k].toNat:Int) == 0))=false):=by show _=false;rw [hc];rfl
    clear hc
    go_wp2_with (go_at_call 103;refine (class_any _ _ b0 b1).mono ?_;rintro e w' ⟨rfl,rfl⟩)
    go_ret
    exact ⟨ret_bool (all_false s k hlt HC.out).symm,rfl⟩
   ·
    have hcb:(classF (s[k].toNat:Int) == 0)=false:=by simpa using hc
    have HC:Hid ((!(classF (s[k].toNat:Int) == 0))=true):=by show _=true;simpa using hc
    clear hc
    go_wp2_with (go_at_call 103;refine (class_any _ _ b0 b1).mono ?_;rintro e w' ⟨rfl,rfl⟩)
    go_round
    case rel=>exact ⟨k+1,by omega,by go_num,all_snoc s k hlt HT.out HC.out⟩
    case measure=>simp [intOf];omega
  ·
   have HA:=Lib.hid (take_all s k hlt)
   go_wp2
   go_ret
   exact ⟨ret_bool (by rw [knownB,← HA.out];exact HT.out.symm),rfl⟩
def inB (a b c:Int):Bool:=decide (b≤a) && decide (a≤c)
theorem inB_yes {a b c:Int} (h:b≤a) (h2:a≤c):inB a b c=true:=by simp [inB,h,h2]
theorem inB_no {a b c:Int} (h:¬ (b≤a∧a≤c)):inB a b c=false:=by
 unfold inB;rw [Bool.and_eq_false_iff];simp;omega
theorem in_any (a b c:Int) (w:World):Calls Tryz.prog 80 #[.int .i64 a,.int .i64 b,.int .i64 c] w fun e w'=>e=.returned (.bool (inB a b c))∧w'=w:=by
 by_cases h:b≤a
 ·
  by_cases h2:a≤c
  ·
   have H:=Lib.hid (inB_yes h h2)
   go_enter Tryz.func80,Tryz.ntmps80
   go_wp2
   go_ret
   exact ⟨ret_bool (by rw [H.out];try (simp [h2])),rfl⟩
  ·
   have H:=Lib.hid (inB_no (a:=a) (b:=b) (c:=c) (by omega))
   go_enter Tryz.func80,Tryz.ntmps80
   go_wp2
   go_ret
   exact ⟨ret_bool (by rw [H.out];try (simp;omega)),rfl⟩
 ·
  have H:=Lib.hid (inB_no (a:=a) (b:=b) (c:=c) (by omega))
  go_enter Tryz.func80,Tryz.ntmps80
  go_wp2
  go_ret
  exact ⟨ret_bool (by rw [H.out];try (simp;omega)),rfl⟩
theorem classF_0 {c:Int}:(classF c == 0)=(!(decide (97≤c) && decide (c≤122)) && (!(decide (65≤c) && decide (c≤90)) && !(decide (48≤c) && decide (c≤57)))):=by
 unfold classF
 by_cases h:97≤c∧c≤122
 · simp [h]
 ·
  by_cases h2:65≤c∧c≤90
  · rw [if_neg h,if_pos h2];simp [h2]
  ·
   by_cases h3:48≤c∧c≤57
   · rw [if_neg h,if_neg h2,if_pos h3];simp [h3]
   · rw [if_neg h,if_neg h2,if_neg h3];simp;omega
set_option maxHeartbeats 1600000 in
theorem
    plain_any (s:ByteArray) (w:World) (hs:s.size≤9223372036854775807) :
  Calls Tryz.prog 82 #[.string s] w fun e w'=>e=.returned (.bool (knownB s))∧w=w':=by
 go_enter Tryz.func82,Tryz.ntmps82
 go_wp2
 go_loop [3] (fun i=>∃ k:Nat,k≤s.size∧i=.int .i64 k∧knownL (s.data.toList.take k)=true) (fun i=>s.size - (intOf i).toNat)
 case atStart=>exact ⟨0,Nat.zero_le _,rfl,rfl⟩
 case round
       =>
  obtain ⟨k,hk,rfl,ht⟩:=hrel
  have HT:=Lib.hid ht;clear ht
  by_cases hlt:k<s.size
  ·
   have
      b0:(0:Int)≤(s[k].toNat:Int):=by omega
   have b1:(s[k].toNat:Int)≤255:=by have:=s[k].toNat_lt;omega
   rcases (show ((97:Int)≤(s[k].toNat:Int)∧(s[k].toNat:Int)≤122)∨((65:Int)≤(s[k].toNat:Int)∧(s[k].toNat:Int)≤90)∨((48:Int)≤(s[k].toNat:Int)∧(s[k].toNat:Int)≤57)∨((122:Int)<(s[k].toNat:Int))∨((90:Int)<(s[k].toNat:Int)∧(s[k].toNat:Int)<97)∨((57:Int)<(s[k].toNat:Int)∧(s[k].toNat:Int)<65)∨((s[k].toNat:Int)<48) by omega) with h | h | h | h | h | h | h
   all_goals first
    | (
      have HC:Hid ((!(classF (s[k].toNat:Int) == 0))=true):=by
       show _=true
       rw [classF_0];simp;omega
      go_wp2
      go_round
      case rel=>exact ⟨k+1,by omega,by go_num,all_snoc s k hlt HT.out HC.out⟩
      case measure=>simp [intOf];omega)
    | (
      have HC:Hid ((!(classF (s[k].toNat:Int) == 0))=false):=by
       show _=false
       rw [classF_0];simp;omega
      go_wp2
      go_ret
      exact ⟨ret_bool (all_false s k hlt HC.out).symm,rfl⟩)
  ·
   have HA:=Lib.hid (take_all s k hlt)
   go_wp2
   go_ret
   exact ⟨ret_bool (by rw [knownB,← HA.out];exact HT.out.symm),rfl⟩
theorem word_any (s:ByteArray) (w:World) :
  Calls Tryz.prog 76 #[.string s] w fun e w'=>e=.returned (.bool (wordB s))∧w=w':=by
 by_cases h1:1≤s.size
 ·
  by_cases h2:s.size≤20
  ·
   have i1:(1:Int)≤(s.size:Int):=by omega
   have i2:(s.size:Int)≤20:=by omega
   have H:Hid (wordB s=knownB s):=by show _=_;simp [wordB,h1,h2]
   go_enter Tryz.func76,Tryz.ntmps76
   go_wp2_with (go_at_call 104;refine (allKnown_any _ _ (by omega)).mono ?_;rintro e w' ⟨rfl,rfl⟩)
   go_ret
   exact ⟨ret_bool H.out.symm,rfl⟩
  ·
   have i1:(1:Int)≤(s.size:Int):=by omega
   have i2:¬ (s.size:Int)≤20:=by omega
   have H:Hid (wordB s=false):=by show _=_;simp [wordB,h1,h2]
   go_enter Tryz.func76,Tryz.ntmps76
   go_wp2
   go_ret
   exact ⟨ret_bool H.out.symm,rfl⟩
 ·
  have i1:¬ (1:Int)≤(s.size:Int):=by omega
  have H:Hid (wordB s=false):=by show _=_;simp [wordB,h1]
  go_enter Tryz.func76,Tryz.ntmps76
  go_wp2
  go_ret
  exact ⟨ret_bool H.out.symm,rfl⟩
theorem rword_any (s:ByteArray) (w:World) :
  Calls Tryz.prog 89 #[.string s] w fun e w'=>e=.returned (.bool (wordB s))∧w=w':=by
 obtain ⟨o,ho⟩:∃ o,inB (s.size:Int) 1 20=o:=⟨_,rfl⟩
 have HO:=Lib.hid ho
 have ho2:(decide (1≤s.size) && decide (s.size≤20))=o:=by
  rw [← ho,inB,show decide ((1:Int)≤(s.size:Int))=decide (1≤s.size) from by rw [decide_eq_decide];omega,show decide ((s.size:Int)≤20)=decide (s.size≤20) from by rw [decide_eq_decide];omega]
 have H:Hid (wordB s=(o && knownB s)):=by show _=_;rw [wordB,← Bool.and_assoc,ho2]
 cases o with
 | true =>
  have hs:s.size≤20:=by simp at ho2;exact ho2.2
  clear ho ho2
  go_enter Tryz.func89,Tryz.ntmps89
  go_wp2_with (first
   | (go_at_call 80;refine (in_any _ _ _ _).mono ?_;rintro e w' ⟨he,rfl⟩;rw [HO.out] at he;subst he)
   | (go_at_call 82;refine (plain_any _ _ (by omega)).mono ?_;rintro e w' ⟨rfl,rfl⟩))
  go_ret
  exact ⟨ret_bool (by rw [H.out];rfl),rfl⟩
 | false =>
  clear ho ho2
  go_enter Tryz.func89,Tryz.ntmps89
  go_wp2_with (first
   | (go_at_call 80;refine (in_any _ _ _ _).mono ?_;rintro e w' ⟨he,rfl⟩;rw [HO.out] at he;subst he)
   | (go_at_call 82;refine (plain_any _ _ (by omega)).mono ?_;rintro e w' ⟨rfl,rfl⟩))
  go_ret
  exact ⟨ret_bool (by rw [H.out];rfl),rfl⟩
end Go.Proofs.YthjmdgejnakcmaaGreatDoor
namespace Go.Proofs.YthjmdgejnakcmaaGreatDoor
open Go.RowKit Go.WideShapes
set_option linter.unusedVariables false
set_option linter.unusedSimpArgs false
def StrS (w:World) (a:Option Addr) (L:List ByteArray):Prop:=∀ k (hk:k<L.length),∃ b o,a=some ⟨b,o,none⟩∧b<w.heap.size∧w.cell? ⟨b,o+k,none⟩=some (.string L[k])
theorem StrS.at {w:World} {a:Option Addr} {L:List ByteArray} (h:StrS w a L) {k:Nat} (hk:k<L.length):∃ b o,a=some ⟨b,o,none⟩∧b<w.heap.size∧w.cell? ⟨b,o+k,none⟩=some (.string L[k]):=h k hk
theorem StrS.later {w w1:World} {a:Option Addr} {L:List ByteArray} {B:Nat} (h:StrS w a L) (hb:Below B w w1) (hB:w.heap.size≤B):StrS w1 a L:=fun k hk=>by
 obtain ⟨b,o,ha,h1,h2⟩:=h k hk
 exact ⟨b,o,ha,by have:=hb.size;omega,(hb.cell (p:=⟨b,o+k,none⟩) (by show b<B;omega)).trans h2⟩
theorem StrS.nil (w:World) (a:Option Addr):StrS w a []:=fun k hk=>by simp at hk
theorem idx_strs (a:Option Addr) (b o len cap k:Nat) (ha:a=some ⟨b,o,none⟩) (hk:k<len) (w:World) :
  (Instr.indexAt 37 (.slice a len cap) (.int .i64 (k:Int))).run Tryz.prog w=.ok (.pointer (some ⟨b,o+k,none⟩)) w:=by
 subst ha
 have h0:(0:Int)≤(k:Int):=by omega
 have h1:(k:Int)<(len:Int):=by omega
 simp [go_sem,h0,h1]
theorem beq_str (s t:ByteArray):(s.toList == t.toList)=decide (s=t):=by
 rw [Bool.eq_iff_iff]
 simp only [beq_iff_eq,decide_eq_true_eq]
 constructor
 · intro h;rw [ByteArray.toList_eq,ByteArray.toList_eq] at h;exact bytes_inj h
 · rintro rfl;rfl
def idxF (L:List ByteArray) (s:ByteArray):Int:=if L.findIdx (fun x=>decide (x=s))<L.length then (L.findIdx (fun x=>decide (x=s)):Int) else -1
theorem idxF_at {L:List ByteArray} {s:ByteArray} {k:Nat} (hk:k<L.length) (hno:∀ j (hj:j<L.length),j<k→L[j]≠s) (h:L[k]=s):idxF L s=k:=by
 have:L.findIdx (fun x=>decide (x=s))=k:=(List.findIdx_eq hk).2 ⟨by simp [h],fun j hj=>by simpa using hno j (by omega) hj⟩
 rw [idxF,this,if_pos hk]
theorem idxF_no {L:List ByteArray} {s:ByteArray} (hno:∀ j (hj:j<L.length),L[j]≠s):idxF L s = -1:=by
 rw [idxF,if_neg]
 intro h
 have:=List.findIdx_getElem (w:=h)
 simp only [decide_eq_true_eq] at this
 exact hno _ h this
set_option maxHeartbeats 1600000 in
theorem
    rindex_any (L:List ByteArray) (n:Nat) (a:Option Addr) (cap:Nat) (s:ByteArray) (w:World) (hR:StrS w a L) (hL:n=L.length) (hn:n≤9223372036854775807) :
  Calls Tryz.prog 60 #[.slice a n cap,.string s] w fun e w'=>e=.returned (.int .i64 (idxF L s))∧w=w':=by
 subst hL
 have HR:=Lib.hid hR;clear hR
 go_enter Tryz.func60,Tryz.ntmps60
 go_wp2
 go_loop [5] (fun i=>∃ k:Nat,k≤L.length∧i=.int .i64 k∧∀ j (hj:j<L.length),j<k→L[j]≠s) (fun i=>L.length - (intOf i).toNat)
 case atStart=>exact ⟨0,Nat.zero_le _,rfl,fun j _ h=>by omega⟩
 case round =>
  obtain ⟨k,hk,rfl,hno⟩:=hrel
  have HN:=Lib.hid hno;clear hno
  by_cases hlt:k<L.length
  ·
   obtain ⟨b,o,ha,hb,h0⟩:=HR.out.at hlt
   have hidx:=idx_strs a b o L.length cap k ha hlt
   have HA:=Lib.hid ha;clear ha
   obtain ⟨x,hx⟩:∃ x,L[k]=x:=⟨_,rfl⟩
   have HX:=Lib.hid hx
   rw [hx] at h0
   clear hx
   by_cases hq:x=s
   ·
    have HQ:=Lib.hid hq
    have hbq:(x.toList == s.toList)=true:=by rw [beq_str];simp [hq]
    clear hq
    go_wp2
    go_ret
    exact ⟨ret_int (idxF_at hlt HN.out (HX.out.trans HQ.out)).symm,rfl⟩
   ·
    have HQ:Hid (¬ x=s):=hq
    have hbq:(x.toList == s.toList)=false:=by rw [beq_str];exact decide_eq_false hq
    clear hq
    go_wp2
    go_round
    case rel=>exact ⟨k+1,by omega,by go_num,fun j hj hjk=>by
     by_cases e:j=k
     · subst e;exact fun h=>HQ.out (HX.out.symm.trans h)
     · exact HN.out j hj (by omega)⟩
    case measure=>simp [intOf];omega
  ·
   have HA:=Lib.hid (idxF_no (L:=L) (s:=s) fun j hj=>HN.out j hj (by omega))
   go_wp2
   go_ret
   exact ⟨ret_int HA.out.symm,rfl⟩
end Go.Proofs.YthjmdgejnakcmaaGreatDoor
namespace Go.Proofs.YthjmdgejnakcmaaGreatDoor
open Go.RowKit Go.WideShapes
set_option linter.unusedVariables false
set_option linter.unusedSimpArgs false
theorem same_end {L M:List ByteArray} {k:Nat} (hl:L.length=M.length) (hk:¬ k<L.length) (h:L.take k=M.take k):L=M:=by
 rwa [List.take_of_length_le (by omega),List.take_of_length_le (by omega)] at h
set_option maxHeartbeats 1600000 in
theorem
    sameWords_any (L M:List ByteArray) (n m:Nat) (a b:Option Addr) (c d:Nat) (w:World) (hR:StrS w a L) (hQ:StrS w b M) (hL:n=L.length) (hM:m=M.length) (hn:n≤9223372036854775807) (hm:m≤9223372036854775807) :
  Calls Tryz.prog 111 #[.slice a n c,.slice b m d] w fun e w'=>e=.returned (.bool (decide (L=M)))∧Below w.heap.size w w':=by
 subst hL hM
 have HR:=Lib.hid hR;have HQ:=Lib.hid hQ;clear hR hQ
 by_cases hl:L.length=M.length
 ·
  have hlI:((L.length:Int) != (M.length:Int))=false:=by simp [hl]
  have HL:=Lib.hid hl
  clear hl
  go_enter Tryz.func111,Tryz.ntmps111
  go_wp2
  go_loopw [5] (fun i wr=>∃ k:Nat,k≤L.length∧i=.int .i64 k∧L.take k=M.take k∧Below w.heap.size w wr) (fun i _=>L.length - (intOf i).toNat)
  case atStart=>exact ⟨0,Nat.zero_le _,rfl,rfl,Below.refl _ _⟩
  case round =>
   obtain ⟨k,hk,rfl,ht,hB⟩:=hrel
   have HT:=Lib.hid ht;clear ht
   by_cases hlt:k<L.length
   ·
    have hlt2:k<M.length:=by have:=HL.out;omega
    obtain ⟨b1,o1,ha1,hb1,h1⟩:=(HR.out.later hB (Nat.le_refl _)).at hlt
    obtain ⟨b2,o2,ha2,hb2,h2⟩:=(HQ.out.later hB (Nat.le_refl _)).at hlt2
    have hi1:=idx_strs a b1 o1 L.length c k ha1 hlt
    have hi2:=idx_strs b b2 o2 M.length d k ha2 hlt2
    have HA:=Lib.hid ha1;have HA2:=Lib.hid ha2;clear ha1 ha2
    have HS1:=Lib.hid (List.take_succ_eq_append_getElem hlt);have HS2:=Lib.hid (List.take_succ_eq_append_getElem hlt2)
    obtain ⟨x,hx⟩:∃ x,L[k]=x:=⟨_,rfl⟩
    obtain ⟨y,hy⟩:∃ y,M[k]=y:=⟨_,rfl⟩
    have HX:=Lib.hid hx;have HY:=Lib.hid hy
    rw [hx] at h1 HS1
    rw [hy] at h2 HS2
    clear hx hy
    by_cases hq:x=y
    ·
     have HN:Hid (L.take (k+1)=M.take (k+1)):=by show _=_;rw [HS1.out,HS2.out,HT.out,hq]
     have hbq:(x.toList == y.toList)=true:=by rw [beq_str];simp [hq]
     clear hq
     go_wp2
     go_quiet (fail)
     go_wp2
     go_roundw
     case rel=>exact ⟨k+1,by omega,by go_num,HN.out,below_drewN hB _⟩
     case measure=>simp [intOf];omega
    ·
     have HN:Hid (decide (L=M)=false):=decide_eq_false fun h=>hq (by have:=HX.out;have:=HY.out;subst h;simp_all)
     have hbq:(x.toList == y.toList)=false:=by rw [beq_str];exact decide_eq_false hq
     clear hq
     go_wp2
     go_quiet (fail)
     go_wp2
     go_ret
     exact ⟨ret_bool HN.out.symm,below_drewN hB _⟩
   ·
    have HN:Hid (decide (L=M)=true):=decide_eq_true (same_end HL.out hlt HT.out)
    go_wp2
    go_ret
    exact ⟨ret_bool HN.out.symm,hB⟩
 ·
  have HN:Hid (decide (L=M)=false):=decide_eq_false fun h=>hl (by rw [h])
  have hlI:((L.length:Int) != (M.length:Int))=true:=by simp;omega
  clear hl
  go_enter Tryz.func111,Tryz.ntmps111
  go_wp2
  go_ret
  exact ⟨ret_bool HN.out.symm,by go_grown⟩
def ltS (s t:ByteArray):Bool:=Op.bytesLess s.toList t.toList
def GoodTo (L:List ByteArray) (k:Nat):Prop:=∀ i (h:i<L.length),i<k→wordB L[i]=true∧(0<i→ltS (L[i - 1]'(by omega)) L[i]=true)
def Dict (L:List ByteArray):Prop:=1≤L.length∧L.length≤200∧GoodTo L L.length
noncomputable def dictB (L:List ByteArray):Bool:=@decide (Dict L) (Classical.propDecidable _)
theorem dictB_yes {L:List ByteArray} (h:Dict L):dictB L=true:=@decide_eq_true _ (Classical.propDecidable _) h
theorem dictB_no {L:List ByteArray} (h:¬ Dict L):dictB L=false:=@decide_eq_false _ (Classical.propDecidable _) h
theorem GoodTo.step {L:List ByteArray} {k:Nat} (h:GoodTo L k) (hk:k<L.length) (h1:wordB L[k]=true) (h2:0<k→ltS (L[k - 1]'(by omega)) L[k]=true):GoodTo L (k+1):=by
 intro i hi hik
 by_cases e:i=k
 · subst e;exact ⟨h1,h2⟩
 · exact h i hi (by omega)
theorem less_total:∀ a b:List UInt8,(Op.bytesLess a b || a == b)=!(Op.bytesLess b a)
 | [],[]=>by simp [Op.bytesLess]
 | [],_ :: _=>by simp [Op.bytesLess]
 | _ :: _,[]=>by simp [Op.bytesLess]
 | x
   :: xs,y :: ys=>by
  have ih:=less_total xs ys
  have e1:∀ u v:UInt8,(u<v)=(u.toNat<v.toNat):=fun u v=>by rw [UInt8.lt_iff_toNat_lt]
  simp only [Op.bytesLess]
  rcases Nat.lt_trichotomy x.toNat y.toNat with h | h | h
  ·
   have h1:x<y:=by rw [e1];exact h
   have h2:¬ y<x:=by rw [e1];omega
   have h3:¬ y=x:=by rintro rfl;omega
   simp [h1,h2,h3]
  ·
   have h3:x=y:=UInt8.toNat_inj.1 h
   subst h3
   have h1:¬ x<x:=by rw [e1];omega
   simpa [h1] using ih
  ·
   have h1:y<x:=by rw [e1];exact h
   have h2:¬ x<y:=by rw [e1];omega
   have h3:¬ x=y:=by rintro rfl;omega
   simp [h1,h2,h3]
theorem ltS_total (s t:ByteArray):(ltS s t || s.toList == t.toList)=!(ltS t s):=less_total _ _
set_option maxHeartbeats 1600000 in
set_option maxRecDepth 100000 in
theorem
    dictionary_any (L:List ByteArray) (n:Nat) (a:Option Addr) (cap:Nat) (w:World) (hR:StrS w a L) (hL:n=L.length) (hn:n≤9223372036854775807) :
  Calls Tryz.prog 46 #[.slice a n cap] w fun e w'=>e=.returned (.bool (dictB L))∧w=w':=by
 subst hL
 have HR:=Lib.hid hR;clear hR
 by_cases h1:1≤L.length
 ·
  have i1
      :
       ¬
        (L.length:Int)<1:=by omega
  by_cases h2:L.length≤200
  ·
   have i2
       :
        ¬
         (200:Int)<(L.length:Int):=by omega
   go_enter Tryz.func46,Tryz.ntmps46
   go_wp2
   go_loop [15] (fun i=>∃ k:Nat,k≤L.length∧i=.int .i64 k∧GoodTo L k) (fun i=>L.length - (intOf i).toNat)
   case atStart=>exact ⟨0,Nat.zero_le _,rfl,fun i _ h=>by omega⟩
   case round =>
    obtain ⟨k,hk,rfl,hg⟩:=hrel
    have HG:=Lib.hid hg;clear hg
    by_cases hlt:k<L.length
    ·
     obtain ⟨
         b,o,ha,hb,h0⟩:=HR.out.at hlt
     have hidx:=idx_strs a b o L.length cap k ha hlt
     obtain ⟨x,hx⟩:∃ x,L[k]=x:=⟨_,rfl⟩
     have HX:=Lib.hid hx
     rw [hx] at h0
     clear hx
     obtain ⟨q,hq⟩:∃ q,wordB x=q:=⟨_,rfl⟩
     have HQ:=Lib.hid hq
     clear hq
     cases q with
     | false =>
      have HN:Hid (dictB L=false):=dictB_no fun h=>by
       have:=(h.2.2 k hlt hlt).1
       rw [HX.out,HQ.out] at this;cases this
      clear ha
      go_wp2_with (go_at_call 76;refine (word_any _ _).mono ?_;rintro e w' ⟨he,rfl⟩;rw [HQ.out] at he;subst he)
      go_ret
      exact ⟨ret_bool HN.out.symm,rfl⟩
     | true =>
      by_cases hk0:k=0
      ·
       have hgt:¬ (0:Int)<(k:Int):=by omega
       have HS:Hid (GoodTo L (k+1)):=HG.out.step hlt (by rw [HX.out];exact HQ.out) (fun h=>by omega)
       clear ha hk0
       go_wp2_with (go_at_call 76;refine (word_any _ _).mono ?_;rintro e w' ⟨he,rfl⟩;rw [HQ.out] at he;subst he)
       go_round
       case rel=>exact ⟨k+1,by omega,by go_num,HS.out⟩
       case measure=>simp [intOf];omega
      ·
       have hj:k - 1<L.length:=by omega
       obtain ⟨j,hjk⟩:∃ j,k - 1=j:=⟨_,rfl⟩
       obtain ⟨b2,o2,ha2,hb2,h2⟩:=HR.out.at hj
       obtain ⟨y,hy⟩:∃ y,L[k - 1]=y:=⟨_,rfl⟩
       have HY:=Lib.hid hy
       rw [hy] at h2
       rw [hjk] at h2 hj
       have hidx2:=idx_strs a b2 o2 L.length cap j ha2 hj
       have hw1:IntKind.i64.wrap ((k:Int) - 1)=(j:Int):=by rw [IntWalk.i64_in _ (by omega)];omega
       have hgt:(0:Int)<(k:Int):=by omega
       clear hy ha ha2 hjk
       obtain ⟨q,hq⟩:∃ q,Op.bytesLess y.toList x.toList=q:=⟨_,rfl⟩
       have HLT:Hid (ltS y x=q):=hq
       cases q with
       | true =>
        have HS:Hid (GoodTo L (k+1)):=HG.out.step hlt (by rw [HX.out];exact HQ.out) (fun h=>by rw [HY.out,HX.out];exact HLT.out)
        go_wp2_with (go_at_call 76;refine (word_any _ _).mono ?_;rintro e w' ⟨he,rfl⟩;rw [HQ.out] at he;subst he)
        go_round
        case rel=>exact ⟨k+1,by omega,by go_num,HS.out⟩
        case measure=>simp [intOf];omega
       | false =>
        have HN:Hid (dictB L=false):=dictB_no fun h=>by
         have:=(h.2.2 k hlt hlt).2 (by omega)
         rw [HY.out,HX.out,HLT.out] at this;cases this
        go_wp2_with (go_at_call 76;refine (word_any _ _).mono ?_;rintro e w' ⟨he,rfl⟩;rw [HQ.out] at he;subst he)
        go_ret
        exact ⟨ret_bool HN.out.symm,rfl⟩
    ·
     have HN:Hid (dictB L=true):=dictB_yes ⟨h1,h2,fun i hi _=>HG.out i hi (by omega)⟩
     go_wp2
     go_ret
     exact ⟨ret_bool HN.out.symm,rfl⟩
  ·
   have i2:(200:Int)<(L.length:Int):=by omega
   have HN:Hid (dictB L=false):=dictB_no fun h=>h2 h.2.1
   go_enter Tryz.func46,Tryz.ntmps46
   go_wp2
   go_ret
   exact ⟨ret_bool HN.out.symm,rfl⟩
 ·
  have i1:(L.length:Int)<1:=by omega
  have HN:Hid (dictB L=false):=dictB_no fun h=>h1 h.1
  go_enter Tryz.func46,Tryz.ntmps46
  go_wp2
  go_ret
  exact ⟨ret_bool HN.out.symm,rfl⟩
end Go.Proofs.YthjmdgejnakcmaaGreatDoor
namespace Go.Proofs.YthjmdgejnakcmaaGreatDoor
open Go.RowKit Go.WideShapes
set_option linter.unusedVariables false
set_option linter.unusedSimpArgs false
set_option maxHeartbeats 1600000 in
set_option maxRecDepth 100000 in
theorem
    rdictionary_any (L:List ByteArray) (n:Nat) (a:Option Addr) (cap:Nat) (w:World) (hR:StrS w a L) (hL:n=L.length) (hn:n≤9223372036854775807) :
  Calls Tryz.prog 58 #[.slice a n cap] w fun e w'=>e=.returned (.bool (dictB L))∧Below w.heap.size w w':=by
 subst hL
 have HR:=Lib.hid hR;clear hR
 go_enter Tryz.func58,Tryz.ntmps58
 go_wp2
 go_loopw [3] (fun i wr=>∃ k:Nat,k≤L.length∧i=.int .i64 k∧GoodTo L k∧Below w.heap.size w wr) (fun i _=>L.length - (intOf i).toNat)
 case atStart=>exact ⟨0,Nat.zero_le _,rfl,fun i _ h=>by omega,Below.refl _ _⟩
 case round =>
  obtain ⟨k,hk,rfl,hg,hB⟩:=hrel
  have HG:=Lib.hid hg;have HBR:=Lib.hid hB;clear hg
  by_cases hlt:k<L.length
  ·
   obtain ⟨
       b,o,ha,hb,h0⟩:=(HR.out.later hB (Nat.le_refl _)).at hlt
   have hidx:=idx_strs a b o L.length cap k ha hlt
   obtain ⟨x,hx⟩:∃ x,L[k]=x:=⟨_,rfl⟩
   have HX:=Lib.hid hx
   rw [hx] at h0
   have HX0:=Lib.hid h0
   clear hx hB h0
   obtain ⟨q,hq⟩:∃ q,wordB x=q:=⟨_,rfl⟩
   have HQ:=Lib.hid hq
   clear hq
   cases q with
   | false =>
    have HN:Hid (dictB L=false):=dictB_no fun h=>by
     have:=(h.2.2 k hlt hlt).1
     rw [HX.out,HQ.out] at this;cases this
    clear ha
    go_upto_region 4 with fail
    refine wp_region_rv (by kernel_rfl) (Vs [fun v _=>v=.slice a L.length cap,fun v _=>v=.int .i64 (k:Int),fun v _=>v=.pointer (some ⟨b,o+k,none⟩),fun v _=>v=.string x,fun v _=>v=.bool false,fun v _=>v=.bool true,fun v _=>v=.bool true,fun v _=>v=undef,fun v _=>v=undef,fun v _=>v=undef,fun v _=>v=undef,fun v _=>v=undef,fun v _=>v=undef,fun v _=>v=undef,fun v _=>v=undef,fun v _=>v=undef,fun v _=>v=undef,fun v _=>v=undef,fun v _=>v=undef,fun v _=>v=undef,fun v _=>v=undef,fun v _=>v=.bool true]) (fun W=>Below wr.heap.size wr W) 40 (by kernel_rfl) rfl ?hVx ?hSx ?hS (opsOk_all ?hop) ?hfin
    case hop =>
     refine ⟨?_,?_,?_,?_,?_,?_,?_,?_,?_,?_,?_,?_,?_,?_,?_,?_,?_,?_,?_,?_,?_,?_,trivial⟩
     all_goals
      intro A W hsz hS hdep hbase
      have x0':=(hS.cell (p:=⟨b,o+k,none⟩) hb).trans HX0.out
      have h0:A.tmps.getD 0 undef=.slice a L.length cap:=hbase 0 (by kernel_rfl)
      have h3:A.tmps.getD 3 undef=.int .i64 (k:Int):=hbase 3 (by kernel_rfl)
      clear hbase
      simp [slotOf,Region.binds,Vs] at hdep
     · refine opOk_run rfl (.inl ⟨_,W,?_,rfl,Ext.refl _⟩);clear hsz hS;simp [go_sem,Act.eval, *]
     · refine opOk_run rfl (.inl ⟨_,W,?_,rfl,Ext.refl _⟩);clear hsz hS;simp [go_sem,Act.eval, *]
     · refine opOk_run rfl (.inl ⟨_,W,?_,rfl,Ext.refl _⟩);clear hsz hS;simp [go_sem,Act.eval, *]
     · refine opOk_run rfl (.inl ⟨_,W,?_,rfl,Ext.refl _⟩);clear hsz hS;simp [go_sem,Act.eval, *]
     ·
      refine opOk_run rfl (.inr ⟨89,#[.string x],W,by (clear hsz hS;simp [go_sem,Act.eval, *]),?_⟩)
      refine (rword_any x W).mono ?_
      rintro e w' ⟨he,rfl⟩
      rw [HQ.out] at he
      exact ⟨_,he,rfl,Ext.refl _⟩
     · refine opOk_run rfl (.inl ⟨_,W,?_,rfl,Ext.refl _⟩);clear hsz hS;simp [go_sem,Act.eval, *]
     · refine opOk_run rfl (.inl ⟨_,W,?_,rfl,Ext.refl _⟩);clear hsz hS;simp [go_sem,Act.eval, *]
     · exact opOk_skip (j:=6) (d:=16) (b:=true) rfl (by kernel_rfl) (by simp only [hdep]) rfl rfl
     · exact opOk_skip (j:=6) (d:=16) (b:=true) rfl (by kernel_rfl) (by simp only [hdep]) rfl rfl
     · exact opOk_skip (j:=6) (d:=16) (b:=true) rfl (by kernel_rfl) (by simp only [hdep]) rfl rfl
     · exact opOk_skip_undef (j:=9) (d:=19) rfl (by kernel_rfl) (by simp only [hdep]) rfl
     · exact opOk_skip_undef (j:=9) (d:=19) rfl (by kernel_rfl) (by simp only [hdep]) rfl
     · exact opOk_skip_undef (j:=9) (d:=19) rfl (by kernel_rfl) (by simp only [hdep]) rfl
     · exact opOk_skip_undef (j:=9) (d:=19) rfl (by kernel_rfl) (by simp only [hdep]) rfl
     · exact opOk_skip_undef (j:=9) (d:=19) rfl (by kernel_rfl) (by simp only [hdep]) rfl
     · exact opOk_skip_undef (j:=9) (d:=19) rfl (by kernel_rfl) (by simp only [hdep]) rfl
     · exact opOk_skip_undef (j:=9) (d:=19) rfl (by kernel_rfl) (by simp only [hdep]) rfl
     · exact opOk_skip_undef (j:=9) (d:=19) rfl (by kernel_rfl) (by simp only [hdep]) rfl
     · exact opOk_skip_undef (j:=9) (d:=19) rfl (by kernel_rfl) (by simp only [hdep]) rfl
     · exact opOk_skip_undef (j:=9) (d:=19) rfl (by kernel_rfl) (by simp only [hdep]) rfl
     · exact opOk_skip (j:=6) (d:=16) (b:=true) rfl (by kernel_rfl) (by simp only [hdep]) rfl rfl
     · refine opOk_run rfl (.inl ⟨_,W,?_,rfl,Ext.refl _⟩);clear hsz hS;simp [go_sem,Act.eval, *]
    case hVx=>exact vs_stays (by simp only [List.mem_cons,List.not_mem_nil,or_false,forall_eq_or_imp,forall_eq];exact ⟨stays_const _,stays_const _,stays_const _,stays_const _,stays_const _,stays_const _,stays_const _,stays_const _,stays_const _,stays_const _,stays_const _,stays_const _,stays_const _,stays_const _,stays_const _,stays_const _,stays_const _,stays_const _,stays_const _,stays_const _,stays_const _,stays_const _⟩)
    case hSx=>exact fun W W' h hx=>h.trans (Below.mono hx h.size)
    case hS=>exact Below.refl _ _
    case hfin =>
     intro A W hsz hdf hS hv hbase
     obtain ⟨x,hx,hA⟩:=act_puts [10,11,12,13,14,15,16,17,18,19,20,21,22,23,24,25,26,27,28,29,30,31] (by kernel_rfl) hsz hdf hbase
     have e31:x 31=.bool true:=(hx 31).trans (hv 21 (by decide))
     rw [hA]
     simp only [List.foldl]
     rw [e31]
     clear e31
     simp only [Act.put,List.setIfInBounds_toArray,List.set_cons_succ,List.set_cons_zero]
     clear hA hx hv hbase hsz hdf
     have HBX:=Lib.hid (HBR.out.trans (hS.mono HBR.out.size))
     clear hS
     go_wp2_with fail
     go_ret
     exact ⟨ret_bool HN.out.symm,HBX.out⟩
   | true =>
    by_cases hk0:k=0
    ·
     have hgt:¬ (0:Int)<(k:Int):=by omega
     have HS:Hid (GoodTo L (k+1)):=HG.out.step hlt (by rw [HX.out];exact HQ.out) (fun h=>by omega)
     have HK0:=Lib.hid hk0
     clear ha hk0
     go_upto_region 4 with fail
     refine wp_region_rv (by kernel_rfl) (Vs [fun v _=>v=.slice a L.length cap,fun v _=>v=.int .i64 (k:Int),fun v _=>v=.pointer (some ⟨b,o+k,none⟩),fun v _=>v=.string x,fun v _=>v=.bool true,fun v _=>v=.bool false,fun v _=>v=.bool false,fun v _=>v=.int .i64 (k:Int),fun v _=>v=.bool false,fun v _=>v=.bool false,fun v _=>v=undef,fun v _=>v=undef,fun v _=>v=undef,fun v _=>v=undef,fun v _=>v=undef,fun v _=>v=undef,fun v _=>v=undef,fun v _=>v=undef,fun v _=>v=undef,fun v _=>v=undef,fun v _=>v=.bool false,fun v _=>v=.bool false]) (fun W=>Below wr.heap.size wr W) 40 (by kernel_rfl) rfl ?hVx ?hSx ?hS (opsOk_all ?hop) ?hfin
     case hop =>
      refine ⟨?_,?_,?_,?_,?_,?_,?_,?_,?_,?_,?_,?_,?_,?_,?_,?_,?_,?_,?_,?_,?_,?_,trivial⟩
      all_goals
       intro A W hsz hS hdep hbase
       have x0':=(hS.cell (p:=⟨b,o+k,none⟩) hb).trans HX0.out
       have h0:A.tmps.getD 0 undef=.slice a L.length cap:=hbase 0 (by kernel_rfl)
       have h3:A.tmps.getD 3 undef=.int .i64 (k:Int):=hbase 3 (by kernel_rfl)
       clear hbase
       simp [slotOf,Region.binds,Vs] at hdep
      · refine opOk_run rfl (.inl ⟨_,W,?_,rfl,Ext.refl _⟩);clear hsz hS;simp [go_sem,Act.eval, *]
      · refine opOk_run rfl (.inl ⟨_,W,?_,rfl,Ext.refl _⟩);clear hsz hS;simp [go_sem,Act.eval, *]
      · refine opOk_run rfl (.inl ⟨_,W,?_,rfl,Ext.refl _⟩);clear hsz hS;simp [go_sem,Act.eval, *]
      · refine opOk_run rfl (.inl ⟨_,W,?_,rfl,Ext.refl _⟩);clear hsz hS;simp [go_sem,Act.eval, *]
      ·
       refine opOk_run rfl (.inr ⟨89,#[.string x],W,by (clear hsz hS;simp [go_sem,Act.eval, *]),?_⟩)
       refine (rword_any x W).mono ?_
       rintro e w' ⟨he,rfl⟩
       rw [HQ.out] at he
       exact ⟨_,he,rfl,Ext.refl _⟩
      · refine opOk_run rfl (.inl ⟨_,W,?_,rfl,Ext.refl _⟩);clear hsz hS;simp [go_sem,Act.eval, *]
      · refine opOk_run rfl (.inl ⟨_,W,?_,rfl,Ext.refl _⟩);clear hsz hS;simp [go_sem,Act.eval, *]
      · refine opOk_runG (j:=6) (d:=16) (b:=false) rfl (by kernel_rfl) (by simp only [hdep]) rfl (.inl ⟨_,W,?_,rfl,Ext.refl _⟩);clear hsz hS;simp [go_sem,Act.eval, *]
      · refine opOk_runG (j:=6) (d:=16) (b:=false) rfl (by kernel_rfl) (by simp only [hdep]) rfl (.inl ⟨_,W,?_,rfl,Ext.refl _⟩);clear hsz hS;simp [go_sem,Act.eval, *];exact HK0.out
      · refine opOk_runG (j:=6) (d:=16) (b:=false) rfl (by kernel_rfl) (by simp only [hdep]) rfl (.inl ⟨_,W,?_,rfl,Ext.refl _⟩);clear hsz hS;simp [go_sem,Act.eval, *]
      · exact opOk_skip (j:=9) (d:=19) (b:=false) rfl (by kernel_rfl) (by simp only [hdep]) rfl rfl
      · exact opOk_skip (j:=9) (d:=19) (b:=false) rfl (by kernel_rfl) (by simp only [hdep]) rfl rfl
      · exact opOk_skip (j:=9) (d:=19) (b:=false) rfl (by kernel_rfl) (by simp only [hdep]) rfl rfl
      · exact opOk_skip (j:=9) (d:=19) (b:=false) rfl (by kernel_rfl) (by simp only [hdep]) rfl rfl
      · exact opOk_skip (j:=9) (d:=19) (b:=false) rfl (by kernel_rfl) (by simp only [hdep]) rfl rfl
      · exact opOk_skip (j:=9) (d:=19) (b:=false) rfl (by kernel_rfl) (by simp only [hdep]) rfl rfl
      · exact opOk_skip (j:=9) (d:=19) (b:=false) rfl (by kernel_rfl) (by simp only [hdep]) rfl rfl
      · exact opOk_skip (j:=9) (d:=19) (b:=false) rfl (by kernel_rfl) (by simp only [hdep]) rfl rfl
      · exact opOk_skip (j:=9) (d:=19) (b:=false) rfl (by kernel_rfl) (by simp only [hdep]) rfl rfl
      · exact opOk_skip (j:=9) (d:=19) (b:=false) rfl (by kernel_rfl) (by simp only [hdep]) rfl rfl
      · refine opOk_runG (j:=6) (d:=16) (b:=false) rfl (by kernel_rfl) (by simp only [hdep]) rfl (.inl ⟨_,W,?_,rfl,Ext.refl _⟩);clear hsz hS;simp [go_sem,Act.eval, *]
      · refine opOk_run rfl (.inl ⟨_,W,?_,rfl,Ext.refl _⟩);clear hsz hS;simp [go_sem,Act.eval, *]
     case hVx=>exact vs_stays (by simp only [List.mem_cons,List.not_mem_nil,or_false,forall_eq_or_imp,forall_eq];exact ⟨stays_const _,stays_const _,stays_const _,stays_const _,stays_const _,stays_const _,stays_const _,stays_const _,stays_const _,stays_const _,stays_const _,stays_const _,stays_const _,stays_const _,stays_const _,stays_const _,stays_const _,stays_const _,stays_const _,stays_const _,stays_const _,stays_const _⟩)
     case hSx=>exact fun W W' h hx=>h.trans (Below.mono hx h.size)
     case hS=>exact Below.refl _ _
     case hfin =>
      intro A W hsz hdf hS hv hbase
      obtain ⟨x,hx,hA⟩:=act_puts [10,11,12,13,14,15,16,17,18,19,20,21,22,23,24,25,26,27,28,29,30,31] (by kernel_rfl) hsz hdf hbase
      have e31:x 31=.bool false:=(hx 31).trans (hv 21 (by decide))
      rw [hA]
      simp only [List.foldl]
      rw [e31]
      clear e31
      simp only [Act.put,List.setIfInBounds_toArray,List.set_cons_succ,List.set_cons_zero]
      clear hA hx hv hbase hsz hdf
      have HBX:=Lib.hid (HBR.out.trans (hS.mono HBR.out.size))
      clear hS
      go_wp2_with fail
      go_roundw
      case rel=>exact ⟨k+1,by omega,by go_num,HS.out,HBX.out⟩
      case measure=>simp [intOf];omega
    ·
     have hj:k - 1<L.length:=by omega
     obtain ⟨j,hjk⟩:∃ j,k - 1=j:=⟨_,rfl⟩
     obtain ⟨b2,o2,ha2,hb2,h2⟩:=(HR.out.later HBR.out (Nat.le_refl _)).at hj
     obtain ⟨y,hy⟩:∃ y,L[k - 1]=y:=⟨_,rfl⟩
     have HY:=Lib.hid hy
     rw [hy] at h2
     rw [hjk] at h2 hj
     have hidx2:=idx_strs a b2 o2 L.length cap j ha2 hj
     have hw1:IntKind.i64.wrap ((k:Int) - 1)=(j:Int):=by rw [IntWalk.i64_in _ (by omega)];omega
     have hgt:(0:Int)<(k:Int):=by omega
     have hkp:0<k:=by omega
     have HX2:=Lib.hid h2
     clear hy ha ha2 hjk h2
     obtain ⟨q,hq⟩:∃ q,ltS y x=q:=⟨_,rfl⟩
     have HLT:=Lib.hid hq
     have hle:(Op.bytesLess x.toList y.toList || x.toList == y.toList)=!q:=by rw [← hq];exact ltS_total x y
     clear hq
     cases q with
     | true =>
      have HS:Hid (GoodTo L (k+1)):=HG.out.step hlt (by rw [HX.out];exact HQ.out) (fun h=>by rw [HY.out,HX.out];exact HLT.out)
      have hle2:(Op.bytesLess x.toList y.toList || x.toList == y.toList)=false:=hle
      clear hle
      go_upto_region 4 with fail
      refine wp_region_rv (by kernel_rfl) (Vs [fun v _=>v=.slice a L.length cap,fun v _=>v=.int .i64 (k:Int),fun v _=>v=.pointer (some ⟨b,o+k,none⟩),fun v _=>v=.string x,fun v _=>v=.bool true,fun v _=>v=.bool false,fun v _=>v=.bool false,fun v _=>v=.int .i64 (k:Int),fun v _=>v=.bool true,fun v _=>v=.bool true,fun v _=>v=.slice a L.length cap,fun v _=>v=.int .i64 (k:Int),fun v _=>v=.pointer (some ⟨b,o+k,none⟩),fun v _=>v=.string x,fun v _=>v=.slice a L.length cap,fun v _=>v=.int .i64 (k:Int),fun v _=>v=.int .i64 (j:Int),fun v _=>v=.pointer (some ⟨b2,o2+j,none⟩),fun v _=>v=.string y,fun v _=>v=.bool false,fun v _=>v=.bool false,fun v _=>v=.bool false]) (fun W=>Below wr.heap.size wr W) 40 (by kernel_rfl) rfl ?hVx ?hSx ?hS (opsOk_all ?hop) ?hfin
      case hop =>
       refine ⟨?_,?_,?_,?_,?_,?_,?_,?_,?_,?_,?_,?_,?_,?_,?_,?_,?_,?_,?_,?_,?_,?_,trivial⟩
       all_goals
        intro A W hsz hS hdep hbase
        have x0':=(hS.cell (p:=⟨b,o+k,none⟩) hb).trans HX0.out
        have y0':=(hS.cell (p:=⟨b2,o2+j,none⟩) hb2).trans HX2.out
        have h0:A.tmps.getD 0 undef=.slice a L.length cap:=hbase 0 (by kernel_rfl)
        have h3:A.tmps.getD 3 undef=.int .i64 (k:Int):=hbase 3 (by kernel_rfl)
        clear hbase
        simp [slotOf,Region.binds,Vs] at hdep
       · refine opOk_run rfl (.inl ⟨_,W,?_,rfl,Ext.refl _⟩);clear hsz hS;simp [go_sem,Act.eval, *]
       · refine opOk_run rfl (.inl ⟨_,W,?_,rfl,Ext.refl _⟩);clear hsz hS;simp [go_sem,Act.eval, *]
       · refine opOk_run rfl (.inl ⟨_,W,?_,rfl,Ext.refl _⟩);clear hsz hS;simp [go_sem,Act.eval, *]
       · refine opOk_run rfl (.inl ⟨_,W,?_,rfl,Ext.refl _⟩);clear hsz hS;simp [go_sem,Act.eval, *]
       ·
        refine opOk_run rfl (.inr ⟨89,#[.string x],W,by (clear hsz hS;simp [go_sem,Act.eval, *]),?_⟩)
        refine (rword_any x W).mono ?_
        rintro e w' ⟨he,rfl⟩
        rw [HQ.out] at he
        exact ⟨_,he,rfl,Ext.refl _⟩
       · refine opOk_run rfl (.inl ⟨_,W,?_,rfl,Ext.refl _⟩);clear hsz hS;simp [go_sem,Act.eval, *]
       · refine opOk_run rfl (.inl ⟨_,W,?_,rfl,Ext.refl _⟩);clear hsz hS;simp [go_sem,Act.eval, *]
       · refine opOk_runG (j:=6) (d:=16) (b:=false) rfl (by kernel_rfl) (by simp only [hdep]) rfl (.inl ⟨_,W,?_,rfl,Ext.refl _⟩);clear hsz hS;simp [go_sem,Act.eval, *]
       · refine opOk_runG (j:=6) (d:=16) (b:=false) rfl (by kernel_rfl) (by simp only [hdep]) rfl (.inl ⟨_,W,?_,rfl,Ext.refl _⟩);clear hsz hS;simp [go_sem,Act.eval, *]
       · refine opOk_runG (j:=6) (d:=16) (b:=false) rfl (by kernel_rfl) (by simp only [hdep]) rfl (.inl ⟨_,W,?_,rfl,Ext.refl _⟩);clear hsz hS;simp [go_sem,Act.eval, *]
       · refine opOk_runG (j:=9) (d:=19) (b:=true) rfl (by kernel_rfl) (by simp only [hdep]) rfl (.inl ⟨_,W,?_,rfl,Ext.refl _⟩);clear hsz hS;simp [go_sem,Act.eval, *]
       · refine opOk_runG (j:=9) (d:=19) (b:=true) rfl (by kernel_rfl) (by simp only [hdep]) rfl (.inl ⟨_,W,?_,rfl,Ext.refl _⟩);clear hsz hS;simp [go_sem,Act.eval, *]
       · refine opOk_runG (j:=9) (d:=19) (b:=true) rfl (by kernel_rfl) (by simp only [hdep]) rfl (.inl ⟨_,W,?_,rfl,Ext.refl _⟩);clear hsz hS;simp [go_sem,Act.eval, *]
       · refine opOk_runG (j:=9) (d:=19) (b:=true) rfl (by kernel_rfl) (by simp only [hdep]) rfl (.inl ⟨_,W,?_,rfl,Ext.refl _⟩);clear hsz hS;simp [go_sem,Act.eval, *]
       · refine opOk_runG (j:=9) (d:=19) (b:=true) rfl (by kernel_rfl) (by simp only [hdep]) rfl (.inl ⟨_,W,?_,rfl,Ext.refl _⟩);clear hsz hS;simp [go_sem,Act.eval, *]
       · refine opOk_runG (j:=9) (d:=19) (b:=true) rfl (by kernel_rfl) (by simp only [hdep]) rfl (.inl ⟨_,W,?_,rfl,Ext.refl _⟩);clear hsz hS;simp [go_sem,Act.eval, *]
       · refine opOk_runG (j:=9) (d:=19) (b:=true) rfl (by kernel_rfl) (by simp only [hdep]) rfl (.inl ⟨_,W,?_,rfl,Ext.refl _⟩);clear hsz hS;simp [go_sem,Act.eval, *]
       · refine opOk_runG (j:=9) (d:=19) (b:=true) rfl (by kernel_rfl) (by simp only [hdep]) rfl (.inl ⟨_,W,?_,rfl,Ext.refl _⟩);clear hsz hS;simp [go_sem,Act.eval, *]
       · refine opOk_runG (j:=9) (d:=19) (b:=true) rfl (by kernel_rfl) (by simp only [hdep]) rfl (.inl ⟨_,W,?_,rfl,Ext.refl _⟩);clear hsz hS;simp [go_sem,Act.eval, *]
       · refine opOk_runG (j:=9) (d:=19) (b:=true) rfl (by kernel_rfl) (by simp only [hdep]) rfl (.inl ⟨_,W,?_,rfl,Ext.refl _⟩);clear hsz hS;simp [go_sem,Act.eval, *]
       · refine opOk_runG (j:=6) (d:=16) (b:=false) rfl (by kernel_rfl) (by simp only [hdep]) rfl (.inl ⟨_,W,?_,rfl,Ext.refl _⟩);clear hsz hS;simp [go_sem,Act.eval, *]
       · refine opOk_run rfl (.inl ⟨_,W,?_,rfl,Ext.refl _⟩);clear hsz hS;simp [go_sem,Act.eval, *]
      case hVx=>exact vs_stays (by simp only [List.mem_cons,List.not_mem_nil,or_false,forall_eq_or_imp,forall_eq];exact ⟨stays_const _,stays_const _,stays_const _,stays_const _,stays_const _,stays_const _,stays_const _,stays_const _,stays_const _,stays_const _,stays_const _,stays_const _,stays_const _,stays_const _,stays_const _,stays_const _,stays_const _,stays_const _,stays_const _,stays_const _,stays_const _,stays_const _⟩)
      case hSx=>exact fun W W' h hx=>h.trans (Below.mono hx h.size)
      case hS=>exact Below.refl _ _
      case hfin =>
       intro A W hsz hdf hS hv hbase
       obtain ⟨x,hx,hA⟩:=act_puts [10,11,12,13,14,15,16,17,18,19,20,21,22,23,24,25,26,27,28,29,30,31] (by kernel_rfl) hsz hdf hbase
       have e31:x 31=.bool false:=(hx 31).trans (hv 21 (by decide))
       rw [hA]
       simp only [List.foldl]
       rw [e31]
       clear e31
       simp only [Act.put,List.setIfInBounds_toArray,List.set_cons_succ,List.set_cons_zero]
       clear hA hx hv hbase hsz hdf
       have HBX:=Lib.hid (HBR.out.trans (hS.mono HBR.out.size))
       clear hS
       go_wp2_with fail
       go_roundw
       case rel=>exact ⟨k+1,by omega,by go_num,HS.out,HBX.out⟩
       case measure=>simp [intOf];omega
     | false =>
      have HN:Hid (dictB L=false):=dictB_no fun h=>by
       have:=(h.2.2 k hlt hlt).2 (by omega)
       rw [HY.out,HX.out,HLT.out] at this;cases this
      have hle2:(Op.bytesLess x.toList y.toList || x.toList == y.toList)=true:=hle
      clear hle
      go_upto_region 4 with fail
      refine wp_region_rv (by kernel_rfl) (Vs [fun v _=>v=.slice a L.length cap,fun v _=>v=.int .i64 (k:Int),fun v _=>v=.pointer (some ⟨b,o+k,none⟩),fun v _=>v=.string x,fun v _=>v=.bool true,fun v _=>v=.bool false,fun v _=>v=.bool false,fun v _=>v=.int .i64 (k:Int),fun v _=>v=.bool true,fun v _=>v=.bool true,fun v _=>v=.slice a L.length cap,fun v _=>v=.int .i64 (k:Int),fun v _=>v=.pointer (some ⟨b,o+k,none⟩),fun v _=>v=.string x,fun v _=>v=.slice a L.length cap,fun v _=>v=.int .i64 (k:Int),fun v _=>v=.int .i64 (j:Int),fun v _=>v=.pointer (some ⟨b2,o2+j,none⟩),fun v _=>v=.string y,fun v _=>v=.bool true,fun v _=>v=.bool true,fun v _=>v=.bool true]) (fun W=>Below wr.heap.size wr W) 40 (by kernel_rfl) rfl ?hVx ?hSx ?hS (opsOk_all ?hop) ?hfin
      case hop =>
       refine ⟨?_,?_,?_,?_,?_,?_,?_,?_,?_,?_,?_,?_,?_,?_,?_,?_,?_,?_,?_,?_,?_,?_,trivial⟩
       all_goals
        intro A W hsz hS hdep hbase
        have x0':=(hS.cell (p:=⟨b,o+k,none⟩) hb).trans HX0.out
        have y0':=(hS.cell (p:=⟨b2,o2+j,none⟩) hb2).trans HX2.out
        have h0:A.tmps.getD 0 undef=.slice a L.length cap:=hbase 0 (by kernel_rfl)
        have h3:A.tmps.getD 3 undef=.int .i64 (k:Int):=hbase 3 (by kernel_rfl)
        clear hbase
        simp [slotOf,Region.binds,Vs] at hdep
       · refine opOk_run rfl (.inl ⟨_,W,?_,rfl,Ext.refl _⟩);clear hsz hS;simp [go_sem,Act.eval, *]
       · refine opOk_run rfl (.inl ⟨_,W,?_,rfl,Ext.refl _⟩);clear hsz hS;simp [go_sem,Act.eval, *]
       · refine opOk_run rfl (.inl ⟨_,W,?_,rfl,Ext.refl _⟩);clear hsz hS;simp [go_sem,Act.eval, *]
       · refine opOk_run rfl (.inl ⟨_,W,?_,rfl,Ext.refl _⟩);clear hsz hS;simp [go_sem,Act.eval, *]
       ·
        refine opOk_run rfl (.inr ⟨89,#[.string x],W,by (clear hsz hS;simp [go_sem,Act.eval, *]),?_⟩)
        refine (rword_any x W).mono ?_
        rintro e w' ⟨he,rfl⟩
        rw [HQ.out] at he
        exact ⟨_,he,rfl,Ext.refl _⟩
       · refine opOk_run rfl (.inl ⟨_,W,?_,rfl,Ext.refl _⟩);clear hsz hS;simp [go_sem,Act.eval, *]
       · refine opOk_run rfl (.inl ⟨_,W,?_,rfl,Ext.refl _⟩);clear hsz hS;simp [go_sem,Act.eval, *]
       · refine opOk_runG (j:=6) (d:=16) (b:=false) rfl (by kernel_rfl) (by simp only [hdep]) rfl (.inl ⟨_,W,?_,rfl,Ext.refl _⟩);clear hsz hS;simp [go_sem,Act.eval, *]
       · refine opOk_runG (j:=6) (d:=16) (b:=false) rfl (by kernel_rfl) (by simp only [hdep]) rfl (.inl ⟨_,W,?_,rfl,Ext.refl _⟩);clear hsz hS;simp [go_sem,Act.eval, *]
       · refine opOk_runG (j:=6) (d:=16) (b:=false) rfl (by kernel_rfl) (by simp only [hdep]) rfl (.inl ⟨_,W,?_,rfl,Ext.refl _⟩);clear hsz hS;simp [go_sem,Act.eval, *]
       · refine opOk_runG (j:=9) (d:=19) (b:=true) rfl (by kernel_rfl) (by simp only [hdep]) rfl (.inl ⟨_,W,?_,rfl,Ext.refl _⟩);clear hsz hS;simp [go_sem,Act.eval, *]
       · refine opOk_runG (j:=9) (d:=19) (b:=true) rfl (by kernel_rfl) (by simp only [hdep]) rfl (.inl ⟨_,W,?_,rfl,Ext.refl _⟩);clear hsz hS;simp [go_sem,Act.eval, *]
       · refine opOk_runG (j:=9) (d:=19) (b:=true) rfl (by kernel_rfl) (by simp only [hdep]) rfl (.inl ⟨_,W,?_,rfl,Ext.refl _⟩);clear hsz hS;simp [go_sem,Act.eval, *]
       · refine opOk_runG (j:=9) (d:=19) (b:=true) rfl (by kernel_rfl) (by simp only [hdep]) rfl (.inl ⟨_,W,?_,rfl,Ext.refl _⟩);clear hsz hS;simp [go_sem,Act.eval, *]
       · refine opOk_runG (j:=9) (d:=19) (b:=true) rfl (by kernel_rfl) (by simp only [hdep]) rfl (.inl ⟨_,W,?_,rfl,Ext.refl _⟩);clear hsz hS;simp [go_sem,Act.eval, *]
       · refine opOk_runG (j:=9) (d:=19) (b:=true) rfl (by kernel_rfl) (by simp only [hdep]) rfl (.inl ⟨_,W,?_,rfl,Ext.refl _⟩);clear hsz hS;simp [go_sem,Act.eval, *]
       · refine opOk_runG (j:=9) (d:=19) (b:=true) rfl (by kernel_rfl) (by simp only [hdep]) rfl (.inl ⟨_,W,?_,rfl,Ext.refl _⟩);clear hsz hS;simp [go_sem,Act.eval, *]
       · refine opOk_runG (j:=9) (d:=19) (b:=true) rfl (by kernel_rfl) (by simp only [hdep]) rfl (.inl ⟨_,W,?_,rfl,Ext.refl _⟩);clear hsz hS;simp [go_sem,Act.eval, *]
       · refine opOk_runG (j:=9) (d:=19) (b:=true) rfl (by kernel_rfl) (by simp only [hdep]) rfl (.inl ⟨_,W,?_,rfl,Ext.refl _⟩);clear hsz hS;simp [go_sem,Act.eval, *]
       · refine opOk_runG (j:=9) (d:=19) (b:=true) rfl (by kernel_rfl) (by simp only [hdep]) rfl (.inl ⟨_,W,?_,rfl,Ext.refl _⟩);clear hsz hS;simp [go_sem,Act.eval, *]
       · refine opOk_runG (j:=6) (d:=16) (b:=false) rfl (by kernel_rfl) (by simp only [hdep]) rfl (.inl ⟨_,W,?_,rfl,Ext.refl _⟩);clear hsz hS;simp [go_sem,Act.eval, *]
       · refine opOk_run rfl (.inl ⟨_,W,?_,rfl,Ext.refl _⟩);clear hsz hS;simp [go_sem,Act.eval, *]
      case hVx=>exact vs_stays (by simp only [List.mem_cons,List.not_mem_nil,or_false,forall_eq_or_imp,forall_eq];exact ⟨stays_const _,stays_const _,stays_const _,stays_const _,stays_const _,stays_const _,stays_const _,stays_const _,stays_const _,stays_const _,stays_const _,stays_const _,stays_const _,stays_const _,stays_const _,stays_const _,stays_const _,stays_const _,stays_const _,stays_const _,stays_const _,stays_const _⟩)
      case hSx=>exact fun W W' h hx=>h.trans (Below.mono hx h.size)
      case hS=>exact Below.refl _ _
      case hfin =>
       intro A W hsz hdf hS hv hbase
       obtain ⟨x,hx,hA⟩:=act_puts [10,11,12,13,14,15,16,17,18,19,20,21,22,23,24,25,26,27,28,29,30,31] (by kernel_rfl) hsz hdf hbase
       have e31:x 31=.bool true:=(hx 31).trans (hv 21 (by decide))
       rw [hA]
       simp only [List.foldl]
       rw [e31]
       clear e31
       simp only [Act.put,List.setIfInBounds_toArray,List.set_cons_succ,List.set_cons_zero]
       clear hA hx hv hbase hsz hdf
       have HBX:=Lib.hid (HBR.out.trans (hS.mono HBR.out.size))
       clear hS
       go_wp2_with fail
       go_ret
       exact ⟨ret_bool HN.out.symm,HBX.out⟩
  ·
   obtain ⟨u,hu⟩:∃ u,decide (1≤L.length)=u:=⟨_,rfl⟩
   clear hB
   by_cases h1:1≤L.length
   ·
    have i1:(1:Int)≤(L.length:Int):=by omega
    by_cases h2:L.length≤200
    ·
     have i2:(L.length:Int)≤200:=by omega
     have HN:Hid (dictB L=true):=dictB_yes ⟨h1,h2,fun i hi _=>HG.out i hi (by omega)⟩
     go_wp2
     go_ret
     exact ⟨ret_bool HN.out.symm,HBR.out⟩
    ·
     have i2:¬ (L.length:Int)≤200:=by omega
     have HN:Hid (dictB L=false):=dictB_no fun h=>h2 h.2.1
     go_wp2
     go_ret
     exact ⟨ret_bool HN.out.symm,HBR.out⟩
   ·
    have i1:¬ (1:Int)≤(L.length:Int):=by omega
    have HN:Hid (dictB L=false):=dictB_no fun h=>h1 h.1
    go_wp2
    go_ret
    exact ⟨ret_bool HN.out.symm,HBR.out⟩
end Go.Proofs.YthjmdgejnakcmaaGreatDoor
namespace Go.Proofs.YthjmdgejnakcmaaGreatDoor
open Go.RowKit Go.WideShapes
set_option linter.unusedVariables false
set_option linter.unusedSimpArgs false
structure Ar where
 c:Int
 t:Int
deriving DecidableEq,Inhabited
structure Nd where
 fin:Bool
 arcs:List Ar
deriving DecidableEq,Inhabited
def ArcS (w:World) (a:Option Addr) (X:List Ar):Prop:=∀ k (hk:k<X.length),∃ b o,a=some ⟨b,o,none⟩∧b<w.heap.size∧w.cell? ⟨b,o+k*2,none⟩=some (.int .u8 X[k].c)∧w.cell? ⟨b,o+k*2+1,none⟩=some (.int .i64 X[k].t)
theorem ArcS.later {w w1:World} {a:Option Addr} {X:List Ar} {B:Nat} (h:ArcS w a X) (hb:Below B w w1) (hB:w.heap.size≤B):ArcS w1 a X:=fun k hk=>by
 obtain ⟨b,o,ha,h1,h2,h3⟩:=h k hk
 exact ⟨b,o,ha,by have:=hb.size;omega,(hb.cell (p:=⟨b,o+k*2,none⟩) (by show b<B;omega)).trans h2,(hb.cell (p:=⟨b,o+k*2+1,none⟩) (by show b<B;omega)).trans h3⟩
def DawgS (w:World) (a:Option Addr) (D:List Nd):Prop:=∀ k (hk:k<D.length),∃ b o,a=some ⟨b,o,none⟩∧b<w.heap.size∧w.cell? ⟨b,o+k*2,none⟩=some (.bool D[k].fin) ∧
 ∃ aa cc,w.cell? ⟨b,o+k*2+1,none⟩=some (.slice aa D[k].arcs.length cc)∧D[k].arcs.length≤9223372036854775807∧ArcS w aa D[k].arcs
theorem DawgS.later {w w1:World} {a:Option Addr} {D:List Nd} {B:Nat} (h:DawgS w a D) (hb:Below B w w1) (hB:w.heap.size≤B):DawgS w1 a D:=fun k hk=>by
 obtain ⟨b,o,ha,h1,h2,aa,cc,h3,h4,h5⟩:=h k hk
 exact ⟨b,o,ha,by have:=hb.size;omega,(hb.cell (p:=⟨b,o+k*2,none⟩) (by show b<B;omega)).trans h2,aa,cc,(hb.cell (p:=⟨b,o+k*2+1,none⟩) (by show b<B;omega)).trans h3,h4,h5.later hb hB⟩
theorem DawgS.nil (w:World) (a:Option Addr):DawgS w a []:=fun k hk=>by simp at hk
theorem ArcS.at {w:World} {a:Option Addr} {X:List Ar} (h:ArcS w a X) {k:Nat} (hk:k<X.length):∃ b o,a=some ⟨b,o,none⟩∧b<w.heap.size∧w.cell? ⟨b,o+k*2,none⟩=some (.int .u8 X[k].c)∧w.cell? ⟨b,o+k*2+1,none⟩=some (.int .i64 X[k].t):=h k hk
theorem DawgS.at {w:World} {a:Option Addr} {D:List Nd} (h:DawgS w a D) {k:Nat} (hk:k<D.length):∃ b o,a=some ⟨b,o,none⟩∧b<w.heap.size∧w.cell? ⟨b,o+k*2,none⟩=some (.bool D[k].fin) ∧
 ∃ aa cc,w.cell? ⟨b,o+k*2+1,none⟩=some (.slice aa D[k].arcs.length cc)∧D[k].arcs.length≤9223372036854775807∧ArcS w aa D[k].arcs:=h k hk
theorem idx_arcs (a:Option Addr) (b o len cap k:Nat) (ha:a=some ⟨b,o,none⟩) (hk:k<len) (w:World) :
  (Instr.indexAt 131 (.slice a len cap) (.int .i64 (k:Int))).run Tryz.prog w=.ok (.pointer (some ⟨b,o+k*2,none⟩)) w:=by
 subst ha
 have h0:(0:Int)≤(k:Int):=by omega
 have h1:(k:Int)<(len:Int):=by omega
 simp [go_sem,h0,h1]
theorem idx_nodes (a:Option Addr) (b o len cap k:Nat) (ha:a=some ⟨b,o,none⟩) (hk:k<len) (w:World) :
  (Instr.indexAt 35 (.slice a len cap) (.int .i64 (k:Int))).run Tryz.prog w=.ok (.pointer (some ⟨b,o+k*2,none⟩)) w:=by
 subst ha
 have h0:(0:Int)≤(k:Int):=by omega
 have h1:(k:Int)<(len:Int):=by omega
 simp [go_sem,h0,h1]
end Go.Proofs.YthjmdgejnakcmaaGreatDoor
namespace Go.Proofs.YthjmdgejnakcmaaGreatDoor
open Go.RowKit Go.WideShapes
set_option linter.unusedVariables false
set_option linter.unusedSimpArgs false
structure RowT (α:Type) where
 sl:TypeId
 e:TypeId
 k:Nat
 bytes:Nat
 z:Value
 enc:α→List Value
structure RowT.Ok {α:Type} (T:RowT α):Prop where
 und:Tryz.prog.underlying T.sl=some (.slice T.e)
 info:(Tryz.prog.info? T.e).map (fun i=>(i.zero,i.size,i.bytes))=some (some T.z,T.k,T.bytes)
 zs:T.z.cells.size=T.k
 k0:0<T.k
 len:∀ x,(T.enc x).length=T.k
 one:∀ x,∀ u∈T.enc x,u.oneCell'=true
 b:T.bytes≤64
section
variable {α:Type} {T:RowT α} {w w1:World} {B C:Nat} {v:Value} {L:List α}
def OwnG (T:RowT α) (w:World) (B:Nat) (v:Value) (L:List α):Prop:=w.ownsRow B T.e T.k v L.length (L.flatMap T.enc)
theorem flat_len (h:T.Ok):∀ L:List α,(L.flatMap T.enc).length=L.length*T.k
 | []=>by simp
 | x :: r=>by rw [List.flatMap_cons,List.length_append,flat_len h r,h.len,List.length_cons,Nat.add_mul];omega
theorem flat_get (h:T.Ok):∀ {L:List α} {i j:Nat} (hi:i<L.length) (hj:j<T.k),(L.flatMap T.enc)[i*T.k+j]? = (T.enc L[i])[j]?
 | x :: r,0,j,_,hj=>by
  rw [List.flatMap_cons,Nat.zero_mul,Nat.zero_add,List.getElem?_append_left (by rw [h.len];omega)];rfl
 | x :: r,i+1,j,hi,hj=>by
  rw [List.flatMap_cons,List.getElem?_append_right (by rw [h.len,Nat.add_mul];omega)]
  have:(i+1)*T.k+j - (T.enc x).length=i*T.k+j:=by rw [h.len,Nat.add_mul];omega
  rw [this]
  exact flat_get h (L:=r) (by simpa using hi) hj
theorem OwnG.nil (T:RowT α) (w:World) (B:Nat):OwnG T w B (.slice none 0 0) []:=⟨by simp,.inl ⟨rfl,rfl⟩⟩
theorem OwnG.empty (T:RowT α) {g:Nat} (h:w.heap[g]? = some (.cells #[] T.e (0,0))) (hB:B≤g):OwnG T w B (.slice (some ⟨g,0,none⟩) 0 0) [] :=
 ⟨by simp,.inr ⟨g,0,#[],rfl,hB,h,Nat.le_refl _,Nat.zero_le _,by simp,by simp⟩⟩
theorem OwnG.one (h:T.Ok) {g:Nat} {x:α} (hg:w.heap[g]? = some (.cells (T.enc x).toArray T.e (0,0))) (hB:B≤g):OwnG T w B (.slice (some ⟨g,0,none⟩) 1 1) [x] :=
 ⟨by simp [h.len],.inr ⟨g,1,_,rfl,hB,hg,Nat.le_refl _,by unfold maxLen;omega,by simp [h.len],by simp [h.len];rw [List.take_of_length_le (by rw [h.len];exact Nat.le_refl _)]⟩⟩
theorem OwnG.form (h:OwnG T w B v L):∃ a c,v=.slice a L.length c∧L.length≤c∧c≤maxLen:=by
 rcases h.2 with ⟨rfl,h0⟩ | ⟨g,cap,cur,rfl,h1,h2,h3,h4,_⟩
 · exact ⟨none,0,by rw [h0],by omega,Nat.zero_le _⟩
 · exact ⟨_,cap,rfl,h3,h4⟩
theorem OwnG.blk (h:OwnG T w B v L):(v=.slice none 0 0∧L=[])∨∃ g c,v=.slice (some ⟨g,0,none⟩) L.length c∧B≤g∧g<w.heap.size∧L.length≤c:=by
 rcases h.2 with ⟨rfl,h0⟩ | ⟨g,cap,cur,rfl,h1,h2,h3,h4,_⟩
 · exact .inl ⟨rfl,List.eq_nil_of_length_eq_zero h0⟩
 · exact .inr ⟨g,cap,rfl,h1,(Array.getElem?_eq_some_iff.1 h2).1,h3⟩
theorem OwnG.cell (hT:T.Ok) {g n c:Nat} (h:OwnG T w B (.slice (some ⟨g,0,none⟩) n c) L) {i j:Nat} (hi:i<L.length) (hj:j<T.k):w.cell? ⟨g,i*T.k+j,none⟩=(T.enc L[i])[j]?:=by
 have hg:=flat_get hT hi hj
 have hj2:j<(T.enc L[i]).length:=by rw [hT.len];exact hj
 rw [List.getElem?_eq_getElem hj2] at hg ⊢
 have:=World.ownsRow.cells (g:=g) h rfl (i*T.k+j) _ hg
 rw [Addr.add_lit] at this
 simpa using this
theorem OwnG.keep (h:OwnG T w B v L) (hk:∀ g,v.ownBlock=some g→w1.heap[g]? = w.heap[g]?):OwnG T w1 B v L:=by
 refine ⟨h.1,h.2.imp id ?_⟩
 rintro ⟨g,cap,cur,rfl,h1,h2,h3⟩
 exact ⟨g,cap,cur,rfl,h1,(hk g rfl).trans h2,h3⟩
theorem OwnG.below (h:OwnG T w B v L) (hb:Below C w w1) (hv:∀ g,v.ownBlock=some g→g<C):OwnG T w1 B v L:=h.keep fun g hg=>hb.block g (hv g hg)
theorem OwnG.ge (h:OwnG T w B v L):∀ g,v.ownBlock=some g→B≤g:=by
 intro g hg
 rcases h.2 with ⟨rfl,_⟩ | ⟨g',cap,cur,rfl,h1,h2,h3⟩
 · cases hg
 · cases hg;exact h1
theorem OwnG.lt (h:OwnG T w B v L):∀ g,v.ownBlock=some g→g<w.heap.size:=by
 intro g hg
 rcases h.2 with ⟨rfl,_⟩ | ⟨g',cap,cur,rfl,h1,h2,h3⟩
 · cases hg
 · cases hg;exact (Array.getElem?_eq_some_iff.1 h2).1
theorem OwnG.later (h:OwnG T w B v L) (hb:Below C w w1) (hC:w.heap.size≤C):OwnG T w1 B v L:=h.below hb fun g hg=>Nat.lt_of_lt_of_le (h.lt g hg) hC
theorem OwnG.mono (h:OwnG T w B v L) (hC:C≤B):OwnG T w C v L:=by
 refine ⟨h.1,h.2.imp id ?_⟩
 rintro ⟨g,cap,cur,rfl,h1,h2⟩
 exact ⟨g,cap,cur,rfl,Nat.le_trans hC h1,h2⟩
theorem OwnG.grown {row:Option Nat} (h:OwnG T w B v L) (hg:w.grownBy w1 row) (hr:∀ q,v.ownBlock=some q→some q≠row):OwnG T w1 B v L:=h.keep fun g hb=>hg.block g (h.lt g hb) (hr g hb)
theorem OwnG.run_append (hT:T.Ok) (h:OwnG T w B v L) (ty:TypeId) (a:Addr) (c:Nat) (news:List α) (hn:∀ j u,(news.flatMap T.enc)[j]? = some u→w.cell? (a.add j)=some u) (hl:L.length+news.length≤1000000000000) (hB:B≤w.heap.size) :
  ∃ v' w',(Builtin.append_ #[T.sl,T.sl] ty #[v,.slice (some a) news.length c]).run Tryz.prog w=.ok v' w'∧OwnG T w' B v' (L ++ news)∧w.grownBy w' v.ownBlock∧(v'.ownBlock=v.ownBlock∨v'.ownBlock=some w.heap.size):=by
 obtain ⟨i0,hi,hz0,hz1,hz2⟩:=info_parts hT.info
 have hb:(L.length+news.length)*T.bytes≤1000000000000*64:=Nat.mul_le_mul hl hT.b
 obtain ⟨v',w',hr,h1,h2,_,h3⟩:=run_append_own_at (P:=Tryz.prog) w B T.sl ty T.e i0 T.z T.k T.bytes hT.und hi hz0 hz1 hz2 hT.zs hT.k0 v L.length (L.flatMap T.enc) h a news.length c (news.flatMap T.enc) (flat_len hT news) hn
  (fun u hu=>by obtain ⟨x,_,h2⟩:=List.mem_flatMap.1 hu;exact hT.one x u h2) (by unfold maxLen;omega) (by omega) hB
 refine ⟨v',w',hr,?_,h2,h3⟩
 unfold OwnG
 rw [List.length_append,List.flatMap_append]
 exact h1
theorem wpList_append_g (hT:T.Ok) {ops:Array Oper} {rest:List Oper} {o:Oper} {a:Act} {Q:Exit→Act→World→Prop} (hgd:o.guard=none) (s x:Operand)
  (ho:o.op=.call { callee:=.builtin .append,args:=#[s,x],argTypes:=#[T.sl,T.sl] }) (hs:a.eval s=v) (hown:OwnG T w B v L) (ad:Addr) (c:Nat) (news:List α) (hx:a.eval x=.slice (some ad) news.length c)
  (hn:∀ j u,(news.flatMap T.enc)[j]? = some u→w.cell? (ad.add j)=some u) (hl:L.length+news.length≤1000000000000) (hB:B≤w.heap.size)
  (h:∀ v' w',OwnG T w' B v' (L ++ news)→w.grownBy w' v.ownBlock→(v'.ownBlock=v.ownBlock∨v'.ownBlock=some w.heap.size)→wpList Tryz.prog ops Q rest (a.put o.dst v') w'):wpList Tryz.prog ops Q (o :: rest) a w:=by
 refine wpList_plain hgd fun K' hK'=>?_
 obtain ⟨v',w',hr,h1,h2,h3⟩:=hown.run_append hT o.type ad c news hn hl hB
 unfold Oper.wp
 simp only [execOp,ho,resolve,invoke,builtin,Sem.run_bind,Sem.run_pure,Result.andThen_ok,List.map_toArray,List.map_cons,List.map_nil,hs,hx,hr]
 exact hK' _ _ (h v' w' h1 h2 h3)
theorem OpRes.mono {P:Program} {a:Act} {o:Oper} {w:World} {R S:Value→World→Prop} (h:OpRes P a o w R) (hs:∀ v w',R v w'→S v w'):OpRes P a o w S:=by
 rcases h with ⟨v,w',h1,h2⟩ | ⟨f,args,w',h1,h2⟩
 · exact .inl ⟨v,w',h1,hs _ _ h2⟩
 · exact .inr ⟨f,args,w',h1,h2.mono fun e w'' ⟨v,he,hv⟩=>⟨v,he,hs _ _ hv⟩⟩
theorem opres_append_g (hT:T.Ok) {o:Oper} {a:Act} (s x:Operand) (ho:o.op=.call { callee:=.builtin .append,args:=#[s,x],argTypes:=#[T.sl,T.sl] }) (hs:a.eval s=v) (hown:OwnG T w B v L) (ad:Addr) (c:Nat) (news:List α)
  (hx:a.eval x=.slice (some ad) news.length c) (hn:∀ j u,(news.flatMap T.enc)[j]? = some u→w.cell? (ad.add j)=some u) (hl:L.length+news.length≤1000000000000) (hB:B≤w.heap.size) :
  OpRes Tryz.prog a o w (fun v' w'=>OwnG T w' B v' (L ++ news)∧w.grownBy w' v.ownBlock∧(v'.ownBlock=v.ownBlock∨v'.ownBlock=some w.heap.size)):=by
 obtain ⟨v',w',hr,h1,h2,h3⟩:=hown.run_append hT o.type ad c news hn hl hB
 refine .inl ⟨v',w',?_,h1,h2,h3⟩
 unfold execOp
 simp only [ho,resolve,invoke,builtin,Sem.run_bind,Sem.run_pure,Result.andThen_ok,List.map_toArray,List.map_cons,List.map_nil,hs,hx,hr]
theorem cells_built {g:Nat} {t:TypeId} {cs:List Value} (h:w.heap[g]? = some (.cells cs.toArray t (0,0))):∀ j u,cs[j]? = some u→w.cell? ((⟨g,0,none⟩:Addr).add j)=some u:=by
 intro j u hj
 have hc:=cell_of_row w g j _ _ (0,0) h
 have e:(⟨g,0,none⟩:Addr).add j=⟨g,j,none⟩:=by rw [Addr.add_lit,Nat.zero_add]
 rw [e,hc]
 simpa using hj
end
def rowStr:RowT ByteArray:=⟨37,9,1,16,.string ⟨#[]⟩,fun s=>[.string s]⟩
theorem rowStr_ok:rowStr.Ok:=⟨Tryz.underlying37,by kernel_rfl,rfl,by decide,fun _=>rfl,fun x u hu=>by obtain rfl:u=.string x:=(List.mem_singleton.1 hu);rfl,by decide⟩
def rowArc:RowT Ar:=⟨131,155,2,16,.agg #[.int .u8 0,.int .i64 0],fun x=>[.int .u8 x.c,.int .i64 x.t]⟩
theorem rowArc_ok:rowArc.Ok:=⟨Tryz.underlying131,by kernel_rfl,rfl,by decide,fun _=>rfl,fun x u hu=>by
 have h:u=.int .u8 x.c∨u=.int .i64 x.t:=by simpa [rowArc] using hu
 rcases h with rfl | rfl <;> rfl,by decide⟩
structure NV where
 fin:Bool
 a:Option Addr
 n:Nat
 c:Nat
deriving DecidableEq
def rowNode:RowT NV:=⟨35,153,2,32,.agg #[.bool false,.slice none 0 0],fun x=>[.bool x.fin,.slice x.a x.n x.c]⟩
theorem rowNode_ok:rowNode.Ok:=⟨Tryz.underlying35,by kernel_rfl,rfl,by decide,fun _=>rfl,fun x u hu=>by
 have h:u=.bool x.fin∨u=.slice x.a x.n x.c:=by simpa [rowNode] using hu
 rcases h with rfl | rfl <;> rfl,by decide⟩
structure SV where
 a:Option Addr
 n:Nat
 c:Nat
def rowRest:RowT SV:=⟨165,37,1,24,.slice none 0 0,fun x=>[.slice x.a x.n x.c]⟩
theorem rowRest_ok:rowRest.Ok:=⟨Tryz.underlying165,by kernel_rfl,rfl,by decide,fun _=>rfl,fun x u hu=>by obtain rfl:u=.slice x.a x.n x.c:=(List.mem_singleton.1 hu);rfl,by decide⟩
theorem OwnG.strs {w:World} {B:Nat} {a:Option Addr} {n c:Nat} {L:List ByteArray} (h:OwnG rowStr w B (.slice a n c) L):StrS w a L∧n=L.length∧L.length≤c:=by
 obtain ⟨a',c',he,hc,_⟩:=h.form
 injection he with e1 e2 e3
 refine ⟨fun k hk=>?_,e2,by omega⟩
 rcases h.blk with ⟨_,rfl⟩ | ⟨g,c2,he2,_,hg,_⟩
 · simp at hk
 ·
  injection he2 with f1 f2 f3
  subst f1
  refine ⟨g,0,rfl,hg,?_⟩
  have:=h.cell rowStr_ok hk (j:=0) (by decide)
  simpa [rowStr] using this
theorem OwnG.arcs {w:World} {B:Nat} {a:Option Addr} {n c:Nat} {L:List Ar} (h:OwnG rowArc w B (.slice a n c) L):ArcS w a L∧n=L.length∧L.length≤c:=by
 obtain ⟨a',c',he,hc,_⟩:=h.form
 injection he with e1 e2 e3
 refine ⟨fun k hk=>?_,e2,by omega⟩
 rcases h.blk with ⟨_,rfl⟩ | ⟨g,c2,he2,_,hg,_⟩
 · simp at hk
 ·
  injection he2 with f1 f2 f3
  subst f1
  refine ⟨g,0,rfl,hg,?_,?_⟩
  ·
   have:=h.cell rowArc_ok hk (j:=0) (by decide)
   simpa [rowArc] using this
  ·
   have:=h.cell rowArc_ok hk (j:=1) (by decide)
   simpa [rowArc] using this
end Go.Proofs.YthjmdgejnakcmaaGreatDoor
namespace Go.Proofs.YthjmdgejnakcmaaGreatDoor
open Go.RowKit Go.WideShapes
set_option linter.unusedVariables false
set_option linter.unusedSimpArgs false
def tailB (s:ByteArray):ByteArray:=s.extract 1 s.size
def headB (s:ByteArray) (c:Int):Bool:=decide (0<s.size) && decide (((s.data.toList.headD 0).toNat:Int)=c)
def afterF (L:List ByteArray) (c:Int):List ByteArray:=(L.filter fun s=>headB s c).map tailB
theorem afterF_succ {L:List ByteArray} {c:Int} {k:Nat} (hk:k<L.length):afterF (L.take (k+1)) c=afterF (L.take k) c ++ if headB L[k] c=true then [tailB L[k]] else []:=by
 rw [afterF,List.take_succ_eq_append_getElem hk,List.filter_append,List.map_append,afterF]
 congr 1
 by_cases h:headB L[k] c=true <;> simp [h]
theorem afterF_len (L:List ByteArray) (c:Int):(afterF L c).length≤L.length:=by
 rw [afterF,List.length_map];exact List.length_filter_le _ _
theorem headD_at (s:ByteArray) (h:0<s.size):s.data.toList.headD 0=s[0]:=by
 have h2:0<s.data.toList.length:=by simpa using h
 have e:s.data.toList=s.data.toList[0] :: s.data.toList.drop 1:=by
  have:=List.drop_eq_getElem_cons h2
  simpa using this
 rw [e];rfl
set_option maxHeartbeats 1600000 in
set_option maxRecDepth 100000 in
theorem
    after_any (L:List ByteArray) (n:Nat) (a:Option Addr) (cap:Nat) (c:Int) (w:World) (hR:StrS w a L) (hL:n=L.length) (hn:n≤100000) :
  Calls Tryz.prog 112 #[.slice a n cap,.int .u8 c] w fun e w'=>∃ v,e=.returned v∧OwnG rowStr w' w.heap.size v (afterF L c)∧Below w.heap.size w w':=by
 subst hL
 have HR:=Lib.hid hR;clear hR
 go_enter Tryz.func112,Tryz.ntmps112
 go_wp2
 go_loopw [6,5] (fun i v wr=>∃ k:Nat,k≤L.length∧i=.int .i64 (k:Int)∧OwnG rowStr wr w.heap.size v (afterF (L.take k) c)∧Below w.heap.size w wr) (fun i _ _=>L.length - (intOf i).toNat)
 case atStart=>exact ⟨0,Nat.zero_le _,rfl,OwnG.empty rowStr (heap_alloc_new _ _) (Nat.le_refl _),(Below.refl _ _).alloc (Nat.le_refl _) _⟩
 case round =>
  obtain ⟨k,hk,rfl,hown,hB⟩:=hrel
  have HO:=Lib.hid hown;have HB:=Lib.hid hB
  have hzB:=hB.size
  clear hown hB
  by_cases hlt:k<L.length
  ·
   obtain ⟨b,o,ha,hb,h0⟩:=(HR.out.later HB.out (Nat.le_refl _)).at hlt
   have hidx:=idx_strs a b o L.length cap k ha hlt
   have HSU:=Lib.hid (afterF_succ (c:=c) hlt)
   obtain ⟨x,hx⟩:∃ x,L[k]=x:=⟨_,rfl⟩
   rw [hx] at h0 HSU
   clear hx ha
   by_cases hs:0<x.size
   ·
    have hsI:(0:Int)<(x.size:Int):=by omega
    have HHD:=Lib.hid (headD_at x hs)
    by_cases hq:((x[0]'hs).toNat:Int)=c
    ·
     have hqb:(((x[0]'hs).toNat:Int) == c)=true:=by simp [hq]
     have HN:Hid (afterF (L.take (k+1)) c=afterF (L.take k) c ++ [tailB x]):=by
      show _=_
      rw [HSU.out,if_pos (by simp only [headB,HHD.out];simp [hs,hq])]
     have hl:(afterF (L.take k) c).length≤100000:=by have:=afterF_len (L.take k) c;have:=List.length_take_le' k L;omega
     have HL:=Lib.hid hl
     clear hq hl
     go_wp2_with (first
      | (at_builtin;go_loud (refine wpList_append_g rowStr_ok rfl _ _ rfl rfl (HO.out.later ((Below.refl _ wr).alloc (Nat.le_refl _) _) (Nat.le_refl _)) ⟨wr.heap.size,0,none⟩ 1 [tailB x] rfl (cells_built (heap_alloc_new _ _)) (by have:=HL.out;simp only [List.length_singleton];omega) (by simp only [World.size_alloc];omega) ?_);intro v5 w5 hown5 hgrow5 _;have HO5:=Lib.hid hown5;have HB5:=Lib.hid (HB.out.trans ((((Below.refl w.heap.size wr).alloc hzB _).grown hgrow5 (by simp only [World.size_alloc];omega) HO.out.ge)));clear hown5 hgrow5))
     go_roundw
     case rel=>exact ⟨k+1,by omega,by go_num,by rw [HN.out];exact HO5.out,HB5.out⟩
     case measure=>simp [intOf];omega
    ·
     have hqb:(((x[0]'hs).toNat:Int) == c)=false:=by rw [beq_eq_false_iff_ne];exact hq
     have HN:Hid (afterF (L.take (k+1)) c=afterF (L.take k) c):=by
      show _=_
      rw [HSU.out,if_neg (by simp only [headB,HHD.out];simp [hq]),List.append_nil]
     clear hq
     go_wp2
     go_roundw
     case rel=>exact ⟨k+1,by omega,by go_num,by rw [HN.out];exact HO.out,HB.out⟩
     case measure=>simp [intOf];omega
   ·
    have hsI:¬ (0:Int)<(x.size:Int):=by omega
    have HN:Hid (afterF (L.take (k+1)) c=afterF (L.take k) c):=by
     show _=_
     rw [HSU.out,if_neg (by simp [headB,hs]),List.append_nil]
    go_wp2
    go_roundw
    case rel=>exact ⟨k+1,by omega,by go_num,by rw [HN.out];exact HO.out,HB.out⟩
    case measure=>simp [intOf];omega
  ·
   have HA:Hid (afterF (L.take k) c=afterF L c):=by show _=_;rw [List.take_of_length_le (by omega)]
   go_wp2
   go_ret
   exact ⟨_,rfl,by rw [← HA.out];exact HO.out,HB.out⟩
end Go.Proofs.YthjmdgejnakcmaaGreatDoor
namespace Go.Proofs.YthjmdgejnakcmaaGreatDoor
open Go.RowKit Go.WideShapes
set_option linter.unusedVariables false
set_option linter.unusedSimpArgs false
def IsBytes (w:World) (a:Option Addr) (len:Nat) (Z:Nat→Int):Prop :=
 len=0∨∃ b o,a=some ⟨b,o,none⟩∧len≤9223372036854775807∧b<w.heap.size∧∀ i,i<len→w.cell? ⟨b,o+i,none⟩=some (.int .u8 (Z i))∧0≤Z i∧Z i≤255
theorem IsBytes.later {w w1:World} {a:Option Addr} {len:Nat} {Z:Nat→Int} {B:Nat} (h:IsBytes w a len Z) (hb:Below B w w1) (hB:w.heap.size≤B):IsBytes w1 a len Z:=by
 rcases h with h | ⟨b,o,ha,hl,hlt,hr⟩
 · exact .inl h
 · exact .inr ⟨b,o,ha,hl,Nat.lt_of_lt_of_le hlt hb.size,fun i hi=>⟨(hb.cell (p:=⟨b,_,none⟩) (Nat.lt_of_lt_of_le hlt hB)).trans (hr i hi).1,(hr i hi).2⟩⟩
theorem IsBytes.at {w:World} {a:Option Addr} {len:Nat} {Z:Nat→Int} (h:IsBytes w a len Z) {k:Nat} (hk:k<len):∃ b o,a=some ⟨b,o,none⟩∧b<w.heap.size∧w.cell? ⟨b,o+k,none⟩=some (.int .u8 (Z k))∧0≤Z k∧Z k≤255:=by
 rcases h with h | ⟨b,o,ha,hl,hlt,hr⟩
 · omega
 · exact ⟨b,o,ha,hlt,hr k hk⟩
theorem idx_bytes (a:Option Addr) (b o len cap k:Nat) (ha:a=some ⟨b,o,none⟩) (hk:k<len) (w:World) :
  (Instr.indexAt 26 (.slice a len cap) (.int .i64 (k:Int))).run Tryz.prog w=.ok (.pointer (some ⟨b,o+k,none⟩)) w:=by
 subst ha
 have h0:(0:Int)≤(k:Int):=by omega
 have h1:(k:Int)<(len:Int):=by omega
 simp [go_sem,h0,h1]
end Go.Proofs.YthjmdgejnakcmaaGreatDoor
namespace Go.Proofs.YthjmdgejnakcmaaGreatDoor
open Go.RowKit Go.WideShapes
set_option linter.unusedVariables false
set_option linter.unusedSimpArgs false
theorem addr_add' (b o n:Nat):(⟨b,o,none⟩:Addr).add n=⟨b,o+n,none⟩:=by
 unfold Addr.add;split <;> simp_all
def insF (L:List ByteArray) (s:ByteArray):List ByteArray:=if 0≤idxF L s then L else L.takeWhile (fun x=>ltS x s) ++ s :: L.dropWhile (fun x=>ltS x s)
theorem tw_take {α:Type} {p:α→Bool}:∀ {L:List α} {k:Nat},k≤L.length→(∀ j (hj:j<L.length),j<k→p L[j]=true)→(∀ h:k<L.length,p L[k]=false)→L.takeWhile p=L.take k∧L.dropWhile p=L.drop k
 | [],k,hk,_,_=>by simp
 | x :: r,0,_,_,h=>by
  have:=h (by simp)
  simp only [List.getElem_cons_zero] at this
  simp [List.takeWhile_cons,List.dropWhile_cons,this]
 | x
   :: r,k+1,hk,h1,h2=>by
  have hx:=h1 0 (by simp) (by omega)
  simp only [List.getElem_cons_zero] at hx
  have ih:=tw_take (p:=p) (L:=r) (k:=k) (by simpa using hk) (fun j hj hjk=>by
   have:=h1 (j+1) (by simpa using hj) (by omega)
   simpa using this) (fun h=>by
   have:=h2 (by simpa using h)
   simpa using this)
  simp [List.takeWhile_cons,List.dropWhile_cons,hx,ih.1,ih.2]
theorem slice_strs_low (a:Addr) (n cap k:Nat) (hk:k≤n) (hn:n≤cap) (w:World) :
  (Instr.slice 37 (.slice (some a) n cap) none (some (.int .i64 (k:Int))) none).run Tryz.prog w=.ok (.slice (some a) k cap) w:=by
 have h0:(0:Int)≤(k:Int):=by omega
 have h1:(k:Int)≤(cap:Int):=by omega
 simp [go_sem,Instr.slice,Instr.sliceBounds,Instr.sliceBound,asIntOf,h0,h1];intro h;omega
theorem slice_strs_high (b o n cap k:Nat) (hk:k≤n) (hn:n≤cap):∃ o',(k<n→o'=o+k)∧∀ w:World,
  (Instr.slice 37 (.slice (some ⟨b,o,none⟩) n cap) (some (.int .i64 (k:Int))) none none).run Tryz.prog w=.ok (.slice (some ⟨b,o',none⟩) (n - k) (cap - k)) w:=by
 have h0:(0:Int)≤(k:Int):=by omega
 have h1:(k:Int)≤(n:Int):=by omega
 have h2:(n:Int)≤(cap:Int):=by omega
 refine ⟨if cap=k then o else o+k,fun h=>if_neg (by omega),fun w=>?_⟩
 simp [go_sem,Instr.slice,Instr.sliceBounds,Instr.sliceBound,asIntOf,h0,h1,h2,Addr.add,hk]
 by_cases e:cap=k
 · simp [e]
 ·
  by_cases e0:k=0
  · simp [e0]
  · simp [e,e0]
theorem cells_strs {w:World} {b o:Nat} {L M:List ByteArray} {k:Nat} (h:StrS w (some ⟨b,o,none⟩) L) (hM:∀ j (hj:j<M.length),∃ h2:k+j<L.length,M[j]=L[k+j]) :
  ∀ j u,(M.flatMap rowStr.enc)[j]? = some u→w.cell? ((⟨b,o+k,none⟩:Addr).add j)=some u:=by
 intro j u hu
 have e:M.flatMap rowStr.enc=M.map Value.string:=by
  clear hM hu
  induction M with
  | nil=>rfl
  | cons x r ih=>rw [List.flatMap_cons,ih];rfl
 rw [e,List.getElem?_map] at hu
 have hj:j<M.length:=by
  by_cases h:j<M.length
  · exact h
  · rw [List.getElem?_eq_none (by omega)] at hu;cases hu
 rw [List.getElem?_eq_getElem hj] at hu
 obtain ⟨h2,h3⟩:=hM j hj
 obtain ⟨b',o',e1,_,hc⟩:=h (k+j) h2
 injection e1 with e1
 injection e1 with e1 e2
 subst e1 e2
 rw [addr_add',Nat.add_assoc,hc,← h3]
 simpa using hu
def StrPost (M:List ByteArray) (w:World) (e:Ending) (w':World):Prop :=
 ∃ (b o c:Nat),e=.returned (.slice (some ⟨b,o,none⟩) M.length c)∧StrS w' (some ⟨b,o,none⟩) M∧M.length≤c∧Below w.heap.size w w'
theorem insF_mid {L:List ByteArray} {s:ByteArray} {k:Nat} (h0:¬ 0≤idxF L s) (hk:k≤L.length) (h1:∀ j (hj:j<L.length),j<k→ltS L[j] s=true) (h2:∀ h:k<L.length,ltS L[k] s=false):insF L s=L.take k ++ [s] ++ L.drop k:=by
 obtain ⟨e1,e2⟩:=tw_take (p:=fun x=>ltS x s) hk h1 h2
 rw [insF,if_neg h0,e1,e2];simp
theorem insF_len (L:List ByteArray) (s:ByteArray):(insF L s).length≤L.length+1:=by
 unfold insF
 split
 · omega
 ·
  have:=congrArg List.length (List.takeWhile_append_dropWhile (p:=fun x=>ltS x s) (l:=L))
  simp only [List.length_append,List.length_cons] at this ⊢;omega
set_option maxHeartbeats 3200000 in
set_option maxRecDepth 100000 in
theorem
    insert_any (L:List ByteArray) (n b o cap:Nat) (s:ByteArray) (w:World) (hR:StrS w (some ⟨b,o,none⟩) L) (hL:n=L.length) (hc:n≤cap) (hn:n≤100000) :
  Calls Tryz.prog 31 #[.slice (some ⟨b,o,none⟩) n cap,.string s] w (StrPost (insF L s) w):=by
 subst hL
 have HR:=Lib.hid hR;clear hR
 by_cases h0:0≤idxF L s
 ·
  have HI:Hid (insF L s=L):=by show _=_;rw [insF,if_pos h0]
  obtain ⟨q,hq⟩:∃ q,idxF L s=q:=⟨_,rfl⟩
  have HQ:=Lib.hid hq
  rw [hq] at h0
  clear hq
  go_enter Tryz.func31,Tryz.ntmps31
  go_wp2_with (go_at_call 60;refine (rindex_any L _ _ _ _ _ HR.out rfl (by omega)).mono ?_;rintro e w' ⟨he,rfl⟩;rw [HQ.out] at he;subst he)
  go_ret
  rw [HI.out]
  exact ⟨b,o,cap,rfl,HR.out,hc,Below.refl _ _⟩
 ·
  have H0
      := Lib.hid h0
  obtain ⟨q,hq⟩:∃ q,idxF L s=q:=⟨_,rfl⟩
  have HQ:=Lib.hid hq
  have hqn:¬ 0≤q:=by rw [← hq];exact h0
  clear hq h0
  go_enter Tryz.func31,Tryz.ntmps31
  go_wp2_with (go_at_call 60;refine (rindex_any L _ _ _ _ _ HR.out rfl (by omega)).mono ?_;rintro e w' ⟨he,rfl⟩;rw [HQ.out] at he;subst he)
  go_loop [5] (fun i=>∃ k:Nat,k≤L.length∧i=.int .i64 (k:Int)∧∀ j (hj:j<L.length),j<k→ltS L[j] s=true) (fun i=>L.length - (intOf i).toNat)
  case atStart=>exact ⟨0,Nat.zero_le _,rfl,fun j _ h=>by omega⟩
  case round =>
   obtain ⟨k,hk,rfl,hg⟩:=hrel
   have HG:=Lib.hid hg
   clear hg
   have hend:∀ (h2:∀ h:k<L.length,ltS L[k] s=false),Hid (insF L s=L.take k ++ [s] ++ L.drop k):=fun h2=>insF_mid (by have:=H0.out;omega) hk HG.out h2
   have HEND:=Lib.hid hend
   have hlow:=slice_strs_low ⟨b,o,none⟩ L.length cap k hk hc
   obtain ⟨o',ho',hhigh⟩:=slice_strs_high b o L.length cap k hk hc
   have HO':=Lib.hid ho'
   have hlk:(L.take k).length=k:=by rw [List.length_take];omega
   have hld:(L.drop k).length=L.length - k:=by rw [List.length_drop]
   have HLK:=Lib.hid hlk;have HLD:=Lib.hid hld
   have HOE:Hid (OwnG rowStr (w.alloc (.cells #[] 9)) w.heap.size (.slice (some ⟨w.heap.size,0,none⟩) 0 0) []):=OwnG.empty rowStr (heap_alloc_new _ _) (Nat.le_refl _)
   have HCE:Hid (∀ j u,((L.take k).flatMap rowStr.enc)[j]? = some u→(w.alloc (.cells #[] 9)).cell? ((⟨b,o,none⟩:Addr).add j)=some u) :=
    cells_strs (k:=0) (HR.out.later ((Below.refl _ w).alloc (Nat.le_refl _) _) (Nat.le_refl _)) (fun j hj=>⟨by rw [hlk] at hj;omega,by rw [List.getElem_take];congr 1;omega⟩)
   clear hend ho' hlk hld
   by_cases hlt:k<L.length
   ·
    obtain ⟨b1,o1,ha,hb,h1⟩:=HR.out.at hlt
    have hidx:=idx_strs (some ⟨b,o,none⟩) b1 o1 L.length cap k ha hlt
    obtain ⟨x,hx⟩:∃ x,L[k]=x:=⟨_,rfl⟩
    have HX:=Lib.hid hx
    rw [hx] at h1
    clear hx ha
    obtain ⟨r,hr⟩:∃ r,Op.bytesLess x.toList s.toList=r:=⟨_,rfl⟩
    have HRR:Hid (ltS x s=r):=hr
    cases r with
    | true =>
     have HN:Hid (∀ j (hj:j<L.length),j<k+1→ltS L[j] s=true):=fun j hj hjk=>by
      by_cases e:j=k
      · subst e;rw [HX.out];exact HRR.out
      · exact HG.out j hj (by omega)
     go_wp2
     go_round
     case rel=>exact ⟨k+1,by omega,by go_num,HN.out⟩
     case measure=>simp [intOf];omega
    | false =>
     have HN:=HEND.out (fun _=>by rw [HX.out];exact HRR.out)
     go_wp2_with (first | (at_builtin;go_loud (refine wpList_append_g rowStr_ok rfl _ _ rfl rfl HOE.out ⟨b,o,none⟩ cap (L.take k) (by rw [HLK.out];rfl) HCE.out (by have:=HLK.out;simp only [List.length_nil];omega) (by simp) ?_;intro v5 w5 hown5 hgrow5 hat5;have HO5:=Lib.hid hown5;have HB5:Hid (Below w.heap.size w w5):=(((Below.refl w.heap.size w).alloc (Nat.le_refl _) _).grown hgrow5 (by simp only [World.size_alloc];omega) HOE.out.ge);have hz5:=HB5.out.size;clear hown5 hgrow5 hat5)) | (at_builtin;go_loud (refine wpList_append_g rowStr_ok rfl _ _ rfl rfl (HO5.out.later ((Below.refl _ w5).alloc (Nat.le_refl _) _) (Nat.le_refl _)) ⟨w5.heap.size,0,none⟩ 1 [s] rfl (cells_built (heap_alloc_new _ _)) (by have:=HLK.out;simp only [List.length_singleton,List.nil_append];omega) (by simp only [World.size_alloc];omega) ?_;intro v6 w6 hown6 hgrow6 hat6;have HO6:=Lib.hid hown6;have HB6:Hid (Below w.heap.size w w6):=(HB5.out.trans (((Below.refl w.heap.size w5).alloc hz5 _).grown hgrow6 (by simp only [World.size_alloc];omega) HO5.out.ge));have hz6:=HB6.out.size;clear hown6 hgrow6 hat6)) | (at_builtin;go_loud (refine wpList_append_g rowStr_ok rfl _ _ rfl rfl HO6.out ⟨b,o',none⟩ (cap - k) (L.drop k) (by rw [HLD.out];rfl) (fun j u hu=>by have hkl:k<L.length:=(by rcases Nat.lt_or_ge k L.length with h | h;exact h;exfalso;rw [List.drop_eq_nil_of_le h] at hu;simp at hu);have e:=HO'.out hkl;subst e;exact cells_strs (HR.out.later HB6.out (Nat.le_refl _)) (fun j hj=>⟨by have:=HLD.out;omega,by rw [List.getElem_drop]⟩) j u hu) (by have:=HLD.out;have:=HLK.out;simp only [List.length_append,List.length_singleton,List.nil_append];omega) (by omega) ?_;intro v7 w7 hown7 hgrow7 hat7;have HO7:=Lib.hid hown7;have HB7:Hid (Below w.heap.size w w7):=(HB6.out.trans ((Below.refl w.heap.size w6).grown hgrow7 (by omega) HO6.out.ge));clear hown7 hgrow7 hat7)))
     go_ret;have hfin:=HO7.out;rw [List.nil_append,← HN.out] at hfin;rcases hfin.blk with ⟨_,h⟩ | ⟨g,c,hv,_,_,hcc⟩;· exfalso;have h2:=HN.out;rw [h] at h2;simp at h2
     ·
      subst hv
      exact ⟨g,0,c,rfl,hfin.strs.1,hcc,HB7.out⟩
   ·
    have HN:=HEND.out (fun h=>absurd h hlt)
    go_wp2_with (first | (at_builtin;go_loud (refine wpList_append_g rowStr_ok rfl _ _ rfl rfl HOE.out ⟨b,o,none⟩ cap (L.take k) (by rw [HLK.out];rfl) HCE.out (by have:=HLK.out;simp only [List.length_nil];omega) (by simp) ?_;intro v5 w5 hown5 hgrow5 hat5;have HO5:=Lib.hid hown5;have HB5:Hid (Below w.heap.size w w5):=(((Below.refl w.heap.size w).alloc (Nat.le_refl _) _).grown hgrow5 (by simp only [World.size_alloc];omega) HOE.out.ge);have hz5:=HB5.out.size;clear hown5 hgrow5 hat5)) | (at_builtin;go_loud (refine wpList_append_g rowStr_ok rfl _ _ rfl rfl (HO5.out.later ((Below.refl _ w5).alloc (Nat.le_refl _) _) (Nat.le_refl _)) ⟨w5.heap.size,0,none⟩ 1 [s] rfl (cells_built (heap_alloc_new _ _)) (by have:=HLK.out;simp only [List.length_singleton,List.nil_append];omega) (by simp only [World.size_alloc];omega) ?_;intro v6 w6 hown6 hgrow6 hat6;have HO6:=Lib.hid hown6;have HB6:Hid (Below w.heap.size w w6):=(HB5.out.trans (((Below.refl w.heap.size w5).alloc hz5 _).grown hgrow6 (by simp only [World.size_alloc];omega) HO5.out.ge));have hz6:=HB6.out.size;clear hown6 hgrow6 hat6)) | (at_builtin;go_loud (refine wpList_append_g rowStr_ok rfl _ _ rfl rfl HO6.out ⟨b,o',none⟩ (cap - k) (L.drop k) (by rw [HLD.out];rfl) (fun j u hu=>by have hkl:k<L.length:=(by rcases Nat.lt_or_ge k L.length with h | h;exact h;exfalso;rw [List.drop_eq_nil_of_le h] at hu;simp at hu);have e:=HO'.out hkl;subst e;exact cells_strs (HR.out.later HB6.out (Nat.le_refl _)) (fun j hj=>⟨by have:=HLD.out;omega,by rw [List.getElem_drop]⟩) j u hu) (by have:=HLD.out;have:=HLK.out;simp only [List.length_append,List.length_singleton,List.nil_append];omega) (by omega) ?_;intro v7 w7 hown7 hgrow7 hat7;have HO7:=Lib.hid hown7;have HB7:Hid (Below w.heap.size w w7):=(HB6.out.trans ((Below.refl w.heap.size w6).grown hgrow7 (by omega) HO6.out.ge));clear hown7 hgrow7 hat7)))
    go_ret;have hfin:=HO7.out;rw [List.nil_append,← HN.out] at hfin;rcases hfin.blk with ⟨_,h⟩ | ⟨g,c,hv,_,_,hcc⟩;· exfalso;have h2:=HN.out;rw [h] at h2;simp at h2
    ·
     subst hv
     exact ⟨g,0,c,rfl,hfin.strs.1,hcc,HB7.out⟩
end Go.Proofs.YthjmdgejnakcmaaGreatDoor
namespace Go.Proofs.YthjmdgejnakcmaaGreatDoor
open Go.Shelf Go.RowKit
set_option linter.unusedVariables false
set_option linter.unusedSimpArgs false
theorem szB:(Tryz.prog.info? 179).map (·.size)=some 2:=by kernel_rfl
theorem liesB:liesAt Tryz.prog Tryz.prog.depth 179 (2 / Tryz.prog.cellsOf 179) 0 179 1=true:=by kernel_rfl
theorem infoB:(Tryz.prog.info? 5).map (fun i=>(i.zero,i.size,i.bytes))=some (some (.int .u8 0),1,1):=by kernel_rfl
set_option maxHeartbeats 1000000 in
set_option maxRecDepth 100000 in
theorem copyCheck_used (b:Nat) (w:World) (h0:w.cell? ⟨b,0,none⟩=some (.pointer (some ⟨b,0,none⟩))) :
  Calls Tryz.prog 124 #[.pointer (some ⟨b,0,none⟩)] w fun e w'=>e=.returned (.tuple #[])∧w'=w:=by
 obtain ⟨j,hj,_⟩:=Option.map_eq_some_iff.1 szB
 go_enter Tryz.func124,Tryz.ntmps124
 go_wp2
 rw [Lib.run_neq_ptr_same w _ Tryz.underlying177 hj]
 go_wp2
 go_end0
 exact ⟨rfl,rfl⟩
set_option maxHeartbeats 1000000 in
set_option maxRecDepth 100000 in
theorem copyCheck_fresh (b:Nat) (w:World) (h0:w.cell? ⟨b,0,none⟩=some (.pointer none)) (hsh:w.shape? b=some (179,2)) (hfz:w.frozen? ⟨b,0,none⟩=false) :
  Calls Tryz.prog 124 #[.pointer (some ⟨b,0,none⟩)] w fun e w'=>e=.returned (.tuple #[])∧w'=w.setCell ⟨b,0,none⟩ (.pointer (some ⟨b,0,none⟩)):=by
 obtain ⟨j,hj,hjs⟩:=Option.map_eq_some_iff.1 szB
 go_enter Tryz.func124,Tryz.ntmps124
 go_wp2
 rw [Lib.run_to_unsafe w ⟨b,0,none⟩ Tryz.underlying177 Tryz.underlying226 hj (by rw [hjs];decide) hsh (Nat.zero_lt_succ 1)]
 simp only [Result.andThen]
 rw [Oper.upon_value]
 go_wp2
 rw [run_callFunc_extern Tryz.func144 (by kernel_rfl) (by kernel_rfl) (by kernel_rfl) (e:=Extern.AbiNoEscape.same) (by kernel_rfl)]
 rw [Lib.run_noEscape]
 simp only [Result.andThen]
 rw [Oper.upon_value]
 go_wp2
 rw [Lib.run_from_unsafe w ⟨b,0,none⟩ Tryz.underlying226 Tryz.underlying177 hj hsh liesB]
 simp only [Result.andThen]
 rw [Oper.upon_value]
 go_wp2
 go_end0
 exact ⟨rfl,rfl⟩
theorem copyCheck_any (B b:Nat) (bs:List Value) (w:World) (h:Lib.IsBuilderF 179 5 B b bs w) :
  Calls Tryz.prog 124 #[.pointer (some ⟨b,0,none⟩)] w fun e w'=>e=.returned (.tuple #[])∧(Lib.BuilderAtF 179 5 B b (.pointer (some ⟨b,0,none⟩)) bs w'∧Below B w w'):=by
 rcases h with h | h
 ·
  refine (copyCheck_fresh b w h.cell0 h.shape h.frozen0).mono ?_
  rintro e w' ⟨rfl,rfl⟩
  exact ⟨rfl,h.used _,(Below.refl B w).setCell (p:=⟨b,0,none⟩) h.1 _⟩
 ·
  refine (copyCheck_used b w h.cell0).mono ?_
  rintro e w' ⟨rfl,rfl⟩
  exact ⟨rfl,h,Below.refl B _⟩
set_option maxHeartbeats 1000000 in
set_option maxRecDepth 100000 in
theorem writeString_any (B b:Nat) (bs:List Value) (s:ByteArray) (w:World) (h:Lib.IsBuilderF 179 5 B b bs w) (hlen:bs.length+s.size≤140737488355328) (hBw:B≤w.heap.size) :
  Calls Tryz.prog 105 #[.pointer (some ⟨b,0,none⟩),.string s] w fun e w'=>e=.returned (.tuple #[.int .i64 s.size,.nilIface])∧Lib.IsBuilderF 179 5 B b (bs ++ Lib.strCells s) w'∧Below B w w':=by
 obtain ⟨i0,hi,hz0,hz1,hz2⟩:=info_parts infoB
 have H:=Lib.hid h
 clear h
 go_enter Tryz.func105,Tryz.ntmps105
 go_wp2_with (go_at_call 124;refine (copyCheck_any B b bs _ H.out).mono ?_)
 rintro e w1 ⟨rfl,h1,hb1⟩
 obtain ⟨hB,v,hbk,hown,hne⟩:=h1
 have c0:w1.cell? ⟨b,0,none⟩=some (.pointer (some ⟨b,0,none⟩)):=by rw [Lib.cell_of_heap hbk];rfl
 have c1:w1.cell? ⟨b,1,none⟩=some v:=by rw [Lib.cell_of_heap hbk];rfl
 go_wp2_with (at_builtin;refine Lib.wpList_append_own_stringF _ rfl _ _ 26 9 rfl B 5 i0 Tryz.underlying26 Tryz.underlying9 hi hz0 hz1 hz2 _ _ _ rfl hown s rfl ?c3 ?c4 ?c5 ?_)
 case c3=>unfold maxLen;omega
 case c4=>omega
 case c5=>have:=hb1.size;omega
 intro v' w2 hown' hgrow _
 have hlt:b<w1.heap.size:=by
  rcases Nat.lt_or_ge b w1.heap.size with h' | h'
  · exact h'
  · simp [Array.getElem?_eq_none h'] at hbk
 have hb2:w2.heap[b]? = some (.cells #[.pointer (some ⟨b,0,none⟩),v] 179 (0,0)):=by
  rw [hgrow.block b hlt (fun e=>hne e.symm)]
  exact hbk
 have d0:w2.cell? ⟨b,0,none⟩=some (.pointer (some ⟨b,0,none⟩)):=by rw [Lib.cell_of_heap hb2];rfl
 have d1:w2.cell? ⟨b,1,none⟩=some v:=by rw [Lib.cell_of_heap hb2];rfl
 have f1:w2.frozen? ⟨b,1,none⟩=false:=Lib.frozen_of_heap hb2 1
 obtain ⟨ao,n',cap,rfl⟩:∃ ao n' cap,v'=.slice ao n' cap:=by
  rcases hown'.2 with ⟨hv,_⟩ | ⟨g,cap,cur,fz,hv,_⟩
  · exact ⟨_,_,_,hv⟩
  · exact ⟨_,_,_,hv⟩
 go_wp2
 go_ret2
 refine ⟨rfl,.inr ?_,?_⟩
 · exact Lib.BuilderAtF.put (T:=179) (e:=5) hB hb2 (bs':=bs ++ Lib.strCells s) (by simpa [Lib.strCells_length] using hown') (by decide)
 · exact (hb1.grown hgrow (by have:=hb1.size;omega) (fun k hk=>(hown.lt k hk).1)).setCell (p:=⟨b,1,none⟩) hB _
end Go.Proofs.YthjmdgejnakcmaaGreatDoor
