/- Texts that the claims share: DStr, DDict, DNodes, DRow, DAfter, DIns, DBuild, DCont, DNodeP, DTrie, DTab. -/
import Derived.Deep.RegionHeld3
import Derived.Deep.DeepCutAuto
import Derived.Laws.Cover1
import Derived.Test.YthjmdgejnakcmaaDoorChecked
import Derived.Deep.QuietTactic
import Derived.BigQuiet
import Derived.Laws.StructEq
import Derived.Maps.AppendAt
import Derived.Laws.AppendOwn
import Derived.Laws.OwnMore
import Derived.Shelf.Strings.BuilderF
import Derived.Lib.FrozenHead2
import Derived.Lib.AppendIntMem
import Derived.Maps.Views
import Derived.Maps.OwnSet
import Derived.Maps.Own
import Derived.Test.YthjmdgejnakcmaaDoorMA1
namespace Go.Proofs.YthjmdgejnakcmaaDoor
open Go.RowKit
set_option linter.unusedVariables false
set_option linter.unusedSimpArgs false
def classF (c:Int):Int:=if 97≤c∧c≤122 then 1 else if 65≤c∧c≤90 then 2 else if 48≤c∧c≤57 then 3 else 0
def knownL (l:List UInt8):Bool:=l.all fun c=>!(classF (c.toNat:Int) == 0)
def knownB (s:ByteArray):Bool:=knownL s.data.toList
def wordB (s:ByteArray):Bool:=decide (1≤s.size) && (decide (s.size≤20) && knownB s)
theorem take_snoc (s:ByteArray) (k:Nat) (h:k<s.size):s.data.toList.take (k+1)=s.data.toList.take k ++ [s[k]]:=by
 rw [List.take_succ_eq_append_getElem (by simpa using h)];rfl
theorem take_all (s:ByteArray) (k:Nat) (h:¬ k<s.size):s.data.toList.take k=s.data.toList:=List.take_of_length_le (by simp;exact Nat.le_of_not_lt h)
theorem all_false {p:UInt8→Bool} (s:ByteArray) (k:Nat) (h:k<s.size) (hp:p s[k]=false):s.data.toList.all p=false:=by
 rw [List.all_eq_false]
 refine ⟨s[k],?_,by simp [hp]⟩
 show s.data[k]∈s.data.toList
 simp
theorem all_snoc {p:UInt8→Bool} (s:ByteArray) (k:Nat) (h:k<s.size) (ht:(s.data.toList.take k).all p=true) (hp:p s[k]=true):(s.data.toList.take (k+1)).all p=true:=by
 rw [take_snoc s k h,List.all_append,ht];simp [hp]
theorem class_any (c:Int) (w:World) (h0:0≤c) (h1:c≤255) :
  Calls Tryd.prog 47 #[.int .u8 c] w fun e w'=>e=.returned (.int .i64 (classF c))∧w=w':=by
 rcases (show (97≤c∧c≤122)∨(65≤c∧c≤90)∨(48≤c∧c≤57)∨c<48∨(57<c∧c<65)∨(90<c∧c<97)∨122<c from by omega) with h | h | h | h | h | h | h
 all_goals
  go_enter Tryd.func47,Tryd.ntmps47
  go_wp2
  go_ret
  refine ⟨ret_int ?_,rfl⟩
  unfold classF
  omega
theorem
    allKnown_any (s:ByteArray) (w:World) (hs:s.size≤9223372036854775807) :
  Calls Tryd.prog 35 #[.string s] w fun e w'=>e=.returned (.bool (knownB s))∧w=w':=by
 go_enter Tryd.func35,Tryd.ntmps35
 go_wp2
 go_loop [6] (fun i=>∃ k:Nat,k≤s.size∧i=.int .i64 k∧knownL (s.data.toList.take k)=true) (fun i=>s.size - (intOf i).toNat)
 case atStart=>exact ⟨0,Nat.zero_le _,rfl,rfl⟩
 case round =>
  obtain ⟨k,hk,rfl,ht⟩:=hrel
  have HT:=Lib.hid ht;clear ht
  by_cases hlt:k<s.size
  ·
   have b0:(0:Int)≤(s[k].toNat:Int):=by omega
   have b1:(s[k].toNat:Int)≤255:=by have:=s[k].toNat_lt;omega
   by_cases hc:classF (s[k].toNat:Int)=0
   ·
    have hcb:(classF (s[k].toNat:Int) == 0)=true:=by rw [hc];rfl
    have HC:Hid ((!(classF (s[k].toNat:Int) == 0))=false):=by show _=false;rw [hc];rfl
    clear hc
    go_wp2_with (go_at_call 47;refine (class_any _ _ b0 b1).mono ?_;rintro e w' ⟨rfl,rfl⟩)
    go_ret
    exact ⟨ret_bool (all_false s k hlt HC.out).symm,rfl⟩
   ·
    have hcb:(classF (s[k].toNat:Int) == 0)=false:=by simpa using hc
    have HC:Hid ((!(classF (s[k].toNat:Int) == 0))=true):=by show _=true;simpa using hc
    clear hc
    go_wp2_with (go_at_call 47;refine (class_any _ _ b0 b1).mono ?_;rintro e w' ⟨rfl,rfl⟩)
    go_round
    case rel=>exact ⟨k+1,by omega,by go_num,all_snoc s k hlt HT.out HC.out⟩
    case measure=>simp [intOf];omega
  ·
   have HA:=Lib.hid (take_all s k hlt)
   go_wp2
   go_ret
   exact ⟨ret_bool (by rw [knownB,← HA.out];exact HT.out.symm),rfl⟩
theorem word_any (s:ByteArray) (w:World) :
  Calls Tryd.prog 24 #[.string s] w fun e w'=>e=.returned (.bool (wordB s))∧w=w':=by
 by_cases h1:1≤s.size
 ·
  by_cases h2:s.size≤20
  ·
   have i1:(1:Int)≤(s.size:Int):=by omega
   have i2:(s.size:Int)≤20:=by omega
   have H:Hid (wordB s=knownB s):=by show _=_;simp [wordB,h1,h2]
   go_enter Tryd.func24,Tryd.ntmps24
   go_wp2_with (go_at_call 35;refine (allKnown_any _ _ (by omega)).mono ?_;rintro e w' ⟨rfl,rfl⟩)
   go_ret
   exact ⟨ret_bool H.out.symm,rfl⟩
  ·
   have i1:(1:Int)≤(s.size:Int):=by omega
   have i2:¬ (s.size:Int)≤20:=by omega
   have H:Hid (wordB s=false):=by show _=_;simp [wordB,h1,h2]
   go_enter Tryd.func24,Tryd.ntmps24
   go_wp2
   go_ret
   exact ⟨ret_bool H.out.symm,rfl⟩
 ·
  have i1:¬ (1:Int)≤(s.size:Int):=by omega
  have H:Hid (wordB s=false):=by show _=_;simp [wordB,h1]
  go_enter Tryd.func24,Tryd.ntmps24
  go_wp2
  go_ret
  exact ⟨ret_bool H.out.symm,rfl⟩
end Go.Proofs.YthjmdgejnakcmaaDoor
namespace Go.Proofs.YthjmdgejnakcmaaDoor
open Go.RowKit Go.WideShapes
set_option linter.unusedVariables false
set_option linter.unusedSimpArgs false
def StrS (w:World) (a:Option Addr) (L:List ByteArray):Prop:=∀ k (hk:k<L.length),∃ b o,a=some ⟨b,o,none⟩∧b<w.heap.size∧w.cell? ⟨b,o+k,none⟩=some (.string L[k])
theorem StrS.at {w:World} {a:Option Addr} {L:List ByteArray} (h:StrS w a L) {k:Nat} (hk:k<L.length):∃ b o,a=some ⟨b,o,none⟩∧b<w.heap.size∧w.cell? ⟨b,o+k,none⟩=some (.string L[k]):=h k hk
theorem StrS.later {w w1:World} {a:Option Addr} {L:List ByteArray} {B:Nat} (h:StrS w a L) (hb:Below B w w1) (hB:w.heap.size≤B):StrS w1 a L:=fun k hk=>by
 obtain ⟨b,o,ha,h1,h2⟩:=h k hk
 exact ⟨b,o,ha,by have:=hb.size;omega,(hb.cell (p:=⟨b,o+k,none⟩) (by show b<B;omega)).trans h2⟩
theorem StrS.nil (w:World) (a:Option Addr):StrS w a []:=fun k hk=>by simp at hk
theorem idx_strs (a:Option Addr) (b o len cap k:Nat) (ha:a=some ⟨b,o,none⟩) (hk:k<len) (w:World) :
  (Instr.indexAt 42 (.slice a len cap) (.int .i64 (k:Int))).run Tryd.prog w=.ok (.pointer (some ⟨b,o+k,none⟩)) w:=by
 subst ha
 have h0:(0:Int)≤(k:Int):=by omega
 have h1:(k:Int)<(len:Int):=by omega
 simp [go_sem,h0,h1]
end Go.Proofs.YthjmdgejnakcmaaDoor
namespace Go.Proofs.YthjmdgejnakcmaaDoor
open Go.RowKit Go.WideShapes
set_option linter.unusedVariables false
set_option linter.unusedSimpArgs false
def ltS (s t:ByteArray):Bool:=Op.bytesLess s.toList t.toList
def GoodTo (L:List ByteArray) (k:Nat):Prop:=∀ i (h:i<L.length),i<k→wordB L[i]=true∧(0<i→ltS (L[i - 1]'(by omega)) L[i]=true)
def Dict (L:List ByteArray):Prop:=1≤L.length∧L.length≤200∧GoodTo L L.length
noncomputable def dictB (L:List ByteArray):Bool:=@decide (Dict L) (Classical.propDecidable _)
theorem dictB_yes {L:List ByteArray} (h:Dict L):dictB L=true:=@decide_eq_true _ (Classical.propDecidable _) h
theorem dictB_no {L:List ByteArray} (h:¬ Dict L):dictB L=false:=@decide_eq_false _ (Classical.propDecidable _) h
theorem GoodTo.step {L:List ByteArray} {k:Nat} (h:GoodTo L k) (hk:k<L.length) (h1:wordB L[k]=true) (h2:0<k→ltS (L[k - 1]'(by omega)) L[k]=true):GoodTo L (k+1):=by
 intro i hi hik
 by_cases e:i=k
 · subst e;exact ⟨h1,h2⟩
 · exact h i hi (by omega)
set_option maxHeartbeats 1600000 in
set_option maxRecDepth 100000 in
theorem
    dictionary_any (L:List ByteArray) (n:Nat) (a:Option Addr) (cap:Nat) (w:World) (hR:StrS w a L) (hL:n=L.length) (hn:n≤9223372036854775807) :
  Calls Tryd.prog 16 #[.slice a n cap] w fun e w'=>e=.returned (.bool (dictB L))∧w=w':=by
 subst hL
 have HR:=Lib.hid hR;clear hR
 by_cases h1:1≤L.length
 ·
  have i1
      :
       ¬
        (L.length:Int)<1:=by omega
  by_cases h2:L.length≤200
  ·
   have i2
       :
        ¬
         (200:Int)<(L.length:Int):=by omega
   go_enter Tryd.func16,Tryd.ntmps16
   go_wp2
   go_loop [15] (fun i=>∃ k:Nat,k≤L.length∧i=.int .i64 k∧GoodTo L k) (fun i=>L.length - (intOf i).toNat)
   case atStart=>exact ⟨0,Nat.zero_le _,rfl,fun i _ h=>by omega⟩
   case round =>
    obtain ⟨k,hk,rfl,hg⟩:=hrel
    have HG:=Lib.hid hg;clear hg
    by_cases hlt:k<L.length
    ·
     obtain ⟨
         b,o,ha,hb,h0⟩:=HR.out.at hlt
     have hidx:=idx_strs a b o L.length cap k ha hlt
     obtain ⟨x,hx⟩:∃ x,L[k]=x:=⟨_,rfl⟩
     have HX:=Lib.hid hx
     rw [hx] at h0
     clear hx
     obtain ⟨q,hq⟩:∃ q,wordB x=q:=⟨_,rfl⟩
     have HQ:=Lib.hid hq
     clear hq
     cases q with
     | false =>
      have HN:Hid (dictB L=false):=dictB_no fun h=>by
       have:=(h.2.2 k hlt hlt).1
       rw [HX.out,HQ.out] at this;cases this
      clear ha
      go_wp2_with (go_at_call 24;refine (word_any _ _).mono ?_;rintro e w' ⟨he,rfl⟩;rw [HQ.out] at he;subst he)
      go_ret
      exact ⟨ret_bool HN.out.symm,rfl⟩
     | true =>
      by_cases hk0:k=0
      ·
       have hgt:¬ (0:Int)<(k:Int):=by omega
       have HS:Hid (GoodTo L (k+1)):=HG.out.step hlt (by rw [HX.out];exact HQ.out) (fun h=>by omega)
       clear ha hk0
       go_wp2_with (go_at_call 24;refine (word_any _ _).mono ?_;rintro e w' ⟨he,rfl⟩;rw [HQ.out] at he;subst he)
       go_round
       case rel=>exact ⟨k+1,by omega,by go_num,HS.out⟩
       case measure=>simp [intOf];omega
      ·
       have hj:k - 1<L.length:=by omega
       obtain ⟨j,hjk⟩:∃ j,k - 1=j:=⟨_,rfl⟩
       obtain ⟨b2,o2,ha2,hb2,h2⟩:=HR.out.at hj
       obtain ⟨y,hy⟩:∃ y,L[k - 1]=y:=⟨_,rfl⟩
       have HY:=Lib.hid hy
       rw [hy] at h2
       rw [hjk] at h2 hj
       have hidx2:=idx_strs a b2 o2 L.length cap j ha2 hj
       have hw1:IntKind.i64.wrap ((k:Int) - 1)=(j:Int):=by rw [IntWalk.i64_in _ (by omega)];omega
       have hgt:(0:Int)<(k:Int):=by omega
       clear hy ha ha2 hjk
       obtain ⟨q,hq⟩:∃ q,Op.bytesLess y.toList x.toList=q:=⟨_,rfl⟩
       have HLT:Hid (ltS y x=q):=hq
       cases q with
       | true =>
        have HS:Hid (GoodTo L (k+1)):=HG.out.step hlt (by rw [HX.out];exact HQ.out) (fun h=>by rw [HY.out,HX.out];exact HLT.out)
        go_wp2_with (go_at_call 24;refine (word_any _ _).mono ?_;rintro e w' ⟨he,rfl⟩;rw [HQ.out] at he;subst he)
        go_round
        case rel=>exact ⟨k+1,by omega,by go_num,HS.out⟩
        case measure=>simp [intOf];omega
       | false =>
        have HN:Hid (dictB L=false):=dictB_no fun h=>by
         have:=(h.2.2 k hlt hlt).2 (by omega)
         rw [HY.out,HX.out,HLT.out] at this;cases this
        go_wp2_with (go_at_call 24;refine (word_any _ _).mono ?_;rintro e w' ⟨he,rfl⟩;rw [HQ.out] at he;subst he)
        go_ret
        exact ⟨ret_bool HN.out.symm,rfl⟩
    ·
     have HN:Hid (dictB L=true):=dictB_yes ⟨h1,h2,fun i hi _=>HG.out i hi (by omega)⟩
     go_wp2
     go_ret
     exact ⟨ret_bool HN.out.symm,rfl⟩
  ·
   have i2:(200:Int)<(L.length:Int):=by omega
   have HN:Hid (dictB L=false):=dictB_no fun h=>h2 h.2.1
   go_enter Tryd.func16,Tryd.ntmps16
   go_wp2
   go_ret
   exact ⟨ret_bool HN.out.symm,rfl⟩
 ·
  have i1:(L.length:Int)<1:=by omega
  have HN:Hid (dictB L=false):=dictB_no fun h=>h1 h.1
  go_enter Tryd.func16,Tryd.ntmps16
  go_wp2
  go_ret
  exact ⟨ret_bool HN.out.symm,rfl⟩
end Go.Proofs.YthjmdgejnakcmaaDoor
namespace Go.Proofs.YthjmdgejnakcmaaDoor
open Go.RowKit Go.WideShapes
set_option linter.unusedVariables false
set_option linter.unusedSimpArgs false
end Go.Proofs.YthjmdgejnakcmaaDoor
namespace Go.Proofs.YthjmdgejnakcmaaDoor
open Go.RowKit Go.WideShapes
set_option linter.unusedVariables false
set_option linter.unusedSimpArgs false
structure Ar where
 c:Int
 t:Int
deriving DecidableEq,Inhabited
structure Nd where
 fin:Bool
 arcs:List Ar
deriving DecidableEq,Inhabited
def ArcS (w:World) (a:Option Addr) (X:List Ar):Prop:=∀ k (hk:k<X.length),∃ b o,a=some ⟨b,o,none⟩∧b<w.heap.size∧w.cell? ⟨b,o+k*2,none⟩=some (.int .u8 X[k].c)∧w.cell? ⟨b,o+k*2+1,none⟩=some (.int .i64 X[k].t)
theorem ArcS.later {w w1:World} {a:Option Addr} {X:List Ar} {B:Nat} (h:ArcS w a X) (hb:Below B w w1) (hB:w.heap.size≤B):ArcS w1 a X:=fun k hk=>by
 obtain ⟨b,o,ha,h1,h2,h3⟩:=h k hk
 exact ⟨b,o,ha,by have:=hb.size;omega,(hb.cell (p:=⟨b,o+k*2,none⟩) (by show b<B;omega)).trans h2,(hb.cell (p:=⟨b,o+k*2+1,none⟩) (by show b<B;omega)).trans h3⟩
def DawgS (w:World) (a:Option Addr) (D:List Nd):Prop:=∀ k (hk:k<D.length),∃ b o,a=some ⟨b,o,none⟩∧b<w.heap.size∧w.cell? ⟨b,o+k*2,none⟩=some (.bool D[k].fin) ∧
 ∃ aa cc,w.cell? ⟨b,o+k*2+1,none⟩=some (.slice aa D[k].arcs.length cc)∧D[k].arcs.length≤9223372036854775807∧ArcS w aa D[k].arcs
theorem DawgS.later {w w1:World} {a:Option Addr} {D:List Nd} {B:Nat} (h:DawgS w a D) (hb:Below B w w1) (hB:w.heap.size≤B):DawgS w1 a D:=fun k hk=>by
 obtain ⟨b,o,ha,h1,h2,aa,cc,h3,h4,h5⟩:=h k hk
 exact ⟨b,o,ha,by have:=hb.size;omega,(hb.cell (p:=⟨b,o+k*2,none⟩) (by show b<B;omega)).trans h2,aa,cc,(hb.cell (p:=⟨b,o+k*2+1,none⟩) (by show b<B;omega)).trans h3,h4,h5.later hb hB⟩
theorem DawgS.nil (w:World) (a:Option Addr):DawgS w a []:=fun k hk=>by simp at hk
theorem ArcS.at {w:World} {a:Option Addr} {X:List Ar} (h:ArcS w a X) {k:Nat} (hk:k<X.length):∃ b o,a=some ⟨b,o,none⟩∧b<w.heap.size∧w.cell? ⟨b,o+k*2,none⟩=some (.int .u8 X[k].c)∧w.cell? ⟨b,o+k*2+1,none⟩=some (.int .i64 X[k].t):=h k hk
theorem DawgS.at {w:World} {a:Option Addr} {D:List Nd} (h:DawgS w a D) {k:Nat} (hk:k<D.length):∃ b o,a=some ⟨b,o,none⟩∧b<w.heap.size∧w.cell? ⟨b,o+k*2,none⟩=some (.bool D[k].fin) ∧
 ∃ aa cc,w.cell? ⟨b,o+k*2+1,none⟩=some (.slice aa D[k].arcs.length cc)∧D[k].arcs.length≤9223372036854775807∧ArcS w aa D[k].arcs:=h k hk
theorem idx_arcs (a:Option Addr) (b o len cap k:Nat) (ha:a=some ⟨b,o,none⟩) (hk:k<len) (w:World) :
  (Instr.indexAt 68 (.slice a len cap) (.int .i64 (k:Int))).run Tryd.prog w=.ok (.pointer (some ⟨b,o+k*2,none⟩)) w:=by
 subst ha
 have h0:(0:Int)≤(k:Int):=by omega
 have h1:(k:Int)<(len:Int):=by omega
 simp [go_sem,h0,h1]
theorem idx_nodes (a:Option Addr) (b o len cap k:Nat) (ha:a=some ⟨b,o,none⟩) (hk:k<len) (w:World) :
  (Instr.indexAt 38 (.slice a len cap) (.int .i64 (k:Int))).run Tryd.prog w=.ok (.pointer (some ⟨b,o+k*2,none⟩)) w:=by
 subst ha
 have h0:(0:Int)≤(k:Int):=by omega
 have h1:(k:Int)<(len:Int):=by omega
 simp [go_sem,h0,h1]
structure RowT (α:Type) where
 sl:TypeId
 e:TypeId
 k:Nat
 bytes:Nat
 z:Value
 enc:α→List Value
structure RowT.Ok {α:Type} (T:RowT α):Prop where
 und:Tryd.prog.underlying T.sl=some (.slice T.e)
 info:(Tryd.prog.info? T.e).map (fun i=>(i.zero,i.size,i.bytes))=some (some T.z,T.k,T.bytes)
 zs:T.z.cells.size=T.k
 k0:0<T.k
 len:∀ x,(T.enc x).length=T.k
 one:∀ x,∀ u∈T.enc x,u.oneCell'=true
 b:T.bytes≤64
section
variable {α:Type} {T:RowT α} {w w1:World} {B C:Nat} {v:Value} {L:List α}
def OwnG (T:RowT α) (w:World) (B:Nat) (v:Value) (L:List α):Prop:=w.ownsRow B T.e T.k v L.length (L.flatMap T.enc)
theorem flat_len (h:T.Ok):∀ L:List α,(L.flatMap T.enc).length=L.length*T.k
 | []=>by simp
 | x :: r=>by rw [List.flatMap_cons,List.length_append,flat_len h r,h.len,List.length_cons,Nat.add_mul];omega
theorem flat_get (h:T.Ok):∀ {L:List α} {i j:Nat} (hi:i<L.length) (hj:j<T.k),(L.flatMap T.enc)[i*T.k+j]? = (T.enc L[i])[j]?
 | x :: r,0,j,_,hj=>by
  rw [List.flatMap_cons,Nat.zero_mul,Nat.zero_add,List.getElem?_append_left (by rw [h.len];omega)];rfl
 | x :: r,i+1,j,hi,hj=>by
  rw [List.flatMap_cons,List.getElem?_append_right (by rw [h.len,Nat.add_mul];omega)]
  have:(i+1)*T.k+j - (T.enc x).length=i*T.k+j:=by rw [h.len,Nat.add_mul];omega
  rw [this]
  exact flat_get h (L:=r) (by simpa using hi) hj
theorem OwnG.nil (T:RowT α) (w:World) (B:Nat):OwnG T w B (.slice none 0 0) []:=⟨by simp,.inl ⟨rfl,rfl⟩⟩
theorem OwnG.empty (T:RowT α) {g:Nat} (h:w.heap[g]? = some (.cells #[] T.e (0,0))) (hB:B≤g):OwnG T w B (.slice (some ⟨g,0,none⟩) 0 0) [] :=
 ⟨by simp,.inr ⟨g,0,#[],rfl,hB,h,Nat.le_refl _,Nat.zero_le _,by simp,by simp⟩⟩
theorem OwnG.one (h:T.Ok) {g:Nat} {x:α} (hg:w.heap[g]? = some (.cells (T.enc x).toArray T.e (0,0))) (hB:B≤g):OwnG T w B (.slice (some ⟨g,0,none⟩) 1 1) [x] :=
 ⟨by simp [h.len],.inr ⟨g,1,_,rfl,hB,hg,Nat.le_refl _,by unfold maxLen;omega,by simp [h.len],by simp [h.len];rw [List.take_of_length_le (by rw [h.len];exact Nat.le_refl _)]⟩⟩
theorem OwnG.form (h:OwnG T w B v L):∃ a c,v=.slice a L.length c∧L.length≤c∧c≤maxLen:=by
 rcases h.2 with ⟨rfl,h0⟩ | ⟨g,cap,cur,rfl,h1,h2,h3,h4,_⟩
 · exact ⟨none,0,by rw [h0],by omega,Nat.zero_le _⟩
 · exact ⟨_,cap,rfl,h3,h4⟩
theorem OwnG.blk (h:OwnG T w B v L):(v=.slice none 0 0∧L=[])∨∃ g c,v=.slice (some ⟨g,0,none⟩) L.length c∧B≤g∧g<w.heap.size∧L.length≤c:=by
 rcases h.2 with ⟨rfl,h0⟩ | ⟨g,cap,cur,rfl,h1,h2,h3,h4,_⟩
 · exact .inl ⟨rfl,List.eq_nil_of_length_eq_zero h0⟩
 · exact .inr ⟨g,cap,rfl,h1,(Array.getElem?_eq_some_iff.1 h2).1,h3⟩
theorem OwnG.cell (hT:T.Ok) {g n c:Nat} (h:OwnG T w B (.slice (some ⟨g,0,none⟩) n c) L) {i j:Nat} (hi:i<L.length) (hj:j<T.k):w.cell? ⟨g,i*T.k+j,none⟩=(T.enc L[i])[j]?:=by
 have hg:=flat_get hT hi hj
 have hj2:j<(T.enc L[i]).length:=by rw [hT.len];exact hj
 rw [List.getElem?_eq_getElem hj2] at hg ⊢
 have:=World.ownsRow.cells (g:=g) h rfl (i*T.k+j) _ hg
 rw [Addr.add_lit] at this
 simpa using this
theorem OwnG.keep (h:OwnG T w B v L) (hk:∀ g,v.ownBlock=some g→w1.heap[g]? = w.heap[g]?):OwnG T w1 B v L:=by
 refine ⟨h.1,h.2.imp id ?_⟩
 rintro ⟨g,cap,cur,rfl,h1,h2,h3⟩
 exact ⟨g,cap,cur,rfl,h1,(hk g rfl).trans h2,h3⟩
theorem OwnG.below (h:OwnG T w B v L) (hb:Below C w w1) (hv:∀ g,v.ownBlock=some g→g<C):OwnG T w1 B v L:=h.keep fun g hg=>hb.block g (hv g hg)
theorem OwnG.ge (h:OwnG T w B v L):∀ g,v.ownBlock=some g→B≤g:=by
 intro g hg
 rcases h.2 with ⟨rfl,_⟩ | ⟨g',cap,cur,rfl,h1,h2,h3⟩
 · cases hg
 · cases hg;exact h1
theorem OwnG.lt (h:OwnG T w B v L):∀ g,v.ownBlock=some g→g<w.heap.size:=by
 intro g hg
 rcases h.2 with ⟨rfl,_⟩ | ⟨g',cap,cur,rfl,h1,h2,h3⟩
 · cases hg
 · cases hg;exact (Array.getElem?_eq_some_iff.1 h2).1
theorem OwnG.later (h:OwnG T w B v L) (hb:Below C w w1) (hC:w.heap.size≤C):OwnG T w1 B v L:=h.below hb fun g hg=>Nat.lt_of_lt_of_le (h.lt g hg) hC
theorem OwnG.mono (h:OwnG T w B v L) (hC:C≤B):OwnG T w C v L:=by
 refine ⟨h.1,h.2.imp id ?_⟩
 rintro ⟨g,cap,cur,rfl,h1,h2⟩
 exact ⟨g,cap,cur,rfl,Nat.le_trans hC h1,h2⟩
theorem OwnG.grown {row:Option Nat} (h:OwnG T w B v L) (hg:w.grownBy w1 row) (hr:∀ q,v.ownBlock=some q→some q≠row):OwnG T w1 B v L:=h.keep fun g hb=>hg.block g (h.lt g hb) (hr g hb)
theorem OwnG.run_append (hT:T.Ok) (h:OwnG T w B v L) (ty:TypeId) (a:Addr) (c:Nat) (news:List α) (hn:∀ j u,(news.flatMap T.enc)[j]? = some u→w.cell? (a.add j)=some u) (hl:L.length+news.length≤1000000000000) (hB:B≤w.heap.size) :
  ∃ v' w',(Builtin.append_ #[T.sl,T.sl] ty #[v,.slice (some a) news.length c]).run Tryd.prog w=.ok v' w'∧OwnG T w' B v' (L ++ news)∧w.grownBy w' v.ownBlock∧(v'.ownBlock=v.ownBlock∨v'.ownBlock=some w.heap.size):=by
 obtain ⟨i0,hi,hz0,hz1,hz2⟩:=info_parts hT.info
 have hb:(L.length+news.length)*T.bytes≤1000000000000*64:=Nat.mul_le_mul hl hT.b
 obtain ⟨v',w',hr,h1,h2,_,h3⟩:=run_append_own_at (P:=Tryd.prog) w B T.sl ty T.e i0 T.z T.k T.bytes hT.und hi hz0 hz1 hz2 hT.zs hT.k0 v L.length (L.flatMap T.enc) h a news.length c (news.flatMap T.enc) (flat_len hT news) hn
  (fun u hu=>by obtain ⟨x,_,h2⟩:=List.mem_flatMap.1 hu;exact hT.one x u h2) (by unfold maxLen;omega) (by omega) hB
 refine ⟨v',w',hr,?_,h2,h3⟩
 unfold OwnG
 rw [List.length_append,List.flatMap_append]
 exact h1
theorem wpList_append_g (hT:T.Ok) {ops:Array Oper} {rest:List Oper} {o:Oper} {a:Act} {Q:Exit→Act→World→Prop} (hgd:o.guard=none) (s x:Operand)
  (ho:o.op=.call { callee:=.builtin .append,args:=#[s,x],argTypes:=#[T.sl,T.sl] }) (hs:a.eval s=v) (hown:OwnG T w B v L) (ad:Addr) (c:Nat) (news:List α) (hx:a.eval x=.slice (some ad) news.length c)
  (hn:∀ j u,(news.flatMap T.enc)[j]? = some u→w.cell? (ad.add j)=some u) (hl:L.length+news.length≤1000000000000) (hB:B≤w.heap.size)
  (h:∀ v' w',OwnG T w' B v' (L ++ news)→w.grownBy w' v.ownBlock→(v'.ownBlock=v.ownBlock∨v'.ownBlock=some w.heap.size)→wpList Tryd.prog ops Q rest (a.put o.dst v') w'):wpList Tryd.prog ops Q (o :: rest) a w:=by
 refine wpList_plain hgd fun K' hK'=>?_
 obtain ⟨v',w',hr,h1,h2,h3⟩:=hown.run_append hT o.type ad c news hn hl hB
 unfold Oper.wp
 simp only [execOp,ho,resolve,invoke,builtin,Sem.run_bind,Sem.run_pure,Result.andThen_ok,List.map_toArray,List.map_cons,List.map_nil,hs,hx,hr]
 exact hK' _ _ (h v' w' h1 h2 h3)
theorem OpRes.mono {P:Program} {a:Act} {o:Oper} {w:World} {R S:Value→World→Prop} (h:OpRes P a o w R) (hs:∀ v w',R v w'→S v w'):OpRes P a o w S:=by
 rcases h with ⟨v,w',h1,h2⟩ | ⟨f,args,w',h1,h2⟩
 · exact .inl ⟨v,w',h1,hs _ _ h2⟩
 · exact .inr ⟨f,args,w',h1,h2.mono fun e w'' ⟨v,he,hv⟩=>⟨v,he,hs _ _ hv⟩⟩
theorem opres_append_g (hT:T.Ok) {o:Oper} {a:Act} (s x:Operand) (ho:o.op=.call { callee:=.builtin .append,args:=#[s,x],argTypes:=#[T.sl,T.sl] }) (hs:a.eval s=v) (hown:OwnG T w B v L) (ad:Addr) (c:Nat) (news:List α)
  (hx:a.eval x=.slice (some ad) news.length c) (hn:∀ j u,(news.flatMap T.enc)[j]? = some u→w.cell? (ad.add j)=some u) (hl:L.length+news.length≤1000000000000) (hB:B≤w.heap.size) :
  OpRes Tryd.prog a o w (fun v' w'=>OwnG T w' B v' (L ++ news)∧w.grownBy w' v.ownBlock∧(v'.ownBlock=v.ownBlock∨v'.ownBlock=some w.heap.size)):=by
 obtain ⟨v',w',hr,h1,h2,h3⟩:=hown.run_append hT o.type ad c news hn hl hB
 refine .inl ⟨v',w',?_,h1,h2,h3⟩
 unfold execOp
 simp only [ho,resolve,invoke,builtin,Sem.run_bind,Sem.run_pure,Result.andThen_ok,List.map_toArray,List.map_cons,List.map_nil,hs,hx,hr]
theorem cells_built {g:Nat} {t:TypeId} {cs:List Value} (h:w.heap[g]? = some (.cells cs.toArray t (0,0))):∀ j u,cs[j]? = some u→w.cell? ((⟨g,0,none⟩:Addr).add j)=some u:=by
 intro j u hj
 have hc:=cell_of_row w g j _ _ (0,0) h
 have e:(⟨g,0,none⟩:Addr).add j=⟨g,j,none⟩:=by rw [Addr.add_lit,Nat.zero_add]
 rw [e,hc]
 simpa using hj
end
def rowStr:RowT ByteArray:=⟨42,9,1,16,.string ⟨#[]⟩,fun s=>[.string s]⟩
theorem rowStr_ok:rowStr.Ok:=⟨Tryd.underlying42,by kernel_rfl,rfl,by decide,fun _=>rfl,fun x u hu=>by obtain rfl:u=.string x:=(List.mem_singleton.1 hu);rfl,by decide⟩
def rowArc:RowT Ar:=⟨68,72,2,16,.agg #[.int .u8 0,.int .i64 0],fun x=>[.int .u8 x.c,.int .i64 x.t]⟩
theorem rowArc_ok:rowArc.Ok:=⟨Tryd.underlying68,by kernel_rfl,rfl,by decide,fun _=>rfl,fun x u hu=>by
 have h:u=.int .u8 x.c∨u=.int .i64 x.t:=by simpa [rowArc] using hu
 rcases h with rfl | rfl <;> rfl,by decide⟩
structure NV where
 fin:Bool
 a:Option Addr
 n:Nat
 c:Nat
deriving DecidableEq
def rowNode:RowT NV:=⟨38,70,2,32,.agg #[.bool false,.slice none 0 0],fun x=>[.bool x.fin,.slice x.a x.n x.c]⟩
theorem rowNode_ok:rowNode.Ok:=⟨Tryd.underlying38,by kernel_rfl,rfl,by decide,fun _=>rfl,fun x u hu=>by
 have h:u=.bool x.fin∨u=.slice x.a x.n x.c:=by simpa [rowNode] using hu
 rcases h with rfl | rfl <;> rfl,by decide⟩
structure SV where
 a:Option Addr
 n:Nat
 c:Nat
theorem OwnG.strs {w:World} {B:Nat} {a:Option Addr} {n c:Nat} {L:List ByteArray} (h:OwnG rowStr w B (.slice a n c) L):StrS w a L∧n=L.length∧L.length≤c:=by
 obtain ⟨a',c',he,hc,_⟩:=h.form
 injection he with e1 e2 e3
 refine ⟨fun k hk=>?_,e2,by omega⟩
 rcases h.blk with ⟨_,rfl⟩ | ⟨g,c2,he2,_,hg,_⟩
 · simp at hk
 ·
  injection he2 with f1 f2 f3
  subst f1
  refine ⟨g,0,rfl,hg,?_⟩
  have:=h.cell rowStr_ok hk (j:=0) (by decide)
  simpa [rowStr] using this
theorem OwnG.arcs {w:World} {B:Nat} {a:Option Addr} {n c:Nat} {L:List Ar} (h:OwnG rowArc w B (.slice a n c) L):ArcS w a L∧n=L.length∧L.length≤c:=by
 obtain ⟨a',c',he,hc,_⟩:=h.form
 injection he with e1 e2 e3
 refine ⟨fun k hk=>?_,e2,by omega⟩
 rcases h.blk with ⟨_,rfl⟩ | ⟨g,c2,he2,_,hg,_⟩
 · simp at hk
 ·
  injection he2 with f1 f2 f3
  subst f1
  refine ⟨g,0,rfl,hg,?_,?_⟩
  ·
   have:=h.cell rowArc_ok hk (j:=0) (by decide)
   simpa [rowArc] using this
  ·
   have:=h.cell rowArc_ok hk (j:=1) (by decide)
   simpa [rowArc] using this
end Go.Proofs.YthjmdgejnakcmaaDoor
namespace Go.Proofs.YthjmdgejnakcmaaDoor
open Go.RowKit Go.WideShapes
set_option linter.unusedVariables false
set_option linter.unusedSimpArgs false
def IsBytes (w:World) (a:Option Addr) (len:Nat) (Z:Nat→Int):Prop :=
 len=0∨∃ b o,a=some ⟨b,o,none⟩∧len≤9223372036854775807∧b<w.heap.size∧∀ i,i<len→w.cell? ⟨b,o+i,none⟩=some (.int .u8 (Z i))∧0≤Z i∧Z i≤255
theorem IsBytes.later {w w1:World} {a:Option Addr} {len:Nat} {Z:Nat→Int} {B:Nat} (h:IsBytes w a len Z) (hb:Below B w w1) (hB:w.heap.size≤B):IsBytes w1 a len Z:=by
 rcases h with h | ⟨b,o,ha,hl,hlt,hr⟩
 · exact .inl h
 · exact .inr ⟨b,o,ha,hl,Nat.lt_of_lt_of_le hlt hb.size,fun i hi=>⟨(hb.cell (p:=⟨b,_,none⟩) (Nat.lt_of_lt_of_le hlt hB)).trans (hr i hi).1,(hr i hi).2⟩⟩
theorem IsBytes.at {w:World} {a:Option Addr} {len:Nat} {Z:Nat→Int} (h:IsBytes w a len Z) {k:Nat} (hk:k<len):∃ b o,a=some ⟨b,o,none⟩∧b<w.heap.size∧w.cell? ⟨b,o+k,none⟩=some (.int .u8 (Z k))∧0≤Z k∧Z k≤255:=by
 rcases h with h | ⟨b,o,ha,hl,hlt,hr⟩
 · omega
 · exact ⟨b,o,ha,hlt,hr k hk⟩
theorem idx_bytes (a:Option Addr) (b o len cap k:Nat) (ha:a=some ⟨b,o,none⟩) (hk:k<len) (w:World) :
  (Instr.indexAt 22 (.slice a len cap) (.int .i64 (k:Int))).run Tryd.prog w=.ok (.pointer (some ⟨b,o+k,none⟩)) w:=by
 subst ha
 have h0:(0:Int)≤(k:Int):=by omega
 have h1:(k:Int)<(len:Int):=by omega
 simp [go_sem,h0,h1]
end Go.Proofs.YthjmdgejnakcmaaDoor
namespace Go.Proofs.YthjmdgejnakcmaaDoor
open Go.RowKit Go.WideShapes
set_option linter.unusedVariables false
set_option linter.unusedSimpArgs false
theorem addr_add' (b o n:Nat):(⟨b,o,none⟩:Addr).add n=⟨b,o+n,none⟩:=by
 unfold Addr.add;split <;> simp_all
theorem tw_take {α:Type} {p:α→Bool}:∀ {L:List α} {k:Nat},k≤L.length→(∀ j (hj:j<L.length),j<k→p L[j]=true)→(∀ h:k<L.length,p L[k]=false)→L.takeWhile p=L.take k∧L.dropWhile p=L.drop k
 | [],k,hk,_,_=>by simp
 | x :: r,0,_,_,h=>by
  have:=h (by simp)
  simp only [List.getElem_cons_zero] at this
  simp [List.takeWhile_cons,List.dropWhile_cons,this]
 | x
   :: r,k+1,hk,h1,h2=>by
  have hx:=h1 0 (by simp) (by omega)
  simp only [List.getElem_cons_zero] at hx
  have ih:=tw_take (p:=p) (L:=r) (k:=k) (by simpa using hk) (fun j hj hjk=>by
   have:=h1 (j+1) (by simpa using hj) (by omega)
   simpa using this) (fun h=>by
   have:=h2 (by simpa using h)
   simpa using this)
  simp [List.takeWhile_cons,List.dropWhile_cons,hx,ih.1,ih.2]
theorem slice_strs_low (a:Addr) (n cap k:Nat) (hk:k≤n) (hn:n≤cap) (w:World) :
  (Instr.slice 42 (.slice (some a) n cap) none (some (.int .i64 (k:Int))) none).run Tryd.prog w=.ok (.slice (some a) k cap) w:=by
 have h0:(0:Int)≤(k:Int):=by omega
 have h1:(k:Int)≤(cap:Int):=by omega
 simp [go_sem,Instr.slice,Instr.sliceBounds,Instr.sliceBound,asIntOf,h0,h1];intro h;omega
theorem slice_strs_high (b o n cap k:Nat) (hk:k≤n) (hn:n≤cap):∃ o',(k<n→o'=o+k)∧∀ w:World,
  (Instr.slice 42 (.slice (some ⟨b,o,none⟩) n cap) (some (.int .i64 (k:Int))) none none).run Tryd.prog w=.ok (.slice (some ⟨b,o',none⟩) (n - k) (cap - k)) w:=by
 have h0:(0:Int)≤(k:Int):=by omega
 have h1:(k:Int)≤(n:Int):=by omega
 have h2:(n:Int)≤(cap:Int):=by omega
 refine ⟨if cap=k then o else o+k,fun h=>if_neg (by omega),fun w=>?_⟩
 simp [go_sem,Instr.slice,Instr.sliceBounds,Instr.sliceBound,asIntOf,h0,h1,h2,Addr.add,hk]
 by_cases e:cap=k
 · simp [e]
 ·
  by_cases e0:k=0
  · simp [e0]
  · simp [e,e0]
end Go.Proofs.YthjmdgejnakcmaaDoor
namespace Go.Proofs.YthjmdgejnakcmaaDoor
open Go.Shelf Go.RowKit
set_option linter.unusedVariables false
set_option linter.unusedSimpArgs false
theorem szB:(Tryd.prog.info? 100).map (·.size)=some 2:=by kernel_rfl
theorem liesB:liesAt Tryd.prog Tryd.prog.depth 100 (2 / Tryd.prog.cellsOf 100) 0 100 1=true:=by kernel_rfl
theorem infoB:(Tryd.prog.info? 5).map (fun i=>(i.zero,i.size,i.bytes))=some (some (.int .u8 0),1,1):=by kernel_rfl
set_option maxHeartbeats 1000000 in
set_option maxRecDepth 100000 in
theorem copyCheck_used (b:Nat) (w:World) (h0:w.cell? ⟨b,0,none⟩=some (.pointer (some ⟨b,0,none⟩))) :
  Calls Tryd.prog 48 #[.pointer (some ⟨b,0,none⟩)] w fun e w'=>e=.returned (.tuple #[])∧w'=w:=by
 obtain ⟨j,hj,_⟩:=Option.map_eq_some_iff.1 szB
 go_enter Tryd.func48,Tryd.ntmps48
 go_wp2
 rw [Lib.run_neq_ptr_same w _ Tryd.underlying98 hj]
 go_wp2
 go_end0
 exact ⟨rfl,rfl⟩
set_option maxHeartbeats 1000000 in
set_option maxRecDepth 100000 in
theorem copyCheck_fresh (b:Nat) (w:World) (h0:w.cell? ⟨b,0,none⟩=some (.pointer none)) (hsh:w.shape? b=some (100,2)) (hfz:w.frozen? ⟨b,0,none⟩=false) :
  Calls Tryd.prog 48 #[.pointer (some ⟨b,0,none⟩)] w fun e w'=>e=.returned (.tuple #[])∧w'=w.setCell ⟨b,0,none⟩ (.pointer (some ⟨b,0,none⟩)):=by
 obtain ⟨j,hj,hjs⟩:=Option.map_eq_some_iff.1 szB
 go_enter Tryd.func48,Tryd.ntmps48
 go_wp2
 rw [Lib.run_to_unsafe w ⟨b,0,none⟩ Tryd.underlying98 Tryd.underlying125 hj (by rw [hjs];decide) hsh (Nat.zero_lt_succ 1)]
 simp only [Result.andThen]
 rw [Oper.upon_value]
 go_wp2
 rw [run_callFunc_extern Tryd.func57 (by kernel_rfl) (by kernel_rfl) (by kernel_rfl) (e:=Extern.AbiNoEscape.same) (by kernel_rfl)]
 rw [Lib.run_noEscape]
 simp only [Result.andThen]
 rw [Oper.upon_value]
 go_wp2
 rw [Lib.run_from_unsafe w ⟨b,0,none⟩ Tryd.underlying125 Tryd.underlying98 hj hsh liesB]
 simp only [Result.andThen]
 rw [Oper.upon_value]
 go_wp2
 go_end0
 exact ⟨rfl,rfl⟩
theorem copyCheck_any (B b:Nat) (bs:List Value) (w:World) (h:Lib.IsBuilderF 100 5 B b bs w) :
  Calls Tryd.prog 48 #[.pointer (some ⟨b,0,none⟩)] w fun e w'=>e=.returned (.tuple #[])∧(Lib.BuilderAtF 100 5 B b (.pointer (some ⟨b,0,none⟩)) bs w'∧Below B w w'):=by
 rcases h with h | h
 ·
  refine (copyCheck_fresh b w h.cell0 h.shape h.frozen0).mono ?_
  rintro e w' ⟨rfl,rfl⟩
  exact ⟨rfl,h.used _,(Below.refl B w).setCell (p:=⟨b,0,none⟩) h.1 _⟩
 ·
  refine (copyCheck_used b w h.cell0).mono ?_
  rintro e w' ⟨rfl,rfl⟩
  exact ⟨rfl,h,Below.refl B _⟩
set_option maxHeartbeats 1000000 in
set_option maxRecDepth 100000 in
theorem writeString_any (B b:Nat) (bs:List Value) (s:ByteArray) (w:World) (h:Lib.IsBuilderF 100 5 B b bs w) (hlen:bs.length+s.size≤140737488355328) (hBw:B≤w.heap.size) :
  Calls Tryd.prog 36 #[.pointer (some ⟨b,0,none⟩),.string s] w fun e w'=>e=.returned (.tuple #[.int .i64 s.size,.nilIface])∧Lib.IsBuilderF 100 5 B b (bs ++ Lib.strCells s) w'∧Below B w w':=by
 obtain ⟨i0,hi,hz0,hz1,hz2⟩:=info_parts infoB
 have H:=Lib.hid h
 clear h
 go_enter Tryd.func36,Tryd.ntmps36
 go_wp2_with (go_at_call 48;refine (copyCheck_any B b bs _ H.out).mono ?_)
 rintro e w1 ⟨rfl,h1,hb1⟩
 obtain ⟨hB,v,hbk,hown,hne⟩:=h1
 have c0:w1.cell? ⟨b,0,none⟩=some (.pointer (some ⟨b,0,none⟩)):=by rw [Lib.cell_of_heap hbk];rfl
 have c1:w1.cell? ⟨b,1,none⟩=some v:=by rw [Lib.cell_of_heap hbk];rfl
 go_wp2_with (at_builtin;refine Lib.wpList_append_own_stringF _ rfl _ _ 22 9 rfl B 5 i0 Tryd.underlying22 Tryd.underlying9 hi hz0 hz1 hz2 _ _ _ rfl hown s rfl ?c3 ?c4 ?c5 ?_)
 case c3=>unfold maxLen;omega
 case c4=>omega
 case c5=>have:=hb1.size;omega
 intro v' w2 hown' hgrow _
 have hlt:b<w1.heap.size:=by
  rcases Nat.lt_or_ge b w1.heap.size with h' | h'
  · exact h'
  · simp [Array.getElem?_eq_none h'] at hbk
 have hb2:w2.heap[b]? = some (.cells #[.pointer (some ⟨b,0,none⟩),v] 100 (0,0)):=by
  rw [hgrow.block b hlt (fun e=>hne e.symm)]
  exact hbk
 have d0:w2.cell? ⟨b,0,none⟩=some (.pointer (some ⟨b,0,none⟩)):=by rw [Lib.cell_of_heap hb2];rfl
 have d1:w2.cell? ⟨b,1,none⟩=some v:=by rw [Lib.cell_of_heap hb2];rfl
 have f1:w2.frozen? ⟨b,1,none⟩=false:=Lib.frozen_of_heap hb2 1
 obtain ⟨ao,n',cap,rfl⟩:∃ ao n' cap,v'=.slice ao n' cap:=by
  rcases hown'.2 with ⟨hv,_⟩ | ⟨g,cap,cur,fz,hv,_⟩
  · exact ⟨_,_,_,hv⟩
  · exact ⟨_,_,_,hv⟩
 go_wp2
 go_ret2
 refine ⟨rfl,.inr ?_,?_⟩
 · exact Lib.BuilderAtF.put (T:=100) (e:=5) hB hb2 (bs':=bs ++ Lib.strCells s) (by simpa [Lib.strCells_length] using hown') (by decide)
 · exact (hb1.grown hgrow (by have:=hb1.size;omega) (fun k hk=>(hown.lt k hk).1)).setCell (p:=⟨b,1,none⟩) hB _
end Go.Proofs.YthjmdgejnakcmaaDoor
namespace Go.Proofs.YthjmdgejnakcmaaDoor
open Go.Shelf Go.RowKit Go.WideShapes
set_option linter.unusedVariables false
set_option linter.unusedSimpArgs false
theorem ret_str' {a b:ByteArray} (h:a=b):Ending.returned (.string a)=.returned (.string b):=by rw [h]
def arcL (x:Ar):List UInt8:=32 :: UInt8.ofNat x.c.toNat :: Lib.itoa x.t
def keyL (f:Bool) (X:List Ar):List UInt8:=Lib.formatBool f ++ X.flatMap arcL
theorem keyL_succ {f:Bool} {X:List Ar} {k:Nat} (hk:k<X.length):keyL f (X.take (k+1))=keyL f (X.take k) ++ arcL X[k]:=by
 rw [keyL,List.take_succ_eq_append_getElem hk,List.flatMap_append,← List.append_assoc];simp [keyL]
theorem dec_len (u:Nat):(Lib.decDigits u).length≤u+1:=by
 induction u using Nat.strongRecOn with
 | _
   u ih =>
  rw [Lib.decDigits]
  split
  · simp
  ·
   have:=ih (u / 10) (by omega)
   rw [List.length_append];simp;omega
def ArOk (x:Ar):Prop:=0≤x.c∧x.c≤127∧0≤x.t∧x.t≤1000000
theorem arcL_len {x:Ar} (h:ArOk x):(arcL x).length≤1000003:=by
 obtain ⟨h1,h2,h3,h4⟩:=h
 have:(Lib.itoa x.t).length≤1000001:=by
  rw [Lib.itoa,if_neg (by omega)]
  have:=dec_len x.t.toNat;omega
 simp [arcL];omega
theorem keyL_len {f:Bool} {X:List Ar} (h:∀ x∈X,ArOk x):(keyL f X).length≤5+X.length*1000003:=by
 have h1:(Lib.formatBool f).length≤5:=by cases f <;> decide
 have h2:(X.flatMap arcL).length≤X.length*1000003:=by
  induction X with
  | nil=>simp
  | cons x r ih =>
   rw [List.flatMap_cons,List.length_append,List.length_cons,Nat.add_mul]
   have:=arcL_len (h x (by simp));have:=ih (fun y hy=>h y (by simp [hy]));omega
 rw [keyL,List.length_append];omega
def Tab (w:World):Prop:=Lib.TabIs Tryd.prog w "internal/strconv.uint64pow10" .u64 Lib.pow10Tab
theorem tabG:∃ g,Tryd.prog.globalNamed "internal/strconv.uint64pow10" = some g:=by
 have h:(Tryd.prog.globalNamed "internal/strconv.uint64pow10").isSome=true:=by kernel_rfl
 exact Option.isSome_iff_exists.1 h
theorem Tab.later {w w':World} (h:Tab w) (hb:Below w.heap.size w w'):Tab w':=by
 obtain ⟨g,hg⟩:=tabG
 unfold Tab Lib.TabIs World.var? at h ⊢
 rw [hg] at h ⊢
 simp only [Option.bind_some] at h ⊢
 have hlt:g<w.heap.size:=by
  rcases Nat.lt_or_ge g w.heap.size with h' | h'
  · exact h'
  · rw [Array.getElem?_eq_none h'] at h;cases h
 rw [hb.block g hlt]
 exact h
theorem bF_ext {T e:TypeId} {B b:Nat} {bs:List Value} {w w':World} (h:Lib.IsBuilderF T e B b bs w) (hx:Ext w w'):Lib.IsBuilderF T e B b bs w':=by
 have key:∀ p,Lib.BuilderAtF T e B b p bs w→Lib.BuilderAtF T e B b p bs w':=by
  rintro p ⟨hB,v,hb,hown,hne⟩
  refine ⟨hB,v,(Below.block hx b (Array.getElem?_eq_some_iff.1 hb).1).trans hb,⟨hown.1,hown.2.imp id ?_⟩,hne⟩
  rintro ⟨g,cap,cur,fz,rfl,h1,h2,h3⟩
  exact ⟨g,cap,cur,fz,rfl,h1,(Below.block hx g (Array.getElem?_eq_some_iff.1 h2).1).trans h2,h3⟩
 exact h.imp (key _) (key _)
theorem enc_ascii (c:Int) (h0:0≤c) (h1:c≤127):Utf8.encode c=⟨#[UInt8.ofNat c.toNat]⟩:=by
 have hv:Utf8.valid c=true:=by simp [Utf8.valid];omega
 have hc:c.toNat<0x80:=by omega
 simp only [Utf8.encode,hv,if_true,hc]
theorem fb_any (b:Bool) (w:World):Calls Tryd.prog 37 #[.bool b] w fun e w'=>e=.returned (.string ⟨(Lib.formatBool b).toArray⟩)∧w=w' :=
 (Tryd.strconv_FormatBool b w).mono fun e w' h=>⟨h.1,h.2.symm⟩
theorem cells2 {w:World} {g:Nat} {a b:Value} {t:TypeId} {f:Nat × Nat} (h:w.heap[g]? = some (.cells #[a,b] t f)):w.cell? ⟨g,0,none⟩=some a∧w.cell? ⟨g,1,none⟩=some b:=by
 refine ⟨?_,?_⟩
 · rw [cell_of_row w g 0 _ _ f h];rfl
 · rw [cell_of_row w g 1 _ _ f h];rfl
def
  ContT (w1 wr:World) (b:Nat) (l0 l1:List UInt8) (done:Bool) (W:World):Prop :=
 Below b w1 W∧b≤W.heap.size∧match done with
  | true=>Lib.IsBuilderF 100 5 b b (Lib.byteCells l1) W
  | false=>Lib.IsBuilderF 100 5 b b (Lib.byteCells l0) W∧Below wr.heap.size wr W
theorem contT_ext {w1 wr:World} {b:Nat} {l0 l1:List UInt8}:∀ (d:Bool) (W W':World),ContT w1 wr b l0 l1 d W→Ext W W'→ContT w1 wr b l0 l1 d W':=by
 intro d W W' ⟨h1,h2,h3⟩ hx
 refine ⟨h1.trans (Below.mono hx h2),Nat.le_trans h2 hx.size,?_⟩
 cases d with
 | true=>exact bF_ext h3 hx
 | false=>exact ⟨bF_ext h3.1 hx,h3.2.trans (Below.mono hx h3.2.size)⟩
set_option maxHeartbeats 1000000 in
set_option maxRecDepth 100000 in
theorem
    contents_any (f:Bool) (X:List Ar) (a:Option Addr) (n cap:Nat) (w:World) (hX:ArcS w a X) (hn:n=X.length) (hok:∀ x∈X,ArOk x) (hl:X.length≤10000) (ht:Tab w) :
  Calls Tryd.prog 25 #[.agg #[.bool f,.slice a n cap]] w fun e w'=>e=.returned (.string ⟨(keyL f X).toArray⟩)∧Below w.heap.size w w':=by
 subst hn
 have HX:=Lib.hid hX;have HOK:=Lib.hid hok;have HT:=Lib.hid ht;clear hX hok ht
 go_enter Tryd.func25,Tryd.ntmps25
 obtain ⟨w1,hw1⟩:∃ w1,w1=w.alloc (.cells #[.bool f,.slice a X.length cap] 70):=⟨_,rfl⟩
 have hw1s:w1.heap.size=w.heap.size+1:=by rw [hw1];simp
 have hB1:Below w.heap.size w w1:=by rw [hw1];exact (Below.refl _ _).alloc (Nat.le_refl _) _
 have HBOX:Hid (w1.heap[w.heap.size]? = some (.cells #[.bool f,.slice a X.length cap] 70 (0,0))):=by rw [hw1];exact heap_alloc_new _ _
 have HB1:=Lib.hid hB1
 have hbld:Lib.IsBuilderF 100 5 w1.heap.size w1.heap.size [] (w1.alloc (.cells #[.pointer none,.slice none 0 0] 100)):=.of (Lib.fresh_isBuilder _ _ _)
 obtain ⟨g1,hg1⟩:∃ g1,g1=w1.heap.size:=⟨_,rfl⟩
 rw [← hg1] at hbld
 have HBL:=Lib.hid hbld
 clear hbld hB1
 go_upto_region 2 with fail
 have hgs:w.heap.size+1=g1:=by omega
 rw [← hw1,hgs]
 clear hw1
 obtain ⟨w2,hw2⟩:∃ w2,w2=w1.alloc (.cells #[.pointer none,.slice none 0 0] 100):=⟨_,rfl⟩
 have HB2:Hid (Below g1 w1 w2):=by show Below _ _ _;rw [hw2];exact (Below.refl _ _).alloc (by omega) _
 rw [← hw2] at HBL ⊢
 clear hw2
 have hg2:g1≤w2.heap.size:=by have:=HB2.out.size;omega
 have c0:w2.cell? ⟨w.heap.size,0,none⟩=some (.bool f):=(HB2.out.cell (p:=⟨w.heap.size,0,none⟩) (by show w.heap.size<g1;omega)).trans (by rw [cell_of_row _ _ _ _ _ _ HBOX.out];rfl)
 obtain ⟨s0,hs0⟩:∃ s0:ByteArray,s0=⟨(Lib.formatBool f).toArray⟩:=⟨_,rfl⟩
 have HS0:=Lib.hid hs0
 have hsz0:s0.size≤140737488355328:=by rw [hs0];cases f <;> decide
 have hfb:=fb_any f
 rw [← hs0] at hfb
 have HFB:=Lib.hid hfb
 clear hs0 hfb
 have HGS:=Lib.hid hgs;have HW1S:=Lib.hid hw1s;have HG1:=Lib.hid hg1
 clear hgs hw1s hg1
 go_wp2_with fail
 refine (HFB.out _).mono ?_
 rintro e w' ⟨rfl,rfl⟩
 go_wp2_with fail
 refine (writeString_any g1 g1 [] s0 _ HBL.out (by simpa using hsz0) hg2).mono ?_
 rintro e w3 ⟨rfl,hbl3,hb3⟩
 have h0:([]:List Value) ++ Lib.strCells ⟨(Lib.formatBool f).toArray⟩=Lib.byteCells (keyL f []):=by
  simp [Lib.strCells,Lib.byteCells,keyL]
 rw [HS0.out,h0] at hbl3
 have HBL3:=Lib.hid hbl3
 have HB3:=Lib.hid (HB2.out.trans hb3)
 have hg3:=Nat.le_trans hg2 hb3.size
 clear hbl3 hb3 h0 c0
 have c1:w3.cell? ⟨w.heap.size,1,none⟩=some (.slice a X.length cap):=(HB3.out.cell (p:=⟨w.heap.size,1,none⟩) (by show w.heap.size<g1;have:=HGS.out;omega)).trans (by rw [cell_of_row _ _ _ _ _ _ HBOX.out];rfl)
 go_wp2
 go_loopw [13] (fun q wr=>∃ k:Nat,k≤X.length∧q=.int .i64 (k:Int)∧Lib.IsBuilderF 100 5 g1 g1 (Lib.byteCells (keyL f (X.take k))) wr∧Below g1 w1 wr∧g1≤wr.heap.size) (fun q _=>X.length - (intOf q).toNat)
 case atStart=>exact ⟨0,Nat.zero_le _,rfl,HBL3.out,HB3.out,hg3⟩
 case round =>
  obtain ⟨k,hk,rfl,hbl,hB,hgr⟩:=hrel
  have HBL:=Lib.hid hbl;have HB:=Lib.hid hB
  have HBw:=Lib.hid (HB1.out.trans (hB.mono (by have:=HGS.out;omega)))
  clear hbl hB
  by_cases hlt:k<X.length
  ·
   obtain ⟨
       b,o,ha,hb,q0,q1⟩:=(HX.out.later HBw.out (Nat.le_refl _)) k hlt
   have hidx:=idx_arcs a b o X.length cap k ha hlt
   have HSU:=Lib.hid (keyL_succ (f:=f) hlt)
   have hxo:=HOK.out X[k] (List.getElem_mem hlt)
   have hkl:=keyL_len (f:=f) (X:=X.take k) (fun x hx=>HOK.out x (List.mem_of_mem_take hx))
   have hkl2:(X.take k).length≤10000:=by have:=List.length_take_le' k X;omega
   have hxl:=arcL_len hxo
   obtain ⟨x,hx⟩:∃ x,X[k]=x:=⟨_,rfl⟩
   rw [hx] at q0 q1 HSU hxo hxl
   obtain ⟨xc,xt⟩:=x
   simp only [ArOk] at q0 q1 hxo
   obtain ⟨x0,x1,x2,x3⟩:=hxo
   clear ha hx
   go_upto_region 6 with fail
   obtain ⟨wy,hwy⟩:∃ wy,wy=wr.alloc (.cells #[.int .u8 xc,.int .i64 xt] 72):=⟨_,rfl⟩
   have hwb:Below wr.heap.size wr wy:=by rw [hwy];exact (Below.refl _ _).alloc (Nat.le_refl _) _
   have HV:Hid (wy.heap[wr.heap.size]? = some (.cells #[.int .u8 xc,.int .i64 xt] 72 (0,0))):=by rw [hwy];exact heap_alloc_new _ _
   have hws:wr.heap.size<wy.heap.size:=by rw [hwy];simp
   have HTY:Hid (ContT w1 wy g1 (keyL f (X.take k)) (keyL f (X.take k) ++ arcL ⟨xc,xt⟩) false wy) :=
    ⟨HB.out.trans (hwb.mono hgr),Nat.le_trans hgr hwb.size,bF_ext HBL.out hwb,Below.refl _ _⟩
   have HTB:Hid (Tab wy):=HT.out.later (HBw.out.trans (hwb.mono HBw.out.size))
   rw [← hwy]
   clear hwy hwb
   refine wp_region_st (by kernel_rfl) (Vs [vq (.pointer (some ⟨wr.heap.size,0,none⟩)),vq (.int .u8 xc),vq (.int .i32 xc),vq (.string ⟨#[UInt8.ofNat xc.toNat]⟩),vq (.string (⟨#[32]⟩ ++ ⟨#[UInt8.ofNat xc.toNat]⟩:ByteArray)),vq (.pointer (some ⟨wr.heap.size,1,none⟩)),vq (.int .i64 xt),vq (.string ⟨(Lib.itoa xt).toArray⟩),vq (.string ((⟨#[32]⟩ ++ ⟨#[UInt8.ofNat xc.toNat]⟩:ByteArray) ++ ⟨(Lib.itoa xt).toArray⟩:ByteArray)),fun _ _=>True]) (Xs [Ext,Ext,Ext,Ext,Ext,Ext,Ext,Ext,Ext,(fun _ _=>True)]) (fun fL=>(fun d W=>ContT w1 wy g1 (keyL f (X.take k)) (keyL f (X.take k) ++ arcL ⟨xc,xt⟩) d W) (fL 9)) [0,1,3,7,15,0,32,96,255,511] 29 10 (by kernel_rfl) rfl ?hV ?hS ?hop ?hfin ?hlast
   case hV =>
    refine xs_stays (vs_stays (by simp only [List.mem_cons,List.not_mem_nil,or_false,forall_eq_or_imp,forall_eq];exact ⟨stays_const _,stays_const _,stays_const _,stays_const _,stays_const _,stays_const _,stays_const _,stays_const _,stays_const _,fun _ _ _ _ _=>trivial⟩)) ?_
    exact ⟨.inl rfl,.inl rfl,.inl rfl,.inl rfl,.inl rfl,.inl rfl,.inl rfl,.inl rfl,.inl rfl,.inr (staysM_all ⟨fun _ _=>fun _ _ _ h _=>h,fun _ _=>fun _ _ _ h _=>h,fun _ _=>fun _ _ _ h _=>h,fun _ _=>fun _ _ _ h _=>h,fun _ _=>fun _ _ _ h _=>h,fun _ _=>fun _ _ _ h _=>h,fun _ _=>fun _ _ _ h _=>h,fun _ _=>fun _ _ _ h _=>h,fun _ _=>fun _ _ _ h _=>h,fun h=>absurd rfl h,trivial⟩),trivial⟩
   case hS =>
    intro fL hf
    show (fun d W=>ContT w1 wy g1 (keyL f (X.take k)) (keyL f (X.take k) ++ arcL ⟨xc,xt⟩) d W) (fL 9) _
    rw [hf 9 (by decide)]
    exact contT_ext _ _ _ HTY.out ⟨rfl,rfl,rfl,Nat.le_refl _,fun _ _=>rfl⟩
   case hop =>
    refine ⟨?_,?_,?_,?_,?_,?_,?_,?c7,?_,?c9,trivial⟩
    all_goals first | rw [if_neg (by decide)] | rw [if_pos (by decide)]
    all_goals try intro ac W fL hsz hfi hms hdn hS0 hdep hbase hund
    all_goals try have hS:(fun d W=>ContT w1 wy g1 (keyL f (X.take k)) (keyL f (X.take k) ++ arcL ⟨xc,xt⟩) d W) (fL 9) W:=hS0
    all_goals try (have hfl9:fL 9=true:=hms 9 (by decide);rw [hfl9] at hS)
    all_goals try (have hfl9:fL 9=false:=(by first | exact hfi | exact hdn 9 (by decide) (by decide));rw [hfl9] at hS)
    all_goals try (
     have henc:=enc_ascii xc x0 x1
     have hw32:IntKind.i32.wrap xc=xc:=IntWalk.i32_in _ (by omega)
     have hadd:2+(Lib.itoa xt).length≤9223372036854775807:=by simp only [arcL,List.length_cons] at hxl;omega
     have hbw:=hS.2.2.2
     obtain ⟨v0,v1⟩:=cells2 ((hbw.block wr.heap.size hws).trans HV.out))
    all_goals try have hh5:=gdA ac 5 (.pointer (some ⟨wr.heap.size,0,none⟩)) (hbase 5 (by kernel_rfl))
    all_goals try have hh3:=gdA ac 3 (.pointer (some ⟨g1,0,none⟩)) (hbase 3 (by kernel_rfl))
    all_goals try (have hdep:=depL hdep;simp [DepL,slotOf,vq] at hdep)
    all_goals try clear hbase hms hdn hund
    case c7 =>
     have hS1:(fun d W=>ContT w1 wy g1 (keyL f (X.take k)) (keyL f (X.take k) ++ arcL ⟨xc,xt⟩) d W) ((upd fL 7) 9) W:=hS0
     refine opOk_run rfl (.inr ⟨38,#[.int .i64 xt],W,by (clear hsz hS hS0 hS1 hfi;simp [go_sem,Act.eval, *]),?_⟩)
     refine (Tryd.strconv_Itoa xt (by omega) (by omega) W (HTB.out.later hbw)).mono ?_
     rintro e w' ⟨he,k',os,rfl⟩
     have hx:Ext W (Sort.grow (W.drewN k') os):=Lib.below_grow _ W (Nat.le_refl _) k' os
     exact ⟨_,he,rfl,hx,(show (fun d W=>ContT w1 wy g1 (keyL f (X.take k)) (keyL f (X.take k) ++ arcL ⟨xc,xt⟩) d W) ((upd fL 7) 9) _ by
      rw [show upd fL 7 9=fL 9 from if_neg (by decide)]
      exact contT_ext _ _ _ hS0 hx)⟩
    case c9 =>
     refine opOk_run rfl (.inr ⟨36,#[.pointer (some ⟨g1,0,none⟩),.string ((⟨#[32]⟩ ++ ⟨#[UInt8.ofNat xc.toNat]⟩:ByteArray) ++ ⟨(Lib.itoa xt).toArray⟩:ByteArray)],W,by (clear hsz hS hS0 hfi;simp [go_sem,Act.eval, *]),?_⟩)
     obtain ⟨hq1,hq2,hq3⟩:Below g1 w1 W∧g1≤W.heap.size∧Lib.IsBuilderF 100 5 g1 g1 (Lib.byteCells (keyL f (X.take k))) W:=⟨hS.1,hS.2.1,hS.2.2.1⟩
     have hlen:(Lib.byteCells (keyL f (X.take k))).length+(((⟨#[32]⟩ ++ ⟨#[UInt8.ofNat xc.toNat]⟩:ByteArray) ++ ⟨(Lib.itoa xt).toArray⟩:ByteArray)).size≤140737488355328:=by
      have hsz9:(((⟨#[32]⟩ ++ ⟨#[UInt8.ofNat xc.toNat]⟩:ByteArray) ++ ⟨(Lib.itoa xt).toArray⟩:ByteArray)).size=2+(Lib.itoa xt).length:=by
       rw [ByteArray.size_append,ByteArray.size_append]
       show 1+1+(Lib.itoa xt).toArray.size=_
       simp
      rw [Lib.byteCells_length,hsz9];simp only [arcL,List.length_cons] at hxl;omega
     have hwc:=writeString_any g1 g1 _ ((⟨#[32]⟩ ++ ⟨#[UInt8.ofNat xc.toNat]⟩:ByteArray) ++ ⟨(Lib.itoa xt).toArray⟩:ByteArray) W hq3 hlen hq2
     refine hwc.mono ?_
     clear hwc hS hS0
     rintro e w' ⟨he,hbl9,hb9⟩
     refine ⟨_,he,trivial,trivial,(show (fun d W=>ContT w1 wy g1 (keyL f (X.take k)) (keyL f (X.take k) ++ arcL ⟨xc,xt⟩) d W) ((upd fL 9) 9) _ by
      rw [show upd fL 9 9=true from if_pos rfl]
      exact ⟨hq1.trans hb9,Nat.le_trans hq2 hb9.size,by
       have e9:Lib.byteCells (keyL f (X.take k)) ++ Lib.strCells ((⟨#[32]⟩ ++ ⟨#[UInt8.ofNat xc.toNat]⟩:ByteArray) ++ ⟨(Lib.itoa xt).toArray⟩:ByteArray)=Lib.byteCells (keyL f (X.take k) ++ arcL ⟨xc,xt⟩):=by simp [Lib.strCells,Lib.byteCells,arcL]
       rw [e9] at hbl9;exact hbl9⟩)⟩
    all_goals (refine opOk_run rfl (.inl ⟨_,W,?_,rfl,Ext.refl _,hS0⟩);clear hsz hS hS0 hfi;simp [go_sem,Act.eval, *];done)
   case hlast =>
    intro h;exact absurd rfl h
   case hfin =>
    intro _ ac W hsz hdf fL hf hS0 hv hbase
    have hS:(fun d W=>ContT w1 wy g1 (keyL f (X.take k)) (keyL f (X.take k) ++ arcL ⟨xc,xt⟩) d W) (fL 9) W:=hS0
    clear hS0
    rw [hf 9 (by decide)] at hS
    obtain ⟨sx,hsx,hsA⟩:=act_puts [17,18,19,20,21,22,23,24,25,26] (by kernel_rfl) hsz hdf hbase
    rw [hsA]
    simp only [List.foldl]
    simp only [Act.put,List.setIfInBounds_toArray,List.set_cons_succ,List.set_cons_zero]
    clear hsA hsx hv hbase hsz hdf hf
    have HBX:=Lib.hid hS.1
    have HBL9:=Lib.hid hS.2.2
    have hg9:=hS.2.1
    clear hS
    rw [← HSU.out] at HBL9
    go_wp2_with fail
    go_roundw
    case rel=>exact ⟨k+1,by omega,by go_num,HBL9.out,HBX.out,hg9⟩
    case measure=>simp [intOf];omega
  ·
   have HA:Hid (keyL f (X.take k)=keyL f X):=by show _=_;rw [List.take_of_length_le (by omega)]
   go_wp2_with (go_at_call 39;refine (Tryd.Builder_String_any_k g1 g1 _ _ HBL.out hgr).mono ?_;rintro e w5 ⟨rfl,_,hb5,_⟩)
   go_ret
   exact ⟨ret_str' (by rw [HA.out]),HBw.out.trans (hb5.mono (by have:=HGS.out;omega))⟩
end Go.Proofs.YthjmdgejnakcmaaDoor
namespace Go.Proofs.YthjmdgejnakcmaaDoor
open Go.RowKit Go.WideShapes
set_option linter.unusedVariables false
set_option linter.unusedSimpArgs false
def byteAt (s:ByteArray) (d:Nat):Int:=((s.data.toList.getD d 0).toNat:Int)
theorem byteAt_get {s:ByteArray} {d:Nat} (h:d<s.size):byteAt s d=(s[d].toNat:Int):=by
 have h2:d<s.data.toList.length:=by simpa using h
 unfold byteAt
 rw [List.getD_eq_getElem?_getD,List.getElem?_eq_getElem h2];rfl
def addN (fin:Bool) (A:List Ar) (D:List Nd):Nat × List Nd :=
 if D.findIdx (fun x=>decide (keyL x.fin x.arcs=keyL fin A))<D.length then (D.findIdx (fun x=>decide (keyL x.fin x.arcs=keyL fin A)),D) else (D.length,D ++ [⟨fin,A⟩])
def grpN (d:Nat) (L:List ByteArray) (c:Int):Nat:=(L.takeWhile fun s=>decide (byteAt s d=c)).length
def armsW (rec:List ByteArray→List Nd→Nat × List Nd) (d:Nat):Nat→List ByteArray→List Ar→List Nd→List Ar × List Nd
 | 0,_,A,D=>(A,D)
 | _+1,[],A,D=>(A,D)
 | n+1,x :: r,A,D=>armsW rec d n ((x :: r).drop (grpN d (x :: r) (byteAt x d))) (A ++ [⟨byteAt x d,((rec ((x :: r).take (grpN d (x :: r) (byteAt x d))) D).1:Nat)⟩]) (rec ((x :: r).take (grpN d (x :: r) (byteAt x d))) D).2
def finB (d:Nat) (L:List ByteArray):Bool:=match L with | []=>false | x :: _=>decide (x.size=d)
def restL (d:Nat) (L:List ByteArray):List ByteArray:=if finB d L=true then L.tail else L
def
  nodeW:Nat→Nat→List ByteArray→List Nd→Nat × List Nd
 | 0,_,_,D=>(0,D)
 | m+1,d,L,D =>
  addN (finB d L) (armsW (nodeW m (d+1)) d (restL d L).length (restL d L) [] D).1 (armsW (nodeW m (d+1)) d (restL d L).length (restL d L) [] D).2
theorem grpN_pos {d:Nat} {x:ByteArray} {r:List ByteArray}:1≤grpN d (x :: r) (byteAt x d):=by
 unfold grpN
 rw [List.takeWhile_cons,if_pos (by simp)]
 simp
theorem grpN_le {d:Nat} {L:List ByteArray} {c:Int}:grpN d L c≤L.length:=(List.takeWhile_prefix _).length_le
theorem armsW_ge {rec:List ByteArray→List Nd→Nat × List Nd} {d:Nat} (hr:∀ L D,D.length≤(rec L D).2.length):∀ n L A D,D.length≤(armsW rec d n L A D).2.length
 | 0,_,_,_=>Nat.le_refl _
 | _+1,[],_,_=>Nat.le_refl _
 | n+1,x :: r,A,D=>by rw [armsW];exact Nat.le_trans (hr _ _) (armsW_ge hr n _ _ _)
theorem addN_ge (fin:Bool) (A:List Ar) (D:List Nd):D.length≤(addN fin A D).2.length:=by
 unfold addN;split <;> simp
theorem addN_le (fin:Bool) (A:List Ar) (D:List Nd):(addN fin A D).2.length≤D.length+1:=by
 unfold addN;split <;> simp
theorem addN_lt (fin:Bool) (A:List Ar) (D:List Nd):(addN fin A D).1<(addN fin A D).2.length:=by
 unfold addN;split
 · assumption
 · simp
theorem nodeW_ge:∀ m d L D,D.length≤(nodeW m d L D).2.length
 | 0,_,_,_=>Nat.le_refl _
 | m+1,d,L,D=>by rw [nodeW];exact Nat.le_trans (armsW_ge (nodeW_ge m (d+1)) _ _ _ _) (addN_ge _ _ _)
theorem armsW_le {rec:List ByteArray→List Nd→Nat × List Nd} {d k:Nat} (hr:∀ L D,L≠[]→(rec L D).2.length≤D.length+L.length*k):∀ n L A D,(armsW rec d n L A D).2.length≤D.length+L.length*k
 | 0,_,_,_=>Nat.le_add_right _ _
 | _+1,[],_,_=>Nat.le_add_right _ _
 | n+1,x :: r,A,D=>by
  rw [armsW]
  have h1:=grpN_pos (d:=d) (x:=x) (r:=r)
  have h2:=grpN_le (d:=d) (L:=x :: r) (c:=byteAt x d)
  have h3:=armsW_le (d:=d) hr n ((x :: r).drop (grpN d (x :: r) (byteAt x d))) (A ++ [⟨byteAt x d,((rec ((x :: r).take (grpN d (x :: r) (byteAt x d))) D).1:Nat)⟩]) (rec ((x :: r).take (grpN d (x :: r) (byteAt x d))) D).2
  have h4:=hr ((x :: r).take (grpN d (x :: r) (byteAt x d))) D (by intro h;have:=congrArg List.length h;rw [List.length_take] at this;simp at this;omega)
  rw [List.length_drop] at h3
  rw [List.length_take,Nat.min_eq_left h2] at h4
  have h5:((x :: r).length - grpN d (x :: r) (byteAt x d))*k+grpN d (x :: r) (byteAt x d)*k=(x :: r).length*k:=by rw [← Nat.add_mul];congr 1;omega
  omega
theorem restL_len (d:Nat) (L:List ByteArray):(restL d L).length≤L.length:=by
 unfold restL;split <;> simp
theorem nodeW_le:∀ m d L D,L≠[]→(nodeW m d L D).2.length≤D.length+L.length*m
 | 0,_,_,_,_=>Nat.le_add_right _ _
 | m+1,d,L,D,hL=>by
  rw [nodeW]
  have h1:=armsW_le (rec:=nodeW m (d+1)) (d:=d) (k:=m) (nodeW_le m (d+1)) (restL d L).length (restL d L) [] D
  have h2:=addN_le (finB d L) (armsW (nodeW m (d+1)) d (restL d L).length (restL d L) [] D).1 (armsW (nodeW m (d+1)) d (restL d L).length (restL d L) [] D).2
  have h3:(restL d L).length*m≤L.length*m:=Nat.mul_le_mul_right _ (restL_len d L)
  have h4:1≤L.length:=by cases L with | nil=>exact absurd rfl hL | cons=>simp
  have h5:L.length*(m+1)=L.length*m+L.length:=Nat.mul_succ _ _
  omega
theorem nodeW_lt (m d:Nat) (L:List ByteArray) (D:List Nd):(nodeW (m+1) d L D).1<(nodeW (m+1) d L D).2.length:=by
 rw [nodeW];exact addN_lt _ _ _
theorem nodeW_idx:∀ (m d:Nat) (L:List ByteArray) (D:List Nd),(nodeW m d L D).1≤(nodeW m d L D).2.length
 | 0,_,_,_=>Nat.zero_le _
 | m+1,d,L,D=>Nat.le_of_lt (nodeW_lt m d L D)
structure Pre (d m:Nat) (L:List ByteArray):Prop where
 ne:L≠[]
 ge:∀ x∈L,d≤x.size
 lt:∀ x∈L,x.size<d+m
 asc:∀ x∈L,∀ c∈x.data.toList,c.toNat<128
 same:∀ x∈L,∀ y∈L,x.data.toList.take d=y.data.toList.take d
 inc:L.Pairwise fun x y=>ltS x y=true
theorem less_len:∀ {a b:List UInt8} {d:Nat},a.take d=b.take d→d≤a.length→Op.bytesLess a b=true→d<b.length
 | _,[],d,_,_,h=>by unfold Op.bytesLess at h;cases h
 | [],y :: ys,d,he,hd,h=>by simp at hd;subst hd;simp
 | x :: xs,y :: ys,0,he,hd,h=>by simp
 | x :: xs,y :: ys,d+1,he,hd,h=>by
  simp only [List.take_succ_cons,List.cons.injEq] at he
  obtain ⟨rfl,he⟩:=he
  have hx:¬ x<x:=by rw [UInt8.lt_iff_toNat_lt];omega
  simp [Op.bytesLess,hx] at h
  have:=less_len (d:=d) he (by simpa using hd) h
  simpa using this
theorem size_list (x:ByteArray):x.size=x.data.toList.length:=by simp
theorem Pre.longer {d m:Nat} {x:ByteArray} {r:List ByteArray} (h:Pre d m (x :: r)):∀ y∈r,d<y.size:=by
 intro y hy
 have h1:=(List.pairwise_cons.1 h.inc).1 y hy
 rw [ltS,ByteArray.toList_eq,ByteArray.toList_eq] at h1
 have h2:=h.ge x (by simp)
 rw [size_list] at h2 ⊢
 exact less_len (h.same x (by simp) y (by simp [hy])) h2 h1
structure Rest (d m:Nat) (L:List ByteArray):Prop where
 gt:∀ x∈L,d<x.size
 lt:∀ x∈L,x.size<d+m
 asc:∀ x∈L,∀ c∈x.data.toList,c.toNat<128
 same:∀ x∈L,∀ y∈L,x.data.toList.take d=y.data.toList.take d
 inc:L.Pairwise fun x y=>ltS x y=true
theorem Pre.rest {d m:Nat} {L:List ByteArray} (h:Pre d m L):Rest d m (restL d L):=by
 cases L with
 | nil=>exact absurd rfl h.ne
 | cons x r =>
  unfold restL finB
  by_cases e:x.size=d
  ·
   rw [if_pos (by simpa using e)]
   exact ⟨h.longer,fun y hy=>h.lt y (List.mem_cons_of_mem _ hy),fun y hy=>h.asc y (List.mem_cons_of_mem _ hy),fun y hy z hz=>h.same y (List.mem_cons_of_mem _ hy) z (List.mem_cons_of_mem _ hz),(List.pairwise_cons.1 h.inc).2⟩
  ·
   rw [if_neg (by simpa using e)]
   refine ⟨fun y hy=>?_,h.lt,h.asc,h.same,h.inc⟩
   rcases List.mem_cons.1 hy with rfl | hy
   · have:=h.ge y (by simp);omega
   · exact h.longer y hy
theorem Rest.drop {d m:Nat} {L:List ByteArray} (h:Rest d m L) (k:Nat):Rest d m (L.drop k) :=
 ⟨fun x hx=>h.gt x (List.mem_of_mem_drop hx),fun x hx=>h.lt x (List.mem_of_mem_drop hx),fun x hx=>h.asc x (List.mem_of_mem_drop hx),fun x hx y hy=>h.same x (List.mem_of_mem_drop hx) y (List.mem_of_mem_drop hy),h.inc.drop⟩
theorem takeWhile_all {α:Type} {p:α→Bool} {L:List α} {x:α} (h:x∈L.take (L.takeWhile p).length):p x=true:=by
 have h2:L.take (L.takeWhile p).length=L.takeWhile p:=(List.prefix_iff_eq_take.1 (List.takeWhile_prefix p)).symm
 rw [h2] at h
 have h3:=List.all_takeWhile (p:=p) (l:=L)
 exact List.all_eq_true.1 h3 x h
theorem take_succ_byte {x y:ByteArray} {d:Nat} (hx:d<x.size) (hy:d<y.size) (h:x.data.toList.take d=y.data.toList.take d) (hb:byteAt x d=byteAt y d):x.data.toList.take (d+1)=y.data.toList.take (d+1):=by
 have h1:d<x.data.toList.length:=by rw [← size_list];exact hx
 have h2:d<y.data.toList.length:=by rw [← size_list];exact hy
 rw [List.take_succ_eq_append_getElem h1,List.take_succ_eq_append_getElem h2,h]
 congr 2
 have e:byteAt x d=(x.data.toList[d].toNat:Int):=by unfold byteAt;rw [List.getD_eq_getElem?_getD,List.getElem?_eq_getElem h1];rfl
 have e2:byteAt y d=(y.data.toList[d].toNat:Int):=by unfold byteAt;rw [List.getD_eq_getElem?_getD,List.getElem?_eq_getElem h2];rfl
 rw [e,e2] at hb
 exact UInt8.toNat_inj.1 (by omega)
theorem Rest.group {d m:Nat} {x:ByteArray} {r:List ByteArray} (h:Rest d (m+1) (x :: r)):Pre (d+1) m ((x :: r).take (grpN d (x :: r) (byteAt x d))):=by
 have hb:∀ y∈(x :: r).take (grpN d (x :: r) (byteAt x d)),byteAt y d=byteAt x d:=fun y hy=>by
  have:=takeWhile_all hy
  simpa using this
 have hm:∀ y∈(x :: r).take (grpN d (x :: r) (byteAt x d)),y∈x :: r:=fun y hy=>List.mem_of_mem_take hy
 refine ⟨fun e=>?_,fun y hy=>h.gt y (hm y hy),fun y hy=>by have:=h.lt y (hm y hy);omega,fun y hy=>h.asc y (hm y hy),fun y hy z hz=>?_,h.inc.take⟩
 ·
  have:=grpN_pos (d:=d) (x:=x) (r:=r)
  have h2:=congrArg List.length e
  rw [List.length_take] at h2;simp at h2;omega
 · exact take_succ_byte (h.gt y (hm y hy)) (h.gt z (hm z hz)) (h.same y (hm y hy) z (hm z hz)) ((hb y hy).trans (hb z hz).symm)
end Go.Proofs.YthjmdgejnakcmaaDoor
namespace Go.Proofs.YthjmdgejnakcmaaDoor
open Go.RowKit Go.WideShapes Go.Maps Go.WideMaps
set_option linter.unusedVariables false
set_option linter.unusedSimpArgs false
def ndKey (D:List Nd) (l:List UInt8):Nat:=D.findIdx fun x=>decide (keyL x.fin x.arcs=l)
def MapS (w:World) (g:Nat) (D:List Nd):Prop:=∃ (n:Nat) (M:DataW Unit),w.ownsMap Tryd.prog 9 (plainElem Tryd.prog 3) g n M∧n≤D.length ∧
 ∀ s:ByteArray,s.size≤maxLen→Maps.has M (.string s.data.toList)=decide (ndKey D s.data.toList<D.length)∧M.atKey (.string s.data.toList) (.lit (.int .i64 0))=.lit (.int .i64 (if ndKey D s.data.toList<D.length then (ndKey D s.data.toList:Int) else 0))
theorem keyedS:Keyed Tryd.prog 9:=string_keyed Tryd.underlying9
theorem MapS.new (w:World):MapS (w.alloc (.map #[] 0)) w.heap.size [] :=
 ⟨0,.map [],World.ownsMap_made _ _ _ _,Nat.le_refl _,fun s _=>⟨by simp [ndKey,Maps.has],by simp [ndKey,DataW.atKey]⟩⟩
theorem MapS.kept {w w1:World} {g:Nat} {D:List Nd} (h:MapS w g D) (hk:w1.heap[g]? = w.heap[g]?):MapS w1 g D:=by
 obtain ⟨n,M,⟨es,clock,hb,h1,h2,h3⟩,h4⟩:=h
 exact ⟨n,M,⟨es,clock,hk.trans hb,h1,h2,h3⟩,h4⟩
theorem MapS.obj {w:World} {g:Nat} {D:List Nd} (h:MapS w g D):∃ es c,w.heap[g]? = some (.map es c):=by
 obtain ⟨n,M,⟨es,clock,hb,_⟩,_⟩:=h
 exact ⟨es,clock,hb⟩
theorem MapS.look {w:World} {g:Nat} {D:List Nd} (h:MapS w g D) (s:ByteArray) (hs:s.size≤maxLen) :
  (Instr.lookup 55 (.map (some g)) (.string s) true).run Tryd.prog w=.ok (.tuple #[.int .i64 (if ndKey D s.data.toList<D.length then (ndKey D s.data.toList:Int) else 0),.bool (decide (ndKey D s.data.toList<D.length))]) w:=by
 obtain ⟨n,M,h1,_,h3⟩:=h
 obtain ⟨v,ps,hrun,hv⟩:=h1.look_ok keyedS Tryd.underlying55 (Tryd.zeroValue3 w) (plainElem_int (H:=Unit) Tryd.underlying3 (a:=0) (by decide)) (keyOf_string_mk Tryd.underlying9 hs)
 obtain ⟨e1,e2⟩:=h3 s hs
 rw [e2] at hv
 obtain ⟨a,rfl,hz,_⟩:=plainElem_int_inv Tryd.underlying3 hv
 rw [e1] at hrun
 have:a=if ndKey D s.data.toList<D.length then (ndKey D s.data.toList:Int) else 0:=by
  have:=congrArg Prod.fst hz
  simp only [DataW.lit.injEq,Lit.int.injEq,true_and] at this
  exact this.symm
 rw [← this]
 exact hrun
theorem ndKey_snoc {D:List Nd} {nd:Nd} {l:List UInt8}:ndKey (D ++ [nd]) l=if ndKey D l<D.length then ndKey D l else if keyL nd.fin nd.arcs=l then D.length else D.length+1:=by
 unfold ndKey
 rw [List.findIdx_append]
 split
 · rfl
 ·
  rw [List.findIdx_cons]
  by_cases h:keyL nd.fin nd.arcs=l
  · simp [h]
  · simp [h];omega
theorem wpList_mapUpdate_s {w:World} {g:Nat} {D:List Nd} {ops:Array Oper} {rest:List Oper} {o:Oper} {a:Act} {Q:Exit→Act→World→Prop} (h:MapS w g D) (nd:Nd) (s:ByteArray) (hk:keyL nd.fin nd.arcs=s.data.toList) (hs:s.size≤maxLen) (hno:¬ ndKey D s.data.toList<D.length) (hD:D.length<1000000)
  (hgd:o.guard=none) (m x v:Operand) (hop:o.op=Op.mapUpdate 55 m x v) (hm:a.eval m=.map (some g)) (hx:a.eval x=.string s) (hv:a.eval v=.int .i64 (D.length:Int))
  (hK:∀ w',MapS w' g (D ++ [nd])→w.grownBy w' (some g)→wpList Tryd.prog ops Q rest (a.put o.dst undef) w'):wpList Tryd.prog ops Q (o :: rest) a w:=by
 obtain ⟨n,M,h1,h2,h3⟩:=h
 have hwf:(Lit.int .i64 (D.length:Int)).wf=true:=by simp [Lit.wf,IntKind.min,IntKind.max,IntKind.bits,IntKind.signed];omega
 refine wpList_mapUpdate_own w hgd m x v _ hop _ _ keyedS Tryd.underlying55 _ g n M hm h1 (by unfold maxLen;omega) _ _ _ hx hv (keyOf_string_mk Tryd.underlying9 hs) _ _ (plainElem_int (H:=Unit) Tryd.underlying3 hwf) ?_
 intro w' hown hgr
 refine hK w' ⟨n+1,_,hown,by rw [List.length_append];simp;omega,fun t ht=>?_⟩ hgr
 have hM:IsMap M:=h1.isMap
 rw [ndKey_snoc]
 by_cases e:t=s
 ·
  subst e
  have hkl:WideAt.IsKeyLit (.string t.data.toList):=trivial
  rw [Maps.has_put_same hM hkl,Maps.atKey_put_same hM hkl,if_neg hno,if_pos hk]
  simp
 ·
  have hne:Lit.string t.data.toList≠Lit.string s.data.toList:=fun h=>e (bytes_inj (by injection h))
  rw [Maps.has_put_other hne,Maps.atKey_put_other hne]
  obtain ⟨e1,e2⟩:=h3 t ht
  rw [e1,e2]
  have hk2:¬ keyL nd.fin nd.arcs=t.data.toList:=fun h=>e (bytes_inj (by rw [← h,hk]))
  rw [if_neg hk2]
  by_cases hf:ndKey D t.data.toList<D.length
  · simp [hf];omega
  · simp [hf]
structure BSt (w:World) (B gB gM:Nat) (v:Value) (N:List NV) (D:List Nd):Prop where
 rep:w.heap[gB]? = some (.cells #[v,.map (some gM)] 57 (0,0))
 own:OwnG rowNode w B v N
 len:N.length=D.length
 arcs:∀ k (h:k<N.length) (h2:k<D.length),N[k].fin=D[k].fin∧OwnG rowArc w B (.slice N[k].a N[k].n N[k].c) D[k].arcs
 map:MapS w gM D
 gB:B≤gB
 gM:B≤gM
structure Fr (gB gM:Nat) (vb:Option Nat) (w w':World):Prop where
 os:w'.os=w.os
 tape:w'.tape=w.tape
 output:w'.output=w.output
 size:w.heap.size≤w'.heap.size
 block:∀ q,q<w.heap.size→q≠gB→q≠gM→vb≠some q→w'.heap[q]? = w.heap[q]?
theorem Fr.refl (gB gM:Nat) (vb:Option Nat) (w:World):Fr gB gM vb w w:=⟨rfl,rfl,rfl,Nat.le_refl _,fun _ _ _ _ _=>rfl⟩
def NewRow (vb vb1:Option Nat) (n:Nat):Prop:=vb1=vb∨∀ q,vb1=some q→n≤q
theorem NewRow.trans {a b c:Option Nat} {n m:Nat} (h:NewRow a b n) (h2:NewRow b c m) (hnm:n≤m):NewRow a c n:=by
 rcases h2 with rfl | h2
 · exact h
 · exact .inr fun q hq=>Nat.le_trans hnm (h2 q hq)
theorem Fr.trans {gB gM:Nat} {vb vb1:Option Nat} {a b c:World} (h:Fr gB gM vb a b) (h2:Fr gB gM vb1 b c) (hn:NewRow vb vb1 a.heap.size):Fr gB gM vb a c :=
 ⟨h2.os.trans h.os,h2.tape.trans h.tape,h2.output.trans h.output,Nat.le_trans h.size h2.size,fun q hq h3 h4 h5=>(h2.block q (Nat.lt_of_lt_of_le hq h.size) h3 h4 (by
  rcases hn with rfl | hn
  · exact h5
  · intro e;have:=hn q e;omega)).trans (h.block q hq h3 h4 h5)⟩
theorem Fr.of_below {gB gM:Nat} {vb:Option Nat} {w w':World} (h:Below w.heap.size w w'):Fr gB gM vb w w':=⟨h.os,h.tape,h.output,h.size,fun q hq _ _ _=>h.block q hq⟩
theorem BSt.keep {w w':World} {B gB gM:Nat} {v:Value} {N:List NV} {D:List Nd} (h:BSt w B gB gM v N D) (hk:∀ q,q<w.heap.size→(q=gB∨q=gM∨v.ownBlock=some q∨∃ x∈N,(Value.slice x.a x.n x.c).ownBlock=some q)→w'.heap[q]? = w.heap[q]?):BSt w' B gB gM v N D:=by
 obtain ⟨es,c,hm⟩:=h.map.obj
 refine ⟨(hk gB (Array.getElem?_eq_some_iff.1 h.rep).1 (.inl rfl)).trans h.rep,h.own.keep fun g hg=>hk g (h.own.lt g hg) (.inr (.inr (.inl hg))),h.len,fun k h1 h2=>⟨(h.arcs k h1 h2).1,(h.arcs k h1 h2).2.keep fun g hg=>hk g ((h.arcs k h1 h2).2.lt g hg) (.inr (.inr (.inr ⟨N[k],List.getElem_mem h1,hg⟩)))⟩,h.map.kept (hk gM (Array.getElem?_eq_some_iff.1 hm).1 (.inr (.inl rfl))),h.gB,h.gM⟩
theorem BSt.ext {w w':World} {B gB gM:Nat} {v:Value} {N:List NV} {D:List Nd} (h:BSt w B gB gM v N D) (hx:Ext w w'):BSt w' B gB gM v N D:=h.keep fun q hq _=>Below.block hx q hq
end Go.Proofs.YthjmdgejnakcmaaDoor
namespace Go.Proofs.YthjmdgejnakcmaaDoor
set_option linter.unusedVariables false
set_option linter.unusedSimpArgs false
abbrev Wd:=List UInt8
abbrev Rst:=List (List UInt8)
def afterL (R:Rst) (c:Nat):Rst:=R.filterMap fun s=>match s with | []=>none | b :: t=>if b.toNat=c then some t else none
def finR (R:Rst):Bool:=match R with | [] :: _=>true | _=>false
def grpR (lo n:Nat) (R:Rst):List (Nat × Rst):=(List.range' lo n).filterMap fun c=>if afterL R c=[] then none else some (c,afterL R c)
def grp (R:Rst):List (Nat × Rst):=grpR 33 94 R
def SortR (R:Rst):Prop:=R.Pairwise fun a b=>Op.bytesLess a b=true
def Heads (lo n:Nat) (R:Rst):Prop:=∀ s∈R,∃ b t,s=b :: t∧lo≤b.toNat∧b.toNat<lo+n
def BytesR (R:Rst):Prop:=∀ s∈R,∀ b∈s,33≤UInt8.toNat b∧UInt8.toNat b<127
theorem less_cons {a b:UInt8} {x y:Wd}:Op.bytesLess (a :: x) (b :: y)=true↔a.toNat<b.toNat∨(a=b∧Op.bytesLess x y=true):=by
 simp only [Op.bytesLess,Bool.or_eq_true,Bool.and_eq_true,decide_eq_true_eq,beq_iff_eq,UInt8.lt_iff_toNat_lt]
theorem less_irr:∀ x:Wd,Op.bytesLess x x=false
 | []=>rfl
 | a :: x=>by
  have h:¬ a<a:=by rw [UInt8.lt_iff_toNat_lt];omega
  simp [Op.bytesLess,h,less_irr x]
theorem less_pre:∀ (p:Wd) {x y:Wd},Op.bytesLess (p ++ x) (p ++ y)=Op.bytesLess x y
 | [],_,_=>rfl
 | a :: p,x,y=>by
  have h:¬ a<a:=by rw [UInt8.lt_iff_toNat_lt];omega
  simp [Op.bytesLess,h,less_pre p]
theorem less_nil {x:Wd}:Op.bytesLess x []=false:=by cases x <;> rfl
theorem SortR.tail {x:Wd} {R:Rst} (h:SortR (x :: R)):SortR R:=(List.pairwise_cons.1 h).2
theorem SortR.nonempty {x:Wd} {R:Rst} (h:SortR (x :: R)):∀ s∈R,s≠[]:=fun s hs e=>by
 have:=(List.pairwise_cons.1 h).1 s hs
 rw [e,less_nil] at this;cases this
theorem afterL_yes {b:UInt8} {t:Wd} {R:Rst} {c:Nat} (h:b.toNat=c):afterL ((b :: t) :: R) c=t :: afterL R c:=by simp [afterL,h]
theorem afterL_mem {R:Rst} {c:Nat} {t:Wd}:t∈afterL R c↔∃ b:UInt8,b.toNat=c∧b :: t∈R:=by
 unfold afterL
 rw [List.mem_filterMap]
 constructor
 ·
  rintro ⟨s,hs,h⟩
  cases s with
  | nil=>cases h
  | cons b u =>
   simp only at h
   split at h
   · injection h with h;subst h;exact ⟨b,by assumption,hs⟩
   · cases h
 ·
  rintro ⟨b,hb,h⟩
  exact ⟨_,h,by simp [hb]⟩
theorem afterL_append (P Q:Rst) (c:Nat):afterL (P ++ Q) c=afterL P c ++ afterL Q c:=List.filterMap_append
theorem
    afterL_sort {R:Rst} {c:Nat} (h:SortR R):SortR (afterL R c):=by
 unfold SortR afterL
 rw [List.pairwise_filterMap]
 refine List.Pairwise.imp ?_ h
 intro a b hab t ht u hu
 cases a with
 | nil=>cases ht
 | cons x a =>
  cases b with
  | nil=>cases hu
  | cons y b =>
   simp only at ht hu
   split at ht
   ·
    split at hu
    ·
     injection ht with ht;injection hu with hu
     subst ht hu
     rcases less_cons.1 hab with h | ⟨_,h⟩
     · omega
     · exact h
    · cases hu
   · cases ht
theorem afterL_bytes {R:Rst} {c:Nat} (h:BytesR R):BytesR (afterL R c):=fun s hs b hb=>by
 obtain ⟨x,_,hx⟩:=afterL_mem.1 hs
 exact h _ hx b (List.mem_cons_of_mem _ hb)
theorem
    heads_split {b:UInt8} {n:Nat}:∀ {R:Rst},SortR R→Heads b.toNat n R→afterL R b.toNat=(R.takeWhile fun s=>s.head? == some b).map List.tail ∧
  Heads (b.toNat+1) (n - 1) (R.dropWhile fun s=>s.head? == some b)∧(R.takeWhile fun s=>s.head? == some b).map (fun s=>b :: s.tail)=(R.takeWhile fun s=>s.head? == some b)
 | [],_,_=>⟨rfl,fun s hs=>by simp at hs,rfl⟩
 | x
   :: r,hs,hh=>by
  obtain ⟨y,t,rfl,h1,h2⟩:=hh x (by simp)
  by_cases e:y=b
  ·
   subst e
   obtain ⟨i1,i2,i3⟩:=heads_split (R:=r) (hs.tail) fun s hsr=>hh s (List.mem_cons_of_mem _ hsr)
   simp only [List.takeWhile_cons,List.dropWhile_cons,List.head?_cons,beq_self_eq_true,if_true,List.map_cons,List.tail_cons]
   exact ⟨by rw [afterL_yes rfl,i1],i2,by rw [i3]⟩
  ·
   have hne:((y :: t).head? == some b)=false:=by simpa using e
   simp only [List.takeWhile_cons,List.dropWhile_cons,hne,Bool.false_eq_true,if_false]
   have hlt:b.toNat<y.toNat:=by
    have:y.toNat≠b.toNat:=fun h=>e (UInt8.toNat_inj.1 h)
    omega
   have hall:∀ s∈(y :: t) :: r,∃ c u,s=c :: u∧b.toNat+1≤c.toNat∧c.toNat<b.toNat+n:=fun s hsr=>by
    obtain ⟨c,u,rfl,h3,h4⟩:=hh s hsr
    refine ⟨c,u,rfl,?_,h4⟩
    rcases List.mem_cons.1 hsr with h5 | h5
    · injection h5 with h5;subst h5;omega
    ·
     rcases less_cons.1 ((List.pairwise_cons.1 hs).1 _ h5) with h6 | ⟨h6,_⟩
     · omega
     · subst h6;omega
   refine ⟨?_,fun s hsr=>?_,rfl⟩
   ·
    rw [List.map_nil]
    unfold afterL
    rw [List.filterMap_eq_nil_iff]
    intro s hsr
    obtain ⟨c,u,rfl,h3,_⟩:=hall s hsr
    simp;omega
   ·
    obtain ⟨c,u,rfl,h3,h4⟩:=hall s hsr
    exact ⟨c,u,rfl,h3,by omega⟩
theorem afterL_out {lo n c:Nat} {R:Rst} (h:Heads lo n R) (hc:c<lo∨lo+n≤c):afterL R c=[]:=by
 unfold afterL
 rw [List.filterMap_eq_nil_iff]
 intro s hs
 obtain ⟨b,t,rfl,h3,h4⟩:=h s hs
 simp;omega
theorem takeWhile_head {b:UInt8} {R:Rst} {c:Nat} (hc:c≠b.toNat):afterL (R.takeWhile fun s=>s.head? == some b) c=[]:=by
 unfold afterL
 rw [List.filterMap_eq_nil_iff]
 intro s hs
 have h:=List.all_takeWhile (p:=fun s:Wd=>s.head? == some b) (l:=R)
 have h2:=List.all_eq_true.1 h s hs
 cases s with
 | nil=>rfl
 | cons y t =>
  have:y=b:=by simpa using h2
  subst this
  simp;omega
theorem afterL_drop {b:UInt8} {R:Rst} {c:Nat} (hc:c≠b.toNat):afterL R c=afterL (R.dropWhile fun s=>s.head? == some b) c:=by
 conv=>lhs;rw [← List.takeWhile_append_dropWhile (p:=fun s:Wd=>s.head? == some b) (l:=R)]
 rw [afterL_append,takeWhile_head hc];rfl
theorem grpR_nil (lo n:Nat):grpR lo n []=[]:=by
 unfold grpR
 rw [List.filterMap_eq_nil_iff]
 intro c _;rfl
theorem fm_congr {α β:Type} {f g:α→Option β}:∀ {l:List α},(∀ x∈l,f x=g x)→l.filterMap f=l.filterMap g
 | [],_=>rfl
 | x :: r,h=>by rw [List.filterMap_cons,List.filterMap_cons,h x (by simp),fm_congr fun y hy=>h y (List.mem_cons_of_mem _ hy)]
theorem grpR_congr {lo n:Nat} {R Q:Rst} (h:∀ c,lo≤c→c<lo+n→afterL R c=afterL Q c):grpR lo n R=grpR lo n Q:=by
 unfold grpR
 refine fm_congr fun c hc=>?_
 have:=List.mem_range'_1.1 hc
 rw [h c this.1 this.2]
theorem grpR_cons {lo n:Nat} {b:UInt8} {t:Wd} {r:Rst} (hs:SortR ((b :: t) :: r)) (hh:Heads lo n ((b :: t) :: r)) :
  grpR lo n ((b :: t) :: r)=(b.toNat,(((b :: t) :: r).takeWhile fun s=>s.head? == some b).map List.tail) :: grpR (b.toNat+1) (lo+n - (b.toNat+1)) (((b :: t) :: r).dropWhile fun s=>s.head? == some b):=by
 obtain ⟨b',t',e,h1,h2⟩:=hh (b :: t) (by simp)
 injection e with e1 e2
 subst e1 e2
 have hall:Heads b.toNat (lo+n - b.toNat) ((b :: t) :: r):=fun s hsr=>by
  obtain ⟨c,u,rfl,h3,h4⟩:=hh s hsr
  refine ⟨c,u,rfl,?_,by omega⟩
  rcases List.mem_cons.1 hsr with h5 | h5
  · injection h5 with h5;subst h5;exact Nat.le_refl _
  ·
   rcases less_cons.1 ((List.pairwise_cons.1 hs).1 _ h5) with h6 | ⟨h6,_⟩
   · omega
   · subst h6;exact Nat.le_refl _
 obtain ⟨i1,i2,_⟩:=heads_split hs hall
 have hr:List.range' lo n=List.range' lo (b.toNat - lo) ++ (b.toNat :: List.range' (b.toNat+1) (lo+n - (b.toNat+1))):=by
  have e1:b.toNat :: List.range' (b.toNat+1) (lo+n - (b.toNat+1))=List.range' b.toNat (lo+n - b.toNat):=by
   rw [show lo+n - b.toNat=(lo+n - (b.toNat+1))+1 from by omega,List.range'_succ]
  rw [e1]
  have:=List.range'_append (s:=lo) (m:=b.toNat - lo) (n:=lo+n - b.toNat) (step:=1)
  rw [show lo+1*(b.toNat - lo)=b.toNat from by omega,show b.toNat - lo+(lo+n - b.toNat)=n from by omega] at this
  exact this.symm
 have hne:afterL ((b :: t) :: r) b.toNat≠[]:=by rw [afterL_yes rfl];simp
 have hcg:=grpR_congr (lo:=b.toNat+1) (n:=lo+n - (b.toNat+1)) (R:=(b :: t) :: r) (Q:=((b :: t) :: r).dropWhile fun s=>s.head? == some b) fun c h3 h4=>afterL_drop (by omega)
 rw [← hcg,← i1]
 unfold grpR
 rw [hr,List.filterMap_append,List.filterMap_cons,if_neg hne]
 have hz:(List.range' lo (b.toNat - lo)).filterMap (fun c=>if afterL ((b :: t) :: r) c=[] then none else some (c,afterL ((b :: t) :: r) c))=[]:=by
  rw [List.filterMap_eq_nil_iff]
  intro c hc
  have:=List.mem_range'_1.1 hc
  rw [afterL_out hall (.inl (by omega)),if_pos rfl]
 rw [hz];rfl
def catG (G:List (Nat × Rst)):Rst:=G.flatMap fun g=>g.2.map (UInt8.ofNat g.1 :: ·)
theorem takeWhile_le {b:UInt8} {R:Rst}:(R.dropWhile fun s=>s.head? == some b).length≤R.length:=(List.dropWhile_sublist _).length_le
theorem sort_drop {b:UInt8} {R:Rst} (h:SortR R):SortR (R.dropWhile fun s=>s.head? == some b):=List.Pairwise.sublist (List.dropWhile_sublist _) h
theorem heads_drop {b:UInt8} {t:Wd} {r:Rst} {lo n:Nat} (hs:SortR ((b :: t) :: r)) (hh:Heads lo n ((b :: t) :: r)):Heads (b.toNat+1) (lo+n - (b.toNat+1)) (((b :: t) :: r).dropWhile fun s=>s.head? == some b):=by
 have hall:Heads b.toNat (lo+n - b.toNat) ((b :: t) :: r):=fun s hsr=>by
  obtain ⟨c,u,rfl,h3,h4⟩:=hh s hsr
  refine ⟨c,u,rfl,?_,by omega⟩
  rcases List.mem_cons.1 hsr with h5 | h5
  · injection h5 with h5;subst h5;exact Nat.le_refl _
  ·
   rcases less_cons.1 ((List.pairwise_cons.1 hs).1 _ h5) with h6 | ⟨h6,_⟩
   · omega
   · subst h6;exact Nat.le_refl _
 have:=(heads_split hs hall).2.1
 rwa [show lo+n - b.toNat - 1=lo+n - (b.toNat+1) from by omega] at this
theorem
    catG_grpR:∀ (k lo n:Nat) (R:Rst),R.length≤k→SortR R→Heads lo n R→catG (grpR lo n R)=R
 | _,_,_,[],_,_,_=>by rw [grpR_nil];rfl
 | 0,_,_,_ :: _,h,_,_=>by simp at h
 | k
   +
    1,lo,n,x :: r,hk,hs,hh=>by
  obtain ⟨b,t,rfl,h1,h2⟩:=hh x (by simp)
  rw [grpR_cons hs hh]
  have hall:Heads b.toNat (lo+n - b.toNat) ((b :: t) :: r):=fun s hsr=>by
   obtain ⟨c,u,rfl,h3,h4⟩:=hh s hsr
   refine ⟨c,u,rfl,?_,by omega⟩
   rcases List.mem_cons.1 hsr with h5 | h5
   · injection h5 with h5;subst h5;exact Nat.le_refl _
   ·
    rcases less_cons.1 ((List.pairwise_cons.1 hs).1 _ h5) with h6 | ⟨h6,_⟩
    · omega
    · subst h6;exact Nat.le_refl _
  obtain ⟨i1,i2,i3⟩:=heads_split hs hall
  have hd:(((b :: t) :: r).dropWhile fun s=>s.head? == some b)=r.dropWhile fun s=>s.head? == some b:=by simp [List.dropWhile_cons]
  have ih:=catG_grpR k (b.toNat+1) (lo+n - (b.toNat+1)) (((b :: t) :: r).dropWhile fun s=>s.head? == some b) (by rw [hd];have:=takeWhile_le (b:=b) (R:=r);simp at hk;omega) (sort_drop hs) (heads_drop hs hh)
  unfold catG at ih ⊢
  rw [List.flatMap_cons,ih]
  simp only [UInt8.ofNat_toNat,List.map_map]
  have:(fun s:Wd=>b :: s) ∘ List.tail=fun s:Wd=>b :: s.tail:=rfl
  rw [this,i3]
  exact List.takeWhile_append_dropWhile
theorem grp_fin {R:Rst}:grp ([] :: R)=grp R:=rfl
theorem heads_of {R:Rst} (hb:BytesR R) (hn:∀ s∈R,s≠[]):Heads 33 94 R:=fun s hs=>by
 cases s with
 | nil=>exact absurd rfl (hn _ hs)
 | cons b t=>exact ⟨b,t,rfl,(hb _ hs b (by simp)).1,(hb _ hs b (by simp)).2⟩
theorem
    recon {R:Rst} (hs:SortR R) (hb:BytesR R):R=(if finR R=true then [[]] else []) ++ catG (grp R):=by
 cases R with
 | nil=>unfold grp;rw [grpR_nil];rfl
 | cons x r =>
  cases x with
  | nil =>
   have h1:finR ([] :: r)=true:=rfl
   rw [if_pos h1,grp_fin]
   have:=catG_grpR r.length 33 94 r (Nat.le_refl _) hs.tail (heads_of (fun s h=>hb s (List.mem_cons_of_mem _ h)) hs.nonempty)
   unfold grp
   rw [this];rfl
  | cons b t =>
   have h1:finR ((b :: t) :: r)=false:=rfl
   rw [h1]
   have hh:Heads 33 94 ((b :: t) :: r):=heads_of hb fun s h=>by
    rcases List.mem_cons.1 h with rfl | h
    · simp
    · exact hs.nonempty s h
   have:=catG_grpR _ 33 94 _ (Nat.le_refl _) hs hh
   unfold grp
   rw [this];simp
theorem recon_inj {R Q:Rst} (hs:SortR R) (hb:BytesR R) (hs2:SortR Q) (hb2:BytesR Q) (hf:finR R=finR Q) (hg:grp R=grp Q):R=Q:=by
 rw [recon hs hb,recon hs2 hb2,hf,hg]
theorem grp_mem {R:Rst} {g:Nat × Rst} (h:g∈grp R):33≤g.1∧g.1<127∧g.2=afterL R g.1∧g.2≠[]:=by
 unfold grp grpR at h
 obtain ⟨c,hc,h2⟩:=List.mem_filterMap.1 h
 have:=List.mem_range'_1.1 hc
 split at h2
 · cases h2
 ·
  injection h2 with h2;subst h2
  exact ⟨this.1,this.2,rfl,by assumption⟩
theorem grp_len (R:Rst):(grp R).length≤94:=by
 have:=List.length_filterMap_le (fun c=>if afterL R c=[] then none else some (c,afterL R c)) (List.range' 33 94)
 simpa [grp,grpR] using this
def valD (l:List UInt8):Nat:=l.foldl (fun a c=>a*10+(c.toNat - 48)) 0
theorem
    decD (u:Nat):valD (Lib.decDigits u)=u∧∀ c∈Lib.decDigits u,48≤c.toNat:=by
 induction u using Nat.strongRecOn with
 | _
   u
    ih =>
  rw [Lib.decDigits]
  have h1:∀ k,k<10→(UInt8.ofNat (48+k)).toNat=48+k:=fun k hk=>by
   rw [UInt8.toNat_ofNat'];omega
  split
  ·
   rename_i h
   refine ⟨?_,fun c hc=>?_⟩
   · simp only [valD,List.foldl_cons,List.foldl_nil,h1 u h];omega
   · obtain rfl:=List.mem_singleton.1 hc;rw [h1 u h];omega
  ·
   rename_i h
   obtain ⟨i1,i2⟩:=ih (u / 10) (by omega)
   have h2:=h1 (u % 10) (by omega)
   refine ⟨?_,fun c hc=>?_⟩
   ·
    unfold valD at i1 ⊢
    rw [List.foldl_append,i1]
    simp only [List.foldl_cons,List.foldl_nil,h2];omega
   ·
    rcases List.mem_append.1 hc with hc | hc
    · exact i2 c hc
    · obtain rfl:=List.mem_singleton.1 hc;rw [h2];omega
theorem tw_digits {l r:List UInt8} (h:∀ c∈l,48≤c.toNat) (hr:r=[]∨∃ q,r=32 :: q):(l ++ r).takeWhile (fun c=>decide (48≤UInt8.toNat c))=l∧(l ++ r).dropWhile (fun c=>decide (48≤UInt8.toNat c))=r:=by
 induction l with
 | nil =>
  rcases hr with rfl | ⟨q,rfl⟩
  · exact ⟨rfl,rfl⟩
  ·
   have:(decide (48≤UInt8.toNat (32:UInt8)))=false:=rfl
   simp [List.takeWhile_cons,List.dropWhile_cons]
 | cons c l ih =>
  have hc:=h c (by simp)
  obtain ⟨i1,i2⟩:=ih fun d hd=>h d (List.mem_cons_of_mem _ hd)
  simp only [List.cons_append,List.takeWhile_cons,List.dropWhile_cons,hc,decide_true,if_true]
  exact ⟨by rw [i1],i2⟩
theorem flat_head (X:List Ar):X.flatMap arcL=[]∨∃ q,X.flatMap arcL=32 :: q:=by
 cases X with
 | nil=>exact .inl rfl
 | cons x r=>exact .inr ⟨_,rfl⟩
def ArPos (x:Ar):Prop:=0≤x.c∧x.c<256∧0≤x.t
theorem flat_inj:∀ {X Y:List Ar},(∀ x∈X,ArPos x)→(∀ x∈Y,ArPos x)→X.flatMap arcL=Y.flatMap arcL→X=Y
 | [],[],_,_,_=>rfl
 | [],y :: s,_,_,h=>by rw [List.flatMap_nil,List.flatMap_cons,arcL] at h;cases h
 | x :: r,[],_,_,h=>by rw [List.flatMap_nil,List.flatMap_cons,arcL] at h;cases h
 | x
   :: r,y :: s,hX,hY,h=>by
  rw [List.flatMap_cons,List.flatMap_cons,arcL,arcL] at h
  simp only [List.cons_append,List.cons.injEq,true_and] at h
  obtain ⟨h1,h2⟩:=h
  obtain ⟨x0,x1,x2⟩:=hX x (by simp)
  obtain ⟨y0,y1,y2⟩:=hY y (by simp)
  have e1:Lib.itoa x.t=Lib.decDigits x.t.toNat:=by rw [Lib.itoa,if_neg (by omega)]
  have e2:Lib.itoa y.t=Lib.decDigits y.t.toNat:=by rw [Lib.itoa,if_neg (by omega)]
  rw [e1,e2] at h2
  obtain ⟨a1,a2⟩:=tw_digits (decD x.t.toNat).2 (flat_head r)
  obtain ⟨b1,b2⟩:=tw_digits (decD y.t.toNat).2 (flat_head s)
  rw [h2] at a1 a2
  have h3:Lib.decDigits x.t.toNat=Lib.decDigits y.t.toNat:=a1.symm.trans b1
  have h4:r.flatMap arcL=s.flatMap arcL:=a2.symm.trans b2
  have h5:=flat_inj (fun z hz=>hX z (List.mem_cons_of_mem _ hz)) (fun z hz=>hY z (List.mem_cons_of_mem _ hz)) h4
  have h6:x.t=y.t:=by
   have:=congrArg valD h3
   rw [(decD _).1,(decD _).1] at this;omega
  have h7:x.c=y.c:=by
   have:=congrArg UInt8.toNat h1
   rw [UInt8.toNat_ofNat',UInt8.toNat_ofNat'] at this
   omega
  obtain ⟨xc,xt⟩:=x
  obtain ⟨yc,yt⟩:=y
  simp only at h6 h7
  rw [h5,h6,h7]
theorem keyL_inj {f g:Bool} {X Y:List Ar} (hX:∀ x∈X,ArPos x) (hY:∀ x∈Y,ArPos x) (h:keyL f X=keyL g Y):f=g∧X=Y:=by
 unfold keyL at h
 have hT:Lib.formatBool true=[116,114,117,101]:=by decide
 have hF:Lib.formatBool false=[102,97,108,115,101]:=by decide
 cases f <;> cases g <;> simp only [hT,hF,List.cons_append,List.nil_append,List.cons.injEq] at h
 · exact ⟨rfl,flat_inj hX hY h.2.2.2.2.2⟩
 · exact absurd h.1 (by decide)
 · exact absurd h.1 (by decide)
 · exact ⟨rfl,flat_inj hX hY h.2.2.2.2⟩
inductive Arcs (R:List Rst) (n:Nat):List (Nat × Rst)→List Ar→Prop
 | nil:Arcs R n [] []
 | cons {c t:Nat} {g:Rst} {G:List (Nat × Rst)} {X:List Ar}:c<256→t<n→R[t]? = some g→Arcs R n G X→Arcs R n ((c,g) :: G) (⟨(c:Int),(t:Int)⟩ :: X)
theorem Arcs.mono {R R':List Rst} {n n':Nat} {G:List (Nat × Rst)} {X:List Ar} (h:Arcs R n G X) (hR:R <+: R') (hn:n≤n'):Arcs R' n' G X:=by
 induction h with
 | nil=>exact .nil
 | cons h1 h2 h3 _ ih =>
  refine .cons h1 (by omega) ?_ ih
  obtain ⟨E,rfl⟩:=hR
  obtain ⟨hl,he⟩:=List.getElem?_eq_some_iff.1 h3
  rw [List.getElem?_append_left hl];exact h3
theorem Arcs.snoc {R:List Rst} {n:Nat} {G:List (Nat × Rst)} {X:List Ar} {c t:Nat} {g:Rst} (h:Arcs R n G X) (hc:c<256) (ht:t<n) (hg:R[t]? = some g):Arcs R n (G ++ [(c,g)]) (X ++ [⟨(c:Int),(t:Int)⟩]):=by
 induction h with
 | nil=>exact .cons hc ht hg .nil
 | cons h1 h2 h3 _ ih=>exact .cons h1 h2 h3 ih
theorem Arcs.len {R:List Rst} {n:Nat} {G:List (Nat × Rst)} {X:List Ar} (h:Arcs R n G X):X.length=G.length:=by
 induction h with
 | nil=>rfl
 | cons _ _ _ _ ih=>simp [ih]
theorem Arcs.mem {R:List Rst} {n:Nat} {G:List (Nat × Rst)} {X:List Ar} (h:Arcs R n G X):∀ x∈X,ArPos x∧x.t<(n:Int):=by
 induction h with
 | nil=>intro x hx;cases hx
 | cons h1 h2 h3 _ ih =>
  intro x hx
  rcases List.mem_cons.1 hx with rfl | hx
  · exact ⟨⟨by simp,by simp;omega,by simp⟩,by simp;omega⟩
  · exact ih x hx
theorem nodup_idx {R:List Rst} (h:R.Nodup) {i j:Nat} {g:Rst} (hi:R[i]? = some g) (hj:R[j]? = some g):i=j:=by
 obtain ⟨h1,e1⟩:=List.getElem?_eq_some_iff.1 hi
 obtain ⟨h2,e2⟩:=List.getElem?_eq_some_iff.1 hj
 exact (List.getElem_inj h).1 (e1.trans e2.symm)
theorem Arcs.inj {R:List Rst} (hR:R.Nodup) {n n':Nat} {G:List (Nat × Rst)} {X Y:List Ar} (h:Arcs R n G X) (h2:Arcs R n' G Y):X=Y:=by
 induction h generalizing Y with
 | nil=>cases h2;rfl
 | cons h1 h3 h4 _ ih =>
  cases h2 with
  | cons k1 k2 k3 k4=>rw [nodup_idx hR h4 k3,ih k4]
theorem Arcs.groups {R:List Rst} {n n':Nat} {G G':List (Nat × Rst)} {X:List Ar} (h:Arcs R n G X) (h2:Arcs R n' G' X):G=G':=by
 induction h generalizing G' with
 | nil=>cases h2;rfl
 | @cons c t g G X h1 h3 h4 _ ih =>
  generalize hY:(⟨(c:Int),(t:Int)⟩ :: X:List Ar)=Y at h2
  cases h2 with
  | nil=>cases hY
  | @cons c' t' g' G' X' k1 k2 k3 k4 =>
   injection hY with e1 e2
   injection e1 with e3 e4
   obtain rfl:c=c':=by omega
   obtain rfl:t=t':=by omega
   subst e2
   rw [h4] at k3;injection k3 with k3
   rw [k3,ih k4]
structure NTab (D:List Nd) (R:List Rst):Prop where
 len:R.length=D.length
 nodup:R.Nodup
 ok:∀ r∈R,SortR r∧BytesR r∧r≠[]
 nd:∀ k (h:k<D.length) (h2:k<R.length),D[k].fin=finR R[k]∧Arcs R k (grp R[k]) D[k].arcs
theorem NTab.nil:NTab [] []:=⟨rfl,List.nodup_nil,fun r h=>(by cases h),fun k h=>(by simp at h)⟩
theorem NTab.down {D:List Nd} {R:List Rst} (h:NTab D R):∀ i (h:i<D.length),(∀ x∈D[i].arcs,0≤x.t∧x.t<(i:Int))∧D[i].arcs.length≤1000:=fun i hi=>by
 obtain ⟨h1,h2⟩:=h.nd i hi (by rw [h.len];exact hi)
 refine ⟨fun x hx=>⟨(h2.mem x hx).1.2.2,(h2.mem x hx).2⟩,?_⟩
 rw [h2.len];have:=grp_len (R[i]'(by rw [h.len];exact hi));omega
theorem
    addN_tab {D:List Nd} {R:List Rst} (h:NTab D R) {r:Rst} (hs:SortR r) (hb:BytesR r) (hne:r≠[]) {fin:Bool} {A:List Ar} (hf:fin=finR r) (hA:Arcs R D.length (grp r) A) :
  ∃ R',NTab (addN fin A D).2 R'∧R <+: R'∧R'[(addN fin A D).1]? = some r:=by
 unfold addN
 by_cases hk:D.findIdx (fun x=>decide (keyL x.fin x.arcs=keyL fin A))<D.length
 ·
  rw [if_pos hk]
  refine ⟨R,h,List.prefix_refl _,?_⟩
  have hkR:D.findIdx (fun x=>decide (keyL x.fin x.arcs=keyL fin A))<R.length:=by rw [h.len];exact hk
  have h1:=List.findIdx_getElem (w:=hk)
  obtain ⟨h2,h3⟩:=h.nd _ hk hkR
  obtain ⟨h4,h5⟩:=keyL_inj (fun x hx=>(h3.mem x hx).1) (fun x hx=>(hA.mem x hx).1) (of_decide_eq_true h1)
  rw [h5] at h3
  have h6:=h3.groups hA
  obtain ⟨o1,o2,_⟩:=h.ok _ (List.getElem_mem hkR)
  rw [List.getElem?_eq_getElem hkR]
  exact congrArg some (recon_inj o1 o2 hs hb (by rw [← h2,h4,hf]) h6)
 ·
  rw [if_neg hk]
  have hno:r ∉ R:=fun hr=>by
   obtain ⟨k,hkR,he⟩:=List.getElem_of_mem hr
   have hkD:k<D.length:=by rw [← h.len];exact hkR
   obtain ⟨h2,h3⟩:=h.nd k hkD hkR
   rw [he] at h2 h3
   have h4:=h3.inj h.nodup hA
   apply hk
   refine List.findIdx_lt_length_of_exists ⟨D[k],List.getElem_mem hkD,?_⟩
   simp [h2,h4,hf]
  have hpre:R <+: R ++ [r]:=List.prefix_append _ _
  refine ⟨R ++ [r],⟨by simp [h.len],?_,fun x hx=>?_,fun k hk1 hk2=>?_⟩,hpre,?_⟩
  ·
   rw [List.nodup_append]
   exact ⟨h.nodup,by simp,fun a ha b hb e=>by
    obtain rfl:=List.mem_singleton.1 hb
    subst e;exact hno ha⟩
  ·
   rcases List.mem_append.1 hx with hx | hx
   · exact h.ok x hx
   · obtain rfl:=List.mem_singleton.1 hx;exact ⟨hs,hb,hne⟩
  ·
   by_cases hkD:k<D.length
   ·
    have hkR:k<R.length:=by rw [h.len];exact hkD
    simp only [List.getElem_append_left hkD,List.getElem_append_left hkR]
    obtain ⟨h2,h3⟩:=h.nd k hkD hkR
    exact ⟨h2,h3.mono hpre (Nat.le_refl _)⟩
   ·
    obtain rfl:k=D.length:=by simp at hk1;omega
    have e1:(D ++ [(⟨fin,A⟩:Nd)])[D.length]=⟨fin,A⟩:=by simp
    have e2:(R ++ [r])[D.length]=r:=by simp [← h.len]
    rw [e1,e2]
    exact ⟨hf,hA.mono hpre (Nat.le_refl _)⟩
  · rw [← h.len];simp
def restAt (d:Nat) (L:List ByteArray):Rst:=L.map fun s=>s.data.toList.drop d
def BytesB (L:List ByteArray):Prop:=∀ s∈L,∀ b∈s.data.toList,33≤UInt8.toNat b∧UInt8.toNat b<127
theorem restAt_sort {d:Nat} {L:List ByteArray} (hsame:∀ x∈L,∀ y∈L,x.data.toList.take d=y.data.toList.take d) (hinc:L.Pairwise fun x y=>ltS x y=true):SortR (restAt d L):=by
 unfold SortR restAt
 rw [List.pairwise_map]
 refine List.Pairwise.imp_of_mem ?_ hinc
 intro a b ha hb hab
 rw [ltS,ByteArray.toList_eq,ByteArray.toList_eq,← List.take_append_drop d a.data.toList,← List.take_append_drop d b.data.toList,hsame a ha b hb,less_pre] at hab
 exact hab
theorem restAt_bytes {d:Nat} {L:List ByteArray} (h:BytesB L):BytesR (restAt d L):=fun s hs b hb=>by
 obtain ⟨x,hx,rfl⟩:=List.mem_map.1 hs
 exact h x hx b (List.mem_of_mem_drop hb)
theorem drop_head {s:ByteArray} {d:Nat} (h:d<s.size):∃ b:UInt8,s.data.toList.drop d=b :: s.data.toList.drop (d+1)∧byteAt s d=(b.toNat:Int):=by
 have h2:d<s.data.toList.length:=by simpa using h
 refine ⟨s.data.toList[d],List.drop_eq_getElem_cons h2,?_⟩
 unfold byteAt;rw [List.getD_eq_getElem?_getD,List.getElem?_eq_getElem h2];rfl
theorem
    tw_rest {d:Nat} {b:UInt8}:∀ {L:List ByteArray},(∀ x∈L,d<x.size)→((restAt d L).takeWhile fun s=>s.head? == some b)=restAt d (L.take (grpN d L (b.toNat:Int)))∧((restAt d L).dropWhile fun s=>s.head? == some b)=restAt d (L.drop (grpN d L (b.toNat:Int)))
 | [],_=>⟨rfl,rfl⟩
 | x
   :: r,h=>by
  obtain ⟨y,e1,e2⟩:=drop_head (h x (by simp))
  obtain ⟨i1,i2⟩:=tw_rest (d:=d) (b:=b) (L:=r) fun z hz=>h z (List.mem_cons_of_mem _ hz)
  unfold restAt grpN at *
  rw [List.map_cons,List.takeWhile_cons,List.dropWhile_cons,List.takeWhile_cons,e1]
  by_cases e:y=b
  ·
   subst e
   have:byteAt x d=(y.toNat:Int):=e2
   simp only [List.head?_cons,beq_self_eq_true,if_true,this,decide_true,List.length_cons,List.take_succ_cons,List.drop_succ_cons,List.map_cons,e1]
   exact ⟨by rw [i1],i2⟩
  ·
   have hne:((y :: List.drop (d+1) x.data.toList).head? == some b)=false:=by simpa using e
   have hne2:decide (byteAt x d=(b.toNat:Int))=false:=by
    rw [e2]
    refine decide_eq_false fun h=>e (UInt8.toNat_inj.1 (by omega))
   rw [hne,hne2]
   simp [e1]
theorem tail_rest {d:Nat} {L:List ByteArray}:(restAt d L).map List.tail=restAt (d+1) L:=by
 unfold restAt
 rw [List.map_map]
 refine List.map_congr_left fun s _=>?_
 simp
theorem armsW_tab {rec:List ByteArray→List Nd→Nat × List Nd} {d m:Nat} (hr:∀ L D R,Pre (d+1) m L→BytesB L→NTab D R→∃ R',NTab (rec L D).2 R'∧R <+: R'∧R'[(rec L D).1]? = some (restAt (d+1) L)) :
  ∀ n lo k L A D R G0,L.length≤n→Rest d (m+1) L→BytesB L→Heads lo k (restAt d L)→NTab D R→Arcs R D.length G0 A→lo+k≤256 →
  ∃ R',NTab (armsW rec d n L A D).2 R'∧R <+: R'∧Arcs R' (armsW rec d n L A D).2.length (G0 ++ grpR lo k (restAt d L)) (armsW rec d n L A D).1
 | 0,lo,k,L,A,D,R,G0,hl,_,_,_,hT,hA,_=>by
  obtain rfl:L=[]:=List.eq_nil_of_length_eq_zero (by omega)
  rw [armsW]
  exact ⟨R,hT,List.prefix_refl _,by show Arcs R D.length (G0 ++ grpR lo k []) A;rw [grpR_nil,List.append_nil];exact hA⟩
 | n+1,lo,k,[],A,D,R,G0,hl,_,_,_,hT,hA,_=>by
  rw [armsW]
  exact ⟨R,hT,List.prefix_refl _,by show Arcs R D.length (G0 ++ grpR lo k []) A;rw [grpR_nil,List.append_nil];exact hA⟩
 | n
   + 1,lo,k,x :: r,A,D,R,G0,hl,hR,hB,hH,hT,hA,hk=>by
  rw [armsW]
  obtain ⟨b,e1,e2⟩:=drop_head (hR.gt x (by simp))
  have hs:=restAt_sort hR.same hR.inc
  obtain ⟨t1,t2⟩:=tw_rest (b:=b) hR.gt
  rw [← e2] at t1 t2
  obtain ⟨g,hg⟩:∃ g,grpN d (x :: r) (byteAt x d)=g:=⟨_,rfl⟩
  have hg1:=grpN_pos (d:=d) (x:=x) (r:=r)
  have hpre:=hR.group
  rw [hg] at t1 t2 hg1 hpre ⊢
  have hBt:BytesB ((x :: r).take g):=fun s hs=>hB s (List.mem_of_mem_take hs)
  have hBd:BytesB ((x :: r).drop g):=fun s hs=>hB s (List.mem_of_mem_drop hs)
  obtain ⟨R1,hT1,hp1,hi1⟩:=hr _ D R hpre hBt hT
  have hL:restAt d (x :: r)=(b :: x.data.toList.drop (d+1)) :: restAt d r:=by unfold restAt;rw [List.map_cons,e1]
  have hgr:=grpR_cons (lo:=lo) (n:=k) (b:=b) (t:=x.data.toList.drop (d+1)) (r:=restAt d r) (by rw [← hL];exact hs) (by rw [← hL];exact hH)
  have hHd:=heads_drop (lo:=lo) (n:=k) (b:=b) (t:=x.data.toList.drop (d+1)) (r:=restAt d r) (by rw [← hL];exact hs) (by rw [← hL];exact hH)
  rw [← hL,t2] at hHd
  rw [← hL,t1,t2,tail_rest] at hgr
  have hlt:(rec ((x :: r).take g) D).1<(rec ((x :: r).take g) D).2.length:=by
   rw [← hT1.len]
   exact (List.getElem?_eq_some_iff.1 hi1).1
  have hblt:b.toNat<256:=b.toNat_lt
  have hge:D.length≤(rec ((x :: r).take g) D).2.length:=by
   rw [← hT1.len,← hT.len];exact hp1.length_le
  have hA1:=(hA.mono hp1 hge).snoc hblt hlt hi1
  rw [← e2] at hA1
  have hlo:b.toNat+1≤lo+k:=by
   obtain ⟨b',t',e,h3,h4⟩:=hH (b :: x.data.toList.drop (d+1)) (by rw [hL];simp)
   injection e with e _
   subst e;omega
  obtain ⟨R2,hT2,hp2,hA2⟩:=armsW_tab hr n (b.toNat+1) (lo+k - (b.toNat+1)) ((x :: r).drop g) _ _ R1 _ (by rw [List.length_drop];simp at hl ⊢;omega) (hR.drop g) hBd hHd hT1 hA1 (by omega)
  refine ⟨R2,hT2,hp1.trans hp2,?_⟩
  rw [hgr,List.append_cons G0]
  exact hA2
theorem
    nodeW_tab:∀ m d L D R,Pre d m L→BytesB L→NTab D R→∃ R',NTab (nodeW m d L D).2 R'∧R <+: R'∧R'[(nodeW m d L D).1]? = some (restAt d L)
 | 0,d,L,D,R,hP,_,_=>by
  exfalso
  obtain ⟨x,hx⟩:=List.exists_mem_of_ne_nil _ hP.ne
  have:=hP.ge x hx;have:=hP.lt x hx;omega
 | m
   +
    1,d,L,D,R,hP,hB,hT=>by
  rw [nodeW]
  have hRest:=hP.rest
  have hsub:∀ s∈restL d L,s∈L:=fun s hs=>by
   unfold restL at hs
   split at hs
   · exact List.mem_of_mem_tail hs
   · exact hs
  have hBr:BytesB (restL d L):=fun s hs=>hB s (hsub s hs)
  have hH:Heads 33 94 (restAt d (restL d L)):=fun s hs=>by
   obtain ⟨x,hx,rfl⟩:=List.mem_map.1 hs
   obtain ⟨b,e1,_⟩:=drop_head (hRest.gt x hx)
   have:=restAt_bytes (d:=d) hBr _ hs b (by rw [e1];simp)
   exact ⟨b,_,e1,this.1,this.2⟩
  obtain ⟨R1,hT1,hp1,hA1⟩:=armsW_tab (rec:=nodeW m (d+1)) (d:=d) (m:=m) (fun L D R h1 h2 h3=>nodeW_tab m (d+1) L D R h1 h2 h3) (restL d L).length 33 94 (restL d L) [] D R [] (Nat.le_refl _) hRest hBr hH hT .nil (by omega)
  have hs:=restAt_sort hP.same hP.inc
  have hbb:=restAt_bytes (d:=d) hB
  have hcase:finB d L=finR (restAt d L)∧grp (restAt d L)=grpR 33 94 (restAt d (restL d L)):=by
   cases hL:L with
   | nil=>exact absurd hL hP.ne
   | cons x r =>
    have hxge:=hP.ge x (by rw [hL];simp)
    unfold restL finB
    by_cases e:x.size=d
    ·
     have e0:x.data.toList.drop d=[]:=List.drop_of_length_le (by simp;omega)
     have e1:restAt d (x :: r)=[] :: restAt d r:=by unfold restAt;rw [List.map_cons,e0]
     rw [if_pos (by simpa using e),e1]
     exact ⟨by simpa [finR] using e,rfl⟩
    ·
     obtain ⟨b,e1,_⟩:=drop_head (s:=x) (d:=d) (by omega)
     have e2:restAt d (x :: r)=(b :: x.data.toList.drop (d+1)) :: restAt d r:=by unfold restAt;rw [List.map_cons,e1]
     rw [if_neg (by simpa using e)]
     exact ⟨by rw [e2];simpa [finR] using e,rfl⟩
  rw [List.nil_append,← hcase.2] at hA1
  obtain ⟨R2,hT2,hp2,hi2⟩:=addN_tab hT1 hs hbb (fun h=>hP.ne (List.map_eq_nil_iff.1 h)) hcase.1 hA1
  exact ⟨R2,hT2,hp1.trans hp2,hi2⟩
end Go.Proofs.YthjmdgejnakcmaaDoor
