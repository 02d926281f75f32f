/- Texts that the claims share: Scheme, Rules, Check, Flaw1, Comm, Chain, FirstP, First, Flaw2, Bfs, Flaw3, Flaw4, Mask, RefA, RefB, RefC, Flaw5, Flaw6, RefD, Next, Next2, Ref2, Made, AppE, Base, Made1, Made2, Made3, Levels, WalkM, RefF, RefG, RefH, RefI, Same, Sane, Safe. -/
import Derived.Deep.RegionHeld3
import Derived.Deep.DeepCutAuto
import Derived.Test.YthjmdgejnakcmaaDoorChecked
import Derived.BigQuiet
import Derived.Deep.LoopGhost
import Derived.Deep.QuietTactic
import Derived.Conc.LoneCalls
import Derived.Conc.SmallLaws
import Derived.Laws.AppendOwn
import Derived.Laws.OwnMore
import Derived.Maps.AppendAt
import Derived.Lib.LazyBuf
import Derived.Conc.LoneSelectN
import Derived.Deep.OwnRows
import Derived.Laws.AppendOwnNone
import Derived.Deep.CutBlock
import Derived.Laws.Concat
import Derived.Test.YthjmdgejnakcmaaDoorMA1
import Derived.Test.YthjmdgejnakcmaaDoorMD1
namespace Go.Proofs.YthjmdgejnakcmaaDoor.Fl
open Go.RowKit
set_option linter.unusedVariables false
set_option linter.unusedSimpArgs false
structure Rl where
 frm:Int
 dst:Int
 inp:ByteArray
 out:ByteArray
 cost:Int
def classF (c:Int):Int:=if 97≤c∧c≤122 then 1 else if 65≤c∧c≤90 then 2 else if 48≤c∧c≤57 then 3 else 0
def smallL (l:List UInt8):Bool:=l.all fun c=>classF (c.toNat:Int) == 1
def knownL (l:List UInt8):Bool:=l.all fun c=>!(classF (c.toNat:Int) == 0)
def smallB (s:ByteArray):Bool:=smallL s.data.toList
def knownB (s:ByteArray):Bool:=knownL s.data.toList
def rightB (m:Int) (r:Rl):Bool:=decide (0≤r.frm) && (decide (r.frm<m) && (decide (0≤r.dst) && (decide (r.dst<m) && (decide ((r.inp.size:Int)≤4) && (smallB r.inp && (decide ((r.out.size:Int)≤4) && (knownB r.out && (decide (0≤r.cost) && decide (r.cost≤1000)))))))))
structure RulAt (w:World) (b o:Nat) (r:Rl):Prop where
 c0:w.cell? ⟨b,o,none⟩=some (.int .i64 r.frm)
 c1:w.cell? ⟨b,o+1,none⟩=some (.int .i64 r.dst)
 c2:w.cell? ⟨b,o+2,none⟩=some (.string r.inp)
 c3:w.cell? ⟨b,o+3,none⟩=some (.string r.out)
 c4:w.cell? ⟨b,o+4,none⟩=some (.int .i64 r.cost)
theorem RulAt.later {w w1:World} {B b o:Nat} {r:Rl} (h:RulAt w b o r) (hb:Below B w w1) (hg:b<B):RulAt w1 b o r :=
 ⟨(hb.cell (p:=⟨b,_,none⟩) hg).trans h.c0,(hb.cell (p:=⟨b,_,none⟩) hg).trans h.c1,(hb.cell (p:=⟨b,_,none⟩) hg).trans h.c2,(hb.cell (p:=⟨b,_,none⟩) hg).trans h.c3,(hb.cell (p:=⟨b,_,none⟩) hg).trans h.c4⟩
def RulS (w:World) (a:Option Addr) (R:List Rl):Prop :=
 R=[]∨∃ b o,a=some ⟨b,o,none⟩∧b<w.heap.size∧∀ i (h:i<R.length),RulAt w b (o+i*5) R[i]
theorem RulS.later {w w1:World} {B:Nat} {a:Option Addr} {R:List Rl} (h:RulS w a R) (hb:Below B w w1) (hB:w.heap.size≤B):RulS w1 a R:=by
 rcases h with h | ⟨b,o,ha,hlt,hr⟩
 · exact .inl h
 · exact .inr ⟨b,o,ha,Nat.lt_of_lt_of_le hlt hb.size,fun i hi=>(hr i hi).later hb (Nat.lt_of_lt_of_le hlt hB)⟩
theorem RulS.at {w:World} {a:Option Addr} {R:List Rl} (h:RulS w a R) {k:Nat} (hk:k<R.length):∃ b o,a=some ⟨b,o,none⟩∧b<w.heap.size∧RulAt w b (o+k*5) R[k]:=by
 rcases h with h | ⟨b,o,ha,hlt,hr⟩
 · subst h;cases hk
 · exact ⟨b,o,ha,hlt,hr k hk⟩
theorem idx_rules (a:Option Addr) (b o len cap k:Nat) (ha:a=some ⟨b,o,none⟩) (hk:k<len) (w:World) :
  (Instr.indexAt 34 (.slice a len cap) (.int .i64 (k:Int))).run Tryd.prog w=.ok (.pointer (some ⟨b,o+k*5,none⟩)) w:=by
 subst ha
 have h0:(0:Int)≤(k:Int):=by omega
 have h1:(k:Int)<(len:Int):=by omega
 simp [go_sem,h0,h1]
def eqRl (r q:Rl):Bool:=decide (r.frm=q.frm) && (decide (r.dst=q.dst) && (decide (r.inp.toList=q.inp.toList) && (decide (r.out.toList=q.out.toList) && decide (r.cost=q.cost))))
structure Sch where
 modes:Int
 acc:Int
 rules:List Rl
def headB (S:Sch):Bool:=decide (1≤S.modes) && (decide (S.modes≤8) && (decide (S.rules.length≤64) && (decide (1≤S.acc) && decide (S.acc<2 ^ S.modes.toNat))))
def goodAt (S:Sch) (r:Rl) (R:List Rl):Bool:=rightB S.modes r && !R.any (eqRl r)
def validTo (S:Sch) (k:Nat):Prop:=∀ i (h:i<S.rules.length),i<k→goodAt S S.rules[i] (S.rules.take i)=true
def Valid (S:Sch):Prop:=headB S=true∧validTo S S.rules.length
theorem below_drewN {B:Nat} (w:World) (n:Nat):Below B w (w.drewN n):=by
 exact ⟨rfl,rfl,rfl,Nat.le_refl _,fun _ _=>rfl⟩
open Classical in
noncomputable def validB (S:Sch):Bool:=decide (Valid S)
structure Fit (S:Sch):Prop where
 m0:1≤S.modes
 m1:S.modes≤8
 a0:0≤S.acc
 a1:S.acc≤255
 len:S.rules.length≤64
 at0:∀ i (h:i<S.rules.length),0≤S.rules[i].frm∧S.rules[i].frm<S.modes∧0≤S.rules[i].dst∧S.rules[i].dst<S.modes
end Go.Proofs.YthjmdgejnakcmaaDoor.Fl
namespace Go.Proofs.YthjmdgejnakcmaaDoor.Fl
set_option linter.unusedVariables false
set_option linter.unusedSimpArgs false
def lexlt:List Nat→List Nat→Prop
 | a :: xs,b :: ys=>a<b∨(a=b∧lexlt xs ys)
 | _,_=>False
def sl (a b:List Nat):Prop:=a.length<b.length∨(a.length=b.length∧lexlt a b)
def leads (use:Rl→Bool) (R:List Rl):Nat→List Nat→Option Nat
 | m,[]=>some m
 | m,i :: c=>if h:i<R.length then (if R[i].frm.toNat=m∧use R[i]=true then leads use R R[i].dst.toNat c else none) else none
end Go.Proofs.YthjmdgejnakcmaaDoor.Fl
namespace Go.Proofs.YthjmdgejnakcmaaDoor.Fl
open Go.RowKit
set_option linter.unusedVariables false
set_option linter.unusedSimpArgs false
def ints (l:List Nat):List Int:=l.map fun (n:Nat)=>(n:Int)
end Go.Proofs.YthjmdgejnakcmaaDoor.Fl
namespace Go.Proofs.YthjmdgejnakcmaaDoor.Fl
set_option linter.unusedVariables false
set_option linter.unusedSimpArgs false
def rl (f t:Int) (i:List UInt8):Rl:=⟨f,t,⟨i.toArray⟩,⟨#[]⟩,0⟩
def eqRl' (r q:Rl):Bool:=decide (r.frm=q.frm) && (decide (r.dst=q.dst) && (decide (r.inp.data.toList=q.inp.data.toList) && (decide (r.out.data.toList=q.out.data.toList) && decide (r.cost=q.cost))))
theorem eqRl_eq (r q:Rl):eqRl r q=eqRl' r q:=by
 unfold eqRl eqRl';simp only [ByteArray.toList_eq]
def validC (S:Sch):Bool:=headB S && (List.range S.rules.length).all fun i=>match S.rules[i]? with | some r=>rightB S.modes r && !(S.rules.take i).any (eqRl' r) | none=>true
theorem validB_iff (S:Sch):validB S=true↔Valid S:=by simp [validB]
theorem valid_of {S:Sch} (h:validC S=true):validB S=true:=by
 unfold validC at h
 rw [Bool.and_eq_true,List.all_eq_true] at h
 rw [validB_iff]
 refine ⟨h.1,fun i hi _=>?_⟩
 have:=h.2 i (by simpa using hi)
 rw [List.getElem?_eq_getElem hi] at this
 unfold goodAt
 have e:(S.rules.take i).any (eqRl S.rules[i])=(S.rules.take i).any (eqRl' S.rules[i]):=by congr 1;funext q;exact eqRl_eq _ _
 rw [e];exact this
theorem fit_of {S:Sch} (h:validB S=true) (ha:0≤S.acc) (hb:S.acc≤255):Fit S:=by
 have hv:Valid S:=(validB_iff S).1 h
 have h1:=hv.1
 unfold headB at h1
 simp only [Bool.and_eq_true,decide_eq_true_eq] at h1
 refine ⟨h1.1,h1.2.1,ha,hb,h1.2.2.1,fun i hi=>?_⟩
 have h2:=hv.2 i hi hi
 unfold goodAt rightB at h2
 simp only [Bool.and_eq_true,decide_eq_true_eq] at h2
 exact ⟨h2.1.1,h2.1.2.1,h2.1.2.2.1,h2.1.2.2.2.1⟩
end Go.Proofs.YthjmdgejnakcmaaDoor.Fl
