/- Texts that the claims share: Scheme, Rules, Check, Flaw1, Comm, Chain, FirstP, First, Flaw2, Bfs, Flaw3, Flaw4, Mask, RefA, RefB, RefC, Flaw5, Flaw6, RefD. -/
import Derived.Deep.RegionHeld3
import Derived.Deep.DeepCutAuto
import Derived.Test.YthjmdgejnakcmaaGreatDoorChecked
import Derived.BigQuiet
import Derived.Deep.LoopGhost
import Derived.Deep.QuietTactic
import Derived.Conc.LoneCalls
import Derived.Conc.SmallLaws
import Derived.Laws.AppendOwn
import Derived.Laws.OwnMore
import Derived.Maps.AppendAt
import Derived.Lib.LazyBuf
import Derived.Conc.LoneSelectN
import Derived.Deep.OwnRows
import Derived.Test.YthjmdgejnakcmaaGreatDoorMA1
set_option linter.unusedVariables false
set_option linter.unusedSimpArgs false
namespace Go.Proofs.YthjmdgejnakcmaaGreatDoor.Fl
open Go.RowKit
structure Rl where
 frm:Int
 dst:Int
 inp:ByteArray
 out:ByteArray
 cost:Int
def BX (c:Int):Int:=if 97≤c∧c≤122 then 1 else if 65≤c∧c≤90 then 2 else if 48≤c∧c≤57 then 3 else 0
def PY (l:List UInt8):Bool:=l.all fun c=>BX (c.toNat:Int) == 1
def G7 (l:List UInt8):Bool:=l.all fun c=>!(BX (c.toNat:Int) == 0)
def KR (s:ByteArray):Bool:=PY s.data.toList
def DE (s:ByteArray):Bool:=G7 s.data.toList
def EX (m:Int) (r:Rl):Bool:=decide (0≤r.frm) && (decide (r.frm<m) && (decide (0≤r.dst) && (decide (r.dst<m) && (decide ((r.inp.size:Int)≤4) && (KR r.inp && (decide ((r.out.size:Int)≤4) && (DE r.out && (decide (0≤r.cost) && decide (r.cost≤1000)))))))))
theorem Hb (s:ByteArray) (k:Nat) (h:k<s.size):s.data.toList.take (k+1)=s.data.toList.take k ++ [s[k]]:=by
 rw [AO (by simpa using h)];rfl
theorem F1 (s:ByteArray) (k:Nat) (h:¬ k<s.size):s.data.toList.take k=s.data.toList:=AF (by simp;exact Nat.le_of_not_lt h)
theorem Dp {p:UInt8→Bool} (s:ByteArray) (k:Nat) (h:k<s.size) (hp:p s[k]=false):s.data.toList.all p=false:=by
 rw [List.all_eq_false]
 refine ⟨s[k],?_,by simp [hp]⟩
 show s.data[k]∈s.data.toList
 simp
theorem F2 {p:UInt8→Bool} (s:ByteArray) (k:Nat) (h:k<s.size) (ht:(s.data.toList.take k).all p=true) (hp:p s[k]=true):(s.data.toList.take (k+1)).all p=true:=by
 rw [Hb s k h,List.all_append,ht];simp [hp]
structure LH (w:World) (b o:Nat) (r:Rl):Prop where
 c0:w.cell? ⟨b,o,none⟩=some (.int .i64 r.frm)
 c1:w.cell? ⟨b,o+1,none⟩=some (.int .i64 r.dst)
 c2:w.cell? ⟨b,o+2,none⟩=some (.string r.inp)
 c3:w.cell? ⟨b,o+3,none⟩=some (.string r.out)
 c4:w.cell? ⟨b,o+4,none⟩=some (.int .i64 r.cost)
theorem LH.later {w w1:World} {B b o:Nat} {r:Rl} (h:LH w b o r) (hb:Below B w w1) (hg:b<B):LH w1 b o r :=
 ⟨(hb.cell (p:=⟨b,_,none⟩) hg).trans h.c0,(hb.cell (p:=⟨b,_,none⟩) hg).trans h.c1,(hb.cell (p:=⟨b,_,none⟩) hg).trans h.c2,(hb.cell (p:=⟨b,_,none⟩) hg).trans h.c3,(hb.cell (p:=⟨b,_,none⟩) hg).trans h.c4⟩
def BJ (w:World) (a:Option Addr) (R:List Rl):Prop :=
 R=[]∨∃ b o,a=some ⟨b,o,none⟩∧b<w.heap.size∧∀ i (h:i<R.length),LH w b (o+i*5) R[i]
theorem BJ.later {w w1:World} {B:Nat} {a:Option Addr} {R:List Rl} (h:BJ w a R) (hb:Below B w w1) (hB:w.heap.size≤B):BJ w1 a R:=by
 rcases h with h | ⟨b,o,ha,hlt,hr⟩
 · exact .inl h
 · exact .inr ⟨b,o,ha,A7 hlt hb.size,fun i hi=>(hr i hi).later hb (A7 hlt hB)⟩
theorem BJ.at {w:World} {a:Option Addr} {R:List Rl} (h:BJ w a R) {k:Nat} (hk:k<R.length):∃ b o,a=some ⟨b,o,none⟩∧b<w.heap.size∧LH w b (o+k*5) R[k]:=by
 rcases h with h | ⟨b,o,ha,hlt,hr⟩
 · subst h;cases hk
 · exact ⟨b,o,ha,hlt,hr k hk⟩
theorem CV (a:Option Addr) (b o len cap k:Nat) (ha:a=some ⟨b,o,none⟩) (hk:k<len) (w:World) :
  (Instr.indexAt 30 (.slice a len cap) (.int .i64 (k:Int))).run Tryz.prog w=.ok (.pointer (some ⟨b,o+k*5,none⟩)) w:=by
 subst ha
 have h0:(0:Int)≤(k:Int):=by omega
 have h1:(k:Int)<(len:Int):=by omega
 simp [go_sem,h0,h1]
def G8 (r q:Rl):Bool:=decide (r.frm=q.frm) && (decide (r.dst=q.dst) && (decide (r.inp.toList=q.inp.toList) && (decide (r.out.toList=q.out.toList) && decide (r.cost=q.cost))))
theorem O6 (r q:Rl) (w:World) :
  (Go.binOp .eql 64 (.agg #[.int .i64 r.frm,.int .i64 r.dst,.string r.inp,.string r.out,.int .i64 r.cost]) (.agg #[.int .i64 q.frm,.int .i64 q.dst,.string q.inp,.string q.out,.int .i64 q.cost])).run Tryz.prog w=.ok (.bool (G8 r q)) w:=by
 simp only [run_eql_struct]
 unfold G8
 by_cases h1:r.frm=q.frm <;> by_cases h2:r.dst=q.dst <;> by_cases h3:r.inp.toList=q.inp.toList <;> by_cases h4:r.out.toList=q.out.toList <;> by_cases h5:r.cost=q.cost <;> simp [go_sem,h1,h2,h3,h4,h5]
theorem SW {R:List Rl} {p:Rl→Bool} {k:Nat} (hk:k<R.length) (hp:p R[k]=true):R.any p=true:=List.any_eq_true.2 ⟨R[k],AG _,hp⟩
theorem PZ {R:List Rl} {p:Rl→Bool} {k:Nat} (hk:k<R.length) (h:(R.take k).any p=false) (hp:p R[k]=false):(R.take (k+1)).any p=false:=by
 rw [AO hk,List.any_append,h];simp [hp]
structure Sch where
 modes:Int
 acc:Int
 rules:List Rl
def Cf (S:Sch):Bool:=decide (1≤S.modes) && (decide (S.modes≤8) && (decide (S.rules.length≤64) && (decide (1≤S.acc) && decide (S.acc<2 ^ S.modes.toNat))))
def D3 (S:Sch) (r:Rl) (R:List Rl):Bool:=EX S.modes r && !R.any (G8 r)
def GU (S:Sch) (k:Nat):Prop:=∀ i (h:i<S.rules.length),i<k→D3 S S.rules[i] (S.rules.take i)=true
def Ib (S:Sch):Prop:=Cf S=true∧GU S S.rules.length
theorem below_drewN {B:Nat} (w:World) (n:Nat):Below B w (w.drewN n):=by
 exact ⟨rfl,rfl,rfl,A3 _,fun _ _=>rfl⟩
open Classical in
noncomputable def validB (S:Sch):Bool:=decide (Ib S)
noncomputable def KS (S:Sch):Int:=if validB S=true then 0 else 20
def O7 (S:Sch) (w:World) (e:Ending) (w':World):Prop:=∃ i:Int,e=.returned (.tuple #[.int .i64 i,.int .i64 (KS S)])∧Below w.heap.size w w'
theorem RA (n:Nat) (h:n≤8):0≤(2:Int) ^ n∧(2:Int) ^ n≤256:=by
 rcases (show n=0∨n=1∨n=2∨n=3∨n=4∨n=5∨n=6∨n=7∨n=8 by omega) with rfl | rfl | rfl | rfl | rfl | rfl | rfl | rfl | rfl <;> decide
theorem KT {S:Sch} {k:Nat} (hk:k<S.rules.length) (h:GU S k) (hg:D3 S S.rules[k] (S.rules.take k)=true):GU S (k+1):=by
 intro i hi hik
 by_cases e:i=k
 · subst e;exact hg
 · exact h i hi (by omega)
theorem GV {S:Sch} (h:¬ Ib S):KS S=20:=by simp [KS,validB,h]
theorem O8 {S:Sch} (h:Ib S):KS S=0:=by simp [KS,validB,h]
theorem Ic {S:Sch} (h:Cf S=false):¬ Ib S:=fun v=>by rw [v.1] at h;cases h
theorem SY {S:Sch} {k:Nat} (hk:k<S.rules.length) (h:D3 S S.rules[k] (S.rules.take k)=false):¬ Ib S:=fun v=>by rw [v.2 k hk hk] at h;cases h
structure Ed where
 f:Nat
 t:Nat
 e:Bool
def Rl.ed (r:Rl):Ed:=⟨r.frm.toNat,r.dst.toNat,decide (r.inp.size=0)⟩
def Sch.eds (S:Sch):List Ed:=S.rules.map Rl.ed
def Bf (L:Nat) (x:Ed):Nat:=if L.testBit x.f then L ||| 2 ^ x.t else L
def D4 (L:Nat) (x:Ed):Nat:=if L.testBit x.t then L ||| 2 ^ x.f else L
def Bg (f:Nat→Nat):Nat→Nat→Nat
 | 0,x=>x
 | n+1,x=>f (Bg f n x)
def Pa (E:List Ed) (m:Nat):Nat:=Bg (fun L=>E.foldl Bf L) m 1
def SK (E:List Ed) (m acc:Nat):Nat:=Bg (fun L=>E.foldl D4 L) m acc
def Hc (n:Nat) (E:List Ed):Prop:=∀ x∈E,x.f<n∧x.t<n
theorem Pb (t:Nat) (h:t<8):2 ^ t<256:=by
 rcases (show t=0∨t=1∨t=2∨t=3∨t=4∨t=5∨t=6∨t=7 by omega) with rfl | rfl | rfl | rfl | rfl | rfl | rfl | rfl <;> decide
theorem SL {a b:Nat} (h:a<256) (h2:b<256):a ||| b<256:=Nat.or_lt_two_pow (n:=8) h h2
theorem Pc {L:Nat} {x:Ed} (h:L<256) (h2:x.t<8):Bf L x<256:=by
 unfold Bf;split
 · exact SL h (Pb _ h2)
 · exact h
theorem Pd {L:Nat} {x:Ed} (h:L<256) (h2:x.f<8):D4 L x<256:=by
 unfold D4;split
 · exact SL h (Pb _ h2)
 · exact h
theorem Pe:∀ (E:List Ed) (L:Nat),Hc 8 E→L<256→E.foldl Bf L<256
 | [],L,_,h=>h
 | x :: E,L,hE,h=>Pe E _ (fun y hy=>hE y (by simp [hy])) (Pc h (hE x (by simp)).2)
theorem LI:∀ (E:List Ed) (L:Nat),Hc 8 E→L<256→E.foldl D4 L<256
 | [],L,_,h=>h
 | x :: E,L,hE,h=>LI E _ (fun y hy=>hE y (by simp [hy])) (Pd h (hE x (by simp)).1)
theorem O9 {f:Nat→Ed→Nat} {E:List Ed} {k:Nat} (hk:k<E.length) (L:Nat):(E.take (k+1)).foldl f L=f ((E.take k).foldl f L) E[k]:=by
 rw [AO hk,List.foldl_append];rfl
structure Fit (S:Sch):Prop where
 m0:1≤S.modes
 m1:S.modes≤8
 a0:0≤S.acc
 a1:S.acc≤255
 len:S.rules.length≤64
 at0:∀ i (h:i<S.rules.length),0≤S.rules[i].frm∧S.rules[i].frm<S.modes∧0≤S.rules[i].dst∧S.rules[i].dst<S.modes
theorem Fit.within {S:Sch} (h:Fit S):Hc 8 S.eds:=by
 intro x hx
 obtain ⟨r,hr,rfl⟩:=AH.1 hx
 obtain ⟨i,hi,rfl⟩:=List.mem_iff_getElem.1 hr
 have:=h.at0 i hi
 have:=h.m1
 unfold Rl.ed
 simp only
 omega
theorem KU (S:Sch):S.eds.length=S.rules.length:=by simp [Sch.eds]
theorem SZ (S:Sch) (k:Nat) (h:k<S.rules.length):S.eds[k]'(by rw [KU];exact h)=S.rules[k].ed:=by simp [Sch.eds]
def G9 (xs:List Nat):List Value:=xs.map fun (n:Nat)=>Value.int .i64 (n:Int)
theorem LJ (xs:List Nat):(G9 xs).length=xs.length:=by simp [G9]
theorem Pf {xs:List Nat} {k:Nat} (h:k<xs.length):(G9 xs)[k]? = some (.int .i64 (xs[k]:Int)):=by simp [G9,h]
def Ch (w:World) (B:Nat) (v:Value) (xs:List Nat):Prop:=w.ownsRow B 3 1 v xs.length (G9 xs)
theorem Ch.nil (w:World) (B:Nat):Ch w B (.slice none 0 0) []:=⟨rfl,.inl ⟨rfl,rfl⟩⟩
theorem Ch.below {w w1:World} {B C:Nat} {v:Value} {xs:List Nat} (h:Ch w B v xs) (hb:Below C w w1) (hv:∀ g,v.ownBlock=some g→g<C):Ch w1 B v xs:=by
 refine ⟨h.1,h.2.imp id ?_⟩
 rintro ⟨g,cap,cur,rfl,h1,h2,h3⟩
 exact ⟨g,cap,cur,rfl,h1,(hb.block g (hv g rfl)).trans h2,h3⟩
theorem Ch.lt {w:World} {B:Nat} {v:Value} {xs:List Nat} (h:Ch w B v xs):∀ g,v.ownBlock=some g→g<w.heap.size:=by
 intro g hg
 rcases h.2 with ⟨rfl,_⟩ | ⟨g',cap,cur,rfl,h1,h2,h3⟩
 · cases hg
 · cases hg;exact (A5.1 h2).1
theorem Ch.ge {w:World} {B:Nat} {v:Value} {xs:List Nat} (h:Ch w B v xs):∀ g,v.ownBlock=some g→B≤g:=by
 intro g hg
 rcases h.2 with ⟨rfl,_⟩ | ⟨g',cap,cur,rfl,h1,h2,h3⟩
 · cases hg
 · cases hg;exact h1
theorem Ch.mono {w:World} {B C:Nat} {v:Value} {xs:List Nat} (h:Ch w B v xs) (hC:C≤B):Ch w C v xs:=by
 refine ⟨h.1,h.2.imp id ?_⟩
 rintro ⟨g,cap,cur,rfl,h1,h2⟩
 exact ⟨g,cap,cur,rfl,by omega,h2⟩
theorem Ch.cell {w:World} {B:Nat} {g n cap:Nat} {xs:List Nat} (h:Ch w B (.slice (some ⟨g,0,none⟩) n cap) xs) {k:Nat} (hk:k<xs.length):w.cell? ⟨g,k,none⟩=some (.int .i64 (xs[k]:Int)):=by
 have:=World.ownsRow.cells (g:=g) h rfl k _ (Pf hk)
 rw [Addr.add_lit] at this
 simpa using this
theorem Id:(Tryz.prog.info? 3).map (fun i=>(i.zero,i.size,i.bytes))=some (some (.int .i64 0),1,8):=by kernel_rfl
def OA:List Int→List Int→Int
 | [],[]=>0
 | [],_ :: _=>-1
 | _ :: _,[]=>1
 | a :: xs,b :: ys=>if a<b then -1 else if b<a then 1 else OA xs ys
def SlS (w:World) (a:Option Addr) (xs:List Int):Prop:=∀ k (hk:k<xs.length),∃ b o,a=some ⟨b,o,none⟩∧b<w.heap.size∧w.cell? ⟨b,o+k,none⟩=some (.int .i64 xs[k])
theorem SlS.at {w:World} {a:Option Addr} {xs:List Int} (h:SlS w a xs) {k:Nat} (hk:k<xs.length):∃ b o,a=some ⟨b,o,none⟩∧b<w.heap.size∧w.cell? ⟨b,o+k,none⟩=some (.int .i64 xs[k]):=h k hk
theorem SlS.later {w w1:World} {a:Option Addr} {xs:List Int} {B:Nat} (h:SlS w a xs) (hb:Below B w w1) (hB:w.heap.size≤B):SlS w1 a xs:=fun k hk=>by
 obtain ⟨b,o,ha,h1,h2⟩:=h k hk
 exact ⟨b,o,ha,by have:=hb.size;omega,(hb.cell (p:=⟨b,o+k,none⟩) (by show b<B;omega)).trans h2⟩
theorem Ch.sl {w:World} {B:Nat} {v:Value} {xs:List Nat} (h:Ch w B v xs):∃ a c,v=.slice a xs.length c∧xs.length≤c∧SlS w a (xs.map fun (n:Nat)=>(n:Int)):=by
 rcases id h.2 with ⟨rfl,h0⟩ | ⟨g,cap,cur,rfl,h1,h2,h3,h4⟩
 · exact ⟨none,0,by rw [h0],by omega,fun k hk=>by simp at hk;omega⟩
 ·
  refine ⟨some ⟨g,0,none⟩,cap,rfl,h3,fun k hk=>⟨g,0,rfl,(A5.1 h2).1,?_⟩⟩
  have hk':k<xs.length:=by simpa using hk
  rw [Nat.zero_add,h.cell hk'];simp
theorem DT (a:Option Addr) (b o len cap k:Nat) (ha:a=some ⟨b,o,none⟩) (hk:k<len) (w:World) :
  (Instr.indexAt 79 (.slice a len cap) (.int .i64 (k:Int))).run Tryz.prog w=.ok (.pointer (some ⟨b,o+k,none⟩)) w:=by
 subst ha
 have h0:(0:Int)≤(k:Int):=by omega
 have h1:(k:Int)<(len:Int):=by omega
 simp [go_sem,h0,h1]
def Sa (xs ys:List Int):Int:=if xs.length=ys.length then OA xs ys else (xs.length:Int) - ys.length
open Go.RowKit Go.Conc
structure BS where
 q:List Nat
 ch:Nat→List Nat
 seen:Nat
def
  inner (use:Rl→Bool) (goal m:Nat):List Rl→Nat→BS→List Nat ⊕ BS
 | [],_,s=>.inr s
 | r
   :: R,i,s =>
  if decide (r.frm.toNat=m) && use r then
   if goal.testBit r.dst.toNat then .inl (s.ch m ++ [i])
   else if s.seen.testBit r.dst.toNat then inner use goal m R (i+1) s
   else inner use goal m R (i+1) ⟨s.q ++ [r.dst.toNat],fun t=>if t=r.dst.toNat then s.ch m ++ [i] else s.ch t,s.seen ||| 2 ^ r.dst.toNat⟩
  else inner use goal m R (i+1) s
def
  outer (use:Rl→Bool) (goal:Nat) (R:List Rl):Nat→BS→List Nat
 | 0,_=>[]
 | n
   + 1,s=>match s.q with
  | []=>[]
  | m :: q=>match inner use goal m R 0 { s with q:=q } with
   | .inl c=>c
   | .inr s'=>outer use goal R n s'
def cntF:Nat→(Nat→Bool)→Nat
 | 0,_=>0
 | n+1,f=>cntF n f+if f n then 0 else 1
def bfs (use:Rl→Bool) (goal:Nat) (R:List Rl) (start:Nat):List Nat:=outer use goal R 8 ⟨[start],fun _=>[],2 ^ start⟩
theorem Nb (f:Nat→Bool):∀ n,cntF n f≤n
 | 0=>A3 _
 | n+1=>by have:=Nb f n;simp only [cntF];split <;> omega
theorem
    cntF_add {f g:Nat→Bool} {t:Nat} (hg:∀ i,g i=(f i || decide (t=i))) (ht:f t=false):∀ n,cntF n g+(if t<n then 1 else 0)=cntF n f
 | 0=>by simp [cntF]
 | n
   +
    1=>by
  have ih:=cntF_add hg ht n
  simp only [cntF,hg n]
  by_cases h:t=n
  ·
   subst h
   simp [ht] at ih ⊢
   omega
  ·
   have:decide (t=n)=false:=by simp [h]
   rw [this,Bool.or_false]
   have h3:(if t<n+1 then 1 else 0)=if t<n then 1 else (0:Nat):=by
    by_cases h2:t<n
    · rw [if_pos h2,if_pos (by omega)]
    · rw [if_neg h2,if_neg (by omega)]
   rw [h3]
   split at ih <;> split <;> omega
theorem OB {use:Rl→Bool} {goal:Nat} {R:List Rl} {n:Nat} {s:BS} (h:s.q=[]):outer use goal R n s=[]:=by
 cases n with
 | zero=>rfl
 | succ n=>simp [outer,h]
theorem Ch.same {w w1:World} {B:Nat} {v:Value} {xs:List Nat} (h:Ch w B v xs) (hv:∀ g,v.ownBlock=some g→w1.heap[g]? = w.heap[g]?):Ch w1 B v xs:=by
 refine ⟨h.1,h.2.imp id ?_⟩
 rintro ⟨g,cap,cur,rfl,h1,h2,h3⟩
 exact ⟨g,cap,cur,rfl,h1,(hv g rfl).trans h2,h3⟩
theorem Ch.own {w:World} {B:Nat} {v:Value} {xs:List Nat} (h:Ch w B v xs) {g:Nat} (hg:v.ownBlock=some g):∃ cs,w.heap[g]? = some (.cells cs 3 (0,0)):=by
 rcases h.2 with ⟨rfl,_⟩ | ⟨g',cap,cur,rfl,h1,h2,h3⟩
 · cases hg
 · cases hg;exact ⟨_,h2⟩
theorem Pg {use:Rl→Bool} {goal m k:Nat} {R:List Rl} (s:BS) (hlt:k<R.length):inner use goal m (R.drop k) k s =
  if decide (R[k].frm.toNat=m) && use R[k] then
   if goal.testBit R[k].dst.toNat then .inl (s.ch m ++ [k])
   else if s.seen.testBit R[k].dst.toNat then inner use goal m (R.drop (k+1)) (k+1) s
   else inner use goal m (R.drop (k+1)) (k+1) ⟨s.q ++ [R[k].dst.toNat],fun t=>if t=R[k].dst.toNat then s.ch m ++ [k] else s.ch t,s.seen ||| 2 ^ R[k].dst.toNat⟩
  else inner use goal m (R.drop (k+1)) (k+1) s:=by
 rw [AE hlt,inner]
theorem Nc {w:World} {B:Nat} {v:Value} {xs:List Nat} {k:Nat} (h:w.ownsRow B 3 1 v (xs.length+1) (G9 xs ++ [.int .i64 (k:Int)])):Ch w B v (xs ++ [k]):=by
 unfold Ch
 have e:G9 (xs ++ [k])=G9 xs ++ [.int .i64 (k:Int)]:=by simp [G9]
 rw [e,AB];exact h
def Ie (A B:Nat) (r:Rl):Bool:=!A.testBit r.frm.toNat || !B.testBit r.dst.toNat
theorem Ph {S:Sch} (hS:Fit S):SK S.eds S.modes.toNat S.acc.toNat<256:=by
 have:∀ n,Bg (fun L=>S.eds.foldl D4 L) n S.acc.toNat<256:=by
  intro n
  induction n with
  | zero=>show S.acc.toNat<256;have:=hS.a0;have:=hS.a1;omega
  | succ n ih=>exact LI _ _ hS.within ih
 exact this _
def BA (S:Sch):Nat:=SK S.eds S.modes.toNat S.acc.toNat
def Cb (S:Sch):Nat:=Pa S.eds S.modes.toNat
def If (S:Sch):List Nat:=if (BA S).testBit 0 then bfs (fun _=>true) (255 - BA S) S.rules 0 else []
def CL (r:Rl):Bool:=decide (r.inp.size=0)
def DC:List Nat→List Nat→Prop
 | a :: xs,b :: ys=>a<b∨(a=b∧DC xs ys)
 | _,_=>False
def sl (a b:List Nat):Prop:=a.length<b.length∨(a.length=b.length∧DC a b)
def sle (a b:List Nat):Prop:=a=b∨sl a b
theorem GW:∀ a,¬ DC a a
 | []=>id
 | a :: xs=>fun h=>h.elim (Nat.lt_irrefl _) fun h=>GW xs h.2
theorem I0:∀ {a b c:List Nat},DC a b→DC b c→DC a c
 | a
   :: xs,b :: ys,c :: zs,h,h2=>by
  rcases h with h | ⟨rfl,h⟩
  ·
   rcases h2 with h2 | ⟨rfl,h2⟩
   · exact .inl (Nat.lt_trans h h2)
   · exact .inl h
  ·
   rcases h2 with h2 | ⟨rfl,h2⟩
   · exact .inl h2
   · exact .inr ⟨rfl,I0 h h2⟩
 | [],_,_,h,_=>h.elim
 | _ :: _,[],_,h,_=>h.elim
 | _ :: _,_ :: _,[],_,h=>h.elim
theorem I1:∀ {a b:List Nat},a.length=b.length→a=b∨DC a b∨DC b a
 | [],[],_=>.inl rfl
 | [],_ :: _,h=>by simp at h
 | _ :: _,[],h=>by simp at h
 | a
   :: xs,b :: ys,h=>by
  rcases Nat.lt_trichotomy a b with h1 | h1 | h1
  · exact .inr (.inl (.inl h1))
  ·
   subst h1
   rcases I1 (a:=xs) (b:=ys) (by simpa using h) with h2 | h2 | h2
   · exact .inl (by rw [h2])
   · exact .inr (.inl (.inr ⟨rfl,h2⟩))
   · exact .inr (.inr (.inr ⟨rfl,h2⟩))
  · exact .inr (.inr (.inl h1))
theorem GX:∀ {a b:List Nat} (x y:List Nat),DC a b→DC (a ++ x) (b ++ y)
 | a :: xs,b :: ys,x,y,h=>h.elim (fun h=>.inl h) fun h=>.inr ⟨h.1,GX x y h.2⟩
 | [],_,_,_,h=>h.elim
 | _ :: _,[],_,_,h=>h.elim
theorem Ig:∀ (a:List Nat) {x y:List Nat},DC x y→DC (a ++ x) (a ++ y)
 | [],_,_,h=>h
 | _ :: xs,_,_,h=>.inr ⟨rfl,Ig xs h⟩
theorem OC (a:List Nat):¬ sl a a:=fun h=>h.elim (Nat.lt_irrefl _) fun h=>GW a h.2
theorem Du {a b c:List Nat} (h:sl a b) (h2:sl b c):sl a c:=by
 rcases h with h | ⟨h,hl⟩ <;> rcases h2 with h2 | ⟨h2,hl2⟩
 · exact .inl (by omega)
 · exact .inl (by omega)
 · exact .inl (by omega)
 · exact .inr ⟨by omega,I0 hl hl2⟩
theorem Pi (a b:List Nat):a=b∨sl a b∨sl b a:=by
 rcases Nat.lt_trichotomy a.length b.length with h | h | h
 · exact .inr (.inl (.inl h))
 ·
  rcases I1 h with h2 | h2 | h2
  · exact .inl h2
  · exact .inr (.inl (.inr ⟨h,h2⟩))
  · exact .inr (.inr (.inr ⟨h.symm,h2⟩))
 · exact .inr (.inr (.inl h))
theorem KV {a b:List Nat} (h:sl a b) (x y:Nat):sl (a ++ [x]) (b ++ [y]):=by
 rcases h with h | ⟨h,hl⟩
 · exact .inl (by simp;omega)
 · exact .inr ⟨by simp;omega,GX _ _ hl⟩
theorem GY (a:List Nat) {x y:Nat} (h:x<y):sl (a ++ [x]) (a ++ [y]):=.inr ⟨by simp,Ig a (x:=[x]) (y:=[y]) (show x<y∨_ from .inl h)⟩
theorem Nf (a:List Nat) (x:Nat):sl a (a ++ [x]):=.inl (by simp)
theorem Dv (a:List Nat):sle a a:=.inl rfl
theorem C7 {a b c:List Nat} (h:sle a b) (h2:sle b c):sle a c:=by
 rcases h with rfl | h
 · exact h2
 ·
  rcases h2 with rfl | h2
  · exact .inr h
  · exact .inr (Du h h2)
theorem F3 {a b:List Nat} (h:sle a b) (x:Nat):sle (a ++ [x]) (b ++ [x]):=by
 rcases h with rfl | h
 · exact Dv _
 · exact .inr (KV h x x)
theorem GZ {a b:List Nat} (h:sle a b) (h2:sle b a):a=b:=by
 rcases h with h | h
 · exact h
 ·
  rcases h2 with h2 | h2
  · exact h2.symm
  · exact absurd (Du h h2) (OC _)
theorem KW {a b c:List Nat} (h:sl a b) (h2:sle b c):sl a c:=by
 rcases h2 with rfl | h2
 · exact h
 · exact Du h h2
theorem Hd (a b:List Nat):sl a b∨sle b a:=by
 rcases Pi a b with h | h | h
 · exact .inr (.inl h.symm)
 · exact .inl h
 · exact .inr (.inr h)
def leads (use:Rl→Bool) (R:List Rl):Nat→List Nat→Option Nat
 | m,[]=>some m
 | m,i :: c=>if h:i<R.length then (if R[i].frm.toNat=m∧use R[i]=true then leads use R R[i].dst.toNat c else none) else none
def Stp (use:Rl→Bool) (R:List Rl) (u i t:Nat):Prop:=∃ h:i<R.length,R[i].frm.toNat=u∧use R[i]=true∧R[i].dst.toNat=t
theorem CQ {use:Rl→Bool} {R:List Rl} {m i t:Nat} {c:List Nat}:leads use R m (i :: c)=some t↔∃ u,Stp use R m i u∧leads use R u c=some t:=by
 rw [leads]
 constructor
 ·
  intro h
  split at h
  ·
   rename_i hi
   split at h
   · rename_i h2;exact ⟨_,⟨hi,h2.1,h2.2,rfl⟩,h⟩
   · cases h
  · cases h
 ·
  rintro ⟨u,⟨hi,h1,h2,rfl⟩,h⟩
  rw [dif_pos hi,if_pos ⟨h1,h2⟩];exact h
theorem EY {use:Rl→Bool} {R:List Rl}:∀ {m t:Nat} {c d:List Nat},leads use R m (c ++ d)=some t↔∃ u,leads use R m c=some u∧leads use R u d=some t
 | m,t,[],d=>by simp [leads]
 | m,t,i :: c,d=>by
  rw [List.cons_append,CQ]
  constructor
  ·
   rintro ⟨u,h1,h2⟩
   obtain ⟨v,h3,h4⟩:=EY.1 h2
   exact ⟨v,CQ.2 ⟨u,h1,h3⟩,h4⟩
  ·
   rintro ⟨v,h1,h2⟩
   obtain ⟨u,h3,h4⟩:=CQ.1 h1
   exact ⟨u,h3,EY.2 ⟨v,h4,h2⟩⟩
theorem By {use:Rl→Bool} {R:List Rl} {m t i:Nat} {c:List Nat}:leads use R m (c ++ [i])=some t↔∃ u,leads use R m c=some u∧Stp use R u i t:=by
 rw [EY]
 constructor
 ·
  rintro ⟨u,h1,h2⟩
  obtain ⟨v,h3,h4⟩:=CQ.1 h2
  cases h4
  exact ⟨u,h1,h3⟩
 ·
  rintro ⟨u,h1,h2⟩
  exact ⟨u,h1,CQ.2 ⟨t,h2,rfl⟩⟩
theorem EZ {α:Type} (c:List α):c=[]∨∃ d x,c=d ++ [x]:=by
 rcases List.eq_nil_or_concat c with h | ⟨d,x,h⟩
 · exact .inl h
 · exact .inr ⟨d,x,by rw [h];try simp⟩
structure Pj (use:Rl→Bool) (R:List Rl) (start goal:Nat) (c:List Nat):Prop where
 ne:c≠[]
 is:∃ g,leads use R start c=some g∧goal.testBit g=true
 least:∀ d g,d≠[]→leads use R start d=some g→goal.testBit g=true→sle c d
def KX (use:Rl→Bool) (R:List Rl) (start goal:Nat):Prop:=∀ d g,d≠[]→leads use R start d=some g→goal.testBit g=false
theorem LK {use:Rl→Bool} {R:List Rl} {start goal:Nat} {c d:List Nat} (h:Pj use R start goal c) (h2:Pj use R start goal d):c=d:=by
 obtain ⟨g,hg,hb⟩:=h.is
 obtain ⟨g2,hg2,hb2⟩:=h2.is
 exact GZ (h.least d g2 h2.ne hg2 hb2) (h2.least c g h.ne hg hb)
structure BI (use:Rl→Bool) (R:List Rl) (start goal:Nat) (D:List Nat) (s:BS):Prop where
 chain:∀ t∈D ++ s.q,leads use R start (s.ch t)=some t
 seenL:∀ t,s.seen.testBit t=true↔t∈D ++ s.q
 base:start∈D ++ s.q∧s.ch start=[]
 sorted:(D ++ s.q).Pairwise (fun a b=>sl (s.ch a) (s.ch b))
def JX (use:Rl→Bool) (R:List Rl) (goal:Nat) (D:List Nat) (s:BS) (u i:Nat):Prop :=
 ∀ t,Stp use R u i t→t∈D ++ s.q∧sle (s.ch t) (s.ch u ++ [i])∧goal.testBit t=false
theorem
    frontier {use:Rl→Bool} {R:List Rl} {start goal:Nat} {D:List Nat} {m k:Nat} {s:BS} (hI:BI use R start goal (D ++ [m]) s)
  (hd:∀ u∈D,∀ i,JX use R goal (D ++ [m]) s u i) (hm:∀ i,i<k→JX use R goal (D ++ [m]) s m i) :
  ∀ (N:Nat) (c:List Nat) (n:Nat),c.length=N→leads use R start c=some n→(n∈(D ++ [m]) ++ s.q∧sle (s.ch n) c∧(c=[]∨goal.testBit n=false))∨sle (s.ch m ++ [k]) c:=by
 intro N
 induction N with
 | zero =>
  intro c n hc hn
  obtain rfl:=List.eq_nil_of_length_eq_zero hc
  cases hn
  exact .inl ⟨hI.base.1,by rw [hI.base.2];exact Dv _,.inl rfl⟩
 | succ N ih =>
  intro c n hc hn
  rcases EZ c with rfl | ⟨c,i,rfl⟩
  · simp at hc
  obtain ⟨u,h1,h2⟩:=By.1 hn
  rcases ih c u (by simpa using hc) h1 with ⟨hu,hle, -⟩ | h
  ·
   rw [List.append_assoc] at hu
   rcases AV.1 hu with hu | hu
   ·
    obtain ⟨q1,q2,q3⟩:=hd u hu i n h2
    exact .inl ⟨q1,C7 q2 (F3 hle i),.inr q3⟩
   ·
    rw [List.singleton_append] at hu
    rcases AU.1 hu with rfl | hu
    ·
     by_cases hik:i<k
     ·
      obtain ⟨q1,q2,q3⟩:=hm i hik n h2
      exact .inl ⟨q1,C7 q2 (F3 hle i),.inr q3⟩
     ·
      refine .inr (C7 ?_ (F3 hle i))
      by_cases e:i=k
      · subst e;exact Dv _
      · exact .inr (GY _ (by omega))
    ·
     have hs:sl (s.ch m) (s.ch u):=by
      have:=hI.sorted
      rw [List.append_assoc,List.pairwise_append] at this
      have:=this.2.1
      rw [List.singleton_append,AR] at this
      exact this.1 u hu
     exact .inr (C7 (.inr (KV hs k i)) (F3 hle i))
  · exact .inr (C7 h (.inr (Nf c i)))
theorem LM {use:Rl→Bool} {R:List Rl} {start goal:Nat} {D:List Nat} {s:BS} (hI:BI use R start goal D s) (hd:∀ u∈D,∀ i,JX use R goal D s u i) (hq:s.q=[]):KX use R start goal:=by
 have key:∀ (N:Nat) (c:List Nat) (n:Nat),c.length=N→leads use R start c=some n→n∈D∧(c=[]∨goal.testBit n=false):=by
  intro N
  induction N with
  | zero =>
   intro c n hc hn
   obtain rfl:=List.eq_nil_of_length_eq_zero hc
   cases hn
   have:=hI.base.1
   rw [hq,List.append_nil] at this
   exact ⟨this,.inl rfl⟩
  | succ N ih =>
   intro c n hc hn
   rcases EZ c with rfl | ⟨c,i,rfl⟩
   · simp at hc
   obtain ⟨u,h1,h2⟩:=By.1 hn
   obtain ⟨hu, -⟩:=ih c u (by simpa using hc) h1
   obtain ⟨q1,q2,q3⟩:=hd u hu i n h2
   rw [hq,List.append_nil] at q1
   exact ⟨q1,.inr q3⟩
 intro d g hd0 hdl
 rcases (key d.length d g rfl hdl).2 with h | h
 · exact absurd h hd0
 · exact h
theorem
    inner_spec {use:Rl→Bool} {R:List Rl} {start goal:Nat} {D:List Nat} {m:Nat}:∀ (N k:Nat) (s:BS),R.length - k=N→k≤R.length→BI use R start goal (D ++ [m]) s →
  (∀ u∈D,∀ i,JX use R goal (D ++ [m]) s u i)→(∀ i,i<k→JX use R goal (D ++ [m]) s m i)→(∀ t∈(D ++ [m]) ++ s.q,sl (s.ch t) (s.ch m ++ [k])) →
  match inner use goal m (R.drop k) k s with
  | .inl c=>Pj use R start goal c
  | .inr s'=>BI use R start goal (D ++ [m]) s'∧(∀ u∈D ++ [m],∀ i,JX use R goal (D ++ [m]) s' u i)∧(∀ t∈(D ++ [m]) ++ s'.q,sl (s'.ch t) (s'.ch m ++ [R.length])):=by
 intro N
 induction N with
 | zero =>
  intro k s hN hk hI hd hm hb
  obtain rfl:k=R.length:=by omega
  rw [List.drop_length,inner]
  refine ⟨hI,fun u hu i=>?_,hb⟩
  rcases AV.1 hu with hu | hu
  · exact hd u hu i
  ·
   simp at hu;subst hu
   rintro t ⟨hi,h⟩
   exact hm i hi t ⟨hi,h⟩
 | succ N ih
       =>
  intro k s hN hk hI hd hm hb
  have hlt:k<R.length:=by omega
  have hmL:m∈(D ++ [m]) ++ s.q:=by simp
  rw [Pg s hlt]
  by_cases hc:(decide (R[k].frm.toNat=m) && use R[k])=true
  ·
   rw [if_pos hc]
   simp only [Bool.and_eq_true,decide_eq_true_eq] at hc
   have hst:Stp use R m k R[k].dst.toNat:=⟨hlt,hc.1,hc.2,rfl⟩
   by_cases hg:goal.testBit R[k].dst.toNat=true
   ·
    rw [if_pos hg]
    refine ⟨by simp,⟨_,By.2 ⟨m,hI.chain m hmL,hst⟩,hg⟩,fun d g hd0 hdl hdg=>?_⟩
    rcases frontier hI hd hm d.length d g rfl hdl with ⟨_,_,h | h⟩ | h
    · exact absurd h hd0
    · rw [hdg] at h;cases h
    · exact h
   ·
    have hg':goal.testBit R[k].dst.toNat=false:=by simpa using hg
    rw [if_neg hg]
    by_cases hs:s.seen.testBit R[k].dst.toNat=true
    ·
     rw [if_pos hs]
     refine ih (k+1) s (by omega) (by omega) hI hd (fun i hi=>?_) (fun t ht=>Du (hb t ht) (GY _ (by omega)))
     by_cases e:i=k
     ·
      subst e
      rintro t ⟨h1,h2,h3,rfl⟩
      exact ⟨(hI.seenL _).1 hs,.inr (hb _ ((hI.seenL _).1 hs)),hg'⟩
     · exact hm i (by omega)
    ·
     rw [if_neg hs]
     have hnot:R[k].dst.toNat ∉ (D ++ [m]) ++ s.q:=fun h=>hs ((hI.seenL _).2 h)
     generalize hd0:R[k].dst.toNat=d at *
     have hmd:m≠d:=fun e:m=d=>hnot (e ▸ hmL)
     have hch:∀ t∈(D ++ [m]) ++ s.q,(if t=d then s.ch m ++ [k] else s.ch t)=s.ch t:=fun t ht=>if_neg (fun e:t=d=>hnot (e ▸ ht))
     have hmem:∀ t,t∈(D ++ [m]) ++ (s.q ++ [d])↔(t∈(D ++ [m]) ++ s.q∨t=d):=fun t=>by
      rw [← List.append_assoc];simp only [AV (t:=[d]),AD]
     have hDone:∀ u i,u∈(D ++ [m]) ++ s.q→JX use R goal (D ++ [m]) s u i→JX use R goal (D ++ [m]) ⟨s.q ++ [d],fun t=>if t=d then s.ch m ++ [k] else s.ch t,s.seen ||| 2 ^ d⟩ u i:=by
      intro u i hu h t ht
      obtain ⟨q1,q2,q3⟩:=h t ht
      refine ⟨(hmem t).2 (.inl q1),?_,q3⟩
      show sle (if t=d then s.ch m ++ [k] else s.ch t) ((if u=d then s.ch m ++ [k] else s.ch u) ++ [i])
      rw [hch t q1,hch u hu];exact q2
     have hDm:∀ u,u∈D→u∈(D ++ [m]) ++ s.q:=fun u hu=>by simp [hu]
     refine ih (k+1) ⟨s.q ++ [d],fun t=>if t=d then s.ch m ++ [k] else s.ch t,s.seen ||| 2 ^ d⟩ (by omega) (by omega) ⟨fun t ht=>?_,fun t=>?_,⟨(hmem _).2 (.inl hI.base.1),?_⟩,?_⟩ (fun u hu i=>hDone u i (hDm u hu) (hd u hu i)) (fun i hi=>?_) (fun t ht=>?_)
     ·
      show leads use R start (if t=d then s.ch m ++ [k] else s.ch t)=some t
      rcases (hmem t).1 ht with h | rfl
      · rw [hch t h];exact hI.chain t h
      · rw [if_pos rfl];exact By.2 ⟨m,hI.chain m hmL,hst⟩
     ·
      rw [hmem,← hI.seenL,Nat.testBit_or,Nat.testBit_two_pow]
      simp only [Bool.or_eq_true,decide_eq_true_eq]
      exact or_congr Iff.rfl eq_comm
     ·
      show (if start=d then s.ch m ++ [k] else s.ch start)=[]
      rw [hch _ hI.base.1];exact hI.base.2
     ·
      show ((D ++ [m]) ++ (s.q ++ [d])).Pairwise (fun a b=>sl (if a=d then s.ch m ++ [k] else s.ch a) (if b=d then s.ch m ++ [k] else s.ch b))
      rw [← List.append_assoc,List.pairwise_append]
      refine ⟨?_,by simp,fun a ha b hb'=>?_⟩
      ·
       refine List.Pairwise.imp_of_mem (fun {a b} ha hb' h=>?_) hI.sorted
       rw [hch a ha,hch b hb'];exact h
      ·
       simp at hb';subst hb'
       rw [if_pos rfl,hch a ha];exact hb a ha
     ·
      by_cases e:i=k
      ·
       subst e
       rintro t ⟨h1,h2,h3,rfl⟩
       rw [hd0]
       refine ⟨(hmem _).2 (.inr rfl),?_,by rw [← hd0];first | exact hg' | (rw [hd0];exact hg')⟩
       show sle (if d=d then s.ch m ++ [i] else s.ch d) ((if m=d then s.ch m ++ [i] else s.ch m) ++ [i])
       rw [if_pos rfl,if_neg hmd];exact Dv _
      · exact hDone m i hmL (hm i (by omega))
     ·
      show sl (if t=d then s.ch m ++ [k] else s.ch t) ((if m=d then s.ch m ++ [k] else s.ch m) ++ [k+1])
      rw [if_neg hmd]
      rcases (hmem t).1 ht with h | rfl
      · rw [hch t h];exact Du (hb t h) (GY _ (by omega))
      · rw [if_pos rfl];exact GY _ (by omega)
  ·
   rw [if_neg hc]
   refine ih (k+1) s (by omega) (by omega) hI hd (fun i hi=>?_) (fun t ht=>Du (hb t ht) (GY _ (by omega)))
   by_cases e:i=k
   ·
    subst e
    rintro t ⟨h1,h2,h3,rfl⟩
    exact absurd (by simp [h2,h3]) hc
   · exact hm i (by omega)
theorem RB {N L t:Nat} (ht:t<N) (h:L.testBit t=false):cntF N (L ||| 2 ^ t).testBit+1=cntF N L.testBit:=by
 have:=cntF_add (f:=L.testBit) (g:=(L ||| 2 ^ t).testBit) (t:=t) (fun i=>by rw [Nat.testBit_or,Nat.testBit_two_pow]) h N
 rwa [if_pos ht] at this
theorem LN:∀ N,cntF N (fun _=>false)=N
 | 0=>rfl
 | N+1=>by simp [cntF,LN N]
theorem RC {N t:Nat} (ht:t<N):cntF N (2 ^ t).testBit+1=N:=by
 have:=cntF_add (f:=fun _=>false) (g:=(2 ^ t).testBit) (t:=t) (fun i=>by rw [Nat.testBit_two_pow];simp) rfl N
 rwa [if_pos ht,LN] at this
structure Sm (N:Nat) (s:BS):Prop where
 short:∀ t,t<N→(s.ch t).length+cntF N s.seen.testBit<N
 modes:∀ t∈s.q,t<N
def Small (N:Nat) (R:List Rl):Prop:=∀ r∈R,r.frm.toNat<N∧r.dst.toNat<N
def Ta (N:Nat) (s:BS):List Nat ⊕ BS→Prop
 | .inl c=>c.length≤N
 | .inr s'=>Sm N s'∧s'.q.length+cntF N s'.seen.testBit=s.q.length+cntF N s.seen.testBit
theorem
    inner_small {use:Rl→Bool} {goal N m:Nat} (hm:m<N):∀ (R:List Rl) (k:Nat) (s:BS),Small N R→Sm N s→Ta N s (inner use goal m R k s)
 | [],k,s,_,h=>⟨h,rfl⟩
 | r
   :: R,
      k,s,hR,h=>by
  have hR':Small N R:=fun x hx=>hR x (by simp [hx])
  have hd:=(hR r (by simp)).2
  rw [inner]
  split
  ·
   split
   ·
    show (s.ch m ++ [k]).length≤N
    have:=h.short m hm;rw [AB];simp only [List.length_cons,List.length_nil];omega
   ·
    split
    · exact inner_small hm R (k+1) s hR' h
    ·
     rename_i hs
     have hs':s.seen.testBit r.dst.toNat=false:=by simpa using hs
     generalize r.dst.toNat=d at *
     have hc:=RB hd hs'
     have:=inner_small (use:=use) (goal:=goal) hm R (k+1) ⟨s.q ++ [d],fun t=>if t=d then s.ch m ++ [k] else s.ch t,s.seen ||| 2 ^ d⟩ hR' ⟨fun t ht=>?_,fun t ht=>?_⟩
     ·
      revert this
      generalize inner use goal m R (k+1) ⟨s.q ++ [d],fun t=>if t=d then s.ch m ++ [k] else s.ch t,s.seen ||| 2 ^ d⟩=r'
      cases r' with
      | inl c=>exact id
      | inr s' =>
       rintro ⟨h1,h2⟩
       refine ⟨h1,h2.trans ?_⟩
       show (s.q ++ [d]).length+cntF N (s.seen ||| 2 ^ d).testBit=_
       rw [AB];simp only [List.length_cons,List.length_nil];omega
     ·
      show (if t=d then s.ch m ++ [k] else s.ch t).length+cntF N (s.seen ||| 2 ^ d).testBit<N
      have h1:=h.short m hm;have h2:=h.short t ht
      split
      · rw [AB];simp only [List.length_cons,List.length_nil];omega
      · omega
     ·
      rcases AV.1 ht with h1 | h1
      · exact h.modes t h1
      · simp at h1;omega
  · exact inner_small hm R (k+1) s hR' h
theorem
    outer_spec {use:Rl→Bool} {R:List Rl} {start goal N:Nat} (hR:Small N R):∀ (n:Nat) (D:List Nat) (s:BS),BI use R start goal D s→(∀ u∈D,∀ i,JX use R goal D s u i) →
  (∀ x∈s.q,∀ t∈D ++ s.q,sl (s.ch t) (s.ch x ++ [0]))→Sm N s→s.q.length+cntF N s.seen.testBit≤n →
  (outer use goal R n s=[]∧KX use R start goal)∨(Pj use R start goal (outer use goal R n s)∧(outer use goal R n s).length≤N):=by
 intro n
 induction n with
 | zero =>
  intro D s hI hd hb hS hn
  have hq:s.q=[]:=List.eq_nil_of_length_eq_zero (by omega)
  exact .inl ⟨rfl,LM hI hd hq⟩
 | succ n ih =>
  intro D s hI hd hb hS hn
  rcases hq:s.q with _ | ⟨m,q⟩
  · exact .inl ⟨OB hq,LM hI hd hq⟩
  ·
   have hL:D ++ s.q=(D ++ [m]) ++ q:=by rw [hq];simp
   have hmN:m<N:=hS.modes m (by rw [hq];simp)
   have hI':BI use R start goal (D ++ [m]) { s with q:=q }:=⟨by rw [← hL];exact hI.chain,by rw [← hL];exact hI.seenL,by rw [← hL];exact hI.base,by rw [← hL];exact hI.sorted⟩
   have hd':∀ u∈D,∀ i,JX use R goal (D ++ [m]) { s with q:=q } u i:=fun u hu i t ht=>by
    have:=hd u hu i t ht
    rw [hL] at this;exact this
   have h1:=inner_spec (R.length - 0) 0 { s with q:=q } rfl (Nat.zero_le _) hI' hd' (fun i hi=>absurd hi (by omega)) (fun t ht=>hb m (by rw [hq];simp) t (by rw [hL];exact ht))
   have h2:=inner_small (use:=use) (goal:=goal) hmN R 0 { s with q:=q } hR ⟨hS.short,fun t ht=>hS.modes t (by rw [hq];simp [ht])⟩
   rw [List.drop_zero] at h1
   have he:outer use goal R (n+1) s=match inner use goal m R 0 { s with q:=q } with | .inl c=>c | .inr s'=>outer use goal R n s':=by rw [outer,hq] <;> rfl
   rw [he]
   revert h1 h2
   generalize inner use goal m R 0 { s with q:=q }=r'
   cases r' with
   | inl c=>exact fun h1 h2=>.inr ⟨h1,h2⟩
   | inr
      s' =>
    rintro ⟨hI2,hd2,hb2⟩ ⟨hS2,hn2⟩
    refine ih (D ++ [m]) s' hI2 hd2 (fun x hx t ht=>?_) hS2 ?_
    ·
     have hs:sl (s'.ch m) (s'.ch x):=by
      have:=hI2.sorted
      rw [List.append_assoc,List.pairwise_append] at this
      have:=this.2.1
      rw [List.singleton_append,AR] at this
      exact this.1 x hx
     exact Du (hb2 t ht) (KV hs _ _)
    ·
     rw [hq] at hn
     simp only [List.length_cons] at hn
     have:s'.q.length+cntF N s'.seen.testBit=q.length+cntF N s.seen.testBit:=hn2
     omega
theorem F4 {use:Rl→Bool} {R:List Rl} {start goal N:Nat} (hR:Small N R) (hN:N≤8) (hs:start<N) :
  (bfs use goal R start=[]∧KX use R start goal)∨(Pj use R start goal (bfs use goal R start)∧(bfs use goal R start).length≤N):=by
 have hc:=RC hs
 refine outer_spec hR 8 [] ⟨[start],fun _=>[],2 ^ start⟩ ⟨fun t ht=>?_,fun t=>?_,⟨by simp,rfl⟩,by simp⟩ (by simp) (fun x hx t ht=>?_) ⟨fun t ht=>?_,fun t ht=>?_⟩ ?_
 · simp at ht;subst ht;rfl
 · rw [Nat.testBit_two_pow];simp [eq_comm]
 · exact Nf [] 0
 · show 0+cntF N (2 ^ start).testBit<N;omega
 · simp at ht;omega
 · show 1+cntF N (2 ^ start).testBit≤8;omega
theorem Ng {use:Rl→Bool} {R:List Rl} {start goal N:Nat} (hR:Small N R) (hN:N≤8) (hs:start<N):(bfs use goal R start).length≤N:=by
 rcases F4 (use:=use) (goal:=goal) hR hN hs with ⟨h,_⟩ | ⟨_,h⟩
 · rw [h];simp
 · exact h
theorem Fit.small {S:Sch} (h:Fit S):Small S.modes.toNat S.rules:=fun r hr=>by
 obtain ⟨i,hi,rfl⟩:=List.mem_iff_getElem.1 hr
 have:=h.at0 i hi
 omega
def ints (l:List Nat):List Int:=l.map fun (n:Nat)=>(n:Int)
def Ga (S:Sch) (m:Nat):Bool:=(Cb S).testBit m && (BA S).testBit m
def
  endStep (S:Sch) (least:List Nat) (m:Nat):List Nat :=
 if
   Ga S m then
  (
   if bfs CL (2 ^ m) S.rules m=[] then least
   else if least=[] then bfs CL (2 ^ m) S.rules m
   else if Sa (ints (bfs CL (2 ^ m) S.rules m)) (ints least)<0 then bfs CL (2 ^ m) S.rules m else least)
 else least
def T9 (S:Sch):List Nat:=(List.range S.modes.toNat).foldl (endStep S) []
theorem B6 (l:List Nat):(ints l).length=l.length:=by simp [ints]
theorem Ch.sls {w:World} {B:Nat} {a:Option Addr} {n c:Nat} {xs:List Nat} (h:Ch w B (.slice a n c) xs):SlS w a (ints xs)∧n=xs.length:=by
 obtain ⟨a',c',he, -,hs⟩:=h.sl
 cases he
 exact ⟨hs,rfl⟩
def Dg (S:Sch) (k:Nat):List Nat:=(List.range k).filter fun i=>if h:i<S.rules.length then Ie (Cb S) (BA S) S.rules[i] else false
theorem Ch.form {w:World} {B:Nat} {v:Value} {xs:List Nat} (h:Ch w B v xs):∃ a n c,v=.slice a n c:=by
 obtain ⟨a,c,he, -⟩:=h.sl
 exact ⟨a,_,c,he⟩
structure Rp where
 dead:List Nat
 stuck:List Nat
 endl:List Nat
theorem LO {w:World} {g:Nat} {x0 x1 x2 a b c:Value} {t:TypeId} {f:Nat × Nat} (h:w.heap[g]? = some (.cells #[x0,x1,x2] t f)) :
  (((w.setCell ⟨g,0,none⟩ a).setCell ⟨g,1,none⟩ b).setCell ⟨g,2,none⟩ c).heap[g]? = some (.cells #[a,b,c] t f):=by
 simp only [World.setCell]
 rw [Array.getElem?_modify,if_pos rfl,Array.getElem?_modify,if_pos rfl,Array.getElem?_modify,if_pos rfl,h]
 rfl
theorem Dc {w:World} {B g i:Nat} {v u:Value} {xs:List Nat} {cs:Array Value} {f:Nat × Nat} (h:Ch w B v xs) (hg:w.heap[g]? = some (.cells cs 108 f)):Ch (w.setCell ⟨g,i,none⟩ u) B v xs:=by
 refine h.same fun b hb=>Below.heap_setCell _ _ _ _ fun e=>?_
 obtain ⟨cs',h2⟩:=h.own hb
 simp only at e
 rw [e,hg] at h2
 cases h2
theorem Jq {w:World} {g i:Nat} {u:Value} {cs:Array Value} {t:TypeId} {f:Nat × Nat} (hg:w.heap[g]? = some (.cells cs t f)):∃ cs',(w.setCell ⟨g,i,none⟩ u).heap[g]? = some (.cells cs' t f):=by
 refine ⟨cs.setIfInBounds i u,?_⟩
 simp only [World.setCell]
 rw [Array.getElem?_modify,if_pos rfl,hg];rfl
theorem KY {w:World} {B g:Nat} {v a b c:Value} {xs:List Nat} {cs:Array Value} {f:Nat × Nat} (h:Ch w B v xs) (hg:w.heap[g]? = some (.cells cs 108 f)):Ch (((w.setCell ⟨g,0,none⟩ a).setCell ⟨g,1,none⟩ b).setCell ⟨g,2,none⟩ c) B v xs:=by
 obtain ⟨c1,h1⟩:=Jq (i:=0) (u:=a) hg
 obtain ⟨c2,h2⟩:=Jq (i:=1) (u:=b) h1
 exact Dc (Dc (Dc h hg) h1) h2
structure LS (w M:World) (g B1:Nat) (v1 v2 v3:Value) (x1 x2 x3:List Nat) (wr:World):Prop where
 rep:wr.heap[g]? = some (.cells #[v1,v2,v3] 108 (0,0))
 d1:Ch wr B1 v1 x1
 d2:Ch wr w.heap.size v2 x2
 d3:Ch wr w.heap.size v3 x3
 l2:∀ b,v2.ownBlock=some b→b<B1
 l3:∀ b,v3.ownBlock=some b→b<B1
 gB:g<B1
 gm:w.heap.size+2≤g
 bB:B1≤wr.heap.size
 bl:Below (w.heap.size+2) M wr
section
variable {w M:World} {g B1:Nat} {v1 v2 v3:Value} {x1 x2 x3:List Nat} {wr:World}
theorem LS.below {w1:World} (h:LS w M g B1 v1 v2 v3 x1 x2 x3 wr) (hb:Below wr.heap.size wr w1):LS w M g B1 v1 v2 v3 x1 x2 x3 w1 :=
 ⟨(
  hb.block g (by have:=h.gB;have:=h.bB;omega)).trans h.rep,h.d1.below hb h.d1.lt,h.d2.below hb h.d2.lt,h.d3.below hb h.d3.lt,h.l2,h.l3,h.gB,h.gm,by have:=h.bB;have:=hb.size;omega,
  h.bl.trans (hb.mono (by have:=h.gB;have:=h.gm;have:=h.bB;omega))⟩
theorem LS.g0 (h:LS w M g B1 v1 v2 v3 x1 x2 x3 wr):wr.cell? ⟨g,0,none⟩=some v1:=by rw [cell_of_row wr g 0 _ _ (0,0) h.rep];rfl
theorem LS.gf (h:LS w M g B1 v1 v2 v3 x1 x2 x3 wr) (i:Nat):wr.frozen? ⟨g,i,none⟩=false:=by simp [World.frozen?,h.rep]
theorem LS.grown {w1:World} {v:Value} {x:List Nat} {row:Option Nat} (h:LS w M g B1 v1 v2 v3 x1 x2 x3 wr) (hg:wr.grownBy w1 row) (hr:∀ k,row=some k→B1≤k) (hd:Ch w1 B1 v x) :
  LS w M g B1 v v2 v3 x x2 x3 (w1.setCell ⟨g,0,none⟩ v):=by
 have hb:Below B1 wr w1:=(Below.refl _ wr).grown hg h.bB hr
 have hrep:w1.heap[g]? = some (.cells #[v1,v2,v3] 108 (0,0)):=(hb.block g h.gB).trans h.rep
 refine ⟨?_,Dc hd hrep,Dc (h.d2.below hb h.l2) hrep,Dc (h.d3.below hb h.l3) hrep,h.l2,h.l3,h.gB,h.gm,by have:=h.bB;have:=hb.size;rw [World.size_setCell];omega,(h.bl.trans (hb.mono (by have:=h.gB;have:=h.gm;omega))).setCell h.gm _⟩
 simp only [World.setCell]
 rw [Array.getElem?_modify,if_pos rfl,hrep];rfl
theorem LS.cells {w1:World} {row:Option Nat} (h:LS w M g B1 v1 v2 v3 x1 x2 x3 wr) (hg:wr.grownBy w1 row) (hr:∀ k,row=some k→B1≤k):w1.cell? ⟨g,0,none⟩=some v1∧w1.frozen? ⟨g,0,none⟩=false:=by
 have hb:Below B1 wr w1:=(Below.refl _ wr).grown hg h.bB hr
 exact ⟨(hb.cell (p:=⟨g,0,none⟩) h.gB).trans h.g0,(hb.frozen (p:=⟨g,0,none⟩) h.gB).trans (h.gf 0)⟩
end
theorem cells3 {w:World} {g:Nat} {a b c:Value} {t:TypeId} {f:Nat × Nat} (h:w.heap[g]? = some (.cells #[a,b,c] t f)) :
  w.cell? ⟨g,0,none⟩=some a∧w.cell? ⟨g,1,none⟩=some b∧w.cell? ⟨g,2,none⟩=some c:=by
 refine ⟨?_,?_,?_⟩
 · rw [cell_of_row w g 0 _ _ f h];rfl
 · rw [cell_of_row w g 1 _ _ f h];rfl
 · rw [cell_of_row w g 2 _ _ f h];rfl
theorem MY (S:Sch) (k:Nat) (h:k<S.rules.length):Dg S (k+1)=if Ie (Cb S) (BA S) S.rules[k] then Dg S k ++ [k] else Dg S k:=by
 unfold Dg
 rw [List.range_succ,List.filter_append]
 simp only [List.filter_cons,List.filter_nil,dif_pos h]
 split <;> simp
theorem OD (S:Sch) (k:Nat):(Dg S k).length≤k:=by
 have:=List.length_filter_le (fun i=>if h:i<S.rules.length then Ie (Cb S) (BA S) S.rules[i] else false) (List.range k)
 simpa [Dg] using this
def BQ (n L:Nat):List Bool:=(List.range n).map L.testBit
theorem He (n L:Nat):(BQ n L).length=n:=by simp [BQ]
theorem Hf {n L i:Nat} (h:i<n):(BQ n L)[i]? = some (L.testBit i):=by
 rw [BQ,List.getElem?_map,List.getElem?_range h];rfl
theorem Jr {n L t:Nat} (h:t<n):(BQ n L).set t true=BQ n (L ||| 2 ^ t):=by
 apply List.ext_getElem?
 intro i
 rw [List.getElem?_set]
 by_cases hi:i<n
 ·
  rw [Hf hi,Hf hi,He,Nat.testBit_or,Nat.testBit_two_pow]
  by_cases e:t=i
  · subst e;simp [h]
  · simp [e]
 ·
  have h1:(BQ n L)[i]? = none:=by rw [AQ];rw [He];omega
  have h2:(BQ n (L ||| 2 ^ t))[i]? = none:=by rw [AQ];rw [He];omega
  rw [h1,h2,if_neg (by omega)]
theorem BM (L t i:Nat):(L ||| 2 ^ t).testBit i=(L.testBit i || decide (t=i)):=by rw [Nat.testBit_or,Nat.testBit_two_pow]
theorem Ih {L:Nat} {x:Ed} {i:Nat} (h:L.testBit i=true):(Bf L x).testBit i=true:=by
 unfold Bf;split
 · rw [BM,h];rfl
 · exact h
theorem Ii {L:Nat} {x:Ed} {i:Nat} (h:L.testBit i=true):(D4 L x).testBit i=true:=by
 unfold D4;split
 · rw [BM,h];rfl
 · exact h
theorem Ea:∀ (E:List Ed) {L i:Nat},L.testBit i=true→(E.foldl Bf L).testBit i=true
 | [],_,_,h=>h
 | x :: E,_,_,h=>Ea E (Ih h)
theorem Eb:∀ (E:List Ed) {L i:Nat},L.testBit i=true→(E.foldl D4 L).testBit i=true
 | [],_,_,h=>h
 | x :: E,_,_,h=>Eb E (Ii h)
theorem Ij:∀ {E:List Ed} {x:Ed} {L:Nat},x∈E→L.testBit x.f=true→(E.foldl Bf L).testBit x.t=true
 | y
   :: E,x,L,h,hb=>by
  rcases AU.1 h with rfl | h
  ·
   refine Ea E ?_
   unfold Bf;rw [if_pos hb,BM];simp
  · exact Ij (E:=E) h (Ih hb)
theorem Ik:∀ {E:List Ed} {x:Ed} {L:Nat},x∈E→L.testBit x.t=true→(E.foldl D4 L).testBit x.f=true
 | y
   :: E,x,L,h,hb=>by
  rcases AU.1 h with rfl | h
  ·
   refine Eb E ?_
   unfold D4;rw [if_pos hb,BM];simp
  · exact Ik (E:=E) h (Ii hb)
theorem cnt_mono {f g:Nat→Bool} (h:∀ i,f i=true→g i=true):∀ n,cntF n g≤cntF n f
 | 0=>A3 _
 | n+1=>by
  have:=cnt_mono h n
  simp only [cntF]
  cases hf:f n with
  | false=>split <;> simp <;> omega
  | true=>rw [h n hf];simp;exact this
theorem cnt_lt {f g:Nat→Bool} (h:∀ i,f i=true→g i=true) {j:Nat} (hj:g j=true) (hf:f j=false):∀ n,j<n→cntF n g<cntF n f
 | n
   + 1,hn=>by
  simp only [cntF]
  by_cases e:j=n
  ·
   subst e
   have:=cnt_mono h j
   rw [hj,hf];simp;omega
  ·
   have:=cnt_lt h hj hf n (by omega)
   cases hfn:f n with
   | false=>split <;> simp <;> omega
   | true=>rw [h n hfn];simp;exact this
theorem LP {f:Nat→Bool}:∀ {n:Nat},cntF n f=0→∀ i,i<n→f i=true
 | n
   + 1,h,i,hi=>by
  simp only [cntF] at h
  by_cases e:i=n
  ·
   subst e;cases hf:f i with
   | true=>rfl
   | false=>rw [hf] at h;simp at h
  · exact LP (n:=n) (by omega) i (by omega)
theorem
    iter_closed {F:Nat→Nat} {n:Nat} (hm:∀ L i,L.testBit i=true→(F L).testBit i=true) (hF:∀ L i,n≤i→(F L).testBit i=L.testBit i) (x:Nat) :
  ∀ i,i<n→(F (Bg F n x)).testBit i=true→(Bg F n x).testBit i=true:=by
 have grow
      :
       ∀ k,(∃ j,j≤k∧∀ i,i<n→(F (Bg F j x)).testBit i=true→(Bg F j x).testBit i=true)∨cntF n (Bg F k x).testBit+k≤n:=by
  intro k
  induction k with
  | zero=>exact .inr (Nb _ n)
  | succ k ih =>
   rcases ih with ⟨j,hj,h⟩ | h
   · exact .inl ⟨j,by omega,h⟩
   ·
    by_cases hc:∀ i,i<n→(F (Bg F k x)).testBit i=true→(Bg F k x).testBit i=true
    · exact .inl ⟨k,by omega,hc⟩
    ·
     obtain ⟨i,hi⟩:=Classical.not_forall.1 hc
     have hi':i<n∧(F (Bg F k x)).testBit i=true∧(Bg F k x).testBit i=false:=by
      refine ⟨?_,?_,?_⟩
      · exact Classical.byContradiction fun h2=>hi fun h3=>absurd h3 h2
      · exact Classical.byContradiction fun h2=>hi fun _ h4=>absurd h4 h2
      ·
       cases hb:(Bg F k x).testBit i with
       | false=>rfl
       | true=>exact absurd (fun _ _=>hb) hi
     have:=cnt_lt (f:=(Bg F k x).testBit) (g:=(Bg F (k+1) x).testBit) (fun j hj=>hm _ _ hj) hi'.2.1 hi'.2.2 n hi'.1
     exact .inr (by omega)
 rcases grow n with ⟨j,hj,h⟩ | h
 ·
  have hfix:F (Bg F j x)=Bg F j x:=by
   apply Nat.eq_of_testBit_eq
   intro i
   by_cases hi:i<n
   ·
    cases hb:(Bg F j x).testBit i with
    | true=>exact hm _ _ hb
    | false =>
     cases hb2:(F (Bg F j x)).testBit i with
     | false=>rfl
     | true=>rw [h i hi hb2] at hb;cases hb
   · exact hF _ i (by omega)
  have hk:∀ k,Bg F (j+k) x=Bg F j x:=by
   intro k
   induction k with
   | zero=>rfl
   | succ k ih=>show F (Bg F (j+k) x)=_;rw [ih,hfix]
  obtain ⟨k,rfl⟩:∃ k,n=j+k:=⟨n - j,by omega⟩
  rw [hk,hfix]
  exact fun _ _ h=>h
 ·
  intro i hi _
  exact LP (by omega) i hi
theorem MZ {n L:Nat} {x:Ed} (hx:x.t<n) {i:Nat} (hi:n≤i):(Bf L x).testBit i=L.testBit i:=by
 unfold Bf;split
 · rw [BM,decide_eq_false (by omega),Bool.or_false]
 · rfl
theorem Ma {n L:Nat} {x:Ed} (hx:x.f<n) {i:Nat} (hi:n≤i):(D4 L x).testBit i=L.testBit i:=by
 unfold D4;split
 · rw [BM,decide_eq_false (by omega),Bool.or_false]
 · rfl
theorem Il {n:Nat}:∀ {E:List Ed} {L i:Nat},Hc n E→n≤i→(E.foldl Bf L).testBit i=L.testBit i
 | [],_,_,_,_=>rfl
 | x :: E,_,_,h,hi=>(Il (E:=E) (fun y hy=>h y (by simp [hy])) hi).trans (MZ (h x (by simp)).2 hi)
theorem Im {n:Nat}:∀ {E:List Ed} {L i:Nat},Hc n E→n≤i→(E.foldl D4 L).testBit i=L.testBit i
 | [],_,_,_,_=>rfl
 | x :: E,_,_,h,hi=>(Im (E:=E) (fun y hy=>h y (by simp [hy])) hi).trans (Ma (h x (by simp)).1 hi)
theorem Hg {F:Nat→Nat} (hm:∀ L i,L.testBit i=true→(F L).testBit i=true) {x i:Nat} (h:x.testBit i=true):∀ n,(Bg F n x).testBit i=true
 | 0=>h
 | n+1=>hm _ _ (Hg hm h n)
def IG:Rl→Bool:=fun _=>true
def BT (S:Sch) (m:Nat):Nat:=Bg (fun L=>S.eds.foldl Bf L) S.modes.toNat (2 ^ m)
theorem Js (S:Sch):Cb S=BT S 0:=rfl
theorem Pk {S:Sch} {x:Ed}:x∈S.eds↔∃ i u t,Stp IG S.rules u i t∧x.f=u∧x.t=t∧∃ h:i<S.rules.length,x=S.rules[i].ed:=by
 constructor
 ·
  intro h
  obtain ⟨r,hr,rfl⟩:=AH.1 h
  obtain ⟨i,hi,rfl⟩:=List.mem_iff_getElem.1 hr
  exact ⟨i,_,_,⟨hi,rfl,rfl,rfl⟩,rfl,rfl,hi,rfl⟩
 ·
  rintro ⟨i,u,t,_,_,_,hi,rfl⟩
  exact AH.2 ⟨_,AG hi,rfl⟩
theorem Pm {S:Sch} {u i t:Nat} (h:Stp IG S.rules u i t):∃ x∈S.eds,x.f=u∧x.t=t:=by
 obtain ⟨hi,h1,_,h2⟩:=h
 exact ⟨S.rules[i].ed,AH.2 ⟨_,AG hi,rfl⟩,h1,h2⟩
theorem Fit.withinN {S:Sch} (h:Fit S):Hc S.modes.toNat S.eds:=by
 intro x hx
 obtain ⟨r,hr,rfl⟩:=AH.1 hx
 exact h.small r hr
theorem
    foldR_sound {S:Sch} {P:Nat→Prop} (hP:∀ u i t,P u→Stp IG S.rules u i t→P t):∀ (E:List Ed),(∀ x∈E,x∈S.eds)→∀ L,(∀ i,L.testBit i=true→P i)→∀ i,(E.foldl Bf L).testBit i=true→P i
 | [],_,_,h,i,hi=>h i hi
 | x
   :: E,hE,L,h,i,hi=>by
  refine foldR_sound hP E (fun y hy=>hE y (by simp [hy])) (Bf L x) (fun j hj=>?_) i hi
  unfold Bf at hj
  split at hj
  ·
   rename_i hx
   rw [BM] at hj
   simp only [Bool.or_eq_true,decide_eq_true_eq] at hj
   rcases hj with hj | rfl
   · exact h j hj
   ·
    obtain ⟨k,u,t,hs,h1,h2,_⟩:=Pk.1 (hE x (by simp))
    exact hP u k _ (h u (by rw [← h1];exact hx)) (h2 ▸ hs)
  · exact h j hj
theorem
    foldL_sound {S:Sch} {P:Nat→Prop} (hP:∀ u i t,P t→Stp IG S.rules u i t→P u):∀ (E:List Ed),(∀ x∈E,x∈S.eds)→∀ L,(∀ i,L.testBit i=true→P i)→∀ i,(E.foldl D4 L).testBit i=true→P i
 | [],_,_,h,i,hi=>h i hi
 | x
   :: E,hE,L,h,i,hi=>by
  refine foldL_sound hP E (fun y hy=>hE y (by simp [hy])) (D4 L x) (fun j hj=>?_) i hi
  unfold D4 at hj
  split at hj
  ·
   rename_i hx
   rw [BM] at hj
   simp only [Bool.or_eq_true,decide_eq_true_eq] at hj
   rcases hj with hj | rfl
   · exact h j hj
   ·
    obtain ⟨k,u,t,hs,h1,h2,_⟩:=Pk.1 (hE x (by simp))
    exact hP _ k t (h t (by rw [← h2];exact hx)) (h1 ▸ hs)
  · exact h j hj
theorem Cg {S:Sch} (hS:Fit S) {use:Rl→Bool}:∀ {c:List Nat} {m t:Nat},m<S.modes.toNat→leads use S.rules m c=some t→t<S.modes.toNat
 | [],m,t,hm,h=>by cases h;exact hm
 | i :: c,m,t,hm,h=>by
  obtain ⟨u,⟨hi,_,_,rfl⟩,h2⟩:=CQ.1 h
  exact Cg hS (hS.small _ (AG hi)).2 h2
theorem
    reach_spec {S:Sch} (hS:Fit S) {m t:Nat} (hm:m<S.modes.toNat):(BT S m).testBit t=true↔∃ c,leads IG S.rules m c=some t:=by
 constructor
 ·
  have key:∀ k t,(Bg (fun L=>S.eds.foldl Bf L) k (2 ^ m)).testBit t=true→∃ c,leads IG S.rules m c=some t:=by
   intro k
   induction k with
   | zero =>
    intro t h
    rw [Bg,Nat.testBit_two_pow] at h
    obtain rfl:m=t:=by simpa using h
    exact ⟨[],rfl⟩
   | succ k ih =>
    intro t h
    exact foldR_sound (P:=fun t=>∃ c,leads IG S.rules m c=some t) (fun u i t ⟨c,hc⟩ hs=>⟨c ++ [i],By.2 ⟨u,hc,hs⟩⟩) S.eds (fun _ h=>h) _ ih t h
  exact key _ t
 ·
  have hcl:=iter_closed (F:=fun L=>S.eds.foldl Bf L) (n:=S.modes.toNat) (fun L i h=>Ea _ h) (fun L i hi=>Il hS.withinN hi) (2 ^ m)
  rintro ⟨c,hc⟩
  have key:∀ (N:Nat) (c:List Nat) (t:Nat),c.length=N→leads IG S.rules m c=some t→(BT S m).testBit t=true:=by
   intro N
   induction N with
   | zero =>
    intro c t hc h
    obtain rfl:=List.eq_nil_of_length_eq_zero hc
    cases h
    exact Hg (F:=fun L=>S.eds.foldl Bf L) (fun L i h=>Ea _ h) (by rw [Nat.testBit_two_pow];simp) _
   | succ N ih =>
    intro c t hc h
    rcases EZ c with rfl | ⟨c,i,rfl⟩
    · simp at hc
    obtain ⟨u,h1,h2⟩:=By.1 h
    have hu:=ih c u (by simpa using hc) h1
    obtain ⟨x,hx,rfl,rfl⟩:=Pm h2
    exact hcl _ (hS.withinN x hx).2 (Ij hx hu)
  exact key _ c t rfl hc
theorem
    live_spec {S:Sch} (hS:Fit S) {m:Nat} (hm:m<S.modes.toNat):(BA S).testBit m=true↔∃ c t,leads IG S.rules m c=some t∧S.acc.toNat.testBit t=true:=by
 constructor
 ·
  have key:∀ k m,(Bg (fun L=>S.eds.foldl D4 L) k S.acc.toNat).testBit m=true→∃ c t,leads IG S.rules m c=some t∧S.acc.toNat.testBit t=true:=by
   intro k
   induction k with
   | zero=>exact fun t h=>⟨[],t,rfl,h⟩
   | succ k ih =>
    intro t h
    exact foldL_sound (P:=fun m=>∃ c t,leads IG S.rules m c=some t∧S.acc.toNat.testBit t=true) (fun u i t ⟨c,v,hc,hv⟩ hs=>⟨i :: c,v,CQ.2 ⟨t,hs,hc⟩,hv⟩) S.eds (fun _ h=>h) _ ih t h
  exact key _ m
 ·
  have hcl:=iter_closed (F:=fun L=>S.eds.foldl D4 L) (n:=S.modes.toNat) (fun L i h=>Eb _ h) (fun L i hi=>Im hS.withinN hi) S.acc.toNat
  rintro ⟨c,t,hc,ht⟩
  have key:∀ (c:List Nat) (m:Nat),leads IG S.rules m c=some t→(BA S).testBit m=true:=by
   intro c
   induction c with
   | nil=>intro m h;cases h;exact Hg (F:=fun L=>S.eds.foldl D4 L) (fun L i h=>Eb _ h) ht _
   | cons i c ih =>
    intro m h
    obtain ⟨u,h1,h2⟩:=CQ.1 h
    have hu:=ih u h2
    obtain ⟨x,hx,rfl,rfl⟩:=Pm h1
    exact hcl _ (hS.withinN x hx).1 (Ik hx hu)
  exact key c m hc
theorem Pn {S:Sch} (hS:Fit S) {m:Nat} (hm:m<S.modes.toNat):(BA S).testBit m=(List.range S.modes.toNat).any (fun k=>(BT S m).testBit k && S.acc.toNat.testBit k):=by
 rw [Bool.eq_iff_iff,live_spec hS hm,List.any_eq_true]
 constructor
 ·
  rintro ⟨c,t,hc,ht⟩
  exact ⟨t,by simp [Cg hS hm hc],by rw [(reach_spec hS hm).2 ⟨c,hc⟩,ht];rfl⟩
 ·
  rintro ⟨t,_,h⟩
  simp only [Bool.and_eq_true] at h
  obtain ⟨c,hc⟩:=(reach_spec hS hm).1 h.1
  exact ⟨c,t,hc,h.2⟩
theorem RD (A:Int) (m:Nat) (h0:0≤A) (hA:A≤255):(bits .and .u8 (A / 2 ^ m) 1 == 1)=A.toNat.testBit m:=by
 obtain ⟨n,rfl⟩:=Int.eq_ofNat_of_zero_le h0
 have hd:((n:Int) / 2 ^ m)=((n / 2 ^ m:Nat):Int):=by simp
 have hlt:n / 2 ^ m<256:=Nat.lt_of_le_of_lt (Nat.div_le_self _ _) (by omega)
 have h1:bits .and .u8 (((n / 2 ^ m:Nat):Int)) ((1:Nat):Int)=((n / 2 ^ m &&& 1:Nat):Int):=u8_and_nat _ _ hlt (by omega)
 rw [hd,show (1:Int)=((1:Nat):Int) from rfl,h1,Nat.and_one_is_mod,Int.toNat_natCast,Nat.testBit_eq_decide_div_mod_eq,Bool.eq_iff_iff,beq_iff_eq,decide_eq_true_iff]
 omega
theorem LQ (S:Sch) (a:Option Addr) (cap:Nat) (m:Int) (w:World) (h0:0≤S.acc) (h1:S.acc≤255) (hm0:0≤m) (hm1:m<8) :
  Calls Tryz.prog 88 #[.agg #[.int .i64 S.modes,.int .u8 S.acc,.slice a S.rules.length cap],.int .i64 m] w fun e w'=>e=.returned (.bool (S.acc.toNat.testBit m.toNat))∧Below w.heap.size w w':=by
 go_enter Tryz.func88,Tryz.ntmps88
 go_wp2
 go_ret
 refine ⟨Ae ?_,by go_grown⟩
 exact RD S.acc m.toNat h0 h1
def GA (w:World) (B:Nat) (v:Value) (n L:Nat):Prop:=∃ g,v=.slice (some ⟨g,0,none⟩) n n∧B≤g∧w.heap[g]? = some (.cells ((BQ n L).map Value.bool).toArray 4 (0,0))
theorem Jt:(Tryz.prog.info? 4).map (fun i=>(i.zero,i.size,i.bytes))=some (some (.bool false),1,1):=by kernel_rfl
theorem LR (n:Nat):madeCells #[Value.bool false] n=((BQ n 0).map Value.bool).toArray:=by
 apply Array.ext
 · simp [madeCells,BQ]
 ·
  intro i h1 h2
  simp [madeCells,BQ,Nat.mod_one]
theorem BE {w:World} {g n L i:Nat} (h:w.heap[g]? = some (.cells ((BQ n L).map Value.bool).toArray 4 (0,0))) (hi:i<n):w.cell? ⟨g,i,none⟩=some (.bool (L.testBit i)):=by
 rw [cell_of_row w g i _ _ (0,0) h]
 rw [List.getElem?_toArray,List.getElem?_map,Hf hi];rfl
theorem Ju {w:World} {g n L i:Nat} (h:w.heap[g]? = some (.cells ((BQ n L).map Value.bool).toArray 4 (0,0))):w.frozen? ⟨g,i,none⟩=false:=by simp [World.frozen?,h]
theorem LU {w:World} {g n L i:Nat} (h:w.heap[g]? = some (.cells ((BQ n L).map Value.bool).toArray 4 (0,0))) (hi:i<n) :
  (w.setCell ⟨g,i,none⟩ (.bool true)).heap[g]? = some (.cells ((BQ n (L ||| 2 ^ i)).map Value.bool).toArray 4 (0,0)):=by
 simp only [World.setCell]
 rw [Array.getElem?_modify,if_pos rfl,h,← Jr hi]
 simp [List.map_set]
theorem Mb (w:World) (o:Obj) {mm m:Nat} (hm:m<mm):((w.alloc o).alloc (.cells (((BQ mm 0).map Value.bool).set m (.bool true)).toArray 4)).heap[w.heap.size+1]? = some (.cells ((BQ mm (2 ^ m)).map Value.bool).toArray 4 (0,0)):=by
 have h:=heap_alloc_new (w.alloc o) (.cells (((BQ mm 0).map Value.bool).set m (.bool true)).toArray 4)
 have e:((BQ mm 0).map Value.bool).set m (.bool true)=(BQ mm (2 ^ m)).map Value.bool:=by
  have:=Jr (n:=mm) (L:=0) hm
  rw [Nat.zero_or] at this
  rw [← this,List.map_set]
 rw [e] at h ⊢
 simpa using h
set_option maxHeartbeats 1600000 in
theorem
    rreached_any (S:Sch) (a:Option Addr) (cap:Nat) (m:Nat) (w:World) (hR:BJ w a S.rules) (hS:Fit S) (hm:m<S.modes.toNat) :
  Calls Tryz.prog 87 #[.agg #[.int .i64 S.modes,.int .u8 S.acc,.slice a S.rules.length cap],.int .i64 (m:Int)] w fun e w'=>∃ v,e=.returned v∧GA w' w.heap.size v S.modes.toNat (BT S m)∧Below w.heap.size w w':=by
 have hms:=fun n (h1:n≤8)=>run_make_row' (P:=Tryz.prog) 110 4 (.bool false) 1 Tryz.underlying110 Jt rfl .i64 .i64 n (by omega) (by omega)
 have HR:=A0 hR;have HS:=A0 hS
 obtain ⟨m0,m1, -, -,hlen, -⟩:=hS
 clear hR
 obtain ⟨mm,hmm⟩:=Int.eq_ofNat_of_zero_le (show 0≤S.modes by omega)
 have HM:Hid (S.modes.toNat=mm):=by show _=_;omega
 have HMM:=A0 hmm
 rw [HM.out] at hm
 have hm8:mm≤8:=by omega
 have hmk:∀ W,(Instr.makeSlice 110 (.int .i64 S.modes) (.int .i64 S.modes)).run Tryz.prog W=.ok (.slice (some ⟨W.heap.size,0,none⟩) mm mm) (W.alloc (.cells ((BQ mm 0).map Value.bool).toArray 4)):=fun W=>by
  have:=hms mm hm8 W
  rw [hmm,← LR];exact this
 have hmI:(m:Int)<(mm:Int):=by omega
 clear hms hmm
 go_enter Tryz.func87,Tryz.ntmps87
 go_upto_region 2 with fail
 have hg0:(((w.alloc (.cells #[.int .i64 S.modes,.int .u8 S.acc,.slice a S.rules.length cap] 32)).alloc (.cells ((BQ mm 0).map Value.bool).toArray 4))).heap[w.heap.size+1]? = some (.cells ((BQ mm 0).map Value.bool).toArray 4 (0,0)):=by
  have:=heap_alloc_new (w.alloc (.cells #[.int .i64 S.modes,.int .u8 S.acc,.slice a S.rules.length cap] 32)) (.cells ((BQ mm 0).map Value.bool).toArray 4)
  simpa using this
 have hq:=BE hg0 hm;have hqf:=Ju (i:=m) hg0
 have HG1:=A0 (LU hg0 hm)
 clear hg0 hmk
 go_wp2
 clear hq hqf
 go_loopw [6] (fun j wr=>∃ k:Nat,k≤mm∧j=.int .i64 k∧wr.heap[w.heap.size+1]? = some (.cells ((BQ mm (Bg (fun L=>S.eds.foldl Bf L) k (2 ^ m))).map Value.bool).toArray 4 (0,0))∧Below (w.heap.size+1) (w.alloc (.cells #[.int .i64 S.modes,.int .u8 S.acc,.slice a S.rules.length cap] 32)) wr) (fun j _=>mm - (intOf j).toNat)
 case atStart=>exact ⟨0,by omega,rfl,Mb w _ hm,by go_grown⟩
 case round =>
  obtain ⟨k,hk,rfl,hgk,hal⟩:=hrel
  obtain ⟨wo,rfl⟩:∃ wo:World,wo=wr:=⟨_,rfl⟩
  obtain ⟨L,hL⟩:∃ L,Bg (fun L=>S.eds.foldl Bf L) k (2 ^ m)=L:=⟨_,rfl⟩
  rw [hL] at hgk
  have HL:=A0 hL;have HGK:=A0 hgk;clear hL hgk
  have hB:Below w.heap.size w wo:=((Below.refl _ _).alloc (A3 _) _).trans (hal.mono (by omega))
  obtain ⟨hz,hc,hf⟩:=B7 hal rfl
  simp only [A6] at hz
  have hkm:Hid ((mm:Int)=S.modes):=by show _=_;have:=HMM.out;omega
  by_cases hlt:k<mm
  ·
   have hlt2:(k:Int)<S.modes:=by have:=HMM.out;omega
   go_wp2
   go_loopw [7] (fun j wr=>∃ i:Nat,i≤S.rules.length∧j=.int .i64 i∧wr.heap[w.heap.size+1]? = some (.cells ((BQ mm ((S.eds.take i).foldl Bf L)).map Value.bool).toArray 4 (0,0))∧Below (w.heap.size+1) (w.alloc (.cells #[.int .i64 S.modes,.int .u8 S.acc,.slice a S.rules.length cap] 32)) wr) (fun j _=>S.rules.length - (intOf j).toNat)
   case atStart=>exact ⟨0,by omega,rfl,HGK.out,hal⟩
   case round =>
    clear hc hf hz hB hal
    obtain ⟨i,hi,rfl,hgi,hal⟩:=hrel
    obtain ⟨Q,hQ⟩:∃ Q,(S.eds.take i).foldl Bf L=Q:=⟨_,rfl⟩
    rw [hQ] at hgi
    have HQ:=A0 hQ;clear hQ
    have hB:Below w.heap.size w wr:=((Below.refl _ _).alloc (A3 _) _).trans (hal.mono (by omega))
    obtain ⟨hz,hc,hf⟩:=B7 hal rfl
    simp only [A6] at hz
    by_cases hli:i<S.rules.length
    ·
     obtain ⟨b,o,ha,hb,q0,q1,q2,q3,q4⟩:=(HR.out.later hB (A3 _)).at hli
     have hidx:=CV a b o S.rules.length cap i ha hli
     have HAd:=A0 ha;clear ha
     obtain ⟨f0,f1,t0,t1⟩:=HS.out.at0 i hli
     have f2:S.rules[i].frm<(mm:Int):=by have:=HMM.out;omega
     have t2:S.rules[i].dst<(mm:Int):=by have:=HMM.out;omega
     have HE:Hid ((S.eds.take (i+1)).foldl Bf L=Bf Q S.rules[i].ed):=by
      show _=_
      rw [O9 (by rw [KU];exact hli),SZ S i hli,HQ.out]
     have hqf:=BE hgi (i:=S.rules[i].frm.toNat) (by omega)
     have hqt:=BE hgi (i:=S.rules[i].dst.toNat) (by omega)
     have hqz:=Ju (i:=S.rules[i].dst.toNat) hgi
     have HG2:=A0 (LU hgi (i:=S.rules[i].dst.toNat) (by omega))
     have HG:=A0 hgi;clear hgi
     by_cases htb:Q.testBit S.rules[i].frm.toNat=true
     ·
      have HSt:Hid (Bf Q S.rules[i].ed=Q ||| 2 ^ S.rules[i].dst.toNat):=by show _=_;unfold Bf;rw [if_pos (by exact htb)];rfl
      rw [htb] at hqf
      clear htb
      go_wp2
      go_roundw
      case rel=>exact ⟨i+1,by omega,by go_num,by rw [HE.out,HSt.out];exact HG2.out,hal.setCell (by simp) _⟩
      case measure=>simp [intOf];omega
     ·
      have htb':Q.testBit S.rules[i].frm.toNat=false:=by simpa using htb
      have HSt:Hid (Bf Q S.rules[i].ed=Q):=by show _=_;unfold Bf;rw [if_neg (by exact htb)]
      rw [htb'] at hqf
      clear htb htb'
      go_wp2
      go_roundw
      case rel=>exact ⟨i+1,by omega,by go_num,by rw [HE.out,HSt.out];exact HG.out,hal⟩
      case measure=>simp [intOf];omega
    ·
     obtain rfl:i=S.rules.length:=by omega
     have HF:Hid (S.eds.take S.rules.length=S.eds):=AF (by rw [KU];exact A3 _)
     have HG:=A0 hgi;clear hgi
     go_wp2
     go_roundw
     case rel=>exact ⟨k+1,by omega,by go_num,by have:=HQ.out;rw [HF.out] at this;show _=some (Obj.cells ((BQ mm (S.eds.foldl Bf (Bg (fun L=>S.eds.foldl Bf L) k (2 ^ m)))).map Value.bool).toArray _ _);rw [HL.out,this];exact HG.out,hal⟩
     case measure=>simp [intOf];omega
  ·
   obtain rfl:k=mm:=by omega
   have hlt2:¬ (k:Int)<S.modes:=by have:=HMM.out;omega
   go_wp2
   go_ret
   exact ⟨.slice (some ⟨w.heap.size+1,0,none⟩) k k,rfl,⟨w.heap.size+1,by rw [HM.out],by omega,by rw [BT,HM.out,HL.out];exact HGK.out⟩,hB⟩
def DU (n:Nat) (f:Nat→Bool):List Bool:=(List.range n).map f
theorem FS9 (n:Nat) (f:Nat→Bool):(DU n f).length=n:=by simp [DU]
theorem Hh {n i:Nat} {f:Nat→Bool} (h:i<n):(DU n f)[i]? = some (f i):=by
 rw [DU,List.getElem?_map,List.getElem?_range h];rfl
theorem OE {n t:Nat} {f:Nat→Bool} {b:Bool}:(DU n f).set t b=DU n (fun j=>if j=t then b else f j):=by
 apply List.ext_getElem?
 intro i
 rw [List.getElem?_set]
 by_cases hi:i<n
 ·
  rw [Hh hi,Hh hi,FS9]
  by_cases e:t=i
  · subst e;simp [hi]
  · rw [if_neg e,if_neg (fun h=>e h.symm)]
 ·
  have h1:(DU n f)[i]? = none:=by rw [AQ];rw [FS9];omega
  have h2:(DU n (fun j=>if j=t then b else f j))[i]? = none:=by rw [AQ];rw [FS9];omega
  rw [h1,h2,FS9]
  split
  · rw [if_neg (by omega)]
  · rfl
theorem I2 {n:Nat} {f g:Nat→Bool} (h:∀ i,i<n→f i=g i):DU n f=DU n g:=by
 unfold DU
 exact List.map_congr_left fun i hi=>h i (by simpa using hi)
def B2 (w:World) (g n:Nat) (f:Nat→Bool):Prop:=w.heap[g]? = some (.cells ((DU n f).map Value.bool).toArray 4 (0,0))
theorem B2.cell {w:World} {g n i:Nat} {f:Nat→Bool} (h:B2 w g n f) (hi:i<n):w.cell? ⟨g,i,none⟩=some (.bool (f i)):=by
 rw [cell_of_row w g i _ _ (0,0) h]
 rw [List.getElem?_toArray,List.getElem?_map,Hh hi];rfl
theorem B2.free {w:World} {g n i:Nat} {f:Nat→Bool} (h:B2 w g n f):w.frozen? ⟨g,i,none⟩=false:=by unfold B2 at h;simp [World.frozen?,h]
theorem B2.set {w:World} {g n i:Nat} {f:Nat→Bool} {b:Bool} (h:B2 w g n f):B2 (w.setCell ⟨g,i,none⟩ (.bool b)) g n (fun j=>if j=i then b else f j):=by
 unfold B2 at h ⊢
 simp only [World.setCell]
 rw [Array.getElem?_modify,if_pos rfl,h,← OE]
 simp [List.map_set]
theorem B2.below {w w1:World} {g n B:Nat} {f:Nat→Bool} (h:B2 w g n f) (hb:Below B w w1) (hg:g<B):B2 w1 g n f:=(hb.block g hg).trans h
theorem B2.lt {w:World} {g n:Nat} {f:Nat→Bool} (h:B2 w g n f):g<w.heap.size:=(A5.1 h).1
def I3 (S:Sch) (m k:Nat):Bool:=(List.range k).any (fun k=>(BT S m).testBit k && S.acc.toNat.testBit k)
theorem Mc (S:Sch) (m k:Nat):I3 S m (k+1)=(I3 S m k || ((BT S m).testBit k && S.acc.toNat.testBit k)):=by
 unfold I3;rw [List.range_succ,List.any_append];simp
def C6 (S:Sch) (m k:Nat) (j:Nat):Bool:=if j=m then I3 S m k else (decide (j<m) && (BA S).testBit j)
theorem Ec (S:Sch) (m:Nat):C6 S m 0=fun j=>decide (j<m) && (BA S).testBit j:=by
 funext j
 unfold C6
 split
 · rename_i h;subst h;simp [I3]
 · rfl
theorem LV (S:Sch) (m k:Nat):(fun j=>if j=m then I3 S m (k+1) else C6 S m k j)=C6 S m (k+1):=by
 funext j;unfold C6;split <;> rfl
theorem KZ {S:Sch} (hS:Fit S) {m:Nat} (hm:m<S.modes.toNat):DU S.modes.toNat (C6 S m S.modes.toNat)=DU S.modes.toNat (C6 S (m+1) 0):=by
 refine I2 fun i hi=>?_
 rw [Ec]
 show _=(decide (i<m+1) && (BA S).testBit i)
 unfold C6
 split
 ·
  rename_i h;subst h
  rw [decide_eq_true (by omega),Bool.true_and,Pn hS hm];rfl
 ·
  rename_i h
  by_cases h2:i<m
  · rw [decide_eq_true h2,decide_eq_true (by omega)]
  · rw [decide_eq_false h2,decide_eq_false (by omega)]
theorem LW (w:World) (o:Obj) (n:Nat):B2 ((w.alloc o).alloc (.cells ((BQ n 0).map Value.bool).toArray 4)) (w.heap.size+1) n (fun _=>false):=by
 unfold B2
 have h:=heap_alloc_new (w.alloc o) (.cells ((BQ n 0).map Value.bool).toArray 4)
 have e:BQ n 0=DU n (fun _=>false):=by unfold BQ DU;exact List.map_congr_left fun i _=>by simp
 rw [e] at h ⊢
 simpa using h
set_option maxHeartbeats 1600000 in
theorem
    rlive_any (S:Sch) (a:Option Addr) (cap:Nat) (w:World) (hR:BJ w a S.rules) (hS:Fit S) :
  Calls Tryz.prog 56 #[.agg #[.int .i64 S.modes,.int .u8 S.acc,.slice a S.rules.length cap]] w fun e w'=>∃ v,e=.returned v∧GA w' w.heap.size v S.modes.toNat (BA S)∧Below w.heap.size w w':=by
 have hms:=fun n (h1:n≤8)=>run_make_row' (P:=Tryz.prog) 110 4 (.bool false) 1 Tryz.underlying110 Jt rfl .i64 .i64 n (by omega) (by omega)
 have HR:=A0 hR;have HS:=A0 hS
 obtain ⟨m0,m1,h0,h1,hlen, -⟩:=hS
 clear hR
 obtain ⟨mm,hmm⟩:=Int.eq_ofNat_of_zero_le (show 0≤S.modes by omega)
 have HM:Hid (S.modes.toNat=mm):=by show _=_;omega
 have HMM:=A0 hmm
 have hm8:mm≤8:=by omega
 have hmk:∀ W,(Instr.makeSlice 110 (.int .i64 S.modes) (.int .i64 S.modes)).run Tryz.prog W=.ok (.slice (some ⟨W.heap.size,0,none⟩) mm mm) (W.alloc (.cells ((BQ mm 0).map Value.bool).toArray 4)):=fun W=>by
  have:=hms mm hm8 W
  rw [hmm,← LR];exact this
 clear hms hmm
 go_enter Tryz.func56,Tryz.ntmps56
 go_wp2
 have HG0:=A0 (LW w (.cells #[.int .i64 S.modes,.int .u8 S.acc,.slice a S.rules.length cap] 32) mm)
 clear hmk
 go_loopw [4] (fun j wr=>∃ m:Nat,m≤mm∧j=.int .i64 m∧B2 wr (w.heap.size+1) mm (C6 S m 0)∧Below (w.heap.size+1) (w.alloc (.cells #[.int .i64 S.modes,.int .u8 S.acc,.slice a S.rules.length cap] 32)) wr) (fun j _=>mm - (intOf j).toNat)
 case atStart=>exact ⟨0,by omega,rfl,by rw [Ec];have:=HG0.out;unfold B2 at this ⊢;rw [this];simp,by go_grown⟩
 case round =>
  obtain ⟨m,hk,rfl,hgm,hal⟩:=hrel
  have HGM:=A0 hgm;clear hgm
  have hB:Below w.heap.size w wr:=((Below.refl _ _).alloc (A3 _) _).trans (hal.mono (by omega))
  obtain ⟨hz,hc,hf⟩:=B7 hal rfl
  simp only [A6] at hz
  by_cases hlt:m<mm
  ·
   have hlt2:(m:Int)<S.modes:=by have:=HMM.out;omega
   go_wp2_with (first | (go_at_call 87;refine (rreached_any S a cap m _ (HR.out.later (by first | exact hB | go_grown) (A3 _)) HS.out (by have:=HM.out;omega)).mono ?_;rintro e w1 ⟨v,rfl,⟨g2,hv,hg2,hmask⟩,hb⟩;rw [HM.out] at hv;subst hv;have HMK:Hid (B2 w1 g2 mm (BT S m).testBit):=(by (have h:=hmask;rw [HM.out] at h;exact h));have HGM1:=A0 (HGM.out.below hb HGM.out.lt);have hg2':w.heap.size+1<g2:=(by have:=HGM.out.lt;omega);have hal1:=hal.trans (hb.mono (by have:=hal.size;simp only [A6] at this;omega));clear hmask hal;obtain ⟨hz,hc,hf⟩:=BL hb (by first | (simp only [A6,World.size_setCell,World.size_drew];rfl) | rfl);have hB:=Al (B:=w.heap.size) (w:=w) (by go_grown) hb (A3 _);clear hb) | fail)
   clear hz hc hf hB
   go_loopw [6] (fun j wr=>∃ k:Nat,k≤mm∧j=.int .i64 k∧B2 wr (w.heap.size+1) mm (C6 S m k)∧B2 wr g2 mm (BT S m).testBit∧Below (w.heap.size+1) (w.alloc (.cells #[.int .i64 S.modes,.int .u8 S.acc,.slice a S.rules.length cap] 32)) wr) (fun j _=>mm - (intOf j).toNat)
   case atStart=>exact ⟨0,by omega,rfl,HGM1.out,HMK.out,hal1⟩
   case round =>
    clear hal1
    clear HGM HGM1 HMK
    obtain ⟨k,hk,rfl,hgm,hmk,hal⟩:=hrel
    have hB:Below w.heap.size w wr:=((Below.refl _ _).alloc (A3 _) _).trans (hal.mono (by omega))
    obtain ⟨hz,hc,hf⟩:=B7 hal rfl
    simp only [A6] at hz
    by_cases hlk:k<mm
    ·
     have hlk2:(k:Int)<S.modes:=by have:=HMM.out;omega
     have q1:=hgm.cell hlt
     have q2:=hmk.cell hlk
     have q3:=hgm.free (i:=m)
     have HX:Hid (I3 S m (k+1)=(C6 S m k m || ((BT S m).testBit k && S.acc.toNat.testBit k))):=by show _=_;rw [Mc,C6,if_pos rfl]
     obtain ⟨o1,ho1⟩:∃ o,C6 S m k m=o:=⟨_,rfl⟩
     obtain ⟨o2,ho2⟩:∃ o,(BT S m).testBit k=o:=⟨_,rfl⟩
     obtain ⟨o3,ho3⟩:∃ o,S.acc.toNat.testBit k=o:=⟨_,rfl⟩
     rw [ho1] at q1
     rw [ho2] at q2
     have HX2:Hid (I3 S m (k+1)=(o1 || (o2 && o3))):=by show _=_;rw [HX.out,ho1,ho2,ho3]
     have HO3:=A0 ho3
     have HGM:=A0 hgm;have HMK:=A0 hmk
     have hset:∀ W,B2 W (w.heap.size+1) mm (C6 S m k)→B2 (W.setCell ⟨w.heap.size+1,m,none⟩ (.bool (o1 || (o2 && o3)))) (w.heap.size+1) mm (C6 S m (k+1)):=fun W h=>by
      have:=h.set (i:=m) (b:=o1 || (o2 && o3))
      rw [← LV,HX2.out];exact this
     have hoth:∀ W b,B2 W g2 mm (BT S m).testBit→B2 (W.setCell ⟨w.heap.size+1,m,none⟩ (.bool b)) g2 mm (BT S m).testBit:=fun W b h=>by
      unfold B2 at h ⊢
      rw [Below.heap_setCell _ _ _ _ (by show g2≠w.heap.size+1;omega)];exact h
     have HSET:=A0 hset;have HOTH:=A0 hoth
     have hmI:(m:Int)<(mm:Int):=by omega
     have hkI:(k:Int)<(mm:Int):=by omega
     clear ho1 ho2 ho3 hgm hmk HX hset hoth
     cases o1 with
     | true =>
      go_wp2
      go_roundw
      case rel=>exact ⟨k+1,by omega,by go_num,HSET.out _ HGM.out,HOTH.out _ _ HMK.out,hal.setCell (by simp) _⟩
      case measure=>simp [intOf];omega
     | false =>
      cases o2 with
      | false =>
       go_wp2
       go_roundw
       case rel=>exact ⟨k+1,by omega,by go_num,HSET.out _ HGM.out,HOTH.out _ _ HMK.out,hal.setCell (by simp) _⟩
       case measure=>simp [intOf];omega
      | true =>
       go_wp2_with (first | (go_at_call 88;refine (LQ S a cap (k:Int) _ h0 h1 (by omega) (by omega)).mono ?_;rintro e w1 ⟨he,hb⟩;rw [Int.toNat_natCast,HO3.out] at he;subst he;have HGM1:=A0 (HGM.out.below hb HGM.out.lt);have HMK1:=A0 (HMK.out.below hb HMK.out.lt);have q4:=HGM1.out.cell hlt;have q5:=HGM1.out.free (i:=m);have hal1:=hal.trans (hb.mono (by have:=hal.size;simp only [A6] at this;omega));obtain ⟨hz,hc,hf⟩:=BL hb (by first | (simp only [A6,World.size_setCell,World.size_drew];rfl) | rfl);have hB:=Al (B:=w.heap.size) (w:=w) (by go_grown) hb (A3 _);clear hb) | fail)
       go_roundw
       case rel=>exact ⟨k+1,by omega,by go_num,HSET.out _ HGM1.out,HOTH.out _ _ HMK1.out,hal1.setCell (by simp) _⟩
       case measure=>simp [intOf];omega
    ·
     obtain rfl:k=mm:=by omega
     have hlk2:¬ (k:Int)<S.modes:=by have:=HMM.out;omega
     have HN:Hid (B2 wr (w.heap.size+1) k (C6 S (m+1) 0)):=by
      have h:=hgm
      unfold B2 at h
      show B2 _ _ _ _
      unfold B2
      have e:=KZ HS.out (m:=m) (by have:=HM.out;omega)
      rw [HM.out] at e
      rw [h,e]
     clear hgm hmk
     go_wp2
     go_roundw
     case rel=>exact ⟨m+1,by omega,by go_num,HN.out,hal⟩
     case measure=>simp [intOf];omega
  ·
   obtain rfl:m=mm:=by omega
   have hlt2:¬ (m:Int)<S.modes:=by have:=HMM.out;omega
   go_wp2
   go_ret
   refine ⟨.slice (some ⟨w.heap.size+1,0,none⟩) m m,rfl,⟨w.heap.size+1,by rw [HM.out],by omega,?_⟩,hB⟩
   have h:=HGM.out
   unfold B2 at h
   rw [h,HM.out,Ec]
   have:DU m (fun j=>decide (j<m) && (BA S).testBit j)=BQ m (BA S):=I2 fun i hi=>by rw [decide_eq_true hi,Bool.true_and]
   rw [this]
def Ax:List Int→List Int→Bool
 | a :: xs,b :: ys=>if a=b then Ax xs ys else decide (a<b)
 | _,_=>false
theorem Md {xs ys:List Int} {k:Nat} (hx:k<xs.length) (hy:k<ys.length) (h:xs[k]≠ys[k]):Ax (xs.drop k) (ys.drop k)=decide (xs[k]<ys[k]):=by
 rw [AE hx,AE hy,Ax,if_neg h]
theorem Me {xs ys:List Int} {k:Nat} (hx:k<xs.length) (hy:k<ys.length) (h:xs[k]=ys[k]):Ax (xs.drop k) (ys.drop k)=Ax (xs.drop (k+1)) (ys.drop (k+1)):=by
 rw [AE hx,AE hy,Ax,if_pos h]
theorem I4 {xs ys:List Int} {k:Nat} (h:xs.length≤k∨ys.length≤k):Ax (xs.drop k) (ys.drop k)=false:=by
 rcases h with h | h
 · rw [List.drop_eq_nil_of_le h];cases ys.drop k <;> rfl
 · rw [List.drop_eq_nil_of_le h];cases xs.drop k <;> rfl
set_option maxHeartbeats 1600000 in
theorem
    before_any (a a':Option Addr) (n n' c c':Nat) (xs ys:List Int) (w:World) (hn:n=xs.length) (hn':n'=ys.length) (h1:SlS w a xs) (h2:SlS w a' ys) (l1:xs.length≤100000) (l2:ys.length≤100000) :
  Calls Tryz.prog 110 #[.slice a n c,.slice a' n' c'] w fun e w'=>e=.returned (.bool (Ax xs ys))∧Below w.heap.size w w':=by
 subst hn hn'
 have H1:=A0 h1;have H2:=A0 h2;clear h1 h2
 go_enter Tryz.func110,Tryz.ntmps110
 go_wp2
 go_loopw [5] (fun i wr=>∃ k:Nat,k≤xs.length∧k≤ys.length∧i=.int .i64 k∧Ax (xs.drop k) (ys.drop k)=Ax xs ys∧Below w.heap.size w wr) (fun i _=>xs.length - (intOf i).toNat)
 case atStart=>exact ⟨0,Nat.zero_le _,Nat.zero_le _,rfl,rfl,Below.refl _ _⟩
 case round =>
  obtain ⟨k,hk,hk2,rfl,hlex,hB⟩:=hrel
  have HL:=A0 hlex;clear hlex
  by_cases hx:k<xs.length
  ·
   by_cases hy:k<ys.length
   ·
    obtain ⟨b,o,ha,hb,q⟩:=(H1.out.later hB (A3 _)).at hx
    have hidx:=DT a b o xs.length c k ha hx
    obtain ⟨b',o',ha',hb',q'⟩:=(H2.out.later hB (A3 _)).at hy
    have hidx':=DT a' b' o' ys.length c' k ha' hy
    have HA:=A0 ha;have HA':=A0 ha';clear ha ha'
    by_cases he:xs[k]=ys[k]
    ·
     have HN:Hid (Ax (xs.drop (k+1)) (ys.drop (k+1))=Ax xs ys):=(Me hx hy he).symm.trans HL.out
     have hne:(xs[k] != ys[k])=false:=by simp [he]
     clear he
     go_wp2
     go_quiet (fail)
     go_wp2
     go_roundw
     case rel=>exact ⟨k+1,by omega,by omega,by go_num,HN.out,hB.trans (below_drewN _ _)⟩
     case measure=>simp [intOf];omega
    ·
     have HN:Hid (decide (xs[k]<ys[k])=Ax xs ys):=(Md hx hy he).symm.trans HL.out
     have hne:(xs[k] != ys[k])=true:=by simp [he]
     clear he
     go_wp2
     go_quiet (fail)
     go_wp2
     go_quiet (fail)
     go_wp2
     go_ret
     exact ⟨Ae HN.out,(hB.trans (below_drewN _ _)).trans ((below_drewN _ _))⟩
   ·
    have HN:Hid (Ax xs ys=false):=HL.out.symm.trans (I4 (.inr (by omega)))
    go_wp2
    go_ret
    exact ⟨Ae HN.out.symm,hB⟩
  ·
   have HN:Hid (Ax xs ys=false):=HL.out.symm.trans (I4 (.inl (by omega)))
   go_wp2
   go_ret
   exact ⟨Ae HN.out.symm,hB⟩
theorem GB (B n L:Nat):Bp (fun v W=>GA W B v n L):=fun v w w' h hx=>by
 obtain ⟨g,hv,hg,hr⟩:=h
 exact ⟨g,hv,hg,(Below.block hx g (A5.1 hr).1).trans hr⟩
theorem Hi (k:Nat) (c:Value):Bp (fun v W=>∃ g,v=.pointer (some ⟨g,k,none⟩)∧W.cell? ⟨g,k,none⟩=some c):=fun v w w' h hx=>by
 obtain ⟨g,hv,hr⟩:=h
 exact ⟨g,hv,(Below.cell (p:=⟨g,k,none⟩) hx (World.block_lt_of_cell? w _ hr)).trans hr⟩
set_option maxHeartbeats 1600000 in
theorem
    rdead_any (S:Sch) (a:Option Addr) (cap:Nat) (i:Nat) (w:World) (hR:BJ w a S.rules) (hS:Fit S) (hi:i<S.rules.length) :
  Calls Tryz.prog 84 #[.agg #[.int .i64 S.modes,.int .u8 S.acc,.slice a S.rules.length cap],.int .i64 (i:Int)] w fun e w'=>e=.returned (.bool (Ie (Cb S) (BA S) S.rules[i]))∧Below w.heap.size w w':=by
 have HR:=A0 hR;have HS:=A0 hS
 obtain ⟨m0,m1,h0,h1,hlen,hat⟩:=hS
 obtain ⟨f0,f1,t0,t1⟩:=hat i hi
 clear hat
 obtain ⟨mm,hmm⟩:=Int.eq_ofNat_of_zero_le (show 0≤S.modes by omega)
 have HM:Hid (S.modes.toNat=mm):=by show _=_;omega
 have f2:S.rules[i].frm<(mm:Int):=by omega
 have t2:S.rules[i].dst<(mm:Int):=by omega
 clear hmm
 obtain ⟨b,o,ha,hb,q0,q1,q2,q3,q4⟩:=hR.at hi
 have hidx:=CV a b o S.rules.length cap i ha hi
 have HA:=A0 ha;clear ha hR q2 q3 q4
 obtain ⟨o1,ho1⟩:∃ o,(Cb S).testBit S.rules[i].frm.toNat=o:=⟨_,rfl⟩
 obtain ⟨o2,ho2⟩:∃ o,(BA S).testBit S.rules[i].dst.toNat=o:=⟨_,rfl⟩
 have HE:Hid (Ie (Cb S) (BA S) S.rules[i]=(!o1 || !o2)):=by show _=_;rw [Ie,ho1,ho2]
 have HO1:=A0 ho1;have HO2:=A0 ho2;clear ho1 ho2
 have hd0:(0:Int)≤(i:Int):=by omega
 have hiI:(i:Int)<(S.rules.length:Int):=by omega
 have hsl:Hid (BJ (w.alloc (.cells #[.int .i64 S.modes,.int .u8 S.acc,.slice a S.rules.length cap] 32)) a S.rules):=HR.out.later ((Below.refl _ _).alloc (A3 _) _) (A3 _)
 cases o1 with
 | false
     =>
  go_enter Tryz.func84,Tryz.ntmps84
  go_wp2
  refine Ag (by kernel_rfl) (Vs [fun v _=>v=.agg #[.int .i64 S.modes,.int .u8 S.acc,.slice a S.rules.length cap],fun v W=>GA W w.heap.size v mm (Cb S),fun v _=>v=.pointer (some ⟨w.heap.size,2,none⟩),fun v _=>v=.slice a S.rules.length cap,fun v _=>v=.int .i64 (i:Int),fun v _=>v=.pointer (some ⟨b,o+i*5,none⟩),fun v _=>v=.pointer (some ⟨b,o+i*5,none⟩),fun v _=>v=.int .i64 S.rules[i].frm,fun v W=>∃ g,v=.pointer (some ⟨g,S.rules[i].frm.toNat,none⟩)∧W.cell? ⟨g,S.rules[i].frm.toNat,none⟩=some (.bool false),fun v _=>v=.bool false,fun v _=>v=.bool true,fun v _=>v=.bool true,
   fun v _=>v=undef,fun v _=>v=undef,fun v _=>v=undef,fun v _=>v=undef,fun v _=>v=undef,fun v _=>v=undef,fun v _=>v=undef,fun v _=>v=undef,fun v _=>v=undef,fun v _=>v=undef,fun v _=>v=undef,fun v _=>v=.bool true,fun v _=>v=.bool true]) (fun W=>Below (w.heap.size+1) (w.alloc (.cells #[.int .i64 S.modes,.int .u8 S.acc,.slice a S.rules.length cap] 32)) W) 29 (by kernel_rfl) rfl ?hVx ?hSx ?hS (Ao ?hop) ?hfin
  case hop =>
   refine ⟨?_,?_,?_,?_,?_,?_,?_,?_,?_,?_,?_,?_,?_,?_,?_,?_,?_,?_,?_,?_,?_,?_,?_,?_,?_,trivial⟩
   all_goals
    intro A W hsz hS hdep hbase
    obtain ⟨hz,hc,hf⟩:=B7 hS rfl
    simp only [A6] at hz
    have h1:A.tmps.getD 1 undef=.int .i64 (i:Int):=hbase 1 (by kernel_rfl)
    have h2:A.tmps.getD 2 undef=.pointer (some ⟨w.heap.size,0,none⟩):=hbase 2 (by kernel_rfl)
    clear hbase
    simp [Aa,Region.binds,Vs] at hdep
    first
     | exact Av (j:=11) (d:=16) (b:=true) rfl (by kernel_rfl) (by first | exact hdep | exact hdep.2 | exact hdep.2.2 | exact hdep.2.2.2) rfl rfl
     | (refine AZ rfl (.inl ⟨_,W,?_,rfl,Ext.refl _⟩);clear hsz;simp [go_sem,Act.eval, *];done)
     | skip
   ·
    refine AZ rfl (.inr ⟨87,#[.agg #[.int .i64 S.modes,.int .u8 S.acc,.slice a S.rules.length cap],.int .i64 ((0:Nat):Int)],W,by (clear hsz;simp [go_sem,Act.eval, *]),?_⟩)
    refine (rreached_any S a cap 0 _ (hsl.out.later hS (by simp)) HS.out (by have:=HM.out;omega)).mono ?_
    rintro e w1 ⟨v,rfl,⟨g2,hv,hg2,hmask⟩,hb⟩
    exact ⟨v,rfl,⟨g2,by rw [HM.out] at hv;exact hv,by omega,by rw [HM.out] at hmask;exact hmask⟩,hb⟩
   ·
    obtain ⟨⟨g,hv,hg,hrow⟩,hfrm⟩:=hdep
    refine AZ rfl (.inl ⟨.pointer (some ⟨g,S.rules[i].frm.toNat,none⟩),W,?_,⟨g,rfl,by rw [BE hrow (by omega),HO1.out]⟩,Ext.refl _⟩)
    clear hsz;simp [go_sem,Act.eval, *]
   ·
    obtain ⟨g,hv,hq⟩:=hdep
    refine AZ rfl (.inl ⟨.bool false,W,?_,rfl,Ext.refl _⟩)
    clear hsz;simp [go_sem,Act.eval, *]
  case hVx=>exact Ac (by simp only [AU,List.not_mem_nil,or_false,forall_eq_or_imp,forall_eq];exact ⟨AY _,GB _ _ _,AY _,AY _,AY _,AY _,AY _,AY _,Hi _ _,AY _,AY _,AY _,AY _,AY _,AY _,AY _,AY _,AY _,AY _,AY _,AY _,AY _,AY _,AY _,AY _⟩)
  case hSx=>exact fun W W' h hx=>h.trans (Below.mono hx (by have:=h.size;simp only [A6] at this;omega))
  case hS=>go_grown
  case hfin =>
   intro A W hsz hdf hS hv hbase
   have e4:A.tmps.getD 4 undef=.bool true:=hv 24 (by decide)
   have hA:=LD (n:=29) hsz hdf
   generalize hx:(fun i=>A.tmps.getD i undef)=x at hA
   have e4':x 4=.bool true:=by rw [← hx];exact e4
   rw [hA]
   clear hA hx e4 hv hbase hsz hdf
   simp only [List.range,List.range.loop,List.map]
   rw [e4']
   have hB:Below w.heap.size w W:=((Below.refl _ _).alloc (A3 _) _).trans (hS.mono (by omega))
   go_wp2
   go_ret
   exact ⟨Ae HE.out.symm,hB⟩
 | true =>
  go_enter Tryz.func84,Tryz.ntmps84
  go_wp2
  refine Ag (by kernel_rfl) (Vs [fun v _=>v=.agg #[.int .i64 S.modes,.int .u8 S.acc,.slice a S.rules.length cap],fun v W=>GA W w.heap.size v mm (Cb S),fun v _=>v=.pointer (some ⟨w.heap.size,2,none⟩),fun v _=>v=.slice a S.rules.length cap,fun v _=>v=.int .i64 (i:Int),fun v _=>v=.pointer (some ⟨b,o+i*5,none⟩),fun v _=>v=.pointer (some ⟨b,o+i*5,none⟩),fun v _=>v=.int .i64 S.rules[i].frm,fun v W=>∃ g,v=.pointer (some ⟨g,S.rules[i].frm.toNat,none⟩)∧W.cell? ⟨g,S.rules[i].frm.toNat,none⟩=some (.bool true),fun v _=>v=.bool true,fun v _=>v=.bool false,fun v _=>v=.bool false,
   fun v _=>v=.agg #[.int .i64 S.modes,.int .u8 S.acc,.slice a S.rules.length cap],fun v W=>GA W w.heap.size v mm (BA S),fun v _=>v=.pointer (some ⟨w.heap.size,2,none⟩),fun v _=>v=.slice a S.rules.length cap,fun v _=>v=.int .i64 (i:Int),fun v _=>v=.pointer (some ⟨b,o+i*5,none⟩),fun v _=>v=.pointer (some ⟨b,o+i*5+1,none⟩),fun v _=>v=.int .i64 S.rules[i].dst,fun v W=>∃ g,v=.pointer (some ⟨g,S.rules[i].dst.toNat,none⟩)∧W.cell? ⟨g,S.rules[i].dst.toNat,none⟩=some (.bool o2),fun v _=>v=.bool o2,fun v _=>v=.bool (!o2),fun v _=>v=.bool (!o2),fun v _=>v=.bool (!o2)]) (fun W=>Below (w.heap.size+1) (w.alloc (.cells #[.int .i64 S.modes,.int .u8 S.acc,.slice a S.rules.length cap] 32)) W) 29 (by kernel_rfl) rfl ?hVx ?hSx ?hS (Ao ?hop) ?hfin
  case hop =>
   refine ⟨?_,?_,?_,?_,?_,?_,?_,?_,?_,?_,?_,?_,?_,?_,?_,?_,?_,?_,?_,?_,?_,?_,?_,?_,?_,trivial⟩
   all_goals
    intro A W hsz hS hdep hbase
    obtain ⟨hz,hc,hf⟩:=B7 hS rfl
    simp only [A6] at hz
    have h1:A.tmps.getD 1 undef=.int .i64 (i:Int):=hbase 1 (by kernel_rfl)
    have h2:A.tmps.getD 2 undef=.pointer (some ⟨w.heap.size,0,none⟩):=hbase 2 (by kernel_rfl)
    clear hbase
    simp [Aa,Region.binds,Vs] at hdep
    first
     | (refine AZ rfl (.inl ⟨_,W,?_,rfl,Ext.refl _⟩);clear hsz;simp [go_sem,Act.eval, *];done)
     | (refine Ad (j:=11) (d:=16) (b:=false) rfl (by kernel_rfl) (by first | exact hdep | exact hdep.2 | exact hdep.2.2 | exact hdep.2.2.2) rfl (.inl ⟨_,W,?_,rfl,Ext.refl _⟩);clear hsz;simp [go_sem,Act.eval, *];done)
     | skip
   ·
    refine AZ rfl (.inr ⟨87,#[.agg #[.int .i64 S.modes,.int .u8 S.acc,.slice a S.rules.length cap],.int .i64 ((0:Nat):Int)],W,by (clear hsz;simp [go_sem,Act.eval, *]),?_⟩)
    refine (rreached_any S a cap 0 _ (hsl.out.later hS (by simp)) HS.out (by have:=HM.out;omega)).mono ?_
    rintro e w1 ⟨v,rfl,⟨g2,hv,hg2,hmask⟩,hb⟩
    exact ⟨v,rfl,⟨g2,by rw [HM.out] at hv;exact hv,by omega,by rw [HM.out] at hmask;exact hmask⟩,hb⟩
   ·
    obtain ⟨⟨g,hv,hg,hrow⟩,hfrm⟩:=hdep
    refine AZ rfl (.inl ⟨.pointer (some ⟨g,S.rules[i].frm.toNat,none⟩),W,?_,⟨g,rfl,by rw [BE hrow (by omega),HO1.out]⟩,Ext.refl _⟩)
    clear hsz;simp [go_sem,Act.eval, *]
   ·
    obtain ⟨g,hv,hq⟩:=hdep
    refine AZ rfl (.inl ⟨.bool true,W,?_,rfl,Ext.refl _⟩)
    clear hsz;simp [go_sem,Act.eval, *]
   ·
    refine Ad (j:=11) (d:=16) (b:=false) rfl (by kernel_rfl) hdep.2 rfl (.inr ⟨56,#[.agg #[.int .i64 S.modes,.int .u8 S.acc,.slice a S.rules.length cap]],W,by (clear hsz;simp [go_sem,Act.eval, *]),?_⟩)
    refine (rlive_any S a cap _ (hsl.out.later hS (by simp)) HS.out).mono ?_
    rintro e w1 ⟨v,rfl,⟨g2,hv,hg2,hmask⟩,hb⟩
    exact ⟨v,rfl,⟨g2,by rw [HM.out] at hv;exact hv,by omega,by rw [HM.out] at hmask;exact hmask⟩,hb⟩
   ·
    obtain ⟨⟨g,hv,hg,hrow⟩,hfrm,hgd⟩:=hdep
    refine Ad (j:=11) (d:=16) (b:=false) rfl (by kernel_rfl) hgd rfl (.inl ⟨.pointer (some ⟨g,S.rules[i].dst.toNat,none⟩),W,?_,⟨g,rfl,by rw [BE hrow (by omega),HO2.out]⟩,Ext.refl _⟩)
    clear hsz;simp [go_sem,Act.eval, *]
   ·
    obtain ⟨⟨g,hv,hq⟩,hgd⟩:=hdep
    refine Ad (j:=11) (d:=16) (b:=false) rfl (by kernel_rfl) hgd rfl (.inl ⟨.bool o2,W,?_,rfl,Ext.refl _⟩)
    clear hsz;simp [go_sem,Act.eval, *]
  case hVx=>exact Ac (by simp only [AU,List.not_mem_nil,or_false,forall_eq_or_imp,forall_eq];exact ⟨AY _,GB _ _ _,AY _,AY _,AY _,AY _,AY _,AY _,Hi _ _,AY _,AY _,AY _,AY _,GB _ _ _,AY _,AY _,AY _,AY _,AY _,AY _,Hi _ _,AY _,AY _,AY _,AY _⟩)
  case hSx=>exact fun W W' h hx=>h.trans (Below.mono hx (by have:=h.size;simp only [A6] at this;omega))
  case hS=>go_grown
  case hfin =>
   intro A W hsz hdf hS hv hbase
   have e4:A.tmps.getD 4 undef=.bool (!o2):=hv 24 (by decide)
   have hA:=LD (n:=29) hsz hdf
   generalize hx:(fun i=>A.tmps.getD i undef)=x at hA
   have e4':x 4=.bool (!o2):=by rw [← hx];exact e4
   rw [hA]
   clear hA hx e4 hv hbase hsz hdf
   simp only [List.range,List.range.loop,List.map]
   rw [e4']
   have hB:Below w.heap.size w W:=((Below.refl _ _).alloc (A3 _) _).trans (hS.mono (by omega))
   go_wp2
   go_ret
   exact ⟨Ae HE.out.symm,hB⟩
def Sb (A B:Nat):Bool:=(List.range 8).any fun m=>A.testBit m && !B.testBit m
open Classical in
noncomputable def F5 (S:Sch):Int :=
 if validB S=true then (if (BA S).testBit 0=true then (if Sb (Cb S) (BA S)=true then 40 else if T9 S=[] then 0 else 41) else 50) else 20
theorem JY (S:Sch) (a:Option Addr) (cap:Nat) (w:World) (hR:BJ w a S.rules) (hS:Fit S) (hm:0<S.modes.toNat) :
  Calls Tryz.prog 87 #[.agg #[.int .i64 S.modes,.int .u8 S.acc,.slice a S.rules.length cap],.int .i64 0] w fun e w'=>∃ v,e=.returned v∧GA w' w.heap.size v S.modes.toNat (Cb S)∧Below w.heap.size w w':=rreached_any S a cap 0 w hR hS hm
end Go.Proofs.YthjmdgejnakcmaaGreatDoor.Fl
