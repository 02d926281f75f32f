/- Texts that the claims share: Scheme, Rules, Check, Flaw1, Comm, Chain, FirstP. -/
import Derived.Deep.RegionHeld3
import Derived.Deep.DeepCutAuto
import Derived.Test.YtpljngaejaehcaaGreatDoorChecked
import Derived.BigQuiet
import Derived.Deep.LoopGhost
import Derived.Deep.QuietTactic
import Derived.Conc.LoneCalls
import Derived.Conc.SmallLaws
import Derived.Laws.AppendOwn
import Derived.Laws.OwnMore
import Derived.Maps.AppendAt
import Derived.Lib.LazyBuf
import Derived.Conc.LoneSelectN
import Derived.Deep.OwnRows
import Derived.Test.YtpljngaejaehcaaGreatDoorMA1
set_option maxHeartbeats 3200000
set_option maxRecDepth 100000
set_option linter.unusedVariables false
set_option linter.unusedSimpArgs false
namespace Go.Proofs.YtpljngaejaehcaaGreatDoor.Fl
open Go.RowKit
structure Rl where
 frm:Int
 dst:Int
 inp:ByteArray
 out:ByteArray
 cost:Int
def B1 (c:Int):Int:=if 97≤c∧c≤122 then 1 else if 65≤c∧c≤90 then 2 else if 48≤c∧c≤57 then 3 else 0
def Ly (l:List UInt8):Bool:=l.all fun c=>B1 (c.toNat:Int) == 1
def Fd (l:List UInt8):Bool:=l.all fun c=>!(B1 (c.toNat:Int) == 0)
def GY (s:ByteArray):Bool:=Ly s.data.toList
def DC (s:ByteArray):Bool:=Fd s.data.toList
def CW (m:Int) (r:Rl):Bool:=decide (0≤r.frm) && (decide (r.frm<m) && (decide (0≤r.dst) && (decide (r.dst<m) && (decide ((r.inp.size:Int)≤4) && (GY r.inp && (decide ((r.out.size:Int)≤4) && (DC r.out && (decide (0≤r.cost) && decide (r.cost≤1000)))))))))
theorem GZ (s:ByteArray) (k:Nat) (h:k<s.size):s.data.toList.take (k+1)=s.data.toList.take k ++ [s[k]]:=by
 rw [AN (by simpa using h)];rfl
theorem ED (s:ByteArray) (k:Nat) (h:¬ k<s.size):s.data.toList.take k=s.data.toList:=AF (by simp;exact Nat.le_of_not_lt h)
theorem Ci {p:UInt8→Bool} (s:ByteArray) (k:Nat) (h:k<s.size) (hp:p s[k]=false):s.data.toList.all p=false:=by
 rw [List.all_eq_false];refine ⟨s[k],?_,by simp [hp]⟩;show s.data[k]∈s.data.toList;simp
theorem EF {p:UInt8→Bool} (s:ByteArray) (k:Nat) (h:k<s.size) (ht:(s.data.toList.take k).all p=true) (hp:p s[k]=true):(s.data.toList.take (k+1)).all p=true:=by
 rw [GZ s k h,List.all_append,ht];simp [hp]
theorem Cj (c:Int) (w:World) (h0:0≤c) (h1:c≤255) :
  Calls Tryz.prog 143 #[.int .u8 c] w fun e w'=>e=.returned (.int .i64 (B1 c))∧w=w':=by
 rcases (show (97≤c∧c≤122)∨(65≤c∧c≤90)∨(48≤c∧c≤57)∨c<48∨(57<c∧c<65)∨(90<c∧c<97)∨122<c from by omega) with h | h | h | h | h | h | h
 all_goals
  go_enter Tryz.func143,Tryz.ntmps143
  go_wp2;go_ret;refine ⟨BW ?_,rfl⟩;unfold B1;omega
theorem allSmall_any (s:ByteArray) (w:World) (hs:s.size≤9223372036854775807) :
  Calls Tryz.prog 141 #[.string s] w fun e w'=>e=.returned (.bool (GY s))∧w=w':=by
 go_enter Tryz.func141,Tryz.ntmps141
 go_wp2
 go_loop [6] (fun i=>∃ k:Nat,k≤s.size∧i=.int .i64 k∧Ly (s.data.toList.take k)=true) (fun i=>s.size - (intOf i).toNat)
 case atStart=>exact ⟨0,Nat.zero_le _,rfl,rfl⟩
 case round =>
  obtain ⟨k,hk,rfl,ht⟩:=hrel;have HT:=A0 ht;clear ht;by_cases ja:k<s.size
  ·have b0:(0:Int)≤(s[k].toNat:Int):=by omega
   have b1:(s[k].toNat:Int)≤255:=by have:=s[k].toNat_lt;omega
   by_cases hc:B1 (s[k].toNat:Int)=1
   ·have jb:(B1 (s[k].toNat:Int) != 1)=false:=by rw [hc];rfl
    have HC:Hid ((B1 (s[k].toNat:Int) == 1)=true):=by show _=true;rw [hc];rfl
    clear hc
    go_wp2_with (go_at_call 143;refine (Cj _ _ b0 b1).mono ?_;rintro e w' ⟨rfl,rfl⟩)
    go_round
    case rel=>exact ⟨k+1,by omega,by go_num,EF s k ja HT.out HC.out⟩
    case measure=>simp [intOf];omega
   ·have jb:(B1 (s[k].toNat:Int) != 1)=true:=by simpa using hc
    have HC:Hid ((B1 (s[k].toNat:Int) == 1)=false):=by show _=false;simpa using hc
    clear hc
    go_wp2_with (go_at_call 143;refine (Cj _ _ b0 b1).mono ?_;rintro e w' ⟨rfl,rfl⟩)
    go_ret;exact ⟨Aa (Ci s k ja HC.out).symm,rfl⟩
  ·have HA:=A0 (ED s k ja);go_wp2;go_ret;exact ⟨Aa (by rw [GY,← HA.out];exact HT.out.symm),rfl⟩
theorem allKnown_any (s:ByteArray) (w:World) (hs:s.size≤9223372036854775807) :
  Calls Tryz.prog 126 #[.string s] w fun e w'=>e=.returned (.bool (DC s))∧w=w':=by
 go_enter Tryz.func126,Tryz.ntmps126
 go_wp2
 go_loop [6] (fun i=>∃ k:Nat,k≤s.size∧i=.int .i64 k∧Fd (s.data.toList.take k)=true) (fun i=>s.size - (intOf i).toNat)
 case atStart=>exact ⟨0,Nat.zero_le _,rfl,rfl⟩
 case round =>
  obtain ⟨k,hk,rfl,ht⟩:=hrel;have HT:=A0 ht;clear ht;by_cases ja:k<s.size
  ·have b0:(0:Int)≤(s[k].toNat:Int):=by omega
   have b1:(s[k].toNat:Int)≤255:=by have:=s[k].toNat_lt;omega
   by_cases hc:B1 (s[k].toNat:Int)=0
   ·have jb:(B1 (s[k].toNat:Int) == 0)=true:=by rw [hc];rfl
    have HC:Hid ((!(B1 (s[k].toNat:Int) == 0))=false):=by show _=false;rw [hc];rfl
    clear hc
    go_wp2_with (go_at_call 143;refine (Cj _ _ b0 b1).mono ?_;rintro e w' ⟨rfl,rfl⟩)
    go_ret;exact ⟨Aa (Ci s k ja HC.out).symm,rfl⟩
   ·have jb:(B1 (s[k].toNat:Int) == 0)=false:=by simpa using hc
    have HC:Hid ((!(B1 (s[k].toNat:Int) == 0))=true):=by show _=true;simpa using hc
    clear hc
    go_wp2_with (go_at_call 143;refine (Cj _ _ b0 b1).mono ?_;rintro e w' ⟨rfl,rfl⟩)
    go_round
    case rel=>exact ⟨k+1,by omega,by go_num,EF s k ja HT.out HC.out⟩
    case measure=>simp [intOf];omega
  ·have HA:=A0 (ED s k ja);go_wp2;go_ret;exact ⟨Aa (by rw [DC,← HA.out];exact HT.out.symm),rfl⟩
theorem Ga (m:Int) (r:Rl) (w:World) :
  Calls Tryz.prog 122 #[.int .i64 m,.agg #[.int .i64 r.frm,.int .i64 r.dst,.string r.inp,.string r.out,.int .i64 r.cost]] w fun e w'=>e=.returned (.bool (CW m r))∧Below w.heap.size w w':=by
 go_enter Tryz.func122,Tryz.ntmps122
 go_wp2_with (first
  | (go_at_call 141;refine (allSmall_any _ _ (by omega)).mono ?_;rintro e w' ⟨rfl,rfl⟩)
  | (go_at_call 126;refine (allKnown_any _ _ (by omega)).mono ?_;rintro e w' ⟨rfl,rfl⟩))
 all_goals go_ret
 all_goals exact ⟨Aa (by first | (simp [CW, *];done) | (simp [CW, *];omega)),by go_grown⟩
structure Kg (w:World) (b o:Nat) (r:Rl):Prop where
 c0:w.cell? ⟨b,o,none⟩=some (.int .i64 r.frm)
 c1:w.cell? ⟨b,o+1,none⟩=some (.int .i64 r.dst)
 c2:w.cell? ⟨b,o+2,none⟩=some (.string r.inp)
 c3:w.cell? ⟨b,o+3,none⟩=some (.string r.out)
 c4:w.cell? ⟨b,o+4,none⟩=some (.int .i64 r.cost)
theorem Kg.later {w w1:World} {B b o:Nat} {r:Rl} (h:Kg w b o r) (hb:Below B w w1) (hg:b<B):Kg w1 b o r :=
 ⟨(hb.cell (p:=⟨b,_,none⟩) hg).trans h.c0,(hb.cell (p:=⟨b,_,none⟩) hg).trans h.c1,(hb.cell (p:=⟨b,_,none⟩) hg).trans h.c2,(hb.cell (p:=⟨b,_,none⟩) hg).trans h.c3,(hb.cell (p:=⟨b,_,none⟩) hg).trans h.c4⟩
def BG (w:World) (a:Option Addr) (R:List Rl):Prop :=
 R=[]∨∃ b o,a=some ⟨b,o,none⟩∧b<w.heap.size∧∀ i (h:i<R.length),Kg w b (o+i*5) R[i]
theorem BG.later {w w1:World} {B:Nat} {a:Option Addr} {R:List Rl} (h:BG w a R) (hb:Below B w w1) (hB:w.heap.size≤B):BG w1 a R:=by
 rcases h with h | ⟨b,o,ha,ja,hr⟩
 · exact .inl h
 · exact .inr ⟨b,o,ha,A7 ja hb.size,fun i hi=>(hr i hi).later hb (A7 ja hB)⟩
theorem BG.take {w:World} {a:Option Addr} {R:List Rl} (h:BG w a R) (k:Nat):BG w a (R.take k):=by
 rcases h with h | ⟨b,o,ha,ja,hr⟩
 · exact .inl (by rw [h];simp)
 ·refine .inr ⟨b,o,ha,ja,fun i hi=>?_⟩;rw [List.getElem_take];exact hr i (by rw [AK] at hi;omega)
theorem BG.at {w:World} {a:Option Addr} {R:List Rl} (h:BG w a R) {k:Nat} (hk:k<R.length):∃ b o,a=some ⟨b,o,none⟩∧b<w.heap.size∧Kg w b (o+k*5) R[k]:=by
 rcases h with h | ⟨b,o,ha,ja,hr⟩
 · subst h;cases hk
 · exact ⟨b,o,ha,ja,hr k hk⟩
theorem Bx (a:Option Addr) (b o len cap k:Nat) (ha:a=some ⟨b,o,none⟩) (hk:k<len) (w:World) :
  (Instr.indexAt 31 (.slice a len cap) (.int .i64 (k:Int))).run Tryz.prog w=.ok (.pointer (some ⟨b,o+k*5,none⟩)) w:=by
 subst ha;have h0:(0:Int)≤(k:Int):=by omega
 have h1:(k:Int)<(len:Int):=by omega
 simp [go_sem,h0,h1]
def Di (r q:Rl):Bool:=decide (r.frm=q.frm) && (decide (r.dst=q.dst) && (decide (r.inp.toList=q.inp.toList) && (decide (r.out.toList=q.out.toList) && decide (r.cost=q.cost))))
theorem JF (r q:Rl) (w:World) :
  (Go.binOp .eql 88 (.agg #[.int .i64 r.frm,.int .i64 r.dst,.string r.inp,.string r.out,.int .i64 r.cost]) (.agg #[.int .i64 q.frm,.int .i64 q.dst,.string q.inp,.string q.out,.int .i64 q.cost])).run Tryz.prog w=.ok (.bool (Di r q)) w:=by
 simp only [run_eql_struct];unfold Di;by_cases h1:r.frm=q.frm <;> by_cases h2:r.dst=q.dst <;> by_cases h3:r.inp.toList=q.inp.toList <;> by_cases h4:r.out.toList=q.out.toList <;> by_cases h5:r.cost=q.cost <;> simp [go_sem,h1,h2,h3,h4,h5]
def QS (R:List Rl) (r:Rl) (w:World) (e:Ending) (w':World):Prop :=
 ∃ q:Int,e=.returned (.int .i64 q)∧decide (0≤q)=R.any (Di r)∧Below w.heap.size w w'
theorem Ou {R:List Rl} {p:Rl→Bool} {k:Nat} (hk:k<R.length) (hp:p R[k]=true):R.any p=true:=List.any_eq_true.2 ⟨R[k],AG _,hp⟩
theorem Kh {R:List Rl} {p:Rl→Bool} {k:Nat} (hk:k<R.length) (h:(R.take k).any p=false) (hp:p R[k]=false):(R.take (k+1)).any p=false:=by
 rw [AN hk,List.any_append,h];simp [hp]
theorem index_any (R:List Rl) (n:Nat) (a:Option Addr) (cap:Nat) (r:Rl) (w:World) (hR:BG w a R) (hL:n=R.length) (hn:n≤9223372036854775807) :
  Calls Tryz.prog 142 #[.slice a n cap,.agg #[.int .i64 r.frm,.int .i64 r.dst,.string r.inp,.string r.out,.int .i64 r.cost]] w (QS R r w):=by
 subst hL;have HR:=A0 hR;clear hR
 go_enter Tryz.func142,Tryz.ntmps142
 go_wp2
 go_loopw [8] (fun i wr=>∃ k:Nat,k≤R.length∧i=.int .i64 k∧(R.take k).any (Di r)=false∧Below (w.heap.size+1) (w.alloc (.cells #[.int .i64 r.frm,.int .i64 r.dst,.string r.inp,.string r.out,.int .i64 r.cost] 88)) wr) (fun i _=>R.length - (intOf i).toNat)
 case atStart=>exact ⟨0,Nat.zero_le _,rfl,rfl,Below.refl _ _⟩
 case round =>
  obtain ⟨k,hk,rfl,jd,jc⟩:=hrel;have HN:=A0 jd;clear jd;have hB:Below w.heap.size w wr:=((Below.refl _ _).alloc (A3 _) _).trans (jc.mono (by omega));by_cases jb:k<R.length
  ·obtain ⟨b,o,ha,hb,h0,h1,h2,h3,h4⟩:=HR.out.at jb;have hidx:=Bx a b o R.length cap k ha jb;have HA:=A0 ha;clear ha;have hcmp:=JF r R[k];obtain ⟨hz,hc,hf⟩:=BD jc rfl;by_cases hq:Di r R[k]=true
   ·have HQ:=A0 (Ou jb hq);go_wp2
    go_region
    go_wp2;go_ret;exact ⟨k,rfl,by rw [HQ.out];simp,by go_grown⟩
   ·have je:Di r R[k]=false:=by simpa using hq
    have HQ:=A0 je;clear hq;go_wp2
    go_region
    go_wp2
    go_roundw
    case rel=>exact ⟨k+1,by omega,by go_num,Kh jb HN.out HQ.out,by go_grown⟩
    case measure=>simp [intOf];omega
  ·have ja:R.take k=R:=AF (by omega);have HA:=A0 ja;clear ja;go_wp2;go_ret;exact ⟨-1,rfl,by rw [← HA.out,HN.out];rfl,hB⟩
theorem G1 (R:List Rl) (n:Nat) (a:Option Addr) (cap:Nat) (r:Rl) (w:World) (hR:BG w a R) (hL:n=R.length) (hn:n≤9223372036854775807) :
  Calls Tryz.prog 123 #[.slice a n cap,.agg #[.int .i64 r.frm,.int .i64 r.dst,.string r.inp,.string r.out,.int .i64 r.cost]] w fun e w'=>e=.returned (.bool (R.any (Di r)))∧Below w.heap.size w w':=by
 have HR:Hid (BG (w.alloc (.cells #[.int .i64 r.frm,.int .i64 r.dst,.string r.inp,.string r.out,.int .i64 r.cost] 88)) a R):=hR.later ((Below.refl _ _).alloc (A3 _) _) (A3 _);have HL:=A0 hL;clear hR hL
 go_enter Tryz.func123,Tryz.ntmps123
 go_wp2_with (go_at_call 142;refine (index_any R _ _ _ r _ HR.out HL.out hn).mono ?_;rintro e w1 ⟨q,rfl,hq,hb⟩;have HQ:=A0 hq;have hB:=Ab (B:=w.heap.size) (w:=w) (by go_grown) hb (A3 _);clear hq hb)
 go_ret;exact ⟨Aa HQ.out,hB⟩
structure Sch where
 modes:Int
 acc:Int
 rules:List Rl
def Ej (S:Sch):Bool:=decide (1≤S.modes) && (decide (S.modes≤8) && (decide (S.rules.length≤64) && (decide (1≤S.acc) && decide (S.acc<2 ^ S.modes.toNat))))
def CI (S:Sch) (r:Rl) (R:List Rl):Bool:=CW S.modes r && !R.any (Di r)
def G2 (S:Sch) (k:Nat):Prop:=∀ i (h:i<S.rules.length),i<k→CI S S.rules[i] (S.rules.take i)=true
def Hq (S:Sch):Prop:=Ej S=true∧G2 S S.rules.length
theorem below_drewN {B:Nat} (w:World) (n:Nat):Below B w (w.drewN n):=by
 exact ⟨rfl,rfl,rfl,A3 _,fun _ _=>rfl⟩
open Classical in
noncomputable def validB (S:Sch):Bool:=decide (Hq S)
noncomputable def Is (S:Sch):Int:=if validB S=true then 0 else 20
def Na (S:Sch) (w:World) (e:Ending) (w':World):Prop:=∃ i:Int,e=.returned (.tuple #[.int .i64 i,.int .i64 (Is S)])∧Below w.heap.size w w'
theorem Nb (a:Option Addr) (n cap k:Nat) (hk:k≤cap) (w:World) :
  (Instr.slice 31 (.slice a n cap) none (some (.int .i64 (k:Int))) none).run Tryz.prog w=.ok (.slice a k cap) w:=by
 have h0:(0:Int)≤(k:Int):=by omega
 have h1:(k:Int)≤(cap:Int):=by omega
 cases a with
 | none=>simp [go_sem,Instr.slice,Instr.sliceBounds,Instr.sliceBound,asIntOf,h0,h1];intro h;omega
 | some a=>simp [go_sem,Instr.slice,Instr.sliceBounds,Instr.sliceBound,asIntOf,h0,h1];intro h;omega
theorem QT (n:Nat) (h:n≤8):0≤(2:Int) ^ n∧(2:Int) ^ n≤256:=by
 rcases (show n=0∨n=1∨n=2∨n=3∨n=4∨n=5∨n=6∨n=7∨n=8 by omega) with rfl | rfl | rfl | rfl | rfl | rfl | rfl | rfl | rfl <;> decide
theorem Ju {S:Sch} {k:Nat} (hk:k<S.rules.length) (h:G2 S k) (hg:CI S S.rules[k] (S.rules.take k)=true):G2 S (k+1):=by
 intro i hi hik;by_cases e:i=k
 · subst e;exact hg
 · exact h i hi (by omega)
theorem DQ {S:Sch} (h:¬ Hq S):Is S=20:=by simp [Is,validB,h]
theorem Nc {S:Sch} (h:Hq S):Is S=0:=by simp [Is,validB,h]
theorem Ek {S:Sch} (h:Ej S=false):¬ Hq S:=fun v=>by rw [v.1] at h;cases h
theorem Ov {S:Sch} {k:Nat} (hk:k<S.rules.length) (h:CI S S.rules[k] (S.rules.take k)=false):¬ Hq S:=fun v=>by rw [v.2 k hk hk] at h;cases h
theorem check_any (S:Sch) (a:Option Addr) (cap:Nat) (w:World) (hR:BG w a S.rules) (h0:0≤S.acc) (h1:S.acc≤255) (hl:S.rules.length≤9223372036854775807) (hcap:S.rules.length≤cap) :
  Calls Tryz.prog 94 #[.agg #[.int .i64 S.modes,.int .u8 S.acc,.slice a S.rules.length cap]] w (Na S w):=by
 by_cases hm:S.modes<1
 ·have H:=A0 (DQ (S:=S) (Ek (by simp [Ej];omega)))
  go_enter Tryz.func94,Tryz.ntmps94
  go_wp2
  go_ret2
  exact ⟨-1,by rw [H.out];rfl,by go_grown⟩
 by_cases hm2:8<S.modes
 ·have H:=A0 (DQ (S:=S) (Ek (by simp [Ej];omega)))
  go_enter Tryz.func94,Tryz.ntmps94
  go_wp2
  go_ret2
  exact ⟨-1,by rw [H.out];rfl,by go_grown⟩
 by_cases hl64:64<S.rules.length
 ·have H:=A0 (DQ (S:=S) (Ek (by simp [Ej];omega)))
  go_enter Tryz.func94,Tryz.ntmps94
  go_wp2
  go_ret2
  exact ⟨-1,by rw [H.out];rfl,by go_grown⟩
 by_cases ha1:S.acc<1
 ·have H:=A0 (DQ (S:=S) (Ek (by simp [Ej];omega)));have hd:decide (S.acc<1)=true:=by simp;omega
  go_enter Tryz.func94,Tryz.ntmps94
  go_wp2
  go_quiet (fail)
  go_wp2
  go_ret2
  exact ⟨-1,by rw [H.out];rfl,((Below.refl _ _).alloc (A3 _) _).trans (below_drewN _ _)⟩
 have hd:decide (S.acc<1)=false:=by simp;omega
 obtain ⟨p2,ja⟩:∃ p,(2:Int) ^ S.modes.toNat=p:=⟨_,rfl⟩
 have hp0:0≤p2∧p2≤256:=by
  rw [← ja];exact QT _ (by omega)
 have hw:wrap64 (2 ^ S.modes.toNat)=p2:=by rw [ja];exact IntWalk.wrap64_in _ (by omega)
 by_cases hp:p2≤S.acc
 ·have H:=A0 (DQ (S:=S) (Ek (by unfold Ej;rw [ja];simp only [Bool.and_eq_true,Bool.and_eq_false_iff,decide_eq_true_eq,decide_eq_false_iff_not];omega)));have jk:=A0 ja;clear ja
  go_enter Tryz.func94,Tryz.ntmps94
  go_wp2
  go_quiet (fail)
  go_wp2
  go_ret2
  exact ⟨-1,by rw [H.out];rfl,((Below.refl _ _).alloc (A3 _) _).trans (below_drewN _ _)⟩
 have hd64:decide (64<(S.rules.length:Int))=false:=by simp;omega
 have hdp:decide (p2≤S.acc)=false:=by simp;omega
 have HH:Hid (Ej S=true):=by show _=true;simp [Ej,ja];omega
 have jk:=A0 ja;clear ja;have HR:=A0 hR;clear hR
 go_enter Tryz.func94,Tryz.ntmps94
 go_wp2
 go_quiet (fail)
 go_wp2;clear hw
 go_loopg [35] S.rules.length (fun g i wr=>∃ k:Nat,k≤S.rules.length∧g=S.rules.length - k∧i=.int .i64 k∧G2 S k∧Below (w.heap.size+1) (w.alloc (.cells #[.int .i64 S.modes,.int .u8 S.acc,.slice a S.rules.length cap] 33)) wr)
 case atStart=>exact ⟨0,Nat.zero_le _,rfl,rfl,fun i _ h=>by omega,(below_drewN _ _)⟩
 case round =>
  obtain ⟨k,hk,rfl,rfl,hv,jb⟩:=hrel;have HV:=A0 hv;clear hv;have hB:Below w.heap.size w wr:=((Below.refl _ _).alloc (A3 _) _).trans (jb.mono (by omega));obtain ⟨hz,hc,hf⟩:=BD jb rfl;simp only [A6] at hz;by_cases jc:k<S.rules.length
  ·have jf:BG wr a S.rules:=HR.out.later hB (A3 _);obtain ⟨b,o,ha,hb,q0,q1,q2,q3,q4⟩:=jf.at jc;have je:Hid (BG wr a (S.rules.take k)):=jf.take k;have ji:Hid (k=(S.rules.take k).length):=by show k=_;rw [AK];omega
   have hidx:=Bx a b o S.rules.length cap k ha jc;have hsl:=Nb a S.rules.length cap k (by omega);have HA:=A0 ha;clear ha jf;by_cases hr:CW S.modes S.rules[k]=true
   ·have HQ:=A0 hr;by_cases jg:(S.rules.take k).any (Di S.rules[k])=true
    ·have HB:Hid (Is S=20):=DQ (Ov jc (by simp [CI,hr,jg]))
     go_wp2_with fail
     go_region_held3 (fun w'=>w'.cell? ⟨w.heap.size,0,none⟩=some (.int .i64 S.modes)∧w'.cell? ⟨w.heap.size,2,none⟩=some (.slice a S.rules.length cap)∧w'.cell? ⟨wr.heap.size,0,none⟩=some (.int .i64 S.rules[k].frm)∧w'.cell? ⟨wr.heap.size,1,none⟩=some (.int .i64 S.rules[k].dst)∧w'.cell? ⟨wr.heap.size,2,none⟩=some (.string S.rules[k].inp)∧w'.cell? ⟨wr.heap.size,3,none⟩=some (.string S.rules[k].out)∧w'.cell? ⟨wr.heap.size,4,none⟩=some (.int .i64 S.rules[k].cost)) (first | (simp [go_sem, *];done) | go_keep) (first | (go_at_call 122;refine (Ga _ S.rules[k] _).mono ?_;rintro e w1 ⟨he,hb⟩;rw [HQ.out] at he;subst he;have jd:Hid (BG w1 a (S.rules.take k)):=je.out.later (Ab (B:=wr.heap.size) (w:=wr) (by go_grown) hb (A3 _)) (A3 _);obtain ⟨hz,hc,hf⟩:=BZ hb (by first | (simp only [A6,World.size_setCell,World.size_drew];rfl) | rfl);have hB:=Ab (B:=w.heap.size) (w:=w) (by go_grown) hb (A3 _);have jb:=Ab (B:=w.heap.size+1) (w:=w.alloc (.cells #[.int .i64 S.modes,.int .u8 S.acc,.slice a S.rules.length cap] 33)) (by go_grown) hb (by simp);clear hb) | (go_at_call 123;refine (G1 (S.rules.take k) _ _ _ S.rules[k] _ jd.out ji.out (by omega)).mono ?_;rintro e w1 ⟨rfl,hb⟩;obtain ⟨hz,hc,hf⟩:=BZ hb (by first | (simp only [A6,World.size_setCell,World.size_drew];rfl) | rfl);have hB:=Ab (B:=w.heap.size) (w:=w) (by go_grown) hb (A3 _);have jb:=Ab (B:=w.heap.size+1) (w:=w.alloc (.cells #[.int .i64 S.modes,.int .u8 S.acc,.slice a S.rules.length cap] 33)) (by go_grown) hb (by simp);clear hb))
     all_goals
      go_wp2
      go_ret2
      exact ⟨k,by rw [HB.out];rfl,by go_grown⟩
    ·have jh:(S.rules.take k).any (Di S.rules[k])=false:=by simpa using jg
     have HB:Hid (G2 S (k+1)):=Ju jc HV.out (by simp [CI,hr,jh]);clear jg
     go_wp2_with fail
     go_region_held3 (fun w'=>w'.cell? ⟨w.heap.size,0,none⟩=some (.int .i64 S.modes)∧w'.cell? ⟨w.heap.size,2,none⟩=some (.slice a S.rules.length cap)∧w'.cell? ⟨wr.heap.size,0,none⟩=some (.int .i64 S.rules[k].frm)∧w'.cell? ⟨wr.heap.size,1,none⟩=some (.int .i64 S.rules[k].dst)∧w'.cell? ⟨wr.heap.size,2,none⟩=some (.string S.rules[k].inp)∧w'.cell? ⟨wr.heap.size,3,none⟩=some (.string S.rules[k].out)∧w'.cell? ⟨wr.heap.size,4,none⟩=some (.int .i64 S.rules[k].cost)) (first | (simp [go_sem, *];done) | go_keep) (first | (go_at_call 122;refine (Ga _ S.rules[k] _).mono ?_;rintro e w1 ⟨he,hb⟩;rw [HQ.out] at he;subst he;have jd:Hid (BG w1 a (S.rules.take k)):=je.out.later (Ab (B:=wr.heap.size) (w:=wr) (by go_grown) hb (A3 _)) (A3 _);obtain ⟨hz,hc,hf⟩:=BZ hb (by first | (simp only [A6,World.size_setCell,World.size_drew];rfl) | rfl);have hB:=Ab (B:=w.heap.size) (w:=w) (by go_grown) hb (A3 _);have jb:=Ab (B:=w.heap.size+1) (w:=w.alloc (.cells #[.int .i64 S.modes,.int .u8 S.acc,.slice a S.rules.length cap] 33)) (by go_grown) hb (by simp);clear hb) | (go_at_call 123;refine (G1 (S.rules.take k) _ _ _ S.rules[k] _ jd.out ji.out (by omega)).mono ?_;rintro e w1 ⟨rfl,hb⟩;obtain ⟨hz,hc,hf⟩:=BZ hb (by first | (simp only [A6,World.size_setCell,World.size_drew];rfl) | rfl);have hB:=Ab (B:=w.heap.size) (w:=w) (by go_grown) hb (A3 _);have jb:=Ab (B:=w.heap.size+1) (w:=w.alloc (.cells #[.int .i64 S.modes,.int .u8 S.acc,.slice a S.rules.length cap] 33)) (by go_grown) hb (by simp);clear hb))
     all_goals
      go_wp2
      go_roundg (S.rules.length - (k+1))
      case rel=>exact ⟨k+1,by omega,rfl,by go_num,HB.out,by go_grown⟩
      case measure=>omega
   ·have jj:CW S.modes S.rules[k]=false:=by simpa using hr
    have HQ:=A0 jj;have HB:Hid (Is S=20):=DQ (Ov jc (by simp [CI,jj]));clear hr
    go_wp2_with fail
    first | (go_region_with (go_at_call 122;refine (Ga _ S.rules[k] _).mono ?_;rintro e w1 ⟨he,hb⟩;rw [HQ.out] at he;subst he;have jd:Hid (BG w1 a (S.rules.take k)):=je.out.later (Ab (B:=wr.heap.size) (w:=wr) (by go_grown) hb (A3 _)) (A3 _);obtain ⟨hz,hc,hf⟩:=BZ hb (by first | (simp only [A6,World.size_setCell,World.size_drew];rfl) | rfl);have hB:=Ab (B:=w.heap.size) (w:=w) (by go_grown) hb (A3 _);have jb:=Ab (B:=w.heap.size+1) (w:=w.alloc (.cells #[.int .i64 S.modes,.int .u8 S.acc,.slice a S.rules.length cap] 33)) (by go_grown) hb (by simp);clear hb)) | fail
    all_goals
     go_wp2
     go_ret2
     exact ⟨k,by rw [HB.out];rfl,by go_grown⟩
  ·obtain rfl:k=S.rules.length:=by omega
   have HB:Hid (Is S=0):=Nc ⟨HH.out,HV.out⟩;go_wp2
   go_ret2
   exact ⟨_,by rw [HB.out];rfl,hB⟩
theorem EG (S:Sch) (a:Option Addr) (cap:Nat) (w:World) (hR:BG w a S.rules) (h0:0≤S.acc) (h1:S.acc≤255) (hl:S.rules.length≤9223372036854775807) (ja:S.rules.length≤cap) :
  Calls Tryz.prog 63 #[.agg #[.int .i64 S.modes,.int .u8 S.acc,.slice a S.rules.length cap]] w fun e w'=>e=.returned (.bool (validB S))∧Below w.heap.size w w':=by
 have HR:Hid (BG (w.alloc (.cells #[.int .i64 S.modes,.int .u8 S.acc,.slice a S.rules.length cap] 33)) a S.rules):=hR.later ((Below.refl _ _).alloc (A3 _) _) (A3 _);have HE:Hid ((Is S == 0)=validB S):=by show _=_;unfold Is;cases validB S <;> rfl
 clear hR
 go_enter Tryz.func63,Tryz.ntmps63
 go_wp2_with (go_at_call 94;refine (check_any S a cap _ HR.out h0 h1 hl ja).mono ?_;rintro e w1 ⟨i,rfl,hb⟩;have hB:=Ab (B:=w.heap.size) (w:=w) (by go_grown) hb (A3 _);clear hb)
 go_ret;exact ⟨Aa HE.out,hB⟩
structure Ed where
 f:Nat
 t:Nat
 e:Bool
def Rl.ed (r:Rl):Ed:=⟨r.frm.toNat,r.dst.toNat,decide (r.inp.size=0)⟩
def Sch.eds (S:Sch):List Ed:=S.rules.map Rl.ed
def Dm (L:Nat) (x:Ed):Nat:=if L.testBit x.f then L ||| 2 ^ x.t else L
def Do (L:Nat) (x:Ed):Nat:=if L.testBit x.t then L ||| 2 ^ x.f else L
def Hr (f:Nat→Nat):Nat→Nat→Nat
 | 0,x=>x
 | n+1,x=>f (Hr f n x)
def DR (E:List Ed) (m:Nat):Nat:=Hr (fun L=>E.foldl Dm L) m 1
def El (E:List Ed) (m acc:Nat):Nat:=Hr (fun L=>E.foldl Do L) m acc
def Hs (n:Nat) (E:List Ed):Prop:=∀ x∈E,x.f<n∧x.t<n
theorem EM (t:Nat) (h:t<8):2 ^ t<256:=by
 rcases (show t=0∨t=1∨t=2∨t=3∨t=4∨t=5∨t=6∨t=7 by omega) with rfl | rfl | rfl | rfl | rfl | rfl | rfl | rfl <;> decide
theorem Ow {a b:Nat} (h:a<256) (h2:b<256):a ||| b<256:=Nat.or_lt_two_pow (n:=8) h h2
theorem Ki {L:Nat} {x:Ed} (h:L<256) (h2:x.t<8):Dm L x<256:=by
 unfold Dm;split
 · exact Ow h (EM _ h2)
 · exact h
theorem Kj {L:Nat} {x:Ed} (h:L<256) (h2:x.f<8):Do L x<256:=by
 unfold Do;split
 · exact Ow h (EM _ h2)
 · exact h
theorem Kk:∀ (E:List Ed) (L:Nat),Hs 8 E→L<256→E.foldl Dm L<256
 | [],L,_,h=>h
 | x :: E,L,hE,h=>Kk E _ (fun y hy=>hE y (by simp [hy])) (Ki h (hE x (by simp)).2)
theorem Kl:∀ (E:List Ed) (L:Nat),Hs 8 E→L<256→E.foldl Do L<256
 | [],L,_,h=>h
 | x :: E,L,hE,h=>Kl E _ (fun y hy=>hE y (by simp [hy])) (Kj h (hE x (by simp)).1)
theorem JG {f:Nat→Ed→Nat} {E:List Ed} {k:Nat} (hk:k<E.length) (L:Nat):(E.take (k+1)).foldl f L=f ((E.take k).foldl f L) E[k]:=by
 rw [AN hk,List.foldl_append];rfl
theorem Lz (L m:Nat):L &&& 2 ^ m=if L.testBit m then 2 ^ m else 0:=by
 apply Nat.eq_of_testBit_eq;intro i;rw [Nat.testBit_and,Nat.testBit_two_pow];by_cases h:m=i
 ·subst h;cases hl:L.testBit m <;> simp [Nat.testBit_two_pow]
 · cases hl:L.testBit m <;> simp [Nat.testBit_two_pow,h]
theorem QU (L m:Nat):(((L &&& 2 ^ m:Nat):Int) != 0)=L.testBit m:=by
 rw [Lz];have:0<2 ^ m:=Nat.two_pow_pos m;cases h:L.testBit m
 · simp
 · rw [if_pos rfl];exact bne_iff_ne.2 (by omega)
structure Fit (S:Sch):Prop where
 m0:1≤S.modes
 m1:S.modes≤8
 a0:0≤S.acc
 a1:S.acc≤255
 len:S.rules.length≤64
 at0:∀ i (h:i<S.rules.length),0≤S.rules[i].frm∧S.rules[i].frm<S.modes∧0≤S.rules[i].dst∧S.rules[i].dst<S.modes
theorem Fit.within {S:Sch} (h:Fit S):Hs 8 S.eds:=by
 intro x hx;obtain ⟨r,hr,rfl⟩:=AH.1 hx;obtain ⟨i,hi,rfl⟩:=List.mem_iff_getElem.1 hr;have:=h.at0 i hi;have:=h.m1;unfold Rl.ed;simp only;omega
theorem EN (S:Sch):S.eds.length=S.rules.length:=by simp [Sch.eds]
theorem Ox (S:Sch) (k:Nat) (h:k<S.rules.length):S.eds[k]'(by rw [EN];exact h)=S.rules[k].ed:=by simp [Sch.eds]
theorem Dp (m:Int) (w:World) (h0:0≤m) (h1:m<8) :
  Calls Tryz.prog 95 #[.int .i64 m] w fun e w'=>e=.returned (.int .u8 ((2 ^ m.toNat:Nat):Int))∧w=w':=by
 rcases (show m=0∨m=1∨m=2∨m=3∨m=4∨m=5∨m=6∨m=7 by omega) with rfl | rfl | rfl | rfl | rfl | rfl | rfl | rfl
 all_goals
  go_enter Tryz.func95,Tryz.ntmps95
  go_wp2;go_ret;exact ⟨BW (by decide),rfl⟩
theorem Cx (L:Nat) (m:Int) (w:World) (hL:L<256) (h0:0≤m) (h1:m<8) :
  Calls Tryz.prog 65 #[.int .u8 (L:Int),.int .i64 m] w fun e w'=>e=.returned (.bool (L.testBit m.toNat))∧w=w':=by
 have hp:=EM m.toNat (by omega);have ha:bits .and .u8 (L:Int) ((2 ^ m.toNat:Nat):Int)=((L &&& 2 ^ m.toNat:Nat):Int):=u8_and_nat _ _ hL hp;have hb:=QU L m.toNat;generalize ja:(2 ^ m.toNat:Nat)=p at *;generalize ho:L.testBit m.toNat=o at *;have HO:=A0 ho;have HP:=A0 ja;clear ho ja;generalize (L &&& p:Nat)=q at *
 go_enter Tryz.func65,Tryz.ntmps65
 go_wp2_with (go_at_call 95;refine (Dp m _ h0 h1).mono ?_;rintro e w' ⟨he,rfl⟩;rw [HP.out] at he;subst he)
 go_ret;exact ⟨rfl,rfl⟩
theorem reached_any (S:Sch) (a:Option Addr) (cap:Nat) (w:World) (hR:BG w a S.rules) (hS:Fit S) :
  Calls Tryz.prog 66 #[.agg #[.int .i64 S.modes,.int .u8 S.acc,.slice a S.rules.length cap]] w fun e w'=>e=.returned (.int .u8 ((DR S.eds S.modes.toNat:Nat):Int))∧Below w.heap.size w w':=by
 obtain ⟨m0,m1,a0,a1,jg,at0⟩:=hS;have HW:Hid (Hs 8 S.eds):=Fit.within ⟨m0,m1,a0,a1,jg,at0⟩;have HR:=A0 hR;have ji:=A0 at0;clear hR at0;obtain ⟨mm,jd⟩:=Int.eq_ofNat_of_zero_le (show 0≤S.modes by omega);obtain ⟨sm,jl⟩:∃ x,S.modes=x:=⟨_,rfl⟩
 obtain ⟨A,hA⟩:∃ A:Nat,S.acc=(A:Int):=⟨S.acc.toNat,by omega⟩
 rw [hA] at a0 a1;rw [jd] at m0 m1;rw [jd,hA];have HM:Hid (S.modes.toNat=mm):=by show _=_;omega
 have HA:Hid (S.acc.toNat=A):=by show _=_;omega
 have jj:=A0 jd;clear hA jd jl
 go_enter Tryz.func66,Tryz.ntmps66
 go_wp2_with (go_at_call 95;refine (Dp _ _ (by omega) (by omega)).mono ?_;rintro e w' ⟨rfl,rfl⟩)
 go_loopw [3,9] (fun l j wr=>∃ k:Nat,k≤mm∧j=.int .i64 k∧∃ L:Nat,L=Hr (fun L=>S.eds.foldl Dm L) k 1∧L<256∧l=.int .u8 (L:Int)∧Below (w.heap.size+1) (w.alloc (.cells #[.int .i64 (mm:Int),.int .u8 (A:Int),.slice a S.rules.length cap] 33)) wr) (fun _ j _=>mm - (intOf j).toNat)
 case atStart=>exact ⟨0,by omega,rfl,_,rfl,by show (_:Nat)<256;first | (show (1:Nat)<256;omega) | (show A<256;omega),rfl,Below.refl _ _⟩
 case round =>
  obtain ⟨k,hk,rfl,L,hL,jk,rfl,ja⟩:=hrel;obtain ⟨wo,rfl⟩:∃ wo:World,wo=wr:=⟨_,rfl⟩
  have HL:=A0 hL;clear hL;obtain ⟨hz,hc,hf⟩:=BD ja rfl;simp only [A6] at hz;by_cases hlt:k<mm
  ·go_wp2
   go_loopw [3,14] (fun l j wr=>∃ i:Nat,i≤S.rules.length∧j=.int .i64 i∧∃ Q:Nat,Q=(S.eds.take i).foldl Dm L∧Q<256∧l=.int .u8 (Q:Int)∧Below (w.heap.size+1) (w.alloc (.cells #[.int .i64 (mm:Int),.int .u8 (A:Int),.slice a S.rules.length cap] 33)) wr) (fun _ j _=>S.rules.length - (intOf j).toNat)
   case atStart=>exact ⟨0,by omega,rfl,_,rfl,jk,rfl,ja⟩
   case round =>
    obtain ⟨i,hi,rfl,Q,hQ,jc,rfl,ja⟩:=hrel;have HQ:=A0 hQ;clear hQ hc hf hz;have hB:Below w.heap.size w wr:=((Below.refl _ _).alloc (A3 _) _).trans (ja.mono (by omega));obtain ⟨hz,hc,hf⟩:=BD ja rfl;simp only [A6] at hz;by_cases jb:i<S.rules.length
    ·obtain ⟨b,o,ha,hb,q0,q1,q2,q3,q4⟩:=(HR.out.later hB (A3 _)).at jb;have hidx:=Bx a b o S.rules.length cap i ha jb;have HAd:=A0 ha;clear ha;obtain ⟨f0,f1,t0,t1⟩:=ji.out i jb;rw [jj.out] at f1 t1;have HE:Hid (S.eds[i]'(by rw [EN];exact jb)=S.rules[i].ed):=Ox S i jb;have HF:Hid ((S.eds.take (i+1)).foldl Dm L=Dm Q S.rules[i].ed):=by
      show _=_;rw [JG (by rw [EN];exact jb),HE.out,← HQ.out]
     have jh:Hid (Dm Q S.rules[i].ed<256):=Ki jc (by show S.rules[i].dst.toNat<8;omega);by_cases je:Q.testBit S.rules[i].frm.toNat=true
     ·have jf:Hid (Dm Q S.rules[i].ed=Q ||| 2 ^ S.rules[i].dst.toNat):=by show _=_;unfold Dm;rw [if_pos (by exact je)];rfl
      have hor:bits .or .u8 (Q:Int) ((2 ^ S.rules[i].dst.toNat:Nat):Int)=((Q ||| 2 ^ S.rules[i].dst.toNat:Nat):Int):=u8_or_nat _ _ jc (EM _ (by omega));generalize hp:(2 ^ S.rules[i].dst.toNat:Nat)=p at *;have HP:=A0 hp;clear hp
      go_wp2_with (first
       | (go_at_call 65;refine (Cx _ _ _ jc f0 (by omega)).mono ?_;rintro e w' ⟨rfl,rfl⟩)
       | (go_at_call 95;refine (Dp _ _ t0 (by omega)).mono ?_;rintro e w' ⟨he,rfl⟩;rw [HP.out] at he;subst he))
      go_roundw
      case rel=>exact ⟨i+1,by omega,by go_num,_,HF.out.symm,jh.out,by rw [jf.out],by go_grown⟩
      case measure=>simp [intOf];omega
     ·have htb':Q.testBit S.rules[i].frm.toNat=false:=by simpa using je
      have jf:Hid (Dm Q S.rules[i].ed=Q):=by show _=_;unfold Dm;rw [if_neg (by exact je)]
      clear je
      go_wp2_with (first
       | (go_at_call 65;refine (Cx _ _ _ jc f0 (by omega)).mono ?_;rintro e w' ⟨rfl,rfl⟩))
      go_roundw
      case rel=>exact ⟨i+1,by omega,by go_num,_,HF.out.symm,jh.out,by rw [jf.out],by go_grown⟩
      case measure=>simp [intOf];omega
    ·obtain rfl:i=S.rules.length:=by omega
     have HF:Hid (S.eds.take S.rules.length=S.eds):=AF (by rw [EN];exact A3 _);go_wp2
     go_roundw
     case rel=>exact ⟨k+1,by omega,by go_num,Q,by rw [HQ.out,HF.out,HL.out];rfl,jc,rfl,ja⟩
     case measure=>simp [intOf];omega
  ·obtain rfl:k=mm:=by omega
   have hB:Below w.heap.size w wo:=((Below.refl _ _).alloc (A3 _) _).trans (ja.mono (by omega));go_wp2;go_ret;exact ⟨BW (by rw [HL.out];rfl),hB⟩
theorem live_any (S:Sch) (a:Option Addr) (cap:Nat) (w:World) (hR:BG w a S.rules) (hS:Fit S) :
  Calls Tryz.prog 64 #[.agg #[.int .i64 S.modes,.int .u8 S.acc,.slice a S.rules.length cap]] w fun e w'=>e=.returned (.int .u8 ((El S.eds S.modes.toNat S.acc.toNat:Nat):Int))∧Below w.heap.size w w':=by
 obtain ⟨m0,m1,a0,a1,jg,at0⟩:=hS;have HW:Hid (Hs 8 S.eds):=Fit.within ⟨m0,m1,a0,a1,jg,at0⟩;have HR:=A0 hR;have ji:=A0 at0;clear hR at0;obtain ⟨mm,jd⟩:=Int.eq_ofNat_of_zero_le (show 0≤S.modes by omega);obtain ⟨sm,jl⟩:∃ x,S.modes=x:=⟨_,rfl⟩
 obtain ⟨A,hA⟩:∃ A:Nat,S.acc=(A:Int):=⟨S.acc.toNat,by omega⟩
 rw [hA] at a0 a1;rw [jd] at m0 m1;rw [jd,hA];have HM:Hid (S.modes.toNat=mm):=by show _=_;omega
 have HA:Hid (S.acc.toNat=A):=by show _=_;omega
 have jj:=A0 jd;clear hA jd jl
 go_enter Tryz.func64,Tryz.ntmps64
 go_wp2_with (go_at_call 95;refine (Dp _ _ (by omega) (by omega)).mono ?_;rintro e w' ⟨rfl,rfl⟩)
 go_loopw [3,10] (fun l j wr=>∃ k:Nat,k≤mm∧j=.int .i64 k∧∃ L:Nat,L=Hr (fun L=>S.eds.foldl Do L) k A∧L<256∧l=.int .u8 (L:Int)∧Below (w.heap.size+1) (w.alloc (.cells #[.int .i64 (mm:Int),.int .u8 (A:Int),.slice a S.rules.length cap] 33)) wr) (fun _ j _=>mm - (intOf j).toNat)
 case atStart=>exact ⟨0,by omega,rfl,_,rfl,by show (_:Nat)<256;first | (show (1:Nat)<256;omega) | (show A<256;omega),rfl,Below.refl _ _⟩
 case round =>
  obtain ⟨k,hk,rfl,L,hL,jk,rfl,ja⟩:=hrel;obtain ⟨wo,rfl⟩:∃ wo:World,wo=wr:=⟨_,rfl⟩
  have HL:=A0 hL;clear hL;obtain ⟨hz,hc,hf⟩:=BD ja rfl;simp only [A6] at hz;by_cases hlt:k<mm
  ·go_wp2
   go_loopw [3,15] (fun l j wr=>∃ i:Nat,i≤S.rules.length∧j=.int .i64 i∧∃ Q:Nat,Q=(S.eds.take i).foldl Do L∧Q<256∧l=.int .u8 (Q:Int)∧Below (w.heap.size+1) (w.alloc (.cells #[.int .i64 (mm:Int),.int .u8 (A:Int),.slice a S.rules.length cap] 33)) wr) (fun _ j _=>S.rules.length - (intOf j).toNat)
   case atStart=>exact ⟨0,by omega,rfl,_,rfl,jk,rfl,ja⟩
   case round =>
    obtain ⟨i,hi,rfl,Q,hQ,jc,rfl,ja⟩:=hrel;have HQ:=A0 hQ;clear hQ hc hf hz;have hB:Below w.heap.size w wr:=((Below.refl _ _).alloc (A3 _) _).trans (ja.mono (by omega));obtain ⟨hz,hc,hf⟩:=BD ja rfl;simp only [A6] at hz;by_cases jb:i<S.rules.length
    ·obtain ⟨b,o,ha,hb,q0,q1,q2,q3,q4⟩:=(HR.out.later hB (A3 _)).at jb;have hidx:=Bx a b o S.rules.length cap i ha jb;have HAd:=A0 ha;clear ha;obtain ⟨f0,f1,t0,t1⟩:=ji.out i jb;rw [jj.out] at f1 t1;have HE:Hid (S.eds[i]'(by rw [EN];exact jb)=S.rules[i].ed):=Ox S i jb;have HF:Hid ((S.eds.take (i+1)).foldl Do L=Do Q S.rules[i].ed):=by
      show _=_;rw [JG (by rw [EN];exact jb),HE.out,← HQ.out]
     have jh:Hid (Do Q S.rules[i].ed<256):=Kj jc (by show S.rules[i].frm.toNat<8;omega);by_cases je:Q.testBit S.rules[i].dst.toNat=true
     ·have jf:Hid (Do Q S.rules[i].ed=Q ||| 2 ^ S.rules[i].frm.toNat):=by show _=_;unfold Do;rw [if_pos (by exact je)];rfl
      have hor:bits .or .u8 (Q:Int) ((2 ^ S.rules[i].frm.toNat:Nat):Int)=((Q ||| 2 ^ S.rules[i].frm.toNat:Nat):Int):=u8_or_nat _ _ jc (EM _ (by omega));generalize hp:(2 ^ S.rules[i].frm.toNat:Nat)=p at *;have HP:=A0 hp;clear hp
      go_wp2_with (first
       | (go_at_call 65;refine (Cx _ _ _ jc t0 (by omega)).mono ?_;rintro e w' ⟨rfl,rfl⟩)
       | (go_at_call 95;refine (Dp _ _ f0 (by omega)).mono ?_;rintro e w' ⟨he,rfl⟩;rw [HP.out] at he;subst he))
      go_roundw
      case rel=>exact ⟨i+1,by omega,by go_num,_,HF.out.symm,jh.out,by rw [jf.out],by go_grown⟩
      case measure=>simp [intOf];omega
     ·have htb':Q.testBit S.rules[i].dst.toNat=false:=by simpa using je
      have jf:Hid (Do Q S.rules[i].ed=Q):=by show _=_;unfold Do;rw [if_neg (by exact je)]
      clear je
      go_wp2_with (first
       | (go_at_call 65;refine (Cx _ _ _ jc t0 (by omega)).mono ?_;rintro e w' ⟨rfl,rfl⟩))
      go_roundw
      case rel=>exact ⟨i+1,by omega,by go_num,_,HF.out.symm,jh.out,by rw [jf.out],by go_grown⟩
      case measure=>simp [intOf];omega
    ·obtain rfl:i=S.rules.length:=by omega
     have HF:Hid (S.eds.take S.rules.length=S.eds):=AF (by rw [EN];exact A3 _);go_wp2
     go_roundw
     case rel=>exact ⟨k+1,by omega,by go_num,Q,by rw [HQ.out,HF.out,HL.out];rfl,jc,rfl,ja⟩
     case measure=>simp [intOf];omega
  ·obtain rfl:k=mm:=by omega
   have hB:Below w.heap.size w wo:=((Below.refl _ _).alloc (A3 _) _).trans (ja.mono (by omega));go_wp2;go_ret;exact ⟨BW (by rw [HL.out];rfl),hB⟩
open Go.RowKit Go.Conc
def wpK (P:Program) (c:Code) (Q:Exit→Act→World→Prop) (a:Act) (w:World):Prop :=
 ∀ (b:Frame),b.kind≠.early→∀ (k:List Item) (cs:List Frame),∃ e a' w',Q e a' w'∧Arrives P (lone (b.at a (.code c :: k)) cs w) b k cs e a' w'
def wpS (P:Program) (ops:Array Oper) (l:List Nat) (Q:Exit→Act→World→Prop) (a:Act) (w:World):Prop :=
 ∀ (b:Frame),b.kind≠.early→∀ (k:List Item) (cs:List Frame),∃ e a' w',Q e a' w'∧Arrives P (lone (b.at a (.inRegion ops l :: k)) cs w) b k cs e a' w'
section
variable {P:Program} {Q:Exit→Act→World→Prop} {a:Act} {w:World}
theorem EO {c:Code} (h:c.wp P Q a w):wpK P c Q a w:=fun b _ k cs=>h b k cs
theorem CG {x y:Code} (h:wpK P x (Exit.then (wpK P y Q) Q) a w):wpK P (Code.seq x y) Q a w:=by
 intro b hb k cs;obtain ⟨e,a₁,w₁,hq,ja⟩:=h b hb (.code y :: k) cs;cases e with
 | normal =>
  obtain ⟨e₂,a₂,w₂,jc,jb⟩:=hq b hb k cs;exact ⟨e₂,a₂,w₂,jc,.of_steps (.head step_seq ja) jb⟩
 | exit id=>exact ⟨_,a₁,w₁,hq,.of_steps (.one step_seq) (.pass (x:=.code y) rfl (fun _ _=>.inl (by simp)) ja)⟩
 | goto l=>exact ⟨_,a₁,w₁,hq,.of_steps (.one step_seq) (.pass (x:=.code y) rfl (fun _ _=>.inl (by simp)) ja)⟩
 | ret=>exact ⟨_,a₁,w₁,hq,.of_steps (.one step_seq) (.pass (x:=.code y) rfl (fun _ _=>.inl (by simp)) ja)⟩
 | panic ch=>exact ⟨_,a₁,w₁,hq,.of_steps (.one step_seq) (.pass (x:=.code y) rfl (fun _ _=>.inl (by simp)) ja)⟩
 | outgrown=>exact ⟨_,a₁,w₁,hq,.of_steps (.one step_seq) (.pass (x:=.code y) rfl (fun _ _=>.inl (by simp)) ja)⟩
theorem BC {x y:Code} (h:∀ K:Act→World→Prop,(∀ a w,wpK P y Q a w→K a w)→x.wp P (Exit.then K Q) a w):wpK P (Code.seq x y) Q a w :=
 CG (EO (h _ fun _ _ h=>h))
theorem Km {c:Operand} {x y:Code} {t:Bool} (hc:a.eval c=.bool t) (h:wpK P (if t then x else y) Q a w):wpK P (Code.cond c x y) Q a w :=
 fun b hb k cs=>let ⟨e,a',w',q,r⟩:=h b hb k cs;⟨e,a',w',q,.of_steps (.one (step_cond hc)) r⟩
theorem F5 {id:Nat} {c:Code} (h:wpK P c (Exit.inBlock id Q) a w):wpK P (Code.block id c) Q a w:=by
 intro b hb k cs;obtain ⟨e,a₁,w₁,hq,ja⟩:=h b hb (.inBlock id :: k) cs;cases e with
 | normal=>exact ⟨.normal,a₁,w₁,hq,.head step_block (Steps.trans ja (.one step_inBlock))⟩
 | exit id' =>
  by_cases hid:id'=id
  ·simp only [Exit.inBlock,hid,if_true] at hq;exact ⟨.normal,a₁,w₁,hq,.head step_block (ja k (by simp [exitTo,hid]))⟩
  ·simp only [Exit.inBlock,hid,if_false] at hq;refine ⟨.exit id',a₁,w₁,hq,fun k' hk=>.head step_block (ja k' ?_)⟩;have:(id == id')=false:=by simp;exact fun h=>hid h.symm
   simp [exitTo,this,hk]
 | goto l=>exact ⟨_,a₁,w₁,hq,fun k' hk=>.head step_block (ja k' (by simp [gotoIn,hk]))⟩
 | ret=>exact ⟨_,a₁,w₁,hq,.of_steps (.one step_block) ja⟩
 | panic ch=>exact ⟨_,a₁,w₁,hq,.of_steps (.one step_block) ja⟩
 | outgrown=>exact ⟨_,a₁,w₁,hq,.of_steps (b:=b) (k:=k) (cs:=cs) (e:=.outgrown) (.one step_block) ja⟩
theorem wpK_loopG {c:Code} (I:Nat→Act→World→Prop) (n:Nat) (h₀:I n a w)
  (round:∀ n a w,I n a w→wpK P c (Exit.then (fun a' w'=>∃ m,m<n∧I m a' w') Q) a w):wpK P (Code.loop c) Q a w:=by
 intro b hb k cs;have key:∀ n a w,I n a w →
   ∃ e a' w',Q e a' w'∧Arrives P (lone (b.at a (.code c :: .inLoop c :: k)) cs w) b k cs e a' w':=by
  intro n
  induction n using Nat.strongRecOn with
  | _
    n ih =>
   intro a w hI;obtain ⟨e,a₁,w₁,hq,ja⟩:=round n a w hI b hb (.inLoop c :: k) cs;cases e with
   | normal =>
    obtain ⟨m,jd,jc⟩:=hq;obtain ⟨e₂,a₂,w₂,je,jb⟩:=ih m jd a₁ w₁ jc;exact ⟨e₂,a₂,w₂,je,.of_steps (Steps.trans ja (.one step_inLoop)) jb⟩
   | exit id=>exact ⟨_,a₁,w₁,hq,.pass (x:=.inLoop c) rfl (fun _ _=>.inl (by simp)) ja⟩
   | goto l=>exact ⟨_,a₁,w₁,hq,.pass (x:=.inLoop c) rfl (fun _ _=>.inl (by simp)) ja⟩
   | ret=>exact ⟨_,a₁,w₁,hq,.pass (x:=.inLoop c) rfl (fun _ _=>.inl (by simp)) ja⟩
   | panic ch=>exact ⟨_,a₁,w₁,hq,.pass (x:=.inLoop c) rfl (fun _ _=>.inl (by simp)) ja⟩
   | outgrown=>exact ⟨_,a₁,w₁,hq,.pass (x:=.inLoop c) rfl (fun _ _=>.inl (by simp)) ja⟩
 obtain ⟨e,a',w',hq,ja⟩:=key _ a w h₀;exact ⟨e,a',w',hq,.of_steps (.one step_loop) ja⟩
theorem DN {c:Operand} {x y:Code} (hc:a.eval c=.bool true) (h:wpK P x Q a w):wpK P (Code.cond c x y) Q a w:=Km (t:=true) hc h
theorem EH {c:Operand} {x y:Code} (hc:a.eval c=.bool false) (h:wpK P y Q a w):wpK P (Code.cond c x y) Q a w:=Km (t:=false) hc h
theorem Em (h:Q .normal a w):wpK P Code.skip Q a w:=EO (wp_skip h)
theorem G3 {id:Nat} (h:Q (.exit id) a w):wpK P (Code.exit id) Q a w:=EO (wp_exit h)
theorem Fe {id:Nat} {ops:Array Oper} (h:wpS P ops (List.range ops.size) Q a w):wpK P (Code.region id ops false) Q a w :=
 fun b hb k cs=>let ⟨e,a',w',q,r⟩:=h b hb k cs;⟨e,a',w',q,.of_steps (.one step_region) r⟩
theorem Jv {ops:Array Oper} (h:Q .normal a w):wpS P ops [] Q a w:=fun b hb k cs=>⟨.normal,a,w,h,.one step_region_end⟩
theorem Ck {ops:Array Oper} {i:Nat} {rest:List Nat} {o:Oper} {v:Value} {w':World} (ho:ops[i]? = some o) (hw:Region.wanted o (yielded ops a.tmps)=true)
  (hr:(execOp a.eval o).run P w=.ok (.value v) w') (h:wpS P ops rest Q (a.put o.dst v) w'):wpS P ops (i :: rest) Q a w:=by
 intro b hb k cs;obtain ⟨e,a',w'',hq,ja⟩:=h b hb k cs;refine ⟨e,a',w'',hq,.of_steps (.one (step_lone_go ?_)) ja⟩;rw [stepG_op ho hw];have:(b.at a (.inRegion ops (i :: rest) :: k)).finish v=b.at (a.put o.dst v) (.inRegion ops rest :: k):=by rw [Frame.finish_at,ho];rfl
 rw [← this];simp [stepG.apply,hr]
theorem Kn {ops:Array Oper} {i:Nat} {rest:List Nat} {o:Oper} {w₁:World} {c cap s r:Nat} {buf:Array Value} {v z':Value} {tm:Bool} (ho:ops[i]? = some o) (hw:Region.wanted o (yielded ops a.tmps)=true)
  (hr:(execOp a.eval o).run P w=.ok (.comm #[scase c v z'] true .send) w₁) (hc:w₁.heap[c]? = some (.chan cap buf false s r tm)) (ja:buf.size<cap)
  (h:wpS P ops rest Q (a.put o.dst undef) (w₁.setChan c cap (buf.push v) false (s+1) r tm)):wpS P ops (i :: rest) Q a w:=by
 intro b hb k cs;obtain ⟨e,a',w'',hq,jb⟩:=h b hb k cs;refine ⟨e,a',w'',hq,.of_steps (.one ?_) jb⟩;have:=step_lone_send_room (P:=P) (stepG_comm (cs:=cs) (k:=k) (rest:=rest) ho hw hb hr) hc ja;rw [Frame.finish_at,ho] at this;exact this
theorem Oy {ops:Array Oper} {i:Nat} {rest:List Nat} {o:Oper} {w₁:World} {c cap s r:Nat} {buf:Array Value} {z:Value} {tm cl:Bool} (ho:ops[i]? = some o) (hw:Region.wanted o (yielded ops a.tmps)=true)
  (hr:(execOp a.eval o).run P w=.ok (.comm #[rcase c z] true (.recv false)) w₁) (hc:w₁.heap[c]? = some (.chan cap buf cl s r tm)) (ja:0<buf.size)
  (h:wpS P ops rest Q (a.put o.dst (buf.getD 0 undef)) (w₁.setChan c cap (buf.extract 1 buf.size) cl s (r+1) tm)):wpS P ops (i :: rest) Q a w:=by
 intro b hb k cs;obtain ⟨e,a',w'',hq,jb⟩:=h b hb k cs;refine ⟨e,a',w'',hq,.of_steps (.one ?_) jb⟩;have:=step_lone_recv_buf (P:=P) false (stepG_comm (cs:=cs) (k:=k) (rest:=rest) ho hw hb hr) hc ja;rw [Frame.finish_at,ho] at this;exact this
end
theorem Jw {P:Program} {f:FuncId} {fn:Func} {c:Code} {args:Array Value} {w:World} {R:Ending→World→Prop}
  (hf:P.funcs[f]? = some fn) (hb:fn.body=some c)
  (h:wpK P c (bodyPost P fn R) { tmps:=args ++ Array.replicate (fn.ntmps - args.size) undef,defers:=[] } w) :
  Calls P f args w R:=by
 intro cs
 let b:Frame:={ (default:Frame) with fn:=f,kind:=.normal }
 have jb:Frame.enter P f args .normal =
   b.at { tmps:=args ++ Array.replicate (fn.ntmps - args.size) undef,defers:=[] } [.code c]:=by
  simp [Frame.enter,Frame.at,hf,hb,b]
 obtain ⟨e,a',w',hq,ja⟩:=h b (by simp [b]) [] cs;rw [← jb] at ja;cases e with
 | normal =>
  obtain ⟨hd,v,hr,hR⟩:=hq;exact ⟨.returned v,w',_,hR,Steps.trans ja (.one step_end),rfl,rfl,hd,rfl,fn,hf,hr⟩
 | ret =>
  obtain ⟨hd,v,hr,hR⟩:=hq;obtain ⟨todo,hs⟩:=ja;exact ⟨.returned v,w',_,hR,hs,rfl,rfl,hd,rfl,fn,hf,hr⟩
 | panic chain =>
  obtain ⟨hd,hR⟩:=hq;obtain ⟨todo,hs⟩:=ja;exact ⟨.panicked chain,w',_,hR,hs,rfl,rfl,hd,fn,hf⟩
 | exit id=>exact hq.elim
 | goto l=>exact hq.elim
 | outgrown=>exact ⟨.outgrown,w',b,hq,ja.resolve_left (by simp [b]),rfl,trivial⟩
def G4 (xs:List Nat):List Value:=xs.map fun (n:Nat)=>Value.int .i64 (n:Int)
theorem Ko (xs:List Nat):(G4 xs).length=xs.length:=by simp [G4]
theorem Oz {xs:List Nat} {k:Nat} (h:k<xs.length):(G4 xs)[k]? = some (.int .i64 (xs[k]:Int)):=by simp [G4,h]
def Ch (w:World) (B:Nat) (v:Value) (xs:List Nat):Prop:=w.ownsRow B 3 1 v xs.length (G4 xs)
theorem Ch.nil (w:World) (B:Nat):Ch w B (.slice none 0 0) []:=⟨rfl,.inl ⟨rfl,rfl⟩⟩
theorem Ch.below {w w1:World} {B C:Nat} {v:Value} {xs:List Nat} (h:Ch w B v xs) (hb:Below C w w1) (hv:∀ g,v.ownBlock=some g→g<C):Ch w1 B v xs:=by
 refine ⟨h.1,h.2.imp id ?_⟩;rintro ⟨g,cap,cur,rfl,h1,h2,h3⟩;exact ⟨g,cap,cur,rfl,h1,(hb.block g (hv g rfl)).trans h2,h3⟩
theorem Ch.lt {w:World} {B:Nat} {v:Value} {xs:List Nat} (h:Ch w B v xs):∀ g,v.ownBlock=some g→g<w.heap.size:=by
 intro g hg;rcases h.2 with ⟨rfl,_⟩ | ⟨g',cap,cur,rfl,h1,h2,h3⟩
 · cases hg
 · cases hg;exact (A5.1 h2).1
theorem Ch.ge {w:World} {B:Nat} {v:Value} {xs:List Nat} (h:Ch w B v xs):∀ g,v.ownBlock=some g→B≤g:=by
 intro g hg;rcases h.2 with ⟨rfl,_⟩ | ⟨g',cap,cur,rfl,h1,h2,h3⟩
 · cases hg
 · cases hg;exact h1
theorem Ch.mono {w:World} {B C:Nat} {v:Value} {xs:List Nat} (h:Ch w B v xs) (hC:C≤B):Ch w C v xs:=by
 refine ⟨h.1,h.2.imp id ?_⟩;rintro ⟨g,cap,cur,rfl,h1,h2⟩;exact ⟨g,cap,cur,rfl,by omega,h2⟩
theorem Ch.cell {w:World} {B:Nat} {g n cap:Nat} {xs:List Nat} (h:Ch w B (.slice (some ⟨g,0,none⟩) n cap) xs) {k:Nat} (hk:k<xs.length):w.cell? ⟨g,k,none⟩=some (.int .i64 (xs[k]:Int)):=by
 have:=World.ownsRow.cells (g:=g) h rfl k _ (Oz hk);rw [Addr.add_lit] at this;simpa using this
theorem Kq:(Tryz.prog.info? 3).map (fun i=>(i.zero,i.size,i.bytes))=some (some (.int .i64 0),1,8):=by kernel_rfl
theorem Nf (v:Value) (xs:List Nat) (B:Nat) (w:World) (h:Ch w B v xs) (hl:xs.length≤1000) :
  Calls Tryz.prog 124 #[v] w fun e w'=>∃ v',e=.returned v'∧Ch w' w.heap.size v' xs∧Below w.heap.size w w':=by
 obtain ⟨i0,hi,jc,jd,je⟩:=info_parts Kq;rcases h.2 with ⟨rfl,h0⟩ | ⟨g,cap,cur,rfl,h1,h2,h3,h4,h5,h6⟩
 ·obtain rfl:xs=[]:=List.eq_nil_of_length_eq_zero h0;have hn:=run_eql_slice_nil (P:=Tryz.prog) w 36 3 none 0 0 Tryz.underlying36
  go_enter Tryz.func124,Tryz.ntmps124
  go_wp2;go_ret;exact ⟨_,rfl,Ch.nil _ _,by go_grown⟩
 ·have hg:=(A5.1 h2).1;have h7:World.ownsRow (w.alloc (.cells #[] 3)) w.heap.size 3 1 (.slice (some ⟨w.heap.size,0,none⟩) 0 0) 0 [] :=
   ⟨rfl,.inr ⟨_,0,#[],rfl,A3 _,heap_alloc_new _ _,A3 _,Nat.zero_le _,rfl,rfl⟩⟩
  have c1:∀ j u,(G4 xs)[j]? = some u→(w.alloc (.cells #[] 3)).cell? ((⟨g,0,none⟩:Addr).add j)=some u:=fun j u hj=>by
   have:=World.ownsRow.cells (g:=g) h rfl j u hj;rw [Addr.add_lit] at this ⊢;rw [World.cell?_alloc_past _ _ _ hg];exact this
  have c2:∀ u∈G4 xs,u.oneCell'=true:=fun u hu=>by obtain ⟨n,_,rfl⟩:=AH.1 hu;rfl
  have c3:0+xs.length≤maxLen:=by unfold maxLen;omega
  have c4:(0+xs.length)*8≤140737488355328:=by omega
  have c5:(G4 xs).length=xs.length*1:=by rw [Ko];omega
  have hn:=run_eql_slice_nil (P:=Tryz.prog) w 36 3 (some ⟨g,0,none⟩) xs.length cap Tryz.underlying36;simp only [Option.isNone_some,Option.isNone_none] at hn;have H1:=A0 h1;have H2:=A0 h2;have H6:=A0 h6;have HH:=A0 h;clear h1 h2 h6 h
  go_enter Tryz.func124,Tryz.ntmps124
  go_wp2_with (first | (at_builtin;refine wpList_append_own _ rfl _ _ 36 rfl w.heap.size 3 i0 (.int .i64 0) 1 8 Tryz.underlying36 hi jc jd je rfl (by decide) _ _ _ rfl h7 ⟨g,0,none⟩ xs.length cap (G4 xs) rfl c5 c1 c2 c3 c4 (by simp) ?_;intro v' w1 jb ja _) | fail)
  go_ret;refine ⟨_,rfl,?_,?_⟩
  · simpa [Ch] using jb
  · exact ((Below.refl _ w).alloc (A3 _) _).grown (row:=some w.heap.size) ja (by simp) (fun k hk=>by cases hk;exact A3 _)
def M1 (a b:Int):Int:=if a<b then -1 else if b<a then 1 else 0
def EQ:List Int→List Int→Int
 | [],[]=>0
 | [],_ :: _=>-1
 | _ :: _,[]=>1
 | a :: xs,b :: ys=>if a<b then -1 else if b<a then 1 else EQ xs ys
theorem Gb (a:Int) (w:World):Calls Tryz.prog 112 #[.int .i64 a] w fun e w'=>e=.returned (.bool false)∧w'=w:=by
 go_enter Tryz.func112,Tryz.ntmps112
 go_wp2;go_ret;exact ⟨by simp,rfl⟩
theorem F6 (a b:Int) (w:World):Calls Tryz.prog 85 #[.int .i64 a,.int .i64 b] w fun e w'=>e=.returned (.int .i64 (M1 a b))∧w'=w:=by
 unfold M1;by_cases h1:a<b
 ·rw [if_pos h1]
  go_enter Tryz.func85,Tryz.ntmps85
  go_wp2_with (go_at_call 112;refine (Gb _ _).mono ?_;rintro e w' ⟨rfl,rfl⟩)
  go_ret;exact ⟨rfl,rfl⟩
 ·rw [if_neg h1];by_cases h2:b<a
  ·rw [if_pos h2]
   go_enter Tryz.func85,Tryz.ntmps85
   go_wp2_with (go_at_call 112;refine (Gb _ _).mono ?_;rintro e w' ⟨rfl,rfl⟩)
   go_ret;exact ⟨rfl,rfl⟩
  ·rw [if_neg h2]
   go_enter Tryz.func85,Tryz.ntmps85
   go_wp2_with (go_at_call 112;refine (Gb _ _).mono ?_;rintro e w' ⟨rfl,rfl⟩)
   go_ret;exact ⟨rfl,rfl⟩
def SlS (w:World) (a:Option Addr) (xs:List Int):Prop:=∀ k (hk:k<xs.length),∃ b o,a=some ⟨b,o,none⟩∧b<w.heap.size∧w.cell? ⟨b,o+k,none⟩=some (.int .i64 xs[k])
theorem SlS.at {w:World} {a:Option Addr} {xs:List Int} (h:SlS w a xs) {k:Nat} (hk:k<xs.length):∃ b o,a=some ⟨b,o,none⟩∧b<w.heap.size∧w.cell? ⟨b,o+k,none⟩=some (.int .i64 xs[k]):=h k hk
theorem SlS.later {w w1:World} {a:Option Addr} {xs:List Int} {B:Nat} (h:SlS w a xs) (hb:Below B w w1) (hB:w.heap.size≤B):SlS w1 a xs:=fun k hk=>by
 obtain ⟨b,o,ha,h1,h2⟩:=h k hk;exact ⟨b,o,ha,by have:=hb.size;omega,(hb.cell (p:=⟨b,o+k,none⟩) (by show b<B;omega)).trans h2⟩
theorem Ch.sl {w:World} {B:Nat} {v:Value} {xs:List Nat} (h:Ch w B v xs):∃ a c,v=.slice a xs.length c∧xs.length≤c∧SlS w a (xs.map fun (n:Nat)=>(n:Int)):=by
 rcases id h.2 with ⟨rfl,h0⟩ | ⟨g,cap,cur,rfl,h1,h2,h3,h4⟩
 · exact ⟨none,0,by rw [h0],by omega,fun k hk=>by simp at hk;omega⟩
 ·refine ⟨some ⟨g,0,none⟩,cap,rfl,h3,fun k hk=>⟨g,0,rfl,(A5.1 h2).1,?_⟩⟩;have ja:k<xs.length:=by simpa using hk
  rw [Nat.zero_add,h.cell ja];simp
theorem idx_ints (a:Option Addr) (b o len cap k:Nat) (ha:a=some ⟨b,o,none⟩) (hk:k<len) (w:World) :
  (Instr.indexAt 36 (.slice a len cap) (.int .i64 (k:Int))).run Tryz.prog w=.ok (.pointer (some ⟨b,o+k,none⟩)) w:=by
 subst ha;have h0:(0:Int)≤(k:Int):=by omega
 have h1:(k:Int)<(len:Int):=by omega
 simp [go_sem,h0,h1]
theorem Ng {xs ys:List Int} {k:Nat} (hx:k<xs.length) (hy:k<ys.length):EQ (xs.drop k) (ys.drop k)=if xs[k]<ys[k] then -1 else if ys[k]<xs[k] then 1 else EQ (xs.drop (k+1)) (ys.drop (k+1)):=by
 rw [AE hx,AE hy,EQ]
theorem P0 {xs ys:List Int} {k:Nat} (hx:k<xs.length) (hy:ys.length≤k):EQ (xs.drop k) (ys.drop k)=1:=by
 rw [AE hx,List.drop_eq_nil_of_le hy,EQ]
theorem Ht {xs ys:List Int} {k:Nat} (hx:xs.length=k) (hy:k≤ys.length):EQ (xs.drop k) (ys.drop k)=if k<ys.length then -1 else 0:=by
 rw [List.drop_eq_nil_of_le (by omega)];split
 · rename_i h;rw [AE h,EQ]
 · rw [List.drop_eq_nil_of_le (by omega),EQ]
theorem scmp_any (a a':Option Addr) (c c':Nat) (xs ys:List Int) (w:World) (h1:SlS w a xs) (h2:SlS w a' ys) (l1:xs.length≤100000) (l2:ys.length≤100000) :
  Calls Tryz.prog 125 #[.slice a xs.length c,.slice a' ys.length c'] w fun e w'=>e=.returned (.int .i64 (EQ xs ys))∧Below w.heap.size w w':=by
 have H1:=A0 h1;have H2:=A0 h2;clear h1 h2
 go_enter Tryz.func125,Tryz.ntmps125
 go_wp2
 go_loopw [11] (fun i wr=>∃ k:Nat,k≤xs.length∧k≤ys.length∧i=.int .i64 k∧EQ (xs.drop k) (ys.drop k)=EQ xs ys∧wr=w) (fun i _=>xs.length - (intOf i).toNat)
 case atStart=>exact ⟨0,Nat.zero_le _,Nat.zero_le _,rfl,by simp,rfl⟩
 case round =>
  obtain ⟨k,hk,jc,rfl,ja,rfl⟩:=hrel;have HL:=A0 ja;clear ja;by_cases hx:k<xs.length
  ·obtain ⟨
       b,o,ha,hb,q⟩:=H1.out.at hx
   have hidx:=idx_ints a b o xs.length c k ha hx;have HA:=A0 ha;clear ha;by_cases hy:k<ys.length
   ·obtain ⟨b',o',jb,hb',q'⟩:=H2.out.at hy;have hidx':=idx_ints a' b' o' ys.length c' k jb hy;have HA':=A0 jb;clear jb;have HD:Hid (_=_):=Ng hx hy;by_cases e1:M1 xs[k] ys[k]=0
    ·have HE:Hid (M1 xs[k] ys[k]=0):=e1;have HN:Hid (EQ (xs.drop (k+1)) (ys.drop (k+1))=EQ xs ys):=by
      have h:=HD.out;have e2:=e1;unfold M1 at e2;show _=_;rw [← HL.out,h];split at e2
      · omega
      ·rename_i g1;rw [if_neg g1];split at e2
       · omega
       · rename_i g2;rw [if_neg g2]
     clear e1
     go_wp2_with (go_at_call 85;refine (F6 _ _ _).mono ?_;rintro e w' ⟨he,rfl⟩;rw [HE.out] at he;subst he)
     go_roundw
     case rel=>exact ⟨k+1,by omega,by omega,by go_num,HN.out,trivial⟩
     case measure=>simp [intOf];omega
    ·obtain ⟨d,hd⟩:∃ d,M1 xs[k] ys[k]=d:=⟨_,rfl⟩
     have HE:=A0 hd;have hd0:d≠0:=by rw [← hd];exact e1
     have HN:Hid (d=EQ xs ys):=by
      have h:=HD.out;have e2:=e1;show _=_;rw [← HL.out,h,← hd];unfold M1 at e2 ⊢;split
      · rfl
      ·rename_i g1;rw [if_neg g1] at e2;split
       · rfl
       · rename_i g2;rw [if_neg g2] at e2;omega
     clear e1 hd
     go_wp2_with (go_at_call 85;refine (F6 _ _ _).mono ?_;rintro e w' ⟨he,rfl⟩;rw [HE.out] at he;subst he)
     go_ret;exact ⟨BW HN.out,Below.refl _ _⟩
   ·have HN:Hid (1=EQ xs ys):=by show _=_;rw [← HL.out,P0 hx (by omega)]
    go_wp2;go_ret;exact ⟨BW HN.out,Below.refl _ _⟩
  ·have jd:xs.length=k:=by omega
   by_cases hy:k<ys.length
   ·have HN:Hid (-1=EQ xs ys):=by show _=_;rw [← HL.out,Ht jd jc,if_pos hy]
    go_wp2;go_ret;exact ⟨BW HN.out,Below.refl _ _⟩
   ·have HN:Hid (0=EQ xs ys):=by show _=_;rw [← HL.out,Ht jd jc,if_neg hy]
    go_wp2;go_ret;exact ⟨BW HN.out,Below.refl _ _⟩
def P1 (xs ys:List Int):Int:=if xs.length=ys.length then EQ xs ys else (xs.length:Int) - ys.length
theorem Kr (a a':Option Addr) (c c':Nat) (xs ys:List Int) (w:World) (h1:SlS w a xs) (h2:SlS w a' ys) (l1:xs.length≤100000) (l2:ys.length≤100000) :
  Calls Tryz.prog 98 #[.slice a xs.length c,.slice a' ys.length c'] w fun e w'=>e=.returned (.int .i64 (P1 xs ys))∧Below w.heap.size w w':=by
 unfold P1;by_cases h:xs.length=ys.length
 ·rw [if_pos h];have q:((xs.length:Int))=ys.length:=by omega
  have HC:=A0 (fun w' (hb:Below w.heap.size w w')=>scmp_any a a' c c' xs ys w' (h1.later hb (A3 _)) (h2.later hb (A3 _)) l1 l2);clear h1 h2 h
  go_enter Tryz.func98,Tryz.ntmps98
  go_wp2_with (go_at_call 125;refine (HC.out _ (by go_grown)).mono ?_;rintro e w' ⟨rfl,hb⟩)
  go_ret;exact ⟨rfl,hb⟩
 ·rw [if_neg h];have q:((xs.length:Int))≠ys.length:=by omega
  clear h1 h2 h
  go_enter Tryz.func98,Tryz.ntmps98
  go_wp2;go_ret;exact ⟨by go_num,by go_grown⟩
structure BS where
 q:List Nat
 ch:Nat→List Nat
 seen:Nat
def
  inner (use:Rl→Bool) (goal m:Nat):List Rl→Nat→BS→List Nat ⊕ BS
 | [],_,s=>.inr s
 | r
   :: R,i,s =>
  if decide (r.frm.toNat=m) && use r then
   if goal.testBit r.dst.toNat then .inl (s.ch m ++ [i])
   else if s.seen.testBit r.dst.toNat then inner use goal m R (i+1) s
   else inner use goal m R (i+1) ⟨s.q ++ [r.dst.toNat],fun t=>if t=r.dst.toNat then s.ch m ++ [i] else s.ch t,s.seen ||| 2 ^ r.dst.toNat⟩
  else inner use goal m R (i+1) s
def
  outer (use:Rl→Bool) (goal:Nat) (R:List Rl):Nat→BS→List Nat
 | 0,_=>[]
 | n
   + 1,s=>match s.q with
  | []=>[]
  | m :: q=>match inner use goal m R 0 { s with q:=q } with
   | .inl c=>c
   | .inr s'=>outer use goal R n s'
def cntF:Nat→(Nat→Bool)→Nat
 | 0,_=>0
 | n+1,f=>cntF n f+if f n then 0 else 1
def CA (L:Nat):Nat:=cntF 8 L.testBit
def bfs (use:Rl→Bool) (goal:Nat) (R:List Rl) (start:Nat):List Nat:=outer use goal R 8 ⟨[start],fun _=>[],2 ^ start⟩
theorem cntF_add {f g:Nat→Bool} {t:Nat} (hg:∀ i,g i=(f i || decide (t=i))) (ht:f t=false):∀ n,cntF n g+(if t<n then 1 else 0)=cntF n f
 | 0=>by simp [cntF]
 | n
   +
    1=>by
  have ih:=cntF_add hg ht n;simp only [cntF,hg n];by_cases h:t=n
  ·subst h;simp [ht] at ih ⊢;omega
  ·have:decide (t=n)=false:=by simp [h]
   rw [this,Bool.or_false];have h3:(if t<n+1 then 1 else 0)=if t<n then 1 else (0:Nat):=by
    by_cases h2:t<n
    · rw [if_pos h2,if_pos (by omega)]
    · rw [if_neg h2,if_neg (by omega)]
   rw [h3];split at ih <;> split <;> omega
theorem Ff {L t:Nat} (ht:t<8) (h:L.testBit t=false):CA (L ||| 2 ^ t)+1=CA L:=by
 have:=cntF_add (f:=L.testBit) (g:=(L ||| 2 ^ t).testBit) (t:=t) (fun i=>by rw [Nat.testBit_or,Nat.testBit_two_pow]) h 8
 rwa [if_pos ht] at this
theorem Fg {t:Nat} (ht:t<8):CA (2 ^ t)=7:=by
 rcases (show t=0∨t=1∨t=2∨t=3∨t=4∨t=5∨t=6∨t=7 by omega) with rfl | rfl | rfl | rfl | rfl | rfl | rfl | rfl <;> decide +kernel
theorem seg (l:List Value) (a k:Nat) (h:a+k≤l.length):(l.drop a).take k=(List.range k).map fun i=>l.getD (i+a) undef:=by
 refine List.ext_getElem (by simp;omega) fun i h1 h2=>?_;have hi:i<k:=by simpa using h2
 simp only [List.getElem_take,List.getElem_drop,List.getElem_map,List.getElem_range];rw [AO,AA (by omega),Option.getD_some];congr 1;omega
theorem Rn {p0 p1 p2 p3 p4 p5 p6 p7 p8 p9 p10 p11:Value} {A:Act} (hd:A.defers=[]) (hs:A.tmps.toList.length=77) (h:A.tmps.toList.take 12=[p0,p1,p2,p3,p4,p5,p6,p7,p8,p9,p10,p11]):∃ x:Nat→Value,A=⟨#[p0,p1,p2,p3,p4,p5,p6,p7,p8,p9,p10,p11,x 12,x 13,x 14,x 15,x 16,x 17,x 18,x 19,x 20,x 21,x 22,x 23,x 24,x 25,x 26,x 27,x 28,x 29,x 30,x 31,x 32,x 33,x 34,x 35,x 36,x 37,x 38,x 39,x 40,x 41,x 42,x 43,x 44,x 45,x 46,x 47,x 48,x 49,x 50,x 51,x 52,x 53,x 54,x 55,x 56,x 57,x 58,x 59,x 60,x 61,x 62,x 63,x 64,x 65,x 66,x 67,x 68,x 69,x 70,x 71,x 72,x 73,x 74,x 75,x 76],[]⟩:=by
 refine ⟨fun i=>A.tmps.toList.getD i undef,?_⟩;obtain ⟨⟨l⟩,d⟩:=A;simp only at hd hs h ⊢;subst hd;congr 1;apply congrArg Array.mk;have e2:=seg l 12 65 (by omega);rw [AF (by simp;omega)] at e2;have e4:l=l.take 12 ++ l.drop 12:=(List.take_append_drop 12 l).symm;refine e4.trans ?_;rw [h,e2];rfl
theorem Ro {p0 p1 p2 p3 p4 p5 p6 p7 p8 p9 p10 p11 p12:Value} {A:Act} (hd:A.defers=[]) (hs:A.tmps.toList.length=77) (h:A.tmps.toList.take 13=[p0,p1,p2,p3,p4,p5,p6,p7,p8,p9,p10,p11,p12]):∃ x:Nat→Value,A=⟨#[p0,p1,p2,p3,p4,p5,p6,p7,p8,p9,p10,p11,p12,x 13,x 14,x 15,x 16,x 17,x 18,x 19,x 20,x 21,x 22,x 23,x 24,x 25,x 26,x 27,x 28,x 29,x 30,x 31,x 32,x 33,x 34,x 35,x 36,x 37,x 38,x 39,x 40,x 41,x 42,x 43,x 44,x 45,x 46,x 47,x 48,x 49,x 50,x 51,x 52,x 53,x 54,x 55,x 56,x 57,x 58,x 59,x 60,x 61,x 62,x 63,x 64,x 65,x 66,x 67,x 68,x 69,x 70,x 71,x 72,x 73,x 74,x 75,x 76],[]⟩:=by
 refine ⟨fun i=>A.tmps.toList.getD i undef,?_⟩;obtain ⟨⟨l⟩,d⟩:=A;simp only at hd hs h ⊢;subst hd;congr 1;apply congrArg Array.mk;have e2:=seg l 13 64 (by omega);rw [AF (by simp;omega)] at e2;have e4:l=l.take 13 ++ l.drop 13:=(List.take_append_drop 13 l).symm;refine e4.trans ?_;rw [h,e2];rfl
theorem Sk {P:Program} {c:Code} {Q:Exit→Act→World→Prop} {w:World} {p0 p1 p2 p3 p4 p5 p6 p7 p8 p9 p10 p11 p12:Value} {A:Act} (hd:A.defers=[]) (hs:A.tmps.toList.length=77) (h:A.tmps.toList.take 13=[p0,p1,p2,p3,p4,p5,p6,p7,p8,p9,p10,p11,p12])
  (h2:∀ x:Nat→Value,wpK P c Q ⟨#[p0,p1,p2,p3,p4,p5,p6,p7,p8,p9,p10,p11,p12,x 13,x 14,x 15,x 16,x 17,x 18,x 19,x 20,x 21,x 22,x 23,x 24,x 25,x 26,x 27,x 28,x 29,x 30,x 31,x 32,x 33,x 34,x 35,x 36,x 37,x 38,x 39,x 40,x 41,x 42,x 43,x 44,x 45,x 46,x 47,x 48,x 49,x 50,x 51,x 52,x 53,x 54,x 55,x 56,x 57,x 58,x 59,x 60,x 61,x 62,x 63,x 64,x 65,x 66,x 67,x 68,x 69,x 70,x 71,x 72,x 73,x 74,x 75,x 76],[]⟩ w):wpK P c Q A w:=by
 obtain ⟨x,hx⟩:=Ro hd hs h;rw [hx];exact h2 x
theorem P2 (m:Nat) (q:List Nat):(((m :: q).map fun (t:Nat)=>Value.int .i64 (t:Int)).toArray).extract 1 (((m :: q).map fun (t:Nat)=>Value.int .i64 (t:Int)).toArray).size=(q.map fun (t:Nat)=>Value.int .i64 (t:Int)).toArray:=by
 apply Array.ext';simp [AF]
theorem Rp {p0 p1 p2 p3 p4 p5 p6 p7 p8 p9 p10 p11 p12 p28 p29 p30:Value} {A:Act} (hd:A.defers=[]) (hs:A.tmps.toList.length=77) (h:A.tmps.toList.take 13=[p0,p1,p2,p3,p4,p5,p6,p7,p8,p9,p10,p11,p12]) (h2:(A.tmps.toList.drop 28).take 3=[p28,p29,p30]) :
  ∃ x:Nat→Value,A=⟨#[p0,p1,p2,p3,p4,p5,p6,p7,p8,p9,p10,p11,p12,x 13,x 14,x 15,x 16,x 17,x 18,x 19,x 20,x 21,x 22,x 23,x 24,x 25,x 26,x 27,p28,p29,p30,x 31,x 32,x 33,x 34,x 35,x 36,x 37,x 38,x 39,x 40,x 41,x 42,x 43,x 44,x 45,x 46,x 47,x 48,x 49,x 50,x 51,x 52,x 53,x 54,x 55,x 56,x 57,x 58,x 59,x 60,x 61,x 62,x 63,x 64,x 65,x 66,x 67,x 68,x 69,x 70,x 71,x 72,x 73,x 74,x 75,x 76],[]⟩:=by
 refine ⟨fun i=>A.tmps.toList.getD i undef,?_⟩;obtain ⟨⟨l⟩,d⟩:=A;simp only at hd hs h h2 ⊢;subst hd;congr 1;apply congrArg Array.mk;have e2:=seg l 13 15 (by omega);have e3:=seg l 31 46 (by omega);rw [AF (by simp;omega)] at e3;have e4:l=l.take 13 ++ ((l.drop 13).take 15 ++ ((l.drop 28).take 3 ++ l.drop 31)):=by
  conv=>lhs;rw [← List.take_append_drop 13 l,← List.take_append_drop 15 (l.drop 13),← List.take_append_drop 3 ((l.drop 13).drop 15)]
  simp only [List.drop_drop]
 refine e4.trans ?_;rw [h,h2,e2,e3];rfl
structure BSt (B:Nat) (s:BS) (wr:World):Prop where
 chan:∃ sn rc,wr.heap[B+1]? = some (.chan 8 ((s.q.map fun (t:Nat)=>Value.int .i64 (t:Int)).toArray) false sn rc false)
 chains:∃ cs:Array Value,wr.heap[B+2]? = some (.cells cs 36 (0,0))∧cs.size=8∧∀ t,t<8→∃ v,cs[t]? = some v∧Ch wr B v (s.ch t)
 short:∀ t,t<8→(s.ch t).length+CA s.seen≤8
 seen:s.seen<256
 modes:∀ t∈s.q,t<8
 room:s.q.length+CA s.seen≤8
def ChN (w:World) (B:Nat) (v:Value) (xs:List Nat):Prop:=Ch w B v xs∧(xs=[]→v=.slice none 0 0)
theorem Ch.slv {w:World} {B:Nat} {v:Value} {xs:List Nat} (h:Ch w B v xs) (hx:xs≠[]):∃ g cap,v=.slice (some ⟨g,0,none⟩) xs.length cap:=by
 rcases h.2 with ⟨rfl,h0⟩ | ⟨g,cap,cur,rfl,_⟩
 · exact absurd (List.eq_nil_of_length_eq_zero h0) hx
 · exact ⟨g,cap,rfl⟩
theorem JH {use:Rl→Bool} {goal:Nat} {R:List Rl} {n:Nat} {s:BS} (h:s.q=[]):outer use goal R n s=[]:=by
 cases n with
 | zero=>rfl
 | succ n=>simp [outer,h]
theorem Ch.same {w w1:World} {B:Nat} {v:Value} {xs:List Nat} (h:Ch w B v xs) (hv:∀ g,v.ownBlock=some g→w1.heap[g]? = w.heap[g]?):Ch w1 B v xs:=by
 refine ⟨h.1,h.2.imp id ?_⟩;rintro ⟨g,cap,cur,rfl,h1,h2,h3⟩;exact ⟨g,cap,cur,rfl,h1,(hv g rfl).trans h2,h3⟩
theorem Ch.own {w:World} {B:Nat} {v:Value} {xs:List Nat} (h:Ch w B v xs) {g:Nat} (hg:v.ownBlock=some g):∃ cs,w.heap[g]? = some (.cells cs 3 (0,0)):=by
 rcases h.2 with ⟨rfl,_⟩ | ⟨g',cap,cur,rfl,h1,h2,h3⟩
 · cases hg
 · cases hg;exact ⟨_,h2⟩
theorem F7 {B:Nat} {s:BS} {wr w1:World} (h:BSt B s wr) (hb:Below wr.heap.size wr w1):BSt B s w1:=by
 obtain ⟨sn,rc,ja⟩:=h.chan;obtain ⟨cs,h1,h2,h3⟩:=h.chains;have hl:∀ {g:Nat} {o:Obj},wr.heap[g]? = some o→w1.heap[g]? = some o:=fun {g o} hg=>(hb.block g (A5.1 hg).1).trans hg;refine ⟨⟨sn,rc,hl ja⟩,⟨cs,hl h1,h2,fun t ht=>?_⟩,h.short,h.seen,h.modes,h.room⟩;obtain ⟨v,hv,hc⟩:=h3 t ht;exact ⟨v,hv,hc.same fun g hg=>hb.block g (hc.lt g hg)⟩
theorem QV {B sn rc m:Nat} {s:BS} {q:List Nat} {wr:World} (h:BSt B s wr) (hq:s.q=m :: q) (jd:B+1<wr.heap.size) (jb:∃ buf sn rc,wr.heap[B+1]? = some (.chan 8 buf false sn rc false)) :
  BSt B { s with q:=q } (wr.setChan (B+1) 8 ((q.map fun (t:Nat)=>Value.int .i64 (t:Int)).toArray) false sn (rc+1) false):=by
 obtain ⟨buf,sn',rc',jb⟩:=jb;obtain ⟨cs,h1,h2,h3⟩:=h.chains;have ja:∀ g,g≠B+1→(wr.setChan (B+1) 8 ((q.map fun (t:Nat)=>Value.int .i64 (t:Int)).toArray) false sn (rc+1) false).heap[g]? = wr.heap[g]?:=fun g hg=>by
  simp only [World.setChan];rw [Array.getElem?_setIfInBounds_ne (by omega)]
 refine ⟨⟨sn,rc+1,heap_setChan _ _ _ _ _ _ _ _ jd⟩,⟨cs,(ja _ (by omega)).trans h1,h2,fun t ht=>?_⟩,h.short,h.seen,fun t ht=>h.modes t (by rw [hq];simp [ht]),by have:=h.room;rw [hq] at this;simp only [List.length_cons] at this;show q.length+CA s.seen≤8;omega⟩;obtain ⟨v,hv,hc⟩:=h3 t ht;refine ⟨v,hv,hc.same fun g hg=>ja g fun he=>?_⟩;subst he;obtain ⟨cs',jc⟩:=hc.own hg;rw [jb] at jc;cases jc
theorem Nh (w:World) (o:Obj) (start:Nat) (hs:start<8) :
  BSt w.heap.size ⟨[start],fun _=>[],2 ^ start⟩ ((((w.alloc o).alloc (.chan 8 #[] false 0 0 false)).alloc (.cells (Array.replicate 8 (.slice none 0 0)) 36)).setChan (w.heap.size+1) 8 (#[].push (.int .i64 (start:Int))) false (0+1) 0 false):=by
 refine ⟨⟨1,0,?_⟩,⟨Array.replicate 8 (.slice none 0 0),?_,by simp,fun t ht=>⟨.slice none 0 0,by simp [ht],Ch.nil _ _⟩⟩,fun t ht=>by show 0+CA (2 ^ start)≤8;rw [Fg hs];omega,EM _ hs,fun t ht=>by simp at ht;omega,by show 1+CA (2 ^ start)≤8;rw [Fg hs];omega⟩
 · rw [heap_setChan _ _ _ _ _ _ _ _ (by simp)];simp
 ·simp only [World.setChan];rw [Array.getElem?_setIfInBounds_ne (by omega)];have:w.heap.size+2=((w.alloc o).alloc (.chan 8 #[] false 0 0 false)).heap.size:=by simp
  rw [this];exact heap_alloc_new _ _
theorem heap_setChan_ne (w:World) {c c':Nat} (cap:Nat) (buf:Array Value) (cl:Bool) (s r:Nat) (tm:Bool) (h:c≠c'):(w.setChan c cap buf cl s r tm).heap[c']? = w.heap[c']?:=by
 simp only [World.setChan];rw [Array.getElem?_setIfInBounds_ne h]
theorem P3 {B sn rc m k d:Nat} {s:BS} {w3:World} {v3:Value} (h:BSt B s w3) (hd:d<8) (hm:m<8) (jj:s.seen.testBit d=false) (jd:Ch w3 B v3 (s.ch m ++ [k]))
  (je:w3.heap[B+1]? = some (.chan 8 ((s.q.map fun (t:Nat)=>Value.int .i64 (t:Int)).toArray) false sn rc false)) :
  BSt B ⟨s.q ++ [d],fun t=>if t=d then s.ch m ++ [k] else s.ch t,s.seen ||| 2 ^ d⟩ ((w3.setCell ⟨B+2,d,none⟩ v3).setChan (B+1) 8 (((s.q.map fun (t:Nat)=>Value.int .i64 (t:Int)).toArray).push (.int .i64 (d:Int))) false (sn+1) rc false):=by
 obtain ⟨cs,h1,h2,h3⟩:=h.chains;have hun:=Ff hd jj;have ji:B+1<(w3.setCell ⟨B+2,d,none⟩ v3).heap.size:=by rw [World.size_setCell];exact (A5.1 je).1
 have jc:∀ g,g≠B+1→g≠B+2→((w3.setCell ⟨B+2,d,none⟩ v3).setChan (B+1) 8 (((s.q.map fun (t:Nat)=>Value.int .i64 (t:Int)).toArray).push (.int .i64 (d:Int))) false (sn+1) rc false).heap[g]? = w3.heap[g]?:=fun g hg jh=>by
  rw [heap_setChan_ne _ _ _ _ _ _ _ (Ne.symm hg),Below.heap_setCell _ _ _ _ jh]
 have jg:((w3.setCell ⟨B+2,d,none⟩ v3).setChan (B+1) 8 (((s.q.map fun (t:Nat)=>Value.int .i64 (t:Int)).toArray).push (.int .i64 (d:Int))) false (sn+1) rc false).heap[B+2]? = some (.cells (cs.setIfInBounds d v3) 36 (0,0)):=by
  rw [heap_setChan_ne _ _ _ _ _ _ _ (by omega)];have h1':=(A5.1 h1)
  simp only [World.setCell];rw [Array.getElem?_modify,if_pos rfl,h1];rfl
 have ja:∀ {v:Value} {xs:List Nat},Ch w3 B v xs→∀ g,v.ownBlock=some g→((w3.setCell ⟨B+2,d,none⟩ v3).setChan (B+1) 8 (((s.q.map fun (t:Nat)=>Value.int .i64 (t:Int)).toArray).push (.int .i64 (d:Int))) false (sn+1) rc false).heap[g]? = w3.heap[g]?:=fun {v xs} hc g hg=>by
  obtain ⟨cs',jb⟩:=hc.own hg;refine jc g (fun he=>?_) (fun he=>?_)
  · subst he;rw [je] at jb;cases jb
  · subst he;rw [h1] at jb;cases jb
 refine ⟨⟨sn+1,rc,?_⟩,⟨_,jg,by simp [h2],fun t ht=>?_⟩,fun t ht=>?_,Ow h.seen (EM _ hd),fun t ht=>?_,?_⟩
 · rw [heap_setChan _ _ _ _ _ _ _ _ ji];simp
 ·by_cases e:t=d
  ·subst e;refine ⟨v3,by rw [Array.getElem?_setIfInBounds_self];simp [h2,ht],?_⟩;simp only [if_true];exact jd.same (ja jd)
  ·obtain ⟨v,hv,jf⟩:=h3 t ht;refine ⟨v,by rw [Array.getElem?_setIfInBounds_ne (Ne.symm e)];exact hv,?_⟩;simp only [if_neg e];exact jf.same (ja jf)
 ·show (if t=d then s.ch m ++ [k] else s.ch t).length+CA (s.seen ||| 2 ^ d)≤8;split
  · have:=h.short m hm;rw [AB];simp only [List.length_cons,List.length_nil];omega
  · have:=h.short t ht;omega
 ·rcases AT.1 ht with h4 | h4
  · exact h.modes t h4
  · simp at h4;omega
 ·show (s.q ++ [d]).length+CA (s.seen ||| 2 ^ d)≤8;have:=h.room;rw [AB];simp only [List.length_cons,List.length_nil];omega
theorem Ni {B sn rc m k d:Nat} {t:Int} {s:BS} {w3:World} {v3:Value} (jd:t=(d:Int)) (h:BSt B s w3) (hd:d<8) (hm:m<8) (jc:s.seen.testBit d=false) (ja:Ch w3 B v3 (s.ch m ++ [k]))
  (jb:w3.heap[B+1]? = some (.chan 8 ((s.q.map fun (t:Nat)=>Value.int .i64 (t:Int)).toArray) false sn rc false)) :
  BSt B ⟨s.q ++ [d],fun t=>if t=d then s.ch m ++ [k] else s.ch t,s.seen ||| 2 ^ d⟩ ((w3.setCell ⟨B+2,t.toNat,none⟩ v3).setChan (B+1) 8 (((s.q.map fun (t:Nat)=>Value.int .i64 (t:Int)).toArray).push (.int .i64 t)) false (sn+1) rc false):=by
 subst jd;exact P3 h hd hm jc ja jb
theorem M4 (w:World) (o o3:Obj):(((w.alloc o).alloc (.chan 8 #[] false 0 0 false)).alloc o3).heap[w.heap.size+1]? = some (.chan 8 #[] false 0 0 false):=by
 have e:w.heap.size+1=(w.alloc o).heap.size:=by simp
 rw [Below.heap_alloc _ _ _ (by simp),e];exact heap_alloc_new _ _
theorem Ks (w:World) (o o2 o3:Obj) (buf:Array Value) (sn rc:Nat) :
  Below (w.heap.size+1) (w.alloc o) ((((w.alloc o).alloc o2).alloc o3).setChan (w.heap.size+1) 8 buf false sn rc false) :=
 below_setChan (((Below.refl _ _).alloc (by simp) _).alloc (by simp) _) (A3 _) _ _ _ _ _ _
theorem Kt {use:Rl→Bool} {goal m k:Nat} {R:List Rl} (s:BS) (ja:k<R.length):inner use goal m (R.drop k) k s =
  if decide (R[k].frm.toNat=m) && use R[k] then
   if goal.testBit R[k].dst.toNat then .inl (s.ch m ++ [k])
   else if s.seen.testBit R[k].dst.toNat then inner use goal m (R.drop (k+1)) (k+1) s
   else inner use goal m (R.drop (k+1)) (k+1) ⟨s.q ++ [R[k].dst.toNat],fun t=>if t=R[k].dst.toNat then s.ch m ++ [k] else s.ch t,s.seen ||| 2 ^ R[k].dst.toNat⟩
  else inner use goal m (R.drop (k+1)) (k+1) s:=by
 rw [AE ja,inner]
def InvO (w:World) (fid:Nat) (use:Rl→Bool) (S:Sch) (a:Option Addr) (cap start goal n:Nat) (A:Act) (wr:World):Prop :=
 ∃ (s:BS) (x:Nat→Value),n=s.q.length+CA s.seen∧A=⟨#[.agg #[.int .i64 S.modes,.int .u8 S.acc,.slice a S.rules.length cap],.int .i64 (start:Int),.int .u8 (goal:Int),.func (.func fid) #[] #[],.pointer (some ⟨w.heap.size,0,none⟩),undef,undef,undef,.slice none 0 0,.chan (some (w.heap.size+1)),.slice (some ⟨w.heap.size+2,0,none⟩) 8 8,.int .u8 (s.seen:Int),x 12,x 13,x 14,x 15,x 16,x 17,x 18,x 19,x 20,x 21,x 22,x 23,x 24,x 25,x 26,x 27,x 28,x 29,x 30,x 31,x 32,x 33,x 34,x 35,x 36,x 37,x 38,x 39,x 40,x 41,x 42,x 43,x 44,x 45,x 46,x 47,x 48,x 49,x 50,x 51,x 52,x 53,x 54,x 55,x 56,x 57,x 58,x 59,x 60,x 61,x 62,x 63,x 64,x 65,x 66,x 67,x 68,x 69,x 70,x 71,x 72,x 73,x 74,x 75,x 76],[]⟩∧BSt w.heap.size s wr∧outer use goal S.rules n s=bfs use goal S.rules start∧Below (w.heap.size+1) (w.alloc (.cells #[.int .i64 S.modes,.int .u8 S.acc,.slice a S.rules.length cap] 33)) wr
theorem Mu {w:World} {fid:Nat} {use:Rl→Bool} {S:Sch} {a:Option Addr} {cap start goal n:Nat} {A:Act} {wr:World} (s:BS) (hd:A.defers=[]) (hs:A.tmps.toList.length=77)
  (h:A.tmps.toList.take 12=[.agg #[.int .i64 S.modes,.int .u8 S.acc,.slice a S.rules.length cap],.int .i64 (start:Int),.int .u8 (goal:Int),.func (.func fid) #[] #[],.pointer (some ⟨w.heap.size,0,none⟩),undef,undef,undef,.slice none 0 0,.chan (some (w.heap.size+1)),.slice (some ⟨w.heap.size+2,0,none⟩) 8 8,.int .u8 (s.seen:Int)]) (h1:n=s.q.length+CA s.seen) (h2:BSt w.heap.size s wr) (h3:outer use goal S.rules n s=bfs use goal S.rules start) (h4:Below (w.heap.size+1) (w.alloc (.cells #[.int .i64 S.modes,.int .u8 S.acc,.slice a S.rules.length cap] 33)) wr) :
  InvO w fid use S a cap start goal n A wr:=(Rn hd hs h).elim fun x hx=>⟨s,x,h1,hx,h2,h3,h4⟩
def InvI (w:World) (fid:Nat) (use:Rl→Bool) (S:Sch) (a:Option Addr) (cap start goal m N n:Nat) (A:Act) (wr:World):Prop :=
 ∃ (k:Nat) (s:BS) (x:Nat→Value),k≤S.rules.length∧n=S.rules.length - k∧A=⟨#[.agg #[.int .i64 S.modes,.int .u8 S.acc,.slice a S.rules.length cap],.int .i64 (start:Int),.int .u8 (goal:Int),.func (.func fid) #[] #[],.pointer (some ⟨w.heap.size,0,none⟩),undef,undef,undef,.slice none 0 0,.chan (some (w.heap.size+1)),.slice (some ⟨w.heap.size+2,0,none⟩) 8 8,.int .u8 (s.seen:Int),.int .i64 (m:Int),x 13,x 14,x 15,x 16,x 17,x 18,x 19,x 20,x 21,x 22,x 23,x 24,x 25,x 26,x 27,.slice a S.rules.length cap,.int .i64 (S.rules.length:Int),.int .i64 (k:Int),x 31,x 32,x 33,x 34,x 35,x 36,x 37,x 38,x 39,x 40,x 41,x 42,x 43,x 44,x 45,x 46,x 47,x 48,x 49,x 50,x 51,x 52,x 53,x 54,x 55,x 56,x 57,x 58,x 59,x 60,x 61,x 62,x 63,x 64,x 65,x 66,x 67,x 68,x 69,x 70,x 71,x 72,x 73,x 74,x 75,x 76],[]⟩∧BSt w.heap.size s wr∧(match inner use goal m (S.rules.drop k) k s with | .inl c=>c | .inr s''=>outer use goal S.rules N s'')=bfs use goal S.rules start∧N=s.q.length+CA s.seen∧Below (w.heap.size+1) (w.alloc (.cells #[.int .i64 S.modes,.int .u8 S.acc,.slice a S.rules.length cap] 33)) wr
theorem G5 {w:World} {fid:Nat} {use:Rl→Bool} {S:Sch} {a:Option Addr} {cap start goal m N n:Nat} {A:Act} {wr:World} (k:Nat) (s:BS) (hd:A.defers=[]) (hs:A.tmps.toList.length=77)
  (h:A.tmps.toList.take 13=[.agg #[.int .i64 S.modes,.int .u8 S.acc,.slice a S.rules.length cap],.int .i64 (start:Int),.int .u8 (goal:Int),.func (.func fid) #[] #[],.pointer (some ⟨w.heap.size,0,none⟩),undef,undef,undef,.slice none 0 0,.chan (some (w.heap.size+1)),.slice (some ⟨w.heap.size+2,0,none⟩) 8 8,.int .u8 (s.seen:Int),.int .i64 (m:Int)]) (h':(A.tmps.toList.drop 28).take 3=[.slice a S.rules.length cap,.int .i64 (S.rules.length:Int),.int .i64 (k:Int)])
  (hk:k≤S.rules.length) (hn:n=S.rules.length - k) (h2:BSt w.heap.size s wr) (h3:(match inner use goal m (S.rules.drop k) k s with | .inl c=>c | .inr s''=>outer use goal S.rules N s'')=bfs use goal S.rules start) (h5:N=s.q.length+CA s.seen) (h4:Below (w.heap.size+1) (w.alloc (.cells #[.int .i64 S.modes,.int .u8 S.acc,.slice a S.rules.length cap] 33)) wr) :
  InvI w fid use S a cap start goal m N n A wr:=(Rp hd hs h h').elim fun x hx=>⟨k,s,x,hk,hn,hx,h2,h3,h5,h4⟩
theorem QW {w:World} {B:Nat} {v:Value} {xs:List Nat} {k:Nat} (h:w.ownsRow B 3 1 v (xs.length+1) (G4 xs ++ [.int .i64 (k:Int)])):Ch w B v (xs ++ [k]):=by
 unfold Ch;have e:G4 (xs ++ [k])=G4 xs ++ [.int .i64 (k:Int)]:=by simp [G4]
 rw [e,AB];exact h
theorem Nj (r:Rl) (w:World):Calls Tryz.prog 97 #[.agg #[.int .i64 r.frm,.int .i64 r.dst,.string r.inp,.string r.out,.int .i64 r.cost]] w fun e w'=>e=.returned (.bool (decide (r.inp.size=0)))∧Below w.heap.size w w':=by
 go_enter Tryz.func97,Tryz.ntmps97
 go_wp2;go_ret;refine ⟨?_,by go_grown⟩;show Ending.returned (.bool r.inp.toList.isEmpty)=_;have:r.inp.toList.isEmpty=decide (r.inp.size=0):=by
  rw [ByteArray.toList_eq,Bool.eq_iff_iff,decide_eq_true_iff,List.isEmpty_iff,← ByteArray.size_data];constructor
  · intro h;rw [← Array.length_toList,h];rfl
  · intro h;exact List.eq_nil_of_length_eq_zero (by rw [Array.length_toList];exact h)
 rw [this]
theorem Nk:(Tryz.prog.info? 36).map (fun i=>(i.zero,i.size,i.bytes))=some (some (.slice none 0 0),1,24):=by kernel_rfl
end Go.Proofs.YtpljngaejaehcaaGreatDoor.Fl
