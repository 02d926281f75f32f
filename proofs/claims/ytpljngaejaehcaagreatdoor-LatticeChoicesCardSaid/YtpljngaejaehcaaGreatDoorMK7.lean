/- Texts that the claims share: N3, N4, NA, NM, NO, NP, NQ, NS, NT, NU. -/
import Derived.Test.YtpljngaejaehcaaGreatDoorMK6
import Derived.Test.YtpljngaejaehcaaGreatDoorMK2
import Derived.Test.YtpljngaejaehcaaGreatDoorMK1
import Derived.Test.YtpljngaejaehcaaGreatDoorMD1
set_option maxHeartbeats 12800000
set_option maxRecDepth 100000
set_option linter.unusedVariables false
set_option linter.unusedSimpArgs false
namespace Go.Proofs.YtpljngaejaehcaaGreatDoor
open Go.RowKit Go.WideShapes
section
variable {α:Type} (bf sm:α→Bool) (mg:α→α) (p:α)
def gst (st:List α × Bool) (q:α):List α × Bool:=((if !st.2 && bf q then st.1 ++ [p] else st.1) ++ [if sm q then mg q else q],st.2 || bf q || sm q)
def OS (st:List α × Bool):List α:=if st.2 then st.1 else st.1 ++ [p]
def DA:List α→List α
 | []=>[p]
 | q :: r=>if bf q then p :: q :: r else if sm q then mg q :: r else q :: DA r
variable {bf sm mg p}
theorem If:∀ (L:List α) (out:List α),(∀ q∈L,sm q=false)→L.foldl (gst bf sm mg p) (out,true)=(out ++ L,true)
 | [],out,_=>by simp
 | q :: r,out,h=>by
  have h1:=h q A9;have e:gst bf sm mg p (out,true) q=(out ++ [q],true):=by simp [gst,h1]
  rw [List.foldl_cons,e,If r _ fun x hx=>h x (List.mem_cons_of_mem _ hx)];simp
theorem gst_ins:∀ (L:List α) (out:List α),L.Pairwise (fun q x=>bf q=true∨sm q=true→sm x=false)→(∀ q∈L,bf q=true→sm q=false)→OS p (L.foldl (gst bf sm mg p) (out,false))=out ++ DA bf sm mg p L
 | [],out,_,_=>by simp [OS,DA]
 | q
   :: r,out,h,h2=>by
  obtain ⟨h3,h4⟩:=AQ.1 h;rw [List.foldl_cons];cases hb:bf q with
  | true =>
   have hs:=h2 q A9 hb;have e:gst bf sm mg p (out,false) q=(out ++ [p] ++ [q],true):=by simp [gst,hb,hs]
   rw [e,If r _ fun x hx=>h3 x hx (.inl hb)];simp [OS,DA,hb]
  | false =>
   cases hs:sm q with
   | true =>
    have e:gst bf sm mg p (out,false) q=(out ++ [mg q],true):=by simp [gst,hb,hs]
    rw [e,If r _ fun x hx=>h3 x hx (.inr hs)];simp [OS,DA,hb,hs]
   | false =>
    have e:gst bf sm mg p (out,false) q=(out ++ [q],false):=by simp [gst,hb,hs]
    rw [e,gst_ins r _ h4 fun x hx=>h2 x (List.mem_cons_of_mem _ hx)];simp [DA,hb,hs]
theorem gins_sorted {R:α→α→Prop} (ht:∀ {a b c},R a b→R b c→R a c) (h1:∀ q,bf q=true→R p q) (h2:∀ q,bf q=false→sm q=false→R q p) (h3:∀ q x,sm q=true→R q x→R (mg q) x) (h4:∀ q x,sm q=true→R x q→R x (mg q)) :
  ∀ {L:List α},L.Pairwise R→(DA bf sm mg p L).Pairwise R∧∀ x,(∀ q∈L,R x q)→R x p→∀ q∈DA bf sm mg p L,R x q
 | [],_=>⟨by simp [DA],fun x _ hx q hq=>by simp [DA] at hq;subst hq;exact hx⟩
 | q
   :: r,h=>by
  obtain ⟨h5,h6⟩:=AQ.1 h;have ih:=gins_sorted (R:=R) ht h1 h2 h3 h4 h6;unfold DA;cases hb:bf q with
  | true =>
   refine ⟨AQ.2 ⟨fun x hx=>?_,h⟩,fun x hx hp z hz=>?_⟩
   ·rcases AS.1 hx with rfl | hx
    · exact h1 _ hb
    · exact ht (h1 _ hb) (h5 x hx)
   ·rcases AS.1 hz with rfl | hz
    · exact hp
    · exact hx z hz
  | false =>
   cases hs:sm q with
   | true =>
    refine ⟨AQ.2 ⟨fun x hx=>h3 _ _ hs (h5 x hx),h6⟩,fun x hx hp z hz=>?_⟩;rcases AS.1 hz with rfl | hz
    · exact h4 _ _ hs (hx _ A9)
    · exact hx z (List.mem_cons_of_mem _ hz)
   | false =>
    refine ⟨AQ.2 ⟨ih.2 q h5 (h2 _ hb hs),ih.1⟩,fun x hx hp z hz=>?_⟩;rcases AS.1 hz with rfl | hz
    · exact hx _ A9
    · exact ih.2 x (fun y hy=>hx y (List.mem_cons_of_mem _ hy)) hp z hz
theorem Ig:∀ (L:List α),(DA bf sm mg p L).length≤L.length+1
 | []=>by simp [DA]
 | q
   :: r=>by
  have:=Ig r;unfold DA;split
  · simp
  ·split
   · simp
   · simp only [List.length_cons];omega
theorem Pw (L:List α):L.length≤(DA bf sm mg p L).length:=by
 induction L with
 | nil=>simp
 | cons q r ih =>
  unfold DA;split
  · simp
  ·split
   · simp
   · simp only [List.length_cons];omega
theorem RH (L:List α):DA bf sm mg p L≠[]:=by
 cases L with
 | nil=>simp [DA]
 | cons q r =>
  unfold DA;split
  · simp
  · split <;> simp
theorem gins_all {P:α→Prop} (hp:P p) (hm:∀ q,P q→P (mg q)):∀ {L:List α},(∀ q∈L,P q)→∀ q∈DA bf sm mg p L,P q
 | [],_,q,hq=>by simp [DA] at hq;subst hq;exact hp
 | x
   :: r,h,q,hq=>by
  unfold DA at hq;split at hq
  ·rcases AS.1 hq with rfl | hq
   · exact hp
   · exact h q hq
  ·split at hq
   ·rcases AS.1 hq with rfl | hq
    · exact hm _ (h _ A9)
    · exact h q (List.mem_cons_of_mem _ hq)
   ·rcases AS.1 hq with rfl | hq
    · exact h _ A9
    · exact gins_all hp hm (fun y hy=>h y (List.mem_cons_of_mem _ hy)) q hq
end
theorem KQ {α:Type} {bf sm:α→Bool} {mg:α→α} {p:α}:∀ (L:List α) (st:List α × Bool),(L.foldl (gst bf sm mg p) st).1.length≤st.1.length+2*L.length
 | [],st=>by simp
 | q
   :: r,st=>by
  have h:=KQ (bf:=bf) (sm:=sm) (mg:=mg) (p:=p) r (gst bf sm mg p st q);have h2:(gst bf sm mg p st q).1.length≤st.1.length+2:=by
   unfold gst;simp only [AB,AC];split
   · simp
   · omega
  rw [List.foldl_cons,List.length_cons];omega
theorem Ld {α:Type} {bf sm:α→Bool} {mg:α→α} {p:α} {L:List α} {k:Nat} (hk:k<L.length) {st:List α × Bool} (h:(L.take k).foldl (gst bf sm mg p) ([],false)=st):(L.take (k+1)).foldl (gst bf sm mg p) ([],false)=gst bf sm mg p st L[k]:=by
 rw [AN hk,List.foldl_append,h];rfl
def wbf (s q:ByteArray):Bool:=ltS s q
def wsm (s q:ByteArray):Bool:=s.toList == q.toList
def Fx (s:ByteArray) (L:List ByteArray):List ByteArray:=DA (wbf s) (wsm s) id s L
theorem MY {s q:ByteArray} (h:ltS s q=true):wsm s q=false:=by
 unfold wsm;rw [beq_eq_false_iff_ne];intro e;have e2:s=q:=by
  rw [ByteArray.toList_eq,ByteArray.toList_eq] at e;exact bytes_inj e
 rw [e2,R4] at h;cases h
theorem MZ {s:ByteArray} {L:List ByteArray} (h:L.Pairwise fun x y=>ltS x y=true):(Fx s L).Pairwise fun x y=>ltS x y=true :=
 (gins_sorted (bf:=wbf s) (sm:=wsm s) (mg:=id) (p:=s) (R:=fun x y=>ltS x y=true) (fun h1 h2=>Gm h1 h2) (fun q h=>h) (fun q h1 h2=>R3 h1 fun e=>by subst e;simp [wsm] at h2) (fun q x _ h=>h) (fun q x _ h=>h) h).1
theorem win_fold {s:ByteArray} {L:List ByteArray} (h:L.Pairwise fun x y=>ltS x y=true):OS s (L.foldl (gst (wbf s) (wsm s) id s) ([],false))=Fx s L:=by
 refine (gst_ins (bf:=wbf s) (sm:=wsm s) (mg:=id) (p:=s) L [] (h.imp fun {q x} ja hq=>?_) fun q _ hq=>MY hq).trans (List.nil_append _)
 ·rcases hq with hq | hq
  · exact MY (Gm hq ja)
  ·have e:s=q:=by
    have e:=eq_of_beq hq;rw [ByteArray.toList_eq,ByteArray.toList_eq] at e;exact bytes_inj e
   rw [e];exact MY ja
abbrev Prs:=Int × Int × Int
def Ce (a b:Prs):Bool:=decide (a.1<b.1) || (decide (a.1=b.1) && decide (a.2.1<b.2.1))
def pbf (p q:Prs):Bool:=Ce p q
def psm (p q:Prs):Bool:=decide (q.1=p.1) && decide (q.2.1=p.2.1)
def pmg (p q:Prs):Prs:=(q.1,q.2.1,q.2.2+p.2.2)
def FS9 (p:Prs) (L:List Prs):List Prs:=DA (pbf p) (psm p) (pmg p) p L
def BN:List Prs→Int
 | []=>0
 | q :: r=>q.2.2+BN r
theorem Le (p:Prs):∀ L:List Prs,BN (FS9 p L)=BN L+p.2.2
 | []=>by simp [FS9,DA,BN]
 | q
   :: r=>by
  have ih:=Le p r;unfold FS9 at ih ⊢;unfold DA;split
  · simp [BN];omega
  ·split
   · simp [BN,pmg];omega
   · simp only [BN,ih];omega
theorem By {a b:Prs}:Ce a b=true↔a.1<b.1∨a.1=b.1∧a.2.1<b.2.1:=by simp [Ce]
structure F1 (n:Nat) (L:List Prs):Prop where
 inc:L.Pairwise fun a b=>Ce a b=true
 ok:∀ q∈L,0≤q.1∧q.1<(n:Int)∧0≤q.2.1∧q.2.1<(n:Int)∧1≤q.2.2
theorem F1.nil (n:Nat):F1 n []:=⟨.nil,fun q hq=>by cases hq⟩
theorem F1.add {n:Nat} {L:List Prs} {p:Prs} (h:F1 n L) (hp:0≤p.1∧p.1<(n:Int)∧0≤p.2.1∧p.2.1<(n:Int)∧1≤p.2.2):F1 n (FS9 p L):=by
 refine ⟨(gins_sorted (bf:=pbf p) (sm:=psm p) (mg:=pmg p) (R:=fun a b=>Ce a b=true) (fun h1 h2=>by rw [By] at *;omega) (fun q h=>h) (fun q h1 h2=>?_) (fun q x _ hr=>hr) (fun q x _ hr=>hr) h.inc).1,?_⟩
 ·unfold pbf at h1;rw [Bool.eq_false_iff,Ne,By] at h1;rw [By];simp [psm] at h2;omega
 · exact gins_all (bf:=pbf p) (sm:=psm p) (mg:=pmg p) (P:=fun q=>0≤q.1∧q.1<(n:Int)∧0≤q.2.1∧q.2.1<(n:Int)∧1≤q.2.2) hp (fun q hq=>by unfold pmg;simp only;omega) h.ok
theorem Px {p:Prs} {L:List Prs} (h:L.Pairwise fun a b=>Ce a b=true):OS p (L.foldl (gst (pbf p) (psm p) (pmg p) p) ([],false))=FS9 p L:=by
 refine (gst_ins (bf:=pbf p) (sm:=psm p) (mg:=pmg p) (p:=p) L [] (h.imp fun {q x} ja hq=>?_) fun q _ hq=>?_).trans (List.nil_append _)
 ·rw [By] at ja;rcases hq with hq | hq
  ·unfold pbf at hq;rw [By] at hq;simp only [psm,Bool.and_eq_false_iff,decide_eq_false_iff_not];omega
  ·simp only [psm,Bool.and_eq_true,decide_eq_true_eq] at hq;simp only [psm,Bool.and_eq_false_iff,decide_eq_false_iff_not];omega
 ·unfold pbf at hq;rw [By] at hq;simp only [psm,Bool.and_eq_false_iff,decide_eq_false_iff_not];omega
theorem Hc:∀ (L:List Prs) (k:Nat),BN L=BN (L.take k)+BN (L.drop k)
 | [],k=>by simp [BN]
 | q :: r,0=>by simp [BN]
 | q :: r,k+1=>by
  have:=Hc r k;simp only [List.take_succ_cons,List.drop_succ_cons,BN];omega
theorem Ea:∀ {L:List Prs},(∀ q∈L,1≤q.2.2)→0≤BN L
 | [],_=>by simp [BN]
 | q :: r,h=>by
  have h1:=h q A9;have h2:=Ea fun x hx=>h x (List.mem_cons_of_mem _ hx);simp only [BN];omega
def E7:List Nat→Nat
 | []=>0
 | c :: r=>c+E7 r
theorem Ih:∀ (L:List Nat) (k:Nat),E7 L=E7 (L.take k)+E7 (L.drop k)
 | [],k=>by simp [E7]
 | q :: r,0=>by simp [E7]
 | q :: r,k+1=>by
  have:=Ih r k;simp only [List.take_succ_cons,List.drop_succ_cons,E7];omega
theorem Gq:∀ (L:List Nat) (x:Nat),E7 (L ++ [x])=E7 L+x
 | [],x=>by simp [E7]
 | q :: r,x=>by
  have:=Gq r x;simp only [List.cons_append,E7];omega
structure Ii (Ws:List ByteArray) (cs:List Nat) (ps:List Prs) (bk:Int):Prop where
 dict:CJ Ws
 len:cs.length=Ws.length
 tot:E7 cs≤1000000
 prs:F1 Ws.length ps
 ptot:BN ps≤1000000
 plen:ps.length≤1000
 b0:0≤bk
 b1:bk≤1000
def Dj (z:Int):UInt8:=if z % 6=0 then 97 else if z % 6=1 then 98 else if z % 6=2 then 99 else if z % 6=3 then 65 else if z % 6=4 then 66 else 49
def Hi (Z:Nat→Int) (n:Nat):List UInt8:=(List.range n).map fun i=>Dj (Z i)
theorem OT (Z:Nat→Int) (n:Nat):Hi Z (n+1)=Hi Z n ++ [Dj (Z n)]:=by simp [Hi,List.range_succ]
def mwF (Z:Nat→Int) (len:Nat):ByteArray:=if len=0 then ⟨#[97]⟩ else ⟨(Hi Z (min len 3)).toArray⟩
theorem letM_ok (z:Int):(!(B1 ((Dj z).toNat:Int) == 0))=true:=by
 unfold Dj;split
 · decide
 ·split
  · decide
  ·split
   · decide
   ·split
    · decide
    · split <;> decide
theorem SM (Z:Nat→Int) (len:Nat):CO (mwF Z len)=true∧(mwF Z len).size≤3:=by
 unfold mwF;split
 · decide
 ·rename_i h;have jb:(⟨(Hi Z (min len 3)).toArray⟩:ByteArray).size=min len 3:=by
   show (Hi Z (min len 3)).toArray.size=_;simp [Hi]
  refine ⟨?_,by omega⟩;unfold CO DC Fd;rw [jb,decide_eq_true (show 1≤min len 3 by omega),decide_eq_true (show min len 3≤20 by omega)];simp only [Bool.true_and,List.all_eq_true];intro c hc;have ja:c∈Hi Z (min len 3):=hc;obtain ⟨i,_,rfl⟩:=AH.1 ja;exact letM_ok _
theorem word11_any (Z:Nat→Int) (a:Option Addr) (len cap:Nat) (w:World) (hZ:BX w a len Z) (hl:len≤9223372036854775807) :
  Calls Tryz.prog 36 #[.slice a len cap] w fun e w'=>e=.returned (.string (mwF Z len))∧Ext w w':=by
 have HZ:=A0 hZ;clear hZ
 go_enter Tryz.func36,Tryz.ntmps36
 go_wp2
 go_loopw [4,3] (fun i v wr=>∃ (k:Nat) (x:ByteArray),k≤3∧k≤len∧i=.int .i64 (k:Int)∧v=.string x∧x.data.toList=Hi Z k∧Below w.heap.size w wr) (fun i _ _=>3 - (intOf i).toNat)
 case atStart=>exact ⟨0,⟨#[]⟩,by omega,Nat.zero_le _,rfl,rfl,rfl,Below.refl _ _⟩
 case round =>
  obtain ⟨k,x,hk4,hk,rfl,rfl,hx,hB⟩:=hrel;have HB:=A0 hB;have HX:=A0 hx;have hzB:=hB.size;have hxs:x.size=k:=by
   have:=congrArg List.length hx;simpa [Hi] using this
  clear hB hx;by_cases je:k<len
  ·by_cases h4:k<3
   ·have jf:(k:Int)<3:=by omega
    obtain ⟨b,o,ha,hb,h0,z0,z1⟩:=(HZ.out.later HB.out (A3 _)).at je;have hidx:=F9 a b o len cap k ha je;have HS:=A0 (OT Z k);obtain ⟨z,hz⟩:∃ z,Z k=z:=⟨_,rfl⟩
    rw [hz] at h0 z0 z1 HS;clear hz ha;have ja:z % 6=0∨z % 6=1∨z % 6=2∨z % 6=3∨z % 6=4∨z % 6=5:=by omega
    rcases ja with hm | hm | hm | hm | hm | hm
    ·have jb:z.tmod 6=0:=(Int.tmod_eq_emod_of_nonneg z0).trans hm;have HL:Hid ((ByteArray.extract ⟨#[97,98,99,65,66,49]⟩ 0 1).data.toList=[Dj z]):=by
      show _=_;have e:Dj z=[97,98,99,65,66,49].getD 0 0:=by unfold Dj;rw [hm];rfl
      rw [e];decide
     go_wp2
     go_quiet (fail)
     go_wp2
     go_roundw
     case rel=>exact ⟨k+1,_,by omega,by omega,by go_num,rfl,by rw [HS.out,ByteArray.data_append,Array.toList_append,HX.out,HL.out],below_drewN HB.out _⟩
     case measure=>simp [intOf];omega
    ·have jb:z.tmod 6=1:=(Int.tmod_eq_emod_of_nonneg z0).trans hm;have HL:Hid ((ByteArray.extract ⟨#[97,98,99,65,66,49]⟩ 1 2).data.toList=[Dj z]):=by
      show _=_;have e:Dj z=[97,98,99,65,66,49].getD 1 0:=by unfold Dj;rw [hm];rfl
      rw [e];decide
     go_wp2
     go_quiet (fail)
     go_wp2
     go_roundw
     case rel=>exact ⟨k+1,_,by omega,by omega,by go_num,rfl,by rw [HS.out,ByteArray.data_append,Array.toList_append,HX.out,HL.out],below_drewN HB.out _⟩
     case measure=>simp [intOf];omega
    ·have jb:z.tmod 6=2:=(Int.tmod_eq_emod_of_nonneg z0).trans hm;have HL:Hid ((ByteArray.extract ⟨#[97,98,99,65,66,49]⟩ 2 3).data.toList=[Dj z]):=by
      show _=_;have e:Dj z=[97,98,99,65,66,49].getD 2 0:=by unfold Dj;rw [hm];rfl
      rw [e];decide
     go_wp2
     go_quiet (fail)
     go_wp2
     go_roundw
     case rel=>exact ⟨k+1,_,by omega,by omega,by go_num,rfl,by rw [HS.out,ByteArray.data_append,Array.toList_append,HX.out,HL.out],below_drewN HB.out _⟩
     case measure=>simp [intOf];omega
    ·have jb:z.tmod 6=3:=(Int.tmod_eq_emod_of_nonneg z0).trans hm;have HL:Hid ((ByteArray.extract ⟨#[97,98,99,65,66,49]⟩ 3 4).data.toList=[Dj z]):=by
      show _=_;have e:Dj z=[97,98,99,65,66,49].getD 3 0:=by unfold Dj;rw [hm];rfl
      rw [e];decide
     go_wp2
     go_quiet (fail)
     go_wp2
     go_roundw
     case rel=>exact ⟨k+1,_,by omega,by omega,by go_num,rfl,by rw [HS.out,ByteArray.data_append,Array.toList_append,HX.out,HL.out],below_drewN HB.out _⟩
     case measure=>simp [intOf];omega
    ·have jb:z.tmod 6=4:=(Int.tmod_eq_emod_of_nonneg z0).trans hm;have HL:Hid ((ByteArray.extract ⟨#[97,98,99,65,66,49]⟩ 4 5).data.toList=[Dj z]):=by
      show _=_;have e:Dj z=[97,98,99,65,66,49].getD 4 0:=by unfold Dj;rw [hm];rfl
      rw [e];decide
     go_wp2
     go_quiet (fail)
     go_wp2
     go_roundw
     case rel=>exact ⟨k+1,_,by omega,by omega,by go_num,rfl,by rw [HS.out,ByteArray.data_append,Array.toList_append,HX.out,HL.out],below_drewN HB.out _⟩
     case measure=>simp [intOf];omega
    ·have jb:z.tmod 6=5:=(Int.tmod_eq_emod_of_nonneg z0).trans hm;have HL:Hid ((ByteArray.extract ⟨#[97,98,99,65,66,49]⟩ 5 6).data.toList=[Dj z]):=by
      show _=_;have e:Dj z=[97,98,99,65,66,49].getD 5 0:=by unfold Dj;rw [hm];rfl
      rw [e];decide
     go_wp2
     go_quiet (fail)
     go_wp2
     go_roundw
     case rel=>exact ⟨k+1,_,by omega,by omega,by go_num,rfl,by rw [HS.out,ByteArray.data_append,Array.toList_append,HX.out,HL.out],below_drewN HB.out _⟩
     case measure=>simp [intOf];omega
   ·have jf:¬ (k:Int)<3:=by omega
    have HR:Hid (mwF Z len=x):=by
     show _=_;have:min len 3=k:=by omega
     rw [mwF,if_neg (by omega),this,← HX.out]
    have jc:(x.toList == [])=false:=by rw [beq_eq_false_iff_ne,ByteArray.toList_eq,HX.out];intro h;have:=congrArg List.length h;simp [Hi] at this;omega
    have jd:x.toList≠[]:=by simpa using jc
    go_wp2;go_ret;exact ⟨Jy HR.out.symm,HB.out⟩
  ·by_cases h0:k=0
   ·have jg:x=⟨#[]⟩:=bytes_inj (by rw [HX.out,h0];rfl);have HR:Hid (mwF Z len=⟨#[97]⟩):=by show _=_;rw [mwF,if_pos (by omega)]
    subst jg;clear h0;go_wp2;go_ret;exact ⟨Jy HR.out.symm,HB.out⟩
   ·have HR:Hid (mwF Z len=x):=by
     show _=_;have:min len 3=k:=by omega
     rw [mwF,if_neg (by omega),this,← HX.out]
    have jc:(x.toList == [])=false:=by rw [beq_eq_false_iff_ne,ByteArray.toList_eq,HX.out];intro h;have:=congrArg List.length h;simp [Hi] at this;omega
    have jd:x.toList≠[]:=by simpa using jc
    clear h0;go_wp2;go_ret;exact ⟨Jy HR.out.symm,HB.out⟩
theorem Py (s q:ByteArray) (out:List ByteArray) (d:Bool):gst (wbf s) (wsm s) id s (out,d) q=((if !d && wbf s q then out ++ [s] else out) ++ [q],d || wbf s q || wsm s q):=by unfold gst;simp
theorem Hd {w w':World} {v:Value} {M:List ByteArray} (h:AZ CB w' w.heap.size v M) (hM:M≠[]) (hb:Below w.heap.size w w'):Mw M w (.returned v) w':=by
 rcases h.blk with ⟨_,e⟩ | ⟨g,c,hv,_,_,ja⟩
 · exact absurd e hM
 · subst hv;exact ⟨g,0,c,rfl,h.strs.1,ja,hb⟩
theorem insert11_any (L:List ByteArray) (a:Option Addr) (cap:Nat) (s:ByteArray) (w:World) (hR:BH w a L) (hs:L.Pairwise fun x y=>ltS x y=true) (hn:L.length≤1000) :
  Calls Tryz.prog 35 #[.slice a L.length cap,.string s] w (Mw (Fx s L) w):=by
 have HR:=A0 hR;have HS:=A0 hs;clear hR hs
 go_enter Tryz.func35,Tryz.ntmps35
 go_wp2_with fail
 have jv:Hid (AZ CB (w.alloc (.cells #[] 9)) w.heap.size (.slice (some ⟨w.heap.size,0,none⟩) 0 0) []):=AZ.empty CB (heap_alloc_new _ _) (A3 _);have ju:Hid (Ext w (w.alloc (.cells #[] 9))):=(Below.refl _ _).alloc (A3 _) _
 go_loopg [5,6,7] L.length (fun g v5 v6 v7 wr=>∃ (k:Nat) (out:List ByteArray) (d:Bool),v7=.int .i64 (k:Int)∧v6=.bool d∧k≤L.length∧g=L.length - k∧(L.take k).foldl (gst (wbf s) (wsm s) id s) ([],false)=(out,d)∧AZ CB wr w.heap.size v5 out∧Ext w wr)
 case atStart=>exact ⟨0,[],false,rfl,rfl,Nat.zero_le _,rfl,rfl,jv.out,ju.out⟩
 case round =>
  clear jv ju;obtain ⟨k,out,d,rfl,rfl,hk,jy,jt,js,hb⟩:=hrel;obtain ⟨a5,c5,jG, -, -⟩:=js.form;subst jG;have hol:out.length≤2*k:=by
   have h:=KQ (bf:=wbf s) (sm:=wsm s) (mg:=id) (p:=s) (L.take k) ([],false);rw [jt,AK,Nat.min_eq_left hk] at h;simp only [List.length_nil] at h;omega
  have jw:=A0 jt;have jf:=A0 js;have HB:=A0 hb;have jp:=A0 jy;clear jt js hb jy;by_cases jm:k<L.length
  ·have hltI:(k:Int)<(L.length:Int):=by omega
   obtain ⟨b1,o1,ha,hb1,h1⟩:=(HR.out.later HB.out (A3 _)).at jm;have hidx:=DT a b1 o1 L.length cap k ha jm;have HN:=A0 ((Ld jm jw.out).trans (Py s L[k] out d));obtain ⟨x,hx⟩:∃ x,L[k]=x:=⟨_,rfl⟩
   rw [hx] at h1 HN;have jD:=A0 hx;have HA:=A0 ha;clear hx ha;obtain ⟨r,hr⟩:∃ r,Op.bytesLess s.toList x.toList=r:=⟨_,rfl⟩
   have jC:Hid (wbf s x=r):=hr;obtain ⟨q,hq⟩:∃ q,(s.toList == x.toList)=q:=⟨_,rfl⟩
   have jB:Hid (wsm s x=q):=hq;rw [jC.out,jB.out] at HN;cases d with
   | true =>
    have HE:Hid ((L.take (k+1)).foldl (gst (wbf s) (wsm s) id s) ([],false)=(out ++ [x],true)):=by show _=_;rw [HN.out];simp
    go_wp2_with (at_builtin;go_loud (refine Ac (v:=.slice a5 out.length c5) Cl rfl _ _ rfl rfl (jf.out.later ((Below.refl _ _).alloc (A3 _) _) (A3 _)) ⟨wr.heap.size,0,none⟩ 1 [x] rfl (Ae (heap_alloc_new _ _)) (by simp only [AC,AB];omega) (by have:=HB.out.size;simp only [A6];omega) ?_);intro v1 w1 jc ja jh;have jq:=A0 jc;have jn:=A0 ja;clear jc ja jh)
    go_roundg (L.length - (k+1))
    case measure=>have:=jp.out;omega
    case rel=>exact ⟨k+1,_,_,by go_num,rfl,by omega,rfl,HE.out,jq.out,Below.grown (Ext.trans HB.out ((Below.refl _ _).alloc (A3 _) _)) jn.out (by have:=HB.out.size;simp only [A6];omega) fun q hq=>jf.out.ge q hq⟩
   | false =>
    cases r with
    | true =>
     have HE:Hid ((L.take (k+1)).foldl (gst (wbf s) (wsm s) id s) ([],false)=(out ++ [s] ++ [x],true)):=by show _=_;rw [HN.out];simp
     go_upto_region 7 with (at_builtin;go_loud (refine Ac (v:=.slice a5 out.length c5) Cl rfl _ _ rfl rfl (jf.out.later ((Below.refl _ _).alloc (A3 _) _) (A3 _)) ⟨wr.heap.size,0,none⟩ 1 [s] rfl (Ae (heap_alloc_new _ _)) (by simp only [AC,AB];omega) (by have:=HB.out.size;simp only [A6];omega) ?_);intro v2 w2 jd jb ji;have jk:=A0 jd;have jo:=A0 jb;clear jd jb ji)
     obtain ⟨a2,c2,jF, -, -⟩:=jk.out.form;subst jF;have jl:Hid (Ext w w2):=Below.grown (Ext.trans HB.out ((Below.refl _ _).alloc (A3 _) _)) jo.out (by have:=HB.out.size;simp only [A6];omega) fun q hq=>jf.out.ge q hq;obtain ⟨b3,o3,jx,hb3,h3⟩:=(HR.out.later jl.out (A3 _)).at jm;have jE:b3=b1∧o3=o1:=by have h9:=HA.out;rw [jx] at h9;injection h9 with h9;injection h9 with h9 h8;exact ⟨h9,h8⟩
     obtain ⟨rfl,rfl⟩:=jE;rw [jD.out] at h3;clear jx h1
     go_wp2_with (at_builtin;go_loud (refine Ac (v:=.slice a2 (out ++ [s]).length c2) Cl rfl _ _ rfl rfl (jk.out.later ((Below.refl _ _).alloc (A3 _) _) (A3 _)) ⟨w2.heap.size,0,none⟩ 1 [x] rfl (Ae (heap_alloc_new _ _)) (by simp only [AC,AB];omega) (by have:=jl.out.size;simp only [A6];omega) ?_);intro v3 w3 jg je jr;have jA:=A0 jg;have jz:=A0 je;clear jg je jr)
     go_roundg (L.length - (k+1))
     case measure=>have:=jp.out;omega
     case rel=>exact ⟨k+1,_,_,by go_num,rfl,by omega,rfl,HE.out,jA.out,Below.grown (Ext.trans jl.out ((Below.refl _ _).alloc (A3 _) _)) jz.out (by have:=jl.out.size;simp only [A6];omega) fun q hq=>jk.out.ge q hq⟩
    | false =>
     have HE:Hid ((L.take (k+1)).foldl (gst (wbf s) (wsm s) id s) ([],false)=(out ++ [x],q)):=by show _=_;rw [HN.out];simp
     go_wp2_with (at_builtin;go_loud (refine Ac (v:=.slice a5 out.length c5) Cl rfl _ _ rfl rfl (jf.out.later ((Below.refl _ _).alloc (A3 _) _) (A3 _)) ⟨wr.heap.size,0,none⟩ 1 [x] rfl (Ae (heap_alloc_new _ _)) (by simp only [AC,AB];omega) (by have:=HB.out.size;simp only [A6];omega) ?_);intro v1 w1 jc ja jh;have jq:=A0 jc;have jn:=A0 ja;clear jc ja jh)
     go_roundg (L.length - (k+1))
     case measure=>have:=jp.out;omega
     case rel=>exact ⟨k+1,_,_,by go_num,rfl,by omega,rfl,HE.out,jq.out,Below.grown (Ext.trans HB.out ((Below.refl _ _).alloc (A3 _) _)) jn.out (by have:=HB.out.size;simp only [A6];omega) fun q hq=>jf.out.ge q hq⟩
  ·obtain rfl:k=L.length:=by omega
   have HF:=A0 (win_fold (s:=s) HS.out);have jj:=jw.out;rw [List.take_length] at jj;rw [jj] at HF;clear jj;cases d with
   | true =>
    have HE:Hid (Fx s L=out):=HF.out.symm
    go_wp2_with fail
    go_ret;rw [HE.out];exact Hd jf.out (by rw [← HE.out];exact RH L) HB.out
   | false =>
    have HE:Hid (Fx s L=out ++ [s]):=HF.out.symm
    go_wp2_with (at_builtin;go_loud (refine Ac (v:=.slice a5 out.length c5) Cl rfl _ _ rfl rfl (jf.out.later ((Below.refl _ _).alloc (A3 _) _) (A3 _)) ⟨wr.heap.size,0,none⟩ 1 [s] rfl (Ae (heap_alloc_new _ _)) (by simp only [AC,AB];omega) (by have:=HB.out.size;simp only [A6];omega) ?_);intro v2 w2 jd jb ji;have jk:=A0 jd;have jo:=A0 jb;clear jd jb ji)
    go_ret;rw [HE.out];exact Hd jk.out (by simp) (Below.grown (Ext.trans HB.out ((Below.refl _ _).alloc (A3 _) _)) jo.out (by have:=HB.out.size;simp only [A6];omega) fun q hq=>jf.out.ge q hq)
def Dt:BQ Prs:=⟨37,98,3,24,.agg #[.int .i64 0,.int .i64 0,.int .i64 0],fun p=>[.int .i64 p.1,.int .i64 p.2.1,.int .i64 p.2.2]⟩
theorem Bm:Dt.Ok:=⟨Tryz.underlying37,by kernel_rfl,rfl,by decide,fun _=>rfl,fun x u hu=>by
 have h:u=.int .i64 x.1∨u=.int .i64 x.2.1∨u=.int .i64 x.2.2:=by simpa [Dt] using hu
 rcases h with rfl | rfl | rfl <;> rfl,by decide⟩
def PrS (w:World) (a:Option Addr) (E:List Prs):Prop:=∀ k (hk:k<E.length),∃ b o,a=some ⟨b,o,none⟩∧b<w.heap.size∧w.cell? ⟨b,o+k*3,none⟩=some (.int .i64 E[k].1)∧w.cell? ⟨b,o+k*3+1,none⟩=some (.int .i64 E[k].2.1)∧w.cell? ⟨b,o+k*3+2,none⟩=some (.int .i64 E[k].2.2)
theorem PrS.go {w w1:World} {a:Option Addr} {E:List Prs} (h:PrS w a E) (hx:Ext w w1):PrS w1 a E:=fun k hl=>by
 obtain ⟨b,o,ha,h1,h2,h3,h4⟩:=h k hl;exact ⟨b,o,ha,A7 h1 (Below.size hx),(Below.cell hx (p:=⟨b,_,none⟩) h1).trans h2,(Below.cell hx (p:=⟨b,_,none⟩) h1).trans h3,(Below.cell hx (p:=⟨b,_,none⟩) h1).trans h4⟩
theorem PrS.nil (w:World) (a:Option Addr):PrS w a []:=fun k hk=>absurd hk (Nat.not_lt_zero k)
theorem AZ.prs {w:World} {B:Nat} {a:Option Addr} {n c:Nat} {L:List Prs} (h:AZ Dt w B (.slice a n c) L):PrS w a L∧n=L.length∧L.length≤c:=by
 obtain ⟨a',c',he,hc,_⟩:=h.form;injection he with e1 e2 e3;refine ⟨fun k hk=>?_,e2,by omega⟩;rcases h.blk with ⟨_,rfl⟩ | ⟨g,c2,ja,_,hg,_⟩
 · simp at hk
 ·injection ja with f1 f2 f3;subst f1;refine ⟨g,0,rfl,hg,?_,?_,?_⟩
  ·have:=h.cell Bm hk (j:=0) (by decide);simpa [Dt] using this
  ·have:=h.cell Bm hk (j:=1) (by decide);simpa [Dt] using this
  ·have:=h.cell Bm hk (j:=2) (by decide);simpa [Dt] using this
theorem Ma (a:Option Addr) (b o len cap k:Nat) (ha:a=some ⟨b,o,none⟩) (hk:k<len) (w:World) :
  (Instr.indexAt 37 (.slice a len cap) (.int .i64 (k:Int))).run Tryz.prog w=.ok (.pointer (some ⟨b,o+k*3,none⟩)) w:=by
 subst ha;have h0:(0:Int)≤(k:Int):=by omega
 have h1:(k:Int)<(len:Int):=by omega
 simp [go_sem,h0,h1]
def prV (p:Prs):Value:=.agg #[.int .i64 p.1,.int .i64 p.2.1,.int .i64 p.2.2]
def Mb (aw:Option Addr) (nw cw:Nat) (ac:Option Addr) (nc cc:Nat) (ap:Option Addr) (np cp:Nat) (bk:Int):Value:=.agg #[.slice aw nw cw,.slice ac nc cc,.slice ap np cp,.int .i64 bk]
theorem NJ {p q:Prs} (h:p.1<q.1∨p.1=q.1∧p.2.1<q.2.1):Ce p q=true:=By.2 h
theorem NK {p q:Prs} (h:¬ (p.1<q.1∨p.1=q.1∧p.2.1<q.2.1)):Ce p q=false:=by
 cases e:Ce p q with
 | true=>exact absurd (By.1 e) h
 | false=>rfl
theorem less11_any (p q:Prs) (w:World):Calls Tryz.prog 62 #[prV p,prV q] w fun e w'=>e=.returned (.bool (Ce p q))∧Ext w w':=by
 obtain ⟨p1,p2,p3⟩:=p;obtain ⟨q1,q2,q3⟩:=q;unfold prV;have HX:Hid (Ext w ((w.alloc (.cells #[.int .i64 p1,.int .i64 p2,.int .i64 p3] 98)).alloc (.cells #[.int .i64 q1,.int .i64 q2,.int .i64 q3] 98))):=Ext.trans ((Below.refl _ _).alloc (A3 _) _) ((Below.refl _ _).alloc (A3 _) _);by_cases h1:p1<q1
 ·have HR:Hid (Ce (p1,p2,p3) (q1,q2,q3)=true):=NJ (.inl h1)
  go_enter Tryz.func62,Tryz.ntmps62
  go_wp2_with fail
  go_ret;exact ⟨Aa HR.out.symm,HX.out⟩
 ·by_cases h2:p1=q1
  ·have ja:(p1 == q1)=true:=by rw [h2];simp
   by_cases h3:p2<q2
   ·have HR:Hid (Ce (p1,p2,p3) (q1,q2,q3)=true):=NJ (.inr ⟨h2,h3⟩);clear h2
    go_enter Tryz.func62,Tryz.ntmps62
    go_wp2_with fail
    go_ret;exact ⟨Aa HR.out.symm,HX.out⟩
   ·have HR:Hid (Ce (p1,p2,p3) (q1,q2,q3)=false):=NK (by simp only;omega);clear h2
    go_enter Tryz.func62,Tryz.ntmps62
    go_wp2_with fail
    go_ret;exact ⟨Aa HR.out.symm,HX.out⟩
  ·have ja:(p1 == q1)=false:=by rw [beq_eq_false_iff_ne];exact h2
   have HR:Hid (Ce (p1,p2,p3) (q1,q2,q3)=false):=NK (by simp only;omega)
   go_enter Tryz.func62,Tryz.ntmps62
   go_wp2_with fail
   go_ret;exact ⟨Aa HR.out.symm,HX.out⟩
theorem Pz (p q:Prs) (out:List Prs) (d:Bool):gst (pbf p) (psm p) (pmg p) p (out,d) q=((if !d && Ce p q then out ++ [p] else out) ++ [if psm p q then pmg p q else q],d || Ce p q || psm p q):=rfl
theorem Rh {p1 p2 p3 e1 e2 e3:Int} (h1:e1=p1) (h2:e2=p2):psm (p1,p2,p3) (e1,e2,e3)=true:=by simp [psm,h1,h2]
theorem Jg {p1 p2 p3 e1 e2 e3:Int} (h:¬ (e1=p1∧e2=p2)):psm (p1,p2,p3) (e1,e2,e3)=false:=by
 cases e:psm (p1,p2,p3) (e1,e2,e3) with
 | false=>rfl
 | true=>exact absurd (by simpa [psm] using e) h
def PrP (M:List Prs) (w:World) (e:Ending) (w':World):Prop:=∃ a c,e=.returned (.slice a M.length c)∧PrS w' a M∧M.length≤c∧Ext w w'
theorem NL {w w':World} {a:Option Addr} {n c:Nat} {M:List Prs} (h:AZ Dt w' w.heap.size (.slice a n c) M) (hb:Ext w w'):PrP M w (.returned (.slice a n c)) w':=by
 obtain ⟨h1,h2,h3⟩:=h.prs;subst h2;exact ⟨a,c,rfl,h1,h3,hb⟩
theorem add11_any (ps:List Prs) (p:Prs) (aw ac ap:Option Addr) (nw cw nc cc cp:Nat) (bk:Int) (w:World) (hP:PrS w ap ps) (hs:ps.Pairwise fun a b=>Ce a b=true) (hn:ps.length≤1000) (hN:∀ q∈ps,0≤q.2.2∧q.2.2≤1000000000) (Jx:0≤p.2.2) (ka:p.2.2≤1000000000) :
  Calls Tryz.prog 37 #[Mb aw nw cw ac nc cc ap ps.length cp bk,prV p] w (PrP (FS9 p ps) w):=by
 have HP:=A0 hP;have HS:=A0 hs;have j7:=A0 hN;clear hP hs hN;obtain ⟨p1,p2,p3⟩:=p;simp only at Jx ka;unfold Mb prV
 go_enter Tryz.func37,Tryz.ntmps37
 go_upto_region 1 with fail
 obtain ⟨wa,jC⟩:∃ wa,w.alloc (.cells #[.slice aw nw cw,.slice ac nc cc,.slice ap ps.length cp,.int .i64 bk] 39)=wa:=⟨_,rfl⟩
 rw [jC];obtain ⟨w0,jG⟩:∃ w0,wa.alloc (.cells #[.int .i64 p1,.int .i64 p2,.int .i64 p3] 98)=w0:=⟨_,rfl⟩
 rw [jG];have j4:Ext w wa:=by rw [← jC];exact (Below.refl _ _).alloc (A3 _) _
 have jT:Ext wa w0:=by rw [← jG];exact (Below.refl _ _).alloc (A3 _) _
 have hz:wa.heap.size=w.heap.size+1:=by rw [← jC];simp
 have h1:wa.heap[w.heap.size]? = some (.cells #[.slice aw nw cw,.slice ac nc cc,.slice ap ps.length cp,.int .i64 bk] 39 (0,0)):=by rw [← jC];exact heap_alloc_new _ _
 have h2:w0.heap[w.heap.size+1]? = some (.cells #[.int .i64 p1,.int .i64 p2,.int .i64 p3] 98 (0,0)):=by rw [← hz,← jG];exact heap_alloc_new _ _
 have jA:Hid (Ext w w0):=Ext.trans j4 jT;have HM:Hid (∀ W,Ext w0 W→W.cell? ⟨w.heap.size,2,none⟩=some (.slice ap ps.length cp)):=fun W hx=>by
  have h3:=(Below.block (Ext.trans jT hx) _ (A5.1 h1).1).trans h1;rw [cell_of_row W _ 2 _ _ _ h3];rfl
 have HQ:Hid (∀ W,Ext w0 W→W.cell? ⟨w.heap.size+1,0,none⟩=some (.int .i64 p1)∧W.cell? ⟨w.heap.size+1,1,none⟩=some (.int .i64 p2)∧W.cell? ⟨w.heap.size+1,2,none⟩=some (.int .i64 p3)):=fun W hx=>by
  have h3:=(Below.block hx _ (A5.1 h2).1).trans h2;refine ⟨?_,?_,?_⟩ <;> (rw [cell_of_row W _ _ _ _ _ h3];rfl)
 obtain ⟨gm,jM⟩:∃ gm,w.heap.size=gm:=⟨_,rfl⟩
 have HGM:Hid (gm+1<w0.heap.size):=by
  have:=(A5.1 h2).1;rw [← jM];exact this
 rw [jM] at HM HQ ⊢;clear jC jG j4 jT hz h1 h2 jM
 go_wp2_with fail
 have jZ:Hid (AZ Dt (w0.alloc (.cells #[] 98)) w0.heap.size (.slice (some ⟨w0.heap.size,0,none⟩) 0 0) []):=AZ.empty Dt (heap_alloc_new _ _) (A3 _);have jV:Hid (Ext w0 (w0.alloc (.cells #[] 98))):=(Below.refl _ _).alloc (A3 _) _
 go_loopg [5,6,7] ps.length (fun g v5 v6 v7 wr=>∃ (k:Nat) (out:List Prs) (d:Bool),v7=.int .i64 (k:Int)∧v6=.bool d∧k≤ps.length∧g=ps.length - k∧(ps.take k).foldl (gst (pbf (p1,p2,p3)) (psm (p1,p2,p3)) (pmg (p1,p2,p3)) (p1,p2,p3)) ([],false)=(out,d)∧AZ Dt wr w0.heap.size v5 out∧Ext w0 wr)
 case atStart=>exact ⟨0,[],false,rfl,rfl,Nat.zero_le _,rfl,rfl,jZ.out,jV.out⟩
 case round =>
  clear jZ jV;obtain ⟨k,out,d,rfl,rfl,hk,j1,jS,jR,hb⟩:=hrel;obtain ⟨a5,c5,kd, -, -⟩:=jR.form;subst kd;have hol:out.length≤2*k:=by
   have h:=KQ (bf:=pbf (p1,p2,p3)) (sm:=psm (p1,p2,p3)) (mg:=pmg (p1,p2,p3)) (p:=(p1,p2,p3)) (ps.take k) ([],false);rw [jS,AK,Nat.min_eq_left hk] at h;simp only [List.length_nil] at h;omega
  have j0:=A0 jS;have jz:=A0 jR;have HB:=A0 hb;have jn:=A0 j1;clear jS jR hb j1;have m2:=HM.out wr HB.out;obtain ⟨q0,q1,q2⟩:=HQ.out wr HB.out;by_cases jF:k<ps.length
  ·have hltI
        : (k:Int)<(ps.length:Int):=by omega
   obtain ⟨b1,o1,ha,hb1,x0,x1,x2⟩:=(HP.out.go (Ext.trans jA.out HB.out)) k jF;have jP:=Ma ap b1 o1 ps.length cp k ha jF;have HN:=A0 ((Ld jF j0.out).trans (Pz (p1,p2,p3) ps[k] out d));have j3:=j7.out ps[k] (AG jF);obtain ⟨⟨e1,e2,e3⟩,hx⟩:∃ x,ps[k]=x:=⟨_,rfl⟩
   rw [hx] at x0 x1 x2 HN j3;simp only at x0 x1 x2 j3;clear hx ha
   go_upto_region 6 with fail
   obtain ⟨wq,jH⟩:∃ wq,wr.alloc (.cells #[.int .i64 e1,.int .i64 e2,.int .i64 e3] 98)=wq:=⟨_,rfl⟩
   rw [jH];have jU:Ext wr wq:=by rw [← jH];exact (Below.refl _ _).alloc (A3 _) _
   have bq:wq.heap[wr.heap.size]? = some (.cells #[.int .i64 e1,.int .i64 e2,.int .i64 e3] 98 (0,0)):=by rw [← jH];exact heap_alloc_new _ _
   have ju:Hid (AZ Dt wq w0.heap.size (.slice a5 out.length c5) out):=jz.out.later jU (A3 _);have jQ:∀ q,(Value.slice a5 out.length c5).ownBlock=some q→q<wr.heap.size:=fun q hq=>jz.out.lt q hq;have jO:w0.heap.size≤wr.heap.size:=HB.out.size;obtain ⟨gq,j2⟩:∃ gq,wr.heap.size=gq:=⟨_,rfl⟩
   rw [j2] at bq jQ jO ⊢;have jB:gq<wq.heap.size:=(A5.1 bq).1;have jJ:=A0 jQ;have jv:=A0 bq;have jX:=A0 jO;have jI:=A0 jB;have jq:Hid (Ext w0 wq):=Ext.trans HB.out jU;clear jH jU bq jQ jO j2 jB m2 q0 q1 q2 jP x0 x1 x2;cases d with
   | true =>
    have jm:Hid (True):=trivial;have je:Hid (Ext w0 wq):=jq.out;have jf:=jv;have bW:wq.heap[gq]? = some (.cells #[.int .i64 e1,.int .i64 e2,.int .i64 e3] 98 (0,0)):=jf.out;have z0:wq.cell? ⟨gq,0,none⟩=some (.int .i64 e1):=by rw [cell_of_row _ _ 0 _ _ _ bW];rfl
    have z1:wq.cell? ⟨gq,1,none⟩=some (.int .i64 e2):=by rw [cell_of_row _ _ 1 _ _ _ bW];rfl
    have z2:wq.cell? ⟨gq,2,none⟩=some (.int .i64 e3):=by rw [cell_of_row _ _ 2 _ _ _ bW];rfl
    have zf:wq.frozen? ⟨gq,2,none⟩=false:=by simp [World.frozen?,bW]
    obtain ⟨y0,y1,y2⟩:=HQ.out wq je.out;by_cases h1:e1=p1
    ·by_cases h2:e2=p2
     ·have js:(e1 == p1)=true:=by rw [beq_iff_eq];exact h1
      have jD:(e2 == p2)=true:=by rw [beq_iff_eq];exact h2
      have ji:Hid (psm (p1,p2,p3) (e1,e2,e3)=true):=Rh h1 h2;have HE:Hid ((ps.take (k+1)).foldl (gst (pbf (p1,p2,p3)) (psm (p1,p2,p3)) (pmg (p1,p2,p3)) (p1,p2,p3)) ([],false)=(out ++ [(e1,e2,e3+p3)],true)):=by show _=_;rw [HN.out];simp [jm.out,ji.out,pmg]
      have hw:IntKind.i64.wrap (e3+p3)=e3+p3:=IntWalk.i64_in _ (by omega);clear h1 h2
      go_upto_region 10 with fail
      obtain ⟨wS,jl⟩:∃ wS,wq.setCell ⟨gq,2,none⟩ (.int .i64 (e3+p3))=wS:=⟨_,rfl⟩
      rw [jl];have bS:wS.heap[gq]? = some (.cells #[.int .i64 e1,.int .i64 e2,.int .i64 (e3+p3)] 98 (0,0)):=by rw [← jl];exact Ao bW rfl
      have jy:Hid (AZ Dt wS w0.heap.size (.slice a5 (out).length c5) (out)):=ju.out.keep fun q hq=>by
       rw [← jl];exact Below.heap_setCell _ _ _ _ (by have:=jJ.out q hq;show q≠gq;omega)
      have jw:Hid (Ext w0 wS):=by rw [← jl];exact je.out.setCell (p:=⟨gq,2,none⟩) (by show w0.heap.size≤gq;exact jX.out) _
      have u0:wS.cell? ⟨gq,0,none⟩=some (.int .i64 e1):=by rw [cell_of_row _ _ 0 _ _ _ bS];rfl
      have u1:wS.cell? ⟨gq,1,none⟩=some (.int .i64 e2):=by rw [cell_of_row _ _ 1 _ _ _ bS];rfl
      have u2:wS.cell? ⟨gq,2,none⟩=some (.int .i64 (e3+p3)):=by rw [cell_of_row _ _ 2 _ _ _ bS];rfl
      have jd:Hid (w0.heap.size≤wS.heap.size):=jw.out.size;clear jl bS z0 z1 z2 zf bW y0 y1 y2
      go_wp2_with (at_builtin;go_loud (refine Ac (v:=.slice a5 (out).length c5) Bm rfl _ _ rfl rfl (jy.out.later ((Below.refl _ _).alloc (A3 _) _) (A3 _)) ⟨wS.heap.size,0,none⟩ 1 [(e1,e2,e3+p3)] rfl (Ae (heap_alloc_new _ _)) (by simp only [AC,AB];omega) (by have:=jd.out;simp only [A6];omega) ?_);intro v1 w1 jb ja jc;have jh:=A0 jb;have jg:=A0 ja;clear jb ja jc)
      go_roundg (ps.length - (k+1))
      case measure=>have:=jn.out;omega
      case rel=>exact ⟨k+1,_,_,by go_num,rfl,by omega,rfl,HE.out,jh.out,Below.grown (Ext.trans jw.out ((Below.refl _ _).alloc (A3 _) _)) jg.out (by have:=(Hid.out jd);simp only [A6];omega) fun q hq=>jy.out.ge q hq⟩
     ·have js:(e1 == p1)=true:=by rw [beq_iff_eq];exact h1
      have jD:(e2 == p2)=false:=by rw [beq_eq_false_iff_ne];exact h2
      have ji:Hid (psm (p1,p2,p3) (e1,e2,e3)=false):=Jg fun h=>h2 h.2;clear h1 h2;have HE:Hid ((ps.take (k+1)).foldl (gst (pbf (p1,p2,p3)) (psm (p1,p2,p3)) (pmg (p1,p2,p3)) (p1,p2,p3)) ([],false)=(out ++ [(e1,e2,e3)],true)):=by show _=_;rw [HN.out];simp [jm.out,ji.out]
      have jd:Hid (w0.heap.size≤wq.heap.size):=je.out.size
      go_wp2_with (at_builtin;go_loud (refine Ac (v:=.slice a5 (out).length c5) Bm rfl _ _ rfl rfl (ju.out.later ((Below.refl _ _).alloc (A3 _) _) (A3 _)) ⟨wq.heap.size,0,none⟩ 1 [(e1,e2,e3)] rfl (Ae (heap_alloc_new _ _)) (by simp only [AC,AB];omega) (by have:=jd.out;simp only [A6];omega) ?_);intro v1 w1 jb ja jc;have jh:=A0 jb;have jg:=A0 ja;clear jb ja jc)
      go_roundg (ps.length - (k+1))
      case measure=>have:=jn.out;omega
      case rel=>exact ⟨k+1,_,_,by go_num,rfl,by omega,rfl,HE.out,jh.out,Below.grown (Ext.trans je.out ((Below.refl _ _).alloc (A3 _) _)) jg.out (by have:=(Hid.out jd);simp only [A6];omega) fun q hq=>ju.out.ge q hq⟩
    ·have js:(e1 == p1)=false:=by rw [beq_eq_false_iff_ne];exact h1
     have ji:Hid (psm (p1,p2,p3) (e1,e2,e3)=false):=Jg fun h=>h1 h.1;clear h1;have HE:Hid ((ps.take (k+1)).foldl (gst (pbf (p1,p2,p3)) (psm (p1,p2,p3)) (pmg (p1,p2,p3)) (p1,p2,p3)) ([],false)=(out ++ [(e1,e2,e3)],true)):=by show _=_;rw [HN.out];simp [jm.out,ji.out]
     have jd:Hid (w0.heap.size≤wq.heap.size):=je.out.size
     go_wp2_with (at_builtin;go_loud (refine Ac (v:=.slice a5 (out).length c5) Bm rfl _ _ rfl rfl (ju.out.later ((Below.refl _ _).alloc (A3 _) _) (A3 _)) ⟨wq.heap.size,0,none⟩ 1 [(e1,e2,e3)] rfl (Ae (heap_alloc_new _ _)) (by simp only [AC,AB];omega) (by have:=jd.out;simp only [A6];omega) ?_);intro v1 w1 jb ja jc;have jh:=A0 jb;have jg:=A0 ja;clear jb ja jc)
     go_roundg (ps.length - (k+1))
     case measure=>have:=jn.out;omega
     case rel=>exact ⟨k+1,_,_,by go_num,rfl,by omega,rfl,HE.out,jh.out,Below.grown (Ext.trans je.out ((Below.refl _ _).alloc (A3 _) _)) jg.out (by have:=(Hid.out jd);simp only [A6];omega) fun q hq=>ju.out.ge q hq⟩
   | false
       =>
    obtain ⟨y0,y1,y2⟩:=HQ.out wq jq.out;have z0:wq.cell? ⟨gq,0,none⟩=some (.int .i64 e1):=by rw [cell_of_row _ _ 0 _ _ _ jv.out];rfl
    have z1:wq.cell? ⟨gq,1,none⟩=some (.int .i64 e2):=by rw [cell_of_row _ _ 1 _ _ _ jv.out];rfl
    have z2:wq.cell? ⟨gq,2,none⟩=some (.int .i64 e3):=by rw [cell_of_row _ _ 2 _ _ _ jv.out];rfl
    go_wp2_with fail
    refine (less11_any (p1,p2,p3) (e1,e2,e3) _).mono ?_;rintro e w8 ⟨rfl,jE⟩;have je:Hid (Ext w0 w8):=Ext.trans jq.out jE;have jf:Hid (w8.heap[gq]? = some (.cells #[.int .i64 e1,.int .i64 e2,.int .i64 e3] 98 (0,0))):=(Below.block jE _ jI.out).trans jv.out;have jr:Hid (AZ Dt w8 w0.heap.size (.slice a5 out.length c5) out):=ju.out.later jE (A3 _);have jN:gq<w8.heap.size:=(A5.1 jf.out).1;clear jE y0 y1 y2 z0 z1 z2;obtain ⟨r,hr⟩:∃ r,Ce (p1,p2,p3) (e1,e2,e3)=r:=⟨_,rfl⟩
    have jm:=A0 hr;rw [hr];clear hr;cases r with
    | true =>
     have j9:¬ (e1=p1∧e2=p2):=by
      have h:=By.1 jm.out;simp only at h;omega
     obtain ⟨y0,y1,y2⟩:=HQ.out w8 je.out;have jd:Hid (w0.heap.size≤w8.heap.size):=je.out.size
     go_upto_region 8 with (at_builtin;go_loud (refine Ac (v:=.slice a5 out.length c5) Bm rfl _ _ rfl rfl (jr.out.later ((Below.refl _ _).alloc (A3 _) _) (A3 _)) ⟨w8.heap.size,0,none⟩ 1 [(p1,p2,p3)] rfl (Ae (heap_alloc_new _ _)) (by simp only [AC,AB];omega) (by have:=jd.out;simp only [A6];omega) ?_);intro v2 w2 jo jj jK;have jx:=A0 jo;have jW:=A0 jj;clear jo jj jK)
     obtain ⟨a2,c2,kb, -, -⟩:=jx.out.form;subst kb;have j5:Hid (Ext w0 w2):=Below.grown (Ext.trans je.out ((Below.refl _ _).alloc (A3 _) _)) jW.out (by have:=jd.out;simp only [A6];omega) fun q hq=>jr.out.ge q hq;have j8:Hid (w2.heap[gq]? = some (.cells #[.int .i64 e1,.int .i64 e2,.int .i64 e3] 98 (0,0))):=(jW.out.block gq (by simp only [A6];omega) (fun e=>by have:=jJ.out gq e.symm;omega)).trans ((Below.heap_alloc _ _ _ jN).trans jf.out);clear y0 y1 y2 je jf jd;have je:=j5;have jf:=j8;have bW:w2.heap[gq]? = some (.cells #[.int .i64 e1,.int .i64 e2,.int .i64 e3] 98 (0,0)):=jf.out;have z0:w2.cell? ⟨gq,0,none⟩=some (.int .i64 e1):=by rw [cell_of_row _ _ 0 _ _ _ bW];rfl
     have z1:w2.cell? ⟨gq,1,none⟩=some (.int .i64 e2):=by rw [cell_of_row _ _ 1 _ _ _ bW];rfl
     have z2:w2.cell? ⟨gq,2,none⟩=some (.int .i64 e3):=by rw [cell_of_row _ _ 2 _ _ _ bW];rfl
     have zf:w2.frozen? ⟨gq,2,none⟩=false:=by simp [World.frozen?,bW]
     obtain ⟨y0,y1,y2⟩:=HQ.out w2 je.out;by_cases h1:e1=p1
     ·by_cases h2:e2=p2
      · exact absurd ⟨h1,h2⟩ j9
      ·have js:(e1 == p1)=true:=by rw [beq_iff_eq];exact h1
       have jD:(e2 == p2)=false:=by rw [beq_eq_false_iff_ne];exact h2
       have ji:Hid (psm (p1,p2,p3) (e1,e2,e3)=false):=Jg fun h=>h2 h.2;clear h1 h2;have HE:Hid ((ps.take (k+1)).foldl (gst (pbf (p1,p2,p3)) (psm (p1,p2,p3)) (pmg (p1,p2,p3)) (p1,p2,p3)) ([],false)=(out ++ [(p1,p2,p3)] ++ [(e1,e2,e3)],true)):=by show _=_;rw [HN.out];simp [jm.out,ji.out]
       have jd:Hid (w0.heap.size≤w2.heap.size):=je.out.size
       go_wp2_with (at_builtin;go_loud (refine Ac (v:=.slice a2 (out ++ [(p1,p2,p3)]).length c2) Bm rfl _ _ rfl rfl (jx.out.later ((Below.refl _ _).alloc (A3 _) _) (A3 _)) ⟨w2.heap.size,0,none⟩ 1 [(e1,e2,e3)] rfl (Ae (heap_alloc_new _ _)) (by simp only [AC,AB];omega) (by have:=jd.out;simp only [A6];omega) ?_);intro v1 w1 jb ja jc;have jh:=A0 jb;have jg:=A0 ja;clear jb ja jc)
       go_roundg (ps.length - (k+1))
       case measure=>have:=jn.out;omega
       case rel=>exact ⟨k+1,_,_,by go_num,rfl,by omega,rfl,HE.out,jh.out,Below.grown (Ext.trans je.out ((Below.refl _ _).alloc (A3 _) _)) jg.out (by have:=(Hid.out jd);simp only [A6];omega) fun q hq=>jx.out.ge q hq⟩
     ·have js:(e1 == p1)=false:=by rw [beq_eq_false_iff_ne];exact h1
      have ji:Hid (psm (p1,p2,p3) (e1,e2,e3)=false):=Jg fun h=>h1 h.1;clear h1;have HE:Hid ((ps.take (k+1)).foldl (gst (pbf (p1,p2,p3)) (psm (p1,p2,p3)) (pmg (p1,p2,p3)) (p1,p2,p3)) ([],false)=(out ++ [(p1,p2,p3)] ++ [(e1,e2,e3)],true)):=by show _=_;rw [HN.out];simp [jm.out,ji.out]
      have jd:Hid (w0.heap.size≤w2.heap.size):=je.out.size
      go_wp2_with (at_builtin;go_loud (refine Ac (v:=.slice a2 (out ++ [(p1,p2,p3)]).length c2) Bm rfl _ _ rfl rfl (jx.out.later ((Below.refl _ _).alloc (A3 _) _) (A3 _)) ⟨w2.heap.size,0,none⟩ 1 [(e1,e2,e3)] rfl (Ae (heap_alloc_new _ _)) (by simp only [AC,AB];omega) (by have:=jd.out;simp only [A6];omega) ?_);intro v1 w1 jb ja jc;have jh:=A0 jb;have jg:=A0 ja;clear jb ja jc)
      go_roundg (ps.length - (k+1))
      case measure=>have:=jn.out;omega
      case rel=>exact ⟨k+1,_,_,by go_num,rfl,by omega,rfl,HE.out,jh.out,Below.grown (Ext.trans je.out ((Below.refl _ _).alloc (A3 _) _)) jg.out (by have:=(Hid.out jd);simp only [A6];omega) fun q hq=>jx.out.ge q hq⟩
    | false
        =>
     have bW:w8.heap[gq]? = some (.cells #[.int .i64 e1,.int .i64 e2,.int .i64 e3] 98 (0,0)):=jf.out;have z0:w8.cell? ⟨gq,0,none⟩=some (.int .i64 e1):=by rw [cell_of_row _ _ 0 _ _ _ bW];rfl
     have z1:w8.cell? ⟨gq,1,none⟩=some (.int .i64 e2):=by rw [cell_of_row _ _ 1 _ _ _ bW];rfl
     have z2:w8.cell? ⟨gq,2,none⟩=some (.int .i64 e3):=by rw [cell_of_row _ _ 2 _ _ _ bW];rfl
     have zf:w8.frozen? ⟨gq,2,none⟩=false:=by simp [World.frozen?,bW]
     obtain ⟨y0,y1,y2⟩:=HQ.out w8 je.out;by_cases h1:e1=p1
     ·by_cases h2:e2=p2
      ·have js:(e1 == p1)=true:=by rw [beq_iff_eq];exact h1
       have jD:(e2 == p2)=true:=by rw [beq_iff_eq];exact h2
       have ji:Hid (psm (p1,p2,p3) (e1,e2,e3)=true):=Rh h1 h2;have HE:Hid ((ps.take (k+1)).foldl (gst (pbf (p1,p2,p3)) (psm (p1,p2,p3)) (pmg (p1,p2,p3)) (p1,p2,p3)) ([],false)=(out ++ [(e1,e2,e3+p3)],true)):=by show _=_;rw [HN.out];simp [jm.out,ji.out,pmg]
       have hw:IntKind.i64.wrap (e3+p3)=e3+p3:=IntWalk.i64_in _ (by omega);clear h1 h2
       go_upto_region 10 with fail
       obtain ⟨wS,jl⟩:∃ wS,w8.setCell ⟨gq,2,none⟩ (.int .i64 (e3+p3))=wS:=⟨_,rfl⟩
       rw [jl];have bS:wS.heap[gq]? = some (.cells #[.int .i64 e1,.int .i64 e2,.int .i64 (e3+p3)] 98 (0,0)):=by rw [← jl];exact Ao bW rfl
       have jy:Hid (AZ Dt wS w0.heap.size (.slice a5 (out).length c5) (out)):=jr.out.keep fun q hq=>by
        rw [← jl];exact Below.heap_setCell _ _ _ _ (by have:=jJ.out q hq;show q≠gq;omega)
       have jw:Hid (Ext w0 wS):=by rw [← jl];exact je.out.setCell (p:=⟨gq,2,none⟩) (by show w0.heap.size≤gq;exact jX.out) _
       have u0:wS.cell? ⟨gq,0,none⟩=some (.int .i64 e1):=by rw [cell_of_row _ _ 0 _ _ _ bS];rfl
       have u1:wS.cell? ⟨gq,1,none⟩=some (.int .i64 e2):=by rw [cell_of_row _ _ 1 _ _ _ bS];rfl
       have u2:wS.cell? ⟨gq,2,none⟩=some (.int .i64 (e3+p3)):=by rw [cell_of_row _ _ 2 _ _ _ bS];rfl
       have jd:Hid (w0.heap.size≤wS.heap.size):=jw.out.size;clear jl bS z0 z1 z2 zf bW y0 y1 y2
       go_wp2_with (at_builtin;go_loud (refine Ac (v:=.slice a5 (out).length c5) Bm rfl _ _ rfl rfl (jy.out.later ((Below.refl _ _).alloc (A3 _) _) (A3 _)) ⟨wS.heap.size,0,none⟩ 1 [(e1,e2,e3+p3)] rfl (Ae (heap_alloc_new _ _)) (by simp only [AC,AB];omega) (by have:=jd.out;simp only [A6];omega) ?_);intro v1 w1 jb ja jc;have jh:=A0 jb;have jg:=A0 ja;clear jb ja jc)
       go_roundg (ps.length - (k+1))
       case measure=>have:=jn.out;omega
       case rel=>exact ⟨k+1,_,_,by go_num,rfl,by omega,rfl,HE.out,jh.out,Below.grown (Ext.trans jw.out ((Below.refl _ _).alloc (A3 _) _)) jg.out (by have:=(Hid.out jd);simp only [A6];omega) fun q hq=>jy.out.ge q hq⟩
      ·have js:(e1 == p1)=true:=by rw [beq_iff_eq];exact h1
       have jD:(e2 == p2)=false:=by rw [beq_eq_false_iff_ne];exact h2
       have ji:Hid (psm (p1,p2,p3) (e1,e2,e3)=false):=Jg fun h=>h2 h.2;clear h1 h2;have HE:Hid ((ps.take (k+1)).foldl (gst (pbf (p1,p2,p3)) (psm (p1,p2,p3)) (pmg (p1,p2,p3)) (p1,p2,p3)) ([],false)=(out ++ [(e1,e2,e3)],false)):=by show _=_;rw [HN.out];simp [jm.out,ji.out]
       have jd:Hid (w0.heap.size≤w8.heap.size):=je.out.size
       go_wp2_with (at_builtin;go_loud (refine Ac (v:=.slice a5 (out).length c5) Bm rfl _ _ rfl rfl (jr.out.later ((Below.refl _ _).alloc (A3 _) _) (A3 _)) ⟨w8.heap.size,0,none⟩ 1 [(e1,e2,e3)] rfl (Ae (heap_alloc_new _ _)) (by simp only [AC,AB];omega) (by have:=jd.out;simp only [A6];omega) ?_);intro v1 w1 jb ja jc;have jh:=A0 jb;have jg:=A0 ja;clear jb ja jc)
       go_roundg (ps.length - (k+1))
       case measure=>have:=jn.out;omega
       case rel=>exact ⟨k+1,_,_,by go_num,rfl,by omega,rfl,HE.out,jh.out,Below.grown (Ext.trans je.out ((Below.refl _ _).alloc (A3 _) _)) jg.out (by have:=(Hid.out jd);simp only [A6];omega) fun q hq=>jr.out.ge q hq⟩
     ·have js:(e1 == p1)=false:=by rw [beq_eq_false_iff_ne];exact h1
      have ji:Hid (psm (p1,p2,p3) (e1,e2,e3)=false):=Jg fun h=>h1 h.1;clear h1;have HE:Hid ((ps.take (k+1)).foldl (gst (pbf (p1,p2,p3)) (psm (p1,p2,p3)) (pmg (p1,p2,p3)) (p1,p2,p3)) ([],false)=(out ++ [(e1,e2,e3)],false)):=by show _=_;rw [HN.out];simp [jm.out,ji.out]
      have jd:Hid (w0.heap.size≤w8.heap.size):=je.out.size
      go_wp2_with (at_builtin;go_loud (refine Ac (v:=.slice a5 (out).length c5) Bm rfl _ _ rfl rfl (jr.out.later ((Below.refl _ _).alloc (A3 _) _) (A3 _)) ⟨w8.heap.size,0,none⟩ 1 [(e1,e2,e3)] rfl (Ae (heap_alloc_new _ _)) (by simp only [AC,AB];omega) (by have:=jd.out;simp only [A6];omega) ?_);intro v1 w1 jb ja jc;have jh:=A0 jb;have jg:=A0 ja;clear jb ja jc)
      go_roundg (ps.length - (k+1))
      case measure=>have:=jn.out;omega
      case rel=>exact ⟨k+1,_,_,by go_num,rfl,by omega,rfl,HE.out,jh.out,Below.grown (Ext.trans je.out ((Below.refl _ _).alloc (A3 _) _)) jg.out (by have:=(Hid.out jd);simp only [A6];omega) fun q hq=>jr.out.ge q hq⟩
  ·obtain rfl:k=ps.length:=by omega
   have HF:=A0 (Px (p:=(p1,p2,p3)) HS.out);have jt:=j0.out;rw [List.take_length] at jt;rw [jt] at HF;clear jt;cases d with
   | true =>
    have HE:Hid (FS9 (p1,p2,p3) ps=out):=HF.out.symm
    go_wp2_with fail
    go_ret;rw [HE.out];exact NL (jz.out.mono (Below.size jA.out)) (Ext.trans jA.out HB.out)
   | false =>
    have HE:Hid (FS9 (p1,p2,p3) ps=out ++ [(p1,p2,p3)]):=HF.out.symm
    go_wp2_with (at_builtin;go_loud (refine Ac (v:=.slice a5 out.length c5) Bm rfl _ _ rfl rfl (jz.out.later ((Below.refl _ _).alloc (A3 _) _) (A3 _)) ⟨wr.heap.size,0,none⟩ 1 [(p1,p2,p3)] rfl (Ae (heap_alloc_new _ _)) (by simp only [AC,AB];omega) (by have:=HB.out.size;simp only [A6];omega) ?_);intro v3 w3 jp jk jL;have jY:=A0 jp;have j6:=A0 jk;clear jp jk jL)
    obtain ⟨a3,c3,kc, -, -⟩:=jY.out.form;subst kc;go_ret;rw [HE.out];exact NL (jY.out.mono (Below.size jA.out)) (Ext.trans jA.out (Below.grown (Ext.trans HB.out ((Below.refl _ _).alloc (A3 _) _)) j6.out (by have:=HB.out.size;simp only [A6];omega) fun q hq=>jz.out.ge q hq))
theorem vwords_any (L:List ByteArray) (n:Nat) (a:Option Addr) (cap:Nat) (w:World) (hR:BH w a L) (hL:n=L.length) (hn:n≤9223372036854775807) :
  Calls Tryz.prog 68 #[.slice a n cap] w fun e w'=>e=.returned (.bool (DU L))∧w=w':=by
 subst hL;have HR:=A0 hR;clear hR;by_cases h1:1≤L.length
 ·have i1
      :
       ¬
        (L.length:Int)<1:=by omega
  by_cases h2:L.length≤200
  ·have i2
       :
        ¬
         (200:Int)<(L.length:Int):=by omega
   go_enter Tryz.func68,Tryz.ntmps68
   go_wp2
   go_loop [15] (fun i=>∃ k:Nat,k≤L.length∧i=.int .i64 k∧Dw L k) (fun i=>L.length - (intOf i).toNat)
   case atStart=>exact ⟨0,Nat.zero_le _,rfl,fun i _ h=>by omega⟩
   case round =>
    obtain ⟨k,hk,rfl,hg⟩:=hrel;have HG:=A0 hg;clear hg;by_cases ja:k<L.length
    ·obtain ⟨
         b,o,ha,hb,h0⟩:=HR.out.at ja
     have hidx:=DT a b o L.length cap k ha ja;obtain ⟨x,hx⟩:∃ x,L[k]=x:=⟨_,rfl⟩
     have HX:=A0 hx;rw [hx] at h0;clear hx;obtain ⟨q,hq⟩:∃ q,CO x=q:=⟨_,rfl⟩
     have HQ:=A0 hq;clear hq;cases q with
     | false =>
      have HN:Hid (DU L=false):=CD fun h=>by
       have:=(h.2.2 k ja ja).1;rw [HX.out,HQ.out] at this;cases this
      clear ha
      go_wp2_with (go_at_call 99;refine (D1 _ _).mono ?_;rintro e w' ⟨he,rfl⟩;rw [HQ.out] at he;subst he)
      go_ret;exact ⟨Aa HN.out.symm,rfl⟩
     | true =>
      by_cases jf:k=0
      ·have je:¬ (0:Int)<(k:Int):=by omega
       have HS:Hid (Dw L (k+1)):=HG.out.step ja (by rw [HX.out];exact HQ.out) (fun h=>by omega);clear ha jf
       go_wp2_with (go_at_call 99;refine (D1 _ _).mono ?_;rintro e w' ⟨he,rfl⟩;rw [HQ.out] at he;subst he)
       go_round
       case rel=>exact ⟨k+1,by omega,by go_num,HS.out⟩
       case measure=>simp [intOf];omega
      ·have hj:k - 1<L.length:=by omega
       obtain ⟨j,jd⟩:∃ j,k - 1=j:=⟨_,rfl⟩
       obtain ⟨b2,o2,jc,hb2,h2⟩:=HR.out.at hj;obtain ⟨y,hy⟩:∃ y,L[k - 1]=y:=⟨_,rfl⟩
       have HY:=A0 hy;rw [hy] at h2;rw [jd] at h2 hj;have hidx2:=DT a b2 o2 L.length cap j jc hj;have hw1:IntKind.i64.wrap ((k:Int) - 1)=(j:Int):=by rw [IntWalk.i64_in _ (by omega)];omega
       have je:(0:Int)<(k:Int):=by omega
       clear hy ha jc jd;obtain ⟨q,hq⟩:∃ q,Op.bytesLess y.toList x.toList=q:=⟨_,rfl⟩
       have jb:Hid (ltS y x=q):=hq;cases q with
       | true =>
        have HS:Hid (Dw L (k+1)):=HG.out.step ja (by rw [HX.out];exact HQ.out) (fun h=>by rw [HY.out,HX.out];exact jb.out)
        go_wp2_with (go_at_call 99;refine (D1 _ _).mono ?_;rintro e w' ⟨he,rfl⟩;rw [HQ.out] at he;subst he)
        go_round
        case rel=>exact ⟨k+1,by omega,by go_num,HS.out⟩
        case measure=>simp [intOf];omega
       | false =>
        have HN:Hid (DU L=false):=CD fun h=>by
         have:=(h.2.2 k ja ja).2 (by omega);rw [HY.out,HX.out,jb.out] at this;cases this
        go_wp2_with (go_at_call 99;refine (D1 _ _).mono ?_;rintro e w' ⟨he,rfl⟩;rw [HQ.out] at he;subst he)
        go_ret;exact ⟨Aa HN.out.symm,rfl⟩
    ·have HN:Hid (DU L=true):=F8 ⟨h1,h2,fun i hi _=>HG.out i hi (by omega)⟩;go_wp2;go_ret;exact ⟨Aa HN.out.symm,rfl⟩
  ·have i2:(200:Int)<(L.length:Int):=by omega
   have HN:Hid (DU L=false):=CD fun h=>h2 h.2.1
   go_enter Tryz.func68,Tryz.ntmps68
   go_wp2;go_ret;exact ⟨Aa HN.out.symm,rfl⟩
 ·have i1:(L.length:Int)<1:=by omega
  have HN:Hid (DU L=false):=CD fun h=>h1 h.1
  go_enter Tryz.func68,Tryz.ntmps68
  go_wp2;go_ret;exact ⟨Aa HN.out.symm,rfl⟩
def OU (w:World) (a:Option Addr) (cs:List Nat):Prop:=∀ k (hk:k<cs.length),∃ b o,a=some ⟨b,o,none⟩∧b<w.heap.size∧w.cell? ⟨b,o+k,none⟩=some (.int .i64 (cs[k]:Int))
theorem OU.go {w w1:World} {a:Option Addr} {cs:List Nat} (h:OU w a cs) (hx:Ext w w1):OU w1 a cs:=fun k hl=>by
 obtain ⟨b,o,ha,h1,h2⟩:=h k hl;exact ⟨b,o,ha,A7 h1 (Below.size hx),(Below.cell hx (p:=⟨b,_,none⟩) h1).trans h2⟩
theorem RI (a:Option Addr) (b o len cap k:Nat) (ha:a=some ⟨b,o,none⟩) (hk:k<len) (w:World) :
  (Instr.indexAt 36 (.slice a len cap) (.int .i64 (k:Int))).run Tryz.prog w=.ok (.pointer (some ⟨b,o+k,none⟩)) w:=by
 subst ha;have h0:(0:Int)≤(k:Int):=by omega
 have h1:(k:Int)<(len:Int):=by omega
 simp [go_sem,h0,h1]
theorem OV {cs:List Nat} {k:Nat} (h:k<cs.length):E7 (cs.take (k+1))=E7 (cs.take k)+cs[k]:=by
 rw [AN h,Gq]
theorem RJ (cs:List Nat) (k:Nat):E7 (cs.take k)≤E7 cs:=by
 have:=Ih cs k;omega
theorem Mc (cs:List Nat) (a:Option Addr) (cap:Nat) (w:World) (hC:OU w a cs) (hl:cs.length≤1000) (ht:E7 cs≤1000000) :
  Calls Tryz.prog 69 #[.slice a cs.length cap,.int .i64 (cs.length:Int)] w fun e w'=>e=.returned (.bool true)∧w=w':=by
 have HC:=A0 hC;clear hC
 go_enter Tryz.func69,Tryz.ntmps69
 go_wp2
 go_loop [14,5] (fun i s=>∃ k:Nat,k≤cs.length∧i=.int .i64 (k:Int)∧s=.int .i64 (E7 (cs.take k):Int)) (fun i s=>cs.length - (intOf i).toNat)
 case atStart=>exact ⟨0,Nat.zero_le _,rfl,rfl⟩
 case round =>
  obtain ⟨k,hk,rfl,rfl⟩:=hrel;by_cases ja:k<cs.length
  ·have jb:(k:Int)<(cs.length:Int):=by omega
   obtain ⟨b,o,ha,hb,h0⟩:=HC.out k ja;have hidx:=RI a b o cs.length cap k ha ja;have hT:=OV ja;have jc:=RJ cs (k+1);obtain ⟨x,hx⟩:∃ x,cs[k]=x:=⟨_,rfl⟩
   rw [hx] at h0 hT;obtain ⟨s,hs⟩:∃ s,E7 (cs.take k)=s:=⟨_,rfl⟩
   rw [hs] at hT ⊢;have HT:=A0 hT;have g0:¬ (x:Int)<0:=by omega
   have g1:IntKind.i64.wrap (1073741824 - (s:Int))=1073741824 - (s:Int):=IntWalk.i64_in _ (by omega);have g2:¬ 1073741824 - (s:Int)<(x:Int):=by omega
   have g3:IntKind.i64.wrap ((s:Int)+(x:Int))=(s:Int)+(x:Int):=IntWalk.i64_in _ (by omega);clear hx hs hT ha jc;go_wp2
   go_round
   case rel=>exact ⟨k+1,by omega,by go_num,by rw [HT.out,Int.natCast_add]⟩
   case measure=>simp [intOf];omega
  ·have jb:¬ (k:Int)<(cs.length:Int):=by omega
   go_wp2;go_ret;exact ⟨rfl,rfl⟩
theorem Ij:∀ (L:List Prs) (x:Prs),BN (L ++ [x])=BN L+x.2.2
 | [],x=>by simp [BN]
 | q :: r,x=>by
  have:=Ij r x;simp only [List.cons_append,BN];omega
theorem Ik {ps:List Prs} {k:Nat} (h:k<ps.length):BN (ps.take (k+1))=BN (ps.take k)+ps[k].2.2:=by
 rw [AN h,Ij]
theorem Lf {ps:List Prs} {n:Nat} (h:F1 n ps) (k:Nat):BN (ps.take k)≤BN ps:=by
 have h1:=Hc ps k;have h2:=Ea (L:=ps.drop k) fun q hq=>(h.ok q (List.mem_of_mem_drop hq)).2.2.2.2;omega
theorem vpairs_ok (ps:List Prs) (n:Nat) (a:Option Addr) (cap:Nat) (w:World) (hP:PrS w a ps) (ho:F1 n ps) (ht:BN ps≤1000000) (hl:ps.length≤1000) (hn:n≤200) :
  Calls Tryz.prog 70 #[.slice a ps.length cap,.int .i64 (n:Int)] w fun e w'=>e=.returned (.bool true)∧Ext w w':=by
 have HP:=A0 hP;have HO:=A0 ho;clear hP ho;have hl0:¬ (1000:Int)<(ps.length:Int):=by omega
 go_enter Tryz.func70,Tryz.ntmps70
 go_wp2
 go_loopw [14,5] (fun i v wr=>∃ (k:Nat) (s:Int),k≤ps.length∧i=.int .i64 (k:Int)∧v=.int .i64 s∧0≤s∧s≤BN (ps.take k)∧Ext w wr) (fun i _ _=>ps.length - (intOf i).toNat)
 case atStart=>exact ⟨0,0,Nat.zero_le _,rfl,rfl,Int.le_refl _,by simp [BN],Below.refl _ _⟩
 case round =>
  obtain ⟨k,s,hk,rfl,rfl,hs0,hs1,hb⟩:=hrel;have HB:=A0 hb;clear hb;by_cases jd:k<ps.length
  ·have jm:(k:Int)<(ps.length:Int):=by omega
   obtain ⟨b1,o1,ha,hb1,x0,x1,x2⟩:=(HP.out.go HB.out) k jd;have jl:=Ma a b1 o1 ps.length cap k ha jd;have hT:=Ik jd;have hle:=Lf HO.out (k+1);obtain ⟨k1,k2,k3,k4,k5⟩:=HO.out.ok ps[k] (AG jd);obtain ⟨⟨p1,p2,p3⟩,hx⟩:∃ x,ps[k]=x:=⟨_,rfl⟩
   have jr:=A0 hx;rw [hx] at x0 x1 x2 hT k1 k2 k3 k4 k5;simp only at x0 x1 x2 hT k1 k2 k3 k4 k5;have HT:=A0 hT;have g1:¬ p1<0:=by omega
   have g2:¬ (n:Int)≤p1:=by omega
   have g3:¬ p2<0:=by omega
   have g4:¬ (n:Int)≤p2:=by omega
   have g5:¬ p3<1:=by omega
   have g6:IntKind.i64.wrap (1073741824 - s)=1073741824 - s:=IntWalk.i64_in _ (by omega);have g7:¬ 1073741824 - s<p3:=by omega
   have g8:IntKind.i64.wrap (s+p3)=s+p3:=IntWalk.i64_in _ (by omega);clear hx ha
   go_upto_region 7 with fail
   obtain ⟨wq,ji⟩:∃ wq,wr.alloc (.cells #[.int .i64 p1,.int .i64 p2,.int .i64 p3] 98)=wq:=⟨_,rfl⟩
   rw [ji];have jf:Ext wr wq:=by rw [← ji];exact (Below.refl _ _).alloc (A3 _) _
   have bwq:wq.heap[wr.heap.size]? = some (.cells #[.int .i64 p1,.int .i64 p2,.int .i64 p3] 98 (0,0)):=by rw [← ji];exact heap_alloc_new _ _
   obtain ⟨gq,jo⟩:∃ gq,wr.heap.size=gq:=⟨_,rfl⟩
   rw [jo] at bwq ⊢;have jc:=A0 bwq;have zp0:wq.cell? ⟨gq,0,none⟩=some (.int .i64 p1):=by rw [cell_of_row _ _ 0 _ _ _ bwq];rfl
   have zp1:wq.cell? ⟨gq,1,none⟩=some (.int .i64 p2):=by rw [cell_of_row _ _ 1 _ _ _ bwq];rfl
   have zp2:wq.cell? ⟨gq,2,none⟩=some (.int .i64 p3):=by rw [cell_of_row _ _ 2 _ _ _ bwq];rfl
   have jh:=A0 jf;clear ji jf bwq jo jl x0 x1 x2;by_cases jt:k=0
   ·have ju:¬ (0:Int)<(k:Int):=by omega
    clear jt;go_wp2
    go_roundw
    case rel=>exact ⟨k+1,s+p3,by omega,by go_num,rfl,by omega,by have:=HT.out;omega,Ext.trans HB.out jh.out⟩
    case measure=>simp [intOf];omega
   ·have ju:(0:Int)<(k:Int):=by omega
    have hj:k - 1<ps.length:=by omega
    obtain ⟨b2,o2,jn,hb2,y0,y1,y2⟩:=(HP.out.go (Ext.trans HB.out jh.out)) (k - 1) hj;have jb:=Ma a b2 o2 ps.length cap (k - 1) jn hj;have je:=By.1 (List.pairwise_iff_getElem.1 HO.out.inc (k - 1) k hj jd (by omega));rw [jr.out] at je;obtain ⟨⟨q1,q2,q3⟩,hy⟩:∃ y,ps[k - 1]=y:=⟨_,rfl⟩
    rw [hy] at je y0 y1 y2;simp only at je y0 y1 y2;obtain ⟨j,jq⟩:∃ j,k - 1=j:=⟨_,rfl⟩
    have hwk:IntKind.i64.wrap ((k:Int) - 1)=(j:Int):=by rw [IntWalk.i64_in _ (by omega)];omega
    rw [jq] at jb y0 y1 y2;clear hy jn jq hj
    go_upto_region 11 with fail
    obtain ⟨wt,jj⟩:∃ wt,wq.alloc (.cells #[.int .i64 q1,.int .i64 q2,.int .i64 q3] 98)=wt:=⟨_,rfl⟩
    rw [jj];have jg:Ext wq wt:=by rw [← jj];exact (Below.refl _ _).alloc (A3 _) _
    have bwt:wt.heap[wq.heap.size]? = some (.cells #[.int .i64 q1,.int .i64 q2,.int .i64 q3] 98 (0,0)):=by rw [← jj];exact heap_alloc_new _ _
    obtain ⟨gt,jp⟩:∃ gt,wq.heap.size=gt:=⟨_,rfl⟩
    rw [jp] at bwt ⊢;have HBwt:=A0 bwt;have zq0:wt.cell? ⟨gt,0,none⟩=some (.int .i64 q1):=by rw [cell_of_row _ _ 0 _ _ _ bwt];rfl
    have zq1:wt.cell? ⟨gt,1,none⟩=some (.int .i64 q2):=by rw [cell_of_row _ _ 1 _ _ _ bwt];rfl
    have zq2:wt.cell? ⟨gt,2,none⟩=some (.int .i64 q3):=by rw [cell_of_row _ _ 2 _ _ _ bwt];rfl
    have jk:Hid (Ext wq wt):=jg;have ja:=(Below.block jk.out _ (A5.1 jc.out).1).trans jc.out;clear zp0 zp1 zp2;have zp0:wt.cell? ⟨gq,0,none⟩=some (.int .i64 p1):=by rw [cell_of_row _ _ 0 _ _ _ ja];rfl
    have zp1:wt.cell? ⟨gq,1,none⟩=some (.int .i64 p2):=by rw [cell_of_row _ _ 1 _ _ _ ja];rfl
    have zp2:wt.cell? ⟨gq,2,none⟩=some (.int .i64 p3):=by rw [cell_of_row _ _ 2 _ _ _ ja];rfl
    have n1:¬ p1<q1:=by omega
    clear jj jg bwt jp jb y0 y1 y2 ja;by_cases he:p1=q1
    ·have js:(p1 == q1)=true:=by rw [beq_iff_eq];exact he
     have jv:(p1 != q1)=false:=by rw [he];simp
     have n2:¬ p2≤q2:=by omega
     clear je he;go_wp2
     go_roundw
     case rel=>exact ⟨k+1,s+p3,by omega,by go_num,rfl,by omega,by have:=HT.out;omega,Ext.trans HB.out (Ext.trans jh.out jk.out)⟩
     case measure=>simp [intOf];omega
    ·have js:(p1 == q1)=false:=by rw [beq_eq_false_iff_ne];exact he
     have jv:(p1 != q1)=true:=by rw [bne_iff_ne];exact he
     have hT0:0≤BN (ps.take k):=by omega
     have w0:IntKind.i64.wrap (0+p3)=p3:=by rw [Int.zero_add];exact IntWalk.i64_in _ (by omega)
     have w1:¬ (1073741824:Int)<p3:=by omega
     clear je he;go_wp2
     go_roundw
     case rel=>exact ⟨k+1,p3,by omega,by go_num,rfl,by omega,by have:=HT.out;omega,Ext.trans HB.out (Ext.trans jh.out jk.out)⟩
     case measure=>simp [intOf];omega
  ·have jm:¬ (k:Int)<(ps.length:Int):=by omega
   go_wp2;go_ret;exact ⟨rfl,HB.out⟩
structure Il (w:World) (aw ac ap:Option Addr) (cw cc cp:Nat) (Ws:List ByteArray) (cs:List Nat) (ps:List Prs) (bk:Int):Prop where
 ws:BH w aw Ws
 wc:Ws.length≤cw
 ct:OU w ac cs
 pr:PrS w ap ps
theorem Il.go {w w1:World} {aw ac ap:Option Addr} {cw cc cp:Nat} {Ws:List ByteArray} {cs:List Nat} {ps:List Prs} {bk:Int} (h:Il w aw ac ap cw cc cp Ws cs ps bk) (hx:Ext w w1):Il w1 aw ac ap cw cc cp Ws cs ps bk :=
 ⟨h.ws.later hx (A3 _),h.wc,h.ct.go hx,h.pr.go hx⟩
theorem Gr (aw ac ap:Option Addr) (cw cc cp:Nat) (Ws:List ByteArray) (cs:List Nat) (ps:List Prs) (bk:Int) (w:World) (hM:Il w aw ac ap cw cc cp Ws cs ps bk) (hO:Ii Ws cs ps bk) :
  Calls Tryz.prog 40 #[Mb aw Ws.length cw ac cs.length cc ap ps.length cp bk] w fun e w'=>e=.returned (.bool true)∧Ext w w':=by
 have HM:=A0 hM;have HO:=A0 hO;have b0:(0:Int)≤bk:=hO.b0;have b1:bk≤(1000:Int):=hO.b1;have jb:Hid (Ws.length≤200):=hO.dict.2.1;have je:Hid (cs.length=Ws.length):=hO.len;clear hM hO;unfold Mb
 go_enter Tryz.func40,Tryz.ntmps40
 go_upto_region 1 with fail
 obtain ⟨wb,ja⟩:∃ wb,w.alloc (.cells #[.slice aw Ws.length cw,.slice ac cs.length cc,.slice ap ps.length cp,.int .i64 bk] 39)=wb:=⟨_,rfl⟩
 rw [ja];have jf:Ext w wb:=by rw [← ja];exact (Below.refl _ _).alloc (A3 _) _
 have bb:wb.heap[w.heap.size]? = some (.cells #[.slice aw Ws.length cw,.slice ac cs.length cc,.slice ap ps.length cp,.int .i64 bk] 39 (0,0)):=by rw [← ja];exact heap_alloc_new _ _
 obtain ⟨g,hg⟩:∃ g,w.heap.size=g:=⟨_,rfl⟩
 rw [hg] at bb ⊢;have m0:wb.cell? ⟨g,0,none⟩=some (.slice aw Ws.length cw):=by rw [cell_of_row _ _ 0 _ _ _ bb];rfl
 have m1:wb.cell? ⟨g,1,none⟩=some (.slice ac cs.length cc):=by rw [cell_of_row _ _ 1 _ _ _ bb];rfl
 have m2:wb.cell? ⟨g,2,none⟩=some (.slice ap ps.length cp):=by rw [cell_of_row _ _ 2 _ _ _ bb];rfl
 have m3:wb.cell? ⟨g,3,none⟩=some (.int .i64 bk):=by rw [cell_of_row _ _ 3 _ _ _ bb];rfl
 have HX:=A0 jf;have jd:=A0 bb;clear ja jf bb hg
 go_wp2_with fail
 refine (vwords_any Ws Ws.length aw cw _ (HM.out.go HX.out).ws rfl (by have:=jb.out;omega)).mono ?_;rintro e w' ⟨rfl,rfl⟩;rw [F8 HO.out.dict]
 go_wp2_with fail
 have jc:=Mc cs ac cc wb (HM.out.go HX.out).ct (by have:=jb.out;have:=je.out;omega) HO.out.tot;rw [je.out] at jc ⊢;refine jc.mono ?_;clear jc;rintro e w' ⟨rfl,rfl⟩
 go_wp2_with fail
 refine (vpairs_ok ps Ws.length ap cp _ (HM.out.go HX.out).pr HO.out.prs HO.out.ptot HO.out.plen jb.out).mono ?_;rintro e w' ⟨rfl,hb⟩;have jg:Hid (Ext wb w'):=hb;have jh:=A0 ((Below.block hb _ (A5.1 jd.out).1).trans jd.out);have m3':w'.cell? ⟨g,3,none⟩=some (.int .i64 bk):=by rw [cell_of_row _ _ 3 _ _ _ jh.out];rfl
 clear hb m0 m1 m2 m3
 go_wp2_with fail
 go_ret;exact ⟨Aa (by simp [b0,b1]),Ext.trans HX.out jg.out⟩
open Go.RowKit Go.WideShapes Fl
def Bt (x y:Int):Int:=if x<y then -1 else if y<x then 1 else 0
theorem KR (x:Int) (w:World):Calls Tryz.prog 112 #[.int .i64 x] w fun e w'=>e=.returned (.bool false)∧w=w':=by
 have h:(x != x)=false:=by simp
 go_enter Tryz.func112,Tryz.ntmps112
 go_wp2_with fail
 go_ret;exact ⟨by simp,rfl⟩
theorem F6 (x y:Int) (w:World):Calls Tryz.prog 85 #[.int .i64 x,.int .i64 y] w fun e w'=>e=.returned (.int .i64 (Bt x y))∧w=w':=by
 by_cases h1:x<y
 ·have HC:Hid (Bt x y = -1):=by show _=_;unfold Bt;rw [if_pos h1]
  go_enter Tryz.func85,Tryz.ntmps85
  go_wp2_with (go_at_call 112;refine (KR _ _).mono ?_;rintro e w' ⟨rfl,rfl⟩)
  go_ret;exact ⟨by rw [HC.out];rfl,rfl⟩
 ·by_cases h2:y<x
  ·have HC:Hid (Bt x y=1):=by show _=_;unfold Bt;rw [if_neg h1,if_pos h2]
   go_enter Tryz.func85,Tryz.ntmps85
   go_wp2_with (go_at_call 112;refine (KR _ _).mono ?_;rintro e w' ⟨rfl,rfl⟩)
   go_ret;exact ⟨by rw [HC.out];rfl,rfl⟩
  ·have HC:Hid (Bt x y=0):=by show _=_;unfold Bt;rw [if_neg h1,if_neg h2]
   go_enter Tryz.func85,Tryz.ntmps85
   go_wp2_with (go_at_call 112;refine (KR _ _).mono ?_;rintro e w' ⟨rfl,rfl⟩)
   go_ret;exact ⟨by rw [HC.out];rfl,rfl⟩
def edV (e:Edg):Value:=.agg #[.int .i64 e.1,.int .i64 e.2.1,.int .i64 e.2.2.1,.int .i64 e.2.2.2]
instance (a b:Edg):Decidable (Eh a b):=by unfold Eh;infer_instance
def orF:List Int→Int
 | []=>0
 | x :: r=>if x=0 then orF r else x
theorem or_any (xs:List Int) (a:Option Addr) (cap:Nat) (w:World) (hS:SlS w a xs) (hl:xs.length≤1000) :
  Calls Tryz.prog 84 #[.slice a xs.length cap] w fun e w'=>e=.returned (.int .i64 (orF xs))∧w=w':=by
 have HS:=A0 hS;clear hS
 go_enter Tryz.func84,Tryz.ntmps84
 go_wp2
 go_loop [8] (fun i=>∃ k:Nat,k≤xs.length∧i=.int .i64 (k:Int)∧orF (xs.drop k)=orF xs) (fun i=>xs.length - (intOf i).toNat)
 case atStart=>exact ⟨0,Nat.zero_le _,rfl,rfl⟩
 case round =>
  obtain ⟨k,hk,rfl,ho⟩:=hrel;have HO:=A0 ho;clear ho;by_cases ja:k<xs.length
  ·have jb:(k:Int)<(xs.length:Int):=by omega
   obtain ⟨b,o,ha,hb,h0⟩:=HS.out k ja;have hidx:=Fl.idx_ints a b o xs.length cap k ha ja;have hd:xs.drop k=xs[k] :: xs.drop (k+1):=AE ja;obtain ⟨x,hx⟩:∃ x,xs[k]=x:=⟨_,rfl⟩
   rw [hx] at h0 hd;have HD:=A0 hd;clear hx hd ha;by_cases hz:x=0
   ·have jc:(x != 0)=false:=by rw [hz];rfl
    have HE:Hid (orF (xs.drop (k+1))=orF xs):=by
     have h:=HO.out;rw [HD.out,orF,if_pos hz] at h;exact h
    clear hz;go_wp2
    go_round
    case rel=>exact ⟨k+1,by omega,by go_num,HE.out⟩
    case measure=>simp [intOf];omega
   ·have jc:(x != 0)=true:=by rw [bne_iff_ne];exact hz
    have HE:Hid (orF xs=x):=by
     have h:=HO.out;rw [HD.out,orF,if_neg hz] at h;exact h.symm
    clear hz;go_wp2;go_ret;exact ⟨by rw [HE.out];rfl,rfl⟩
  ·have jb:¬ (k:Int)<(xs.length:Int):=by omega
   have HE:Hid (orF xs=0):=by
    have h:=HO.out;rw [List.drop_eq_nil_of_le (by omega)] at h;exact h.symm
   go_wp2;go_ret;exact ⟨by rw [HE.out];rfl,rfl⟩
theorem RK (W:World) (x y z:Int):SlS (W.alloc (.cells #[.int .i64 x,.int .i64 y,.int .i64 z] 3 (0,0))) (some ⟨W.heap.size,0,none⟩) [x,y,z]:=fun k hk=>by
 have hn:=heap_alloc_new W (.cells #[.int .i64 x,.int .i64 y,.int .i64 z] 3 (0,0));refine ⟨W.heap.size,0,rfl,by simp,?_⟩;rw [Nat.zero_add,cell_of_row _ _ k _ _ _ hn]
 match k,hk with
 | 0,_=>rfl
 | 1,_=>rfl
 | 2,_=>rfl
def Thr (l:List Int) (v:Value) (W:World):Prop:=∃ g,v=.slice (some ⟨g,0,none⟩) 3 3∧SlS W (some ⟨g,0,none⟩) l
theorem OW (l:List Int):Bb (Thr l):=by
 rintro v w w' ⟨g,h1,h2⟩ hx;exact ⟨g,h1,h2.later hx (A3 _)⟩
def Q0 (p q:Edg):Int:=orF [Bt p.1 q.1,Bt p.2.1 q.2.1,Bt p.2.2.1 q.2.2.1]
theorem GW (p q:Edg) (w:World):Calls Tryz.prog 49 #[edV p,edV q] w fun e w'=>e=.returned (.int .i64 (Q0 p q))∧Ext w w':=by
 obtain ⟨p1,p2,p3,p4⟩:=p;obtain ⟨q1,q2,q3,q4⟩:=q;unfold edV Q0
 go_enter Tryz.func49,Tryz.ntmps49
 go_upto_region 1 with fail
 obtain ⟨w1,je⟩:∃ w1,w.alloc (.cells #[.int .i64 p1,.int .i64 p2,.int .i64 p3,.int .i64 p4] 62)=w1:=⟨_,rfl⟩
 rw [je];obtain ⟨w2,jf⟩:∃ w2,w1.alloc (.cells #[.int .i64 q1,.int .i64 q2,.int .i64 q3,.int .i64 q4] 62)=w2:=⟨_,rfl⟩
 rw [jf];have jo:Ext w w1:=by rw [← je];exact (Below.refl _ _).alloc (A3 _) _
 have jp:Ext w1 w2:=by rw [← jf];exact (Below.refl _ _).alloc (A3 _) _
 have hz:w1.heap.size=w.heap.size+1:=by rw [← je];simp
 have b1:w1.heap[w.heap.size]? = some (.cells #[.int .i64 p1,.int .i64 p2,.int .i64 p3,.int .i64 p4] 62 (0,0)):=by rw [← je];exact heap_alloc_new _ _
 have b2:w2.heap[w.heap.size+1]? = some (.cells #[.int .i64 q1,.int .i64 q2,.int .i64 q3,.int .i64 q4] 62 (0,0)):=by rw [← hz,← jf];exact heap_alloc_new _ _
 obtain ⟨ga,jn⟩:∃ ga,w.heap.size=ga:=⟨_,rfl⟩
 rw [jn] at b1 b2 ⊢;have jg:=A0 b1;have jh:=A0 b2;have ji:=A0 jo;have jd:=A0 jp;have jj:=A0 (A5.1 b1).1;have jk:=A0 (A5.1 b2).1;clear je jf jo jp hz b1 b2 jn;refine Am (by kernel_rfl) (Vs [vq (.pointer (some ⟨ga,0,none⟩)),vq (.int .i64 p1),vq (.pointer (some ⟨ga+1,0,none⟩)),vq (.int .i64 q1),vq (.int .i64 (Bt p1 q1)),vq (.pointer (some ⟨ga,1,none⟩)),vq (.int .i64 p2),vq (.pointer (some ⟨ga+1,1,none⟩)),vq (.int .i64 q2),vq (.int .i64 (Bt p2 q2)),vq (.pointer (some ⟨ga,2,none⟩)),vq (.int .i64 p3),vq (.pointer (some ⟨ga+1,2,none⟩)),vq (.int .i64 q3),vq (.int .i64 (Bt p3 q3)),Thr [Bt p1 q1,Bt p2 q2,Bt p3 q3],vq (.int .i64 (orF [Bt p1 q1,Bt p2 q2,Bt p3 q3])),vq (.int .i64 (orF [Bt p1 q1,Bt p2 q2,Bt p3 q3]))]) (fun W=>Ext w2 W) 22 (by kernel_rfl) rfl ?hVx ?hSx ?hS (Ay ?hop) ?hfin
 case hop =>
  refine ⟨?_,?_,?_,?_,?k4,?_,?_,?_,?_,?k9,?_,?_,?_,?_,?k14,?k15,?k16,?_,trivial⟩
  all_goals
   intro A W jc hS jb ja;have jl:Ext w2 W:=hS;have h8:=(Below.block (Ext.trans jd.out jl) _ jj.out).trans jg.out;have h9:=(Below.block jl _ jk.out).trans jh.out;have y0:W.cell? ⟨ga,0,none⟩=some (.int .i64 p1):=by rw [cell_of_row _ _ 0 _ _ _ h8];rfl
   have y1:W.cell? ⟨ga,1,none⟩=some (.int .i64 p2):=by rw [cell_of_row _ _ 1 _ _ _ h8];rfl
   have y2:W.cell? ⟨ga,2,none⟩=some (.int .i64 p3):=by rw [cell_of_row _ _ 2 _ _ _ h8];rfl
   have z0:W.cell? ⟨ga+1,0,none⟩=some (.int .i64 q1):=by rw [cell_of_row _ _ 0 _ _ _ h9];rfl
   have z1:W.cell? ⟨ga+1,1,none⟩=some (.int .i64 q2):=by rw [cell_of_row _ _ 1 _ _ _ h9];rfl
   have z2:W.cell? ⟨ga+1,2,none⟩=some (.int .i64 q3):=by rw [cell_of_row _ _ 2 _ _ _ h9];rfl
   clear h8 h9 jl;have h2:A.tmps.getD 2 undef=.pointer (some ⟨ga,0,none⟩):=ja 2 (by kernel_rfl);have h3:A.tmps.getD 3 undef=.pointer (some ⟨ga+1,0,none⟩):=ja 3 (by kernel_rfl);clear ja;simp [AY,Region.binds,Vs,vq] at jb
  case k4 =>
   refine AX rfl (.inr ⟨85,#[.int .i64 p1,.int .i64 q1],W,by (clear jc hS;simp [go_sem,Act.eval, *]),?_⟩);refine (F6 p1 q1 W).mono ?_;rintro e w' ⟨rfl,rfl⟩;exact ⟨_,rfl,rfl,Ext.refl _⟩
  case k9 =>
   refine AX rfl (.inr ⟨85,#[.int .i64 p2,.int .i64 q2],W,by (clear jc hS;simp [go_sem,Act.eval, *]),?_⟩);refine (F6 p2 q2 W).mono ?_;rintro e w' ⟨rfl,rfl⟩;exact ⟨_,rfl,rfl,Ext.refl _⟩
  case k14 =>
   refine AX rfl (.inr ⟨85,#[.int .i64 p3,.int .i64 q3],W,by (clear jc hS;simp [go_sem,Act.eval, *]),?_⟩);refine (F6 p3 q3 W).mono ?_;rintro e w' ⟨rfl,rfl⟩;exact ⟨_,rfl,rfl,Ext.refl _⟩
  case k15 =>
   refine AX rfl (.inl ⟨_,W.alloc (.cells #[.int .i64 (Bt p1 q1),.int .i64 (Bt p2 q2),.int .i64 (Bt p3 q3)] 3 (0,0)),?_,⟨_,rfl,RK W _ _ _⟩,(Below.refl _ _).alloc (A3 _) _⟩);clear jc hS;simp [go_sem,Act.eval, *]
  case k16 =>
   obtain ⟨g,hg,jr⟩:Thr [Bt p1 q1,Bt p2 q2,Bt p3 q3] (A.tmps[20]?.getD undef) W:=by first | exact jb.2 | exact jb.1 | exact jb.2.1 | exact jb.2.2
   refine AX rfl (.inr ⟨84,#[.slice (some ⟨g,0,none⟩) 3 3],W,by (clear jc hS;simp [go_sem,Act.eval, *]),?_⟩);refine (or_any [Bt p1 q1,Bt p2 q2,Bt p3 q3] (some ⟨g,0,none⟩) 3 W jr (by simp)).mono ?_;rintro e w' ⟨rfl,rfl⟩;exact ⟨_,rfl,rfl,Ext.refl _⟩
  all_goals first
   | (refine AX rfl (.inl ⟨_,W,?_,rfl,Ext.refl _⟩);clear jc hS;simp [go_sem,Act.eval, *];done)
 case hVx=>exact Af (by simp only [AS,List.not_mem_nil,or_false,forall_eq_or_imp,forall_eq];exact ⟨AW _,AW _,AW _,AW _,AW _,AW _,AW _,AW _,AW _,AW _,AW _,AW _,AW _,AW _,AW _,OW _,AW _,AW _⟩)
 case hSx=>exact fun W W' h hx=>Ext.trans h hx
 case hS=>first | exact Ext.refl _ | exact B8 _
 case hfin =>
  intro A W jc jm hS hv ja;obtain ⟨x,hx,hA⟩:=Ag [5,6,7,8,9,10,11,12,13,14,15,16,17,18,19,20,21,4] (by kernel_rfl) jc jm ja;have e4:x 4=.int .i64 (orF [Bt p1 q1,Bt p2 q2,Bt p3 q3]):=(hx 4).trans (hv 17 (by decide));have e21:x 21=.int .i64 (orF [Bt p1 q1,Bt p2 q2,Bt p3 q3]):=(hx 21).trans (hv 16 (by decide));rw [hA];simp only [List.foldl];rw [e4,e21];clear e4 e21;simp only [Act.put,List.setIfInBounds_toArray,List.set_cons_succ,List.set_cons_zero];clear hA hx hv ja jc jm;have jq:=A0 (Ext.trans ji.out (Ext.trans jd.out hS));clear hS
  go_wp2_with fail
  go_ret;exact ⟨rfl,jq.out⟩
end Go.Proofs.YtpljngaejaehcaaGreatDoor
