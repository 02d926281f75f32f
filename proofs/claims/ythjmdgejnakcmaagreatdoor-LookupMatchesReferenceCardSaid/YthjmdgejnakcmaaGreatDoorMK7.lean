/- Texts that the claims share: K29, K30, K15, K18, K19, K20, K32. -/
import Derived.Deep.QuietTactic
import Derived.BigQuiet
import Derived.Test.YthjmdgejnakcmaaGreatDoorMK5
import Derived.Test.YthjmdgejnakcmaaGreatDoorMD6
import Derived.Test.YthjmdgejnakcmaaGreatDoorMD1
import Derived.Test.YthjmdgejnakcmaaGreatDoorMF5
import Derived.Test.YthjmdgejnakcmaaGreatDoorMK6
set_option linter.unusedVariables false
set_option linter.unusedSimpArgs false
namespace Go.Proofs.YthjmdgejnakcmaaGreatDoor
open Go.RowKit Go.WideShapes Fl
def H5 (z:Int):UInt8:=if z % 3=0 then 97 else if z % 3=1 then 98 else 99
def L7 (Z:Nat→Int) (n:Nat):List UInt8:=(List.range n).map fun i=>H5 (Z i)
theorem P8 (Z:Nat→Int) (n:Nat):L7 Z (n+1)=L7 Z n ++ [H5 (Z n)]:=by simp [L7,List.range_succ]
def JP (Z:Nat→Int) (n:Nat):ByteArray:=⟨(L7 Z n).toArray⟩
theorem P9 (Z:Nat→Int) (n:Nat):(JP Z n).size=n:=by simp [JP,L7,ByteArray.size]
theorem Qx (Z:Nat→Int) (n:Nat):bts (JP Z n)=L7 Z n:=rfl
theorem NK (z:Int):97≤(H5 z).toNat∧(H5 z).toNat≤99:=by unfold H5;split;decide;split <;> decide
set_option maxHeartbeats 1600000 in
set_option maxRecDepth 100000 in
theorem
    input_any (Z:Nat→Int) (a:Option Addr) (len cap n:Nat) (w:World) (hZ:Bt w a len Z) (hl:len≤9223372036854775807) (hn:n≤1000) :
  Calls Tryz.prog 14 #[.slice a len cap,.int .i64 (n:Int)] w fun e w'=>e=.returned (.string (JP Z (min len n)))∧Below w.heap.size w w':=by
 have HZ:=A0 hZ;clear hZ
 go_enter Tryz.func14,Tryz.ntmps14
 go_wp2
 go_loopw [6,5] (fun i v wr=>∃ (k:Nat) (x:ByteArray),k≤n∧k≤len∧i=.int .i64 (k:Int)∧v=.string x∧x.data.toList=L7 Z k∧Below w.heap.size w wr) (fun i _ _=>n - (intOf i).toNat)
 case atStart=>exact ⟨0,⟨#[]⟩,Nat.zero_le _,Nat.zero_le _,rfl,rfl,rfl,Below.refl _ _⟩
 case round =>
  obtain ⟨k,x,hk4,hk,rfl,rfl,hx,hB⟩:=hrel
  have HB:=A0 hB;have HX:=A0 hx
  have hzB:=hB.size
  have hxs:x.size=k:=by
   have:=congrArg List.length hx
   simpa [L7] using this
  clear hB hx
  by_cases hlt:k<len
  ·
   by_cases h4:k<n
   ·
    have h4I:(k:Int)<(n:Int):=by omega
    obtain ⟨b,o,ha,hb,h0,z0,z1⟩:=(HZ.out.later HB.out (A3 _)).at hlt
    have hidx:=EO a b o len cap k ha hlt
    have HS:=A0 (P8 Z k)
    obtain ⟨z,hz⟩:∃ z,Z k=z:=⟨_,rfl⟩
    rw [hz] at h0 z0 z1 HS
    clear hz ha
    have hcase:z % 3=0∨z % 3=1∨z % 3=2:=by omega
    rcases hcase with hm | hm | hm
    ·
     have hm2:z.tmod 3=0:=(Int.tmod_eq_emod_of_nonneg z0).trans hm
     have HL:Hid ((ByteArray.extract ⟨#[97,98,99]⟩ 0 1).data.toList=[H5 z]):=by
      show _=_
      have e:H5 z=[97,98,99].getD 0 0:=by unfold H5;rw [hm];rfl
      rw [e];decide
     go_wp2
     go_quiet (fail)
     go_wp2
     go_roundw
     case rel=>exact ⟨k+1,_,by omega,by omega,by go_num,rfl,by rw [HS.out,ByteArray.data_append,Array.toList_append,HX.out,HL.out],below_drewN HB.out _⟩
     case measure=>simp [intOf];omega
    ·
     have hm2:z.tmod 3=1:=(Int.tmod_eq_emod_of_nonneg z0).trans hm
     have HL:Hid ((ByteArray.extract ⟨#[97,98,99]⟩ 1 2).data.toList=[H5 z]):=by
      show _=_
      have e:H5 z=[97,98,99].getD 1 0:=by unfold H5;rw [hm];rfl
      rw [e];decide
     go_wp2
     go_quiet (fail)
     go_wp2
     go_roundw
     case rel=>exact ⟨k+1,_,by omega,by omega,by go_num,rfl,by rw [HS.out,ByteArray.data_append,Array.toList_append,HX.out,HL.out],below_drewN HB.out _⟩
     case measure=>simp [intOf];omega
    ·
     have hm2:z.tmod 3=2:=(Int.tmod_eq_emod_of_nonneg z0).trans hm
     have HL:Hid ((ByteArray.extract ⟨#[97,98,99]⟩ 2 3).data.toList=[H5 z]):=by
      show _=_
      have e:H5 z=[97,98,99].getD 2 0:=by unfold H5;rw [hm];rfl
      rw [e];decide
     go_wp2
     go_quiet (fail)
     go_wp2
     go_roundw
     case rel=>exact ⟨k+1,_,by omega,by omega,by go_num,rfl,by rw [HS.out,ByteArray.data_append,Array.toList_append,HX.out,HL.out],below_drewN HB.out _⟩
     case measure=>simp [intOf];omega
   ·
    have h4I:¬ (k:Int)<(n:Int):=by omega
    have HR:Hid (JP Z (min len n)=x):=by
     show _=_
     have:min len n=k:=by omega
     rw [JP,this,← HX.out]
    go_wp2
    go_ret
    exact ⟨Nh HR.out.symm,HB.out⟩
  ·
   have HR:Hid (JP Z (min len n)=x):=by
    show _=_
    have:min len n=k:=by omega
    rw [JP,this,← HX.out]
   go_wp2
   go_ret
   exact ⟨Nh HR.out.symm,HB.out⟩
def slC (z:Int) (k:Nat):Ch:=⟨UInt8.ofNat (97+k),(z / 7*(k:Int)) % 12⟩
def JQ (z:Int) (k:Nat):Bool:=(1+z % 7) / 2 ^ k % 2 == 1
def H6 (z:Int) (k:Nat):Slt:=((List.range k).filter (JQ z)).map (slC z)
def Ev (z:Int):Slt:=H6 z 3
def Cs (Z:Nat→Int) (n:Nat):List Slt:=(List.range n).map fun i=>Ev (Z i)
theorem PA (z:Int) (k:Nat):H6 z (k+1)=H6 z k ++ (if JQ z k=true then [slC z k] else []):=by
 unfold H6
 rw [List.range_succ,List.filter_append,List.map_append]
 by_cases h:JQ z k=true
 · simp [h]
 · simp [h]
theorem Qy (z:Int) (k:Nat):(H6 z k).length≤k:=by
 unfold H6
 rw [AN]
 exact A8 (List.length_filter_le _ _) (by simp)
theorem MP (Z:Nat→Int) (n:Nat):Cs Z (n+1)=Cs Z n ++ [Ev (Z n)]:=by simp [Cs,List.range_succ]
theorem JR (Z:Nat→Int) (n:Nat):(Cs Z n).length=n:=by simp [Cs]
theorem S8 (x:Nat) (h:x<8):bits .and .i64 (x:Int) 1=((x % 2:Nat):Int):=by
 rcases (show x=0∨x=1∨x=2∨x=3∨x=4∨x=5∨x=6∨x=7 by omega) with rfl | rfl | rfl | rfl | rfl | rfl | rfl | rfl <;> decide
theorem T0 (z:Int) (k:Nat) (z0:0≤z):(bits .and .i64 ((1+z % 7) / 2 ^ k) 1 == 1)=JQ z k:=by
 obtain ⟨n,hn⟩:=Int.eq_ofNat_of_zero_le (show 0≤1+z % 7 by omega)
 have h8:n<8:=by omega
 unfold JQ
 rw [hn]
 have hd:((n:Int) / 2 ^ k)=((n / 2 ^ k:Nat):Int):=by simp
 rw [hd,S8 _ (Nat.lt_of_le_of_lt (Nat.div_le_self _ _) h8),Bool.eq_iff_iff]
 simp only [beq_iff_eq]
 omega
set_option maxHeartbeats 6400000 in
set_option maxRecDepth 100000 in
theorem
    slots_any
         (Z:Nat→Int) (a:Option Addr) (len cap n:Nat) (w:World) (hZ:Bt w a len Z) (hl:len≤9223372036854775807) (hn:n≤1000) :
  Calls Tryz.prog 13 #[.slice a len cap,.int .i64 (n:Int)] w fun e w'=>∃ v,e=.returned v∧Eu w' w.heap.size v (Cs Z (min len n))∧v≠.slice none 0 0∧Below w.heap.size w w':=by
 have HZ:=A0 hZ;clear hZ
 go_enter Tryz.func13,Tryz.ntmps13
 go_wp2_with fail
 have HS0:Hid (Cy (w.alloc (.cells #[] 53)) w.heap.size (.slice (some ⟨w.heap.size,0,none⟩) 0 0) [] []):=⟨Ab.empty BH (heap_alloc_new _ _) (A3 _),rfl,fun k x s h=>by simp at h⟩
 have HB0:Hid (Below w.heap.size w (w.alloc (.cells #[] 53))):=(Below.refl _ _).alloc (A3 _) _
 go_loopg [5,6] n (fun g v5 v6 wr=>∃ i:Nat,v6=.int .i64 (i:Int)∧i≤n∧i≤len∧g=n - i∧Eu wr w.heap.size v5 (Cs Z i)∧v5≠.slice none 0 0∧Below w.heap.size w wr)
 case atStart=>exact ⟨0,rfl,Nat.zero_le _,Nat.zero_le _,rfl,⟨_,HS0.out⟩,by simp,HB0.out⟩
 case round =>
  clear HS0 HB0
  obtain ⟨i,rfl,hi,hil,hgk,⟨Ls,hq⟩,hnn,hb⟩:=hrel
  obtain ⟨a5,c5,hv5, -, -⟩:=hq.own.form
  subst hv5
  have HQ:=A0 hq;have HGK:=A0 hgk;have HB:=A0 hb;have HNN:=A0 hnn
  have hll:Ls.length=i:=by rw [hq.len,JR]
  have HLL:=A0 hll
  clear hq hgk hb hll hnn
  by_cases hlt:i<len
  ·
   by_cases hin:i<n
   ·
    have hinI
         : (i:Int)<(n:Int):=by omega
    obtain ⟨b,o,ha,hb,h0,z0,z1⟩:=(HZ.out.later HB.out (A3 _)).at hlt
    have hidx:=EO a b o len cap i ha hlt
    have HSU:=A0 (MP Z i)
    obtain ⟨z,hz⟩:∃ z,Z i=z:=⟨_,rfl⟩
    rw [hz] at h0 z0 z1 HSU
    clear hz ha
    have hzm:z.tmod 7=z % 7:=Int.tmod_eq_emod_of_nonneg z0
    have hzd:z.tdiv 7=z / 7:=Int.tdiv_eq_ediv_of_nonneg z0
    have HM:=A0 hzm;have HD:=A0 hzd
    have HH0:=A0 h0
    obtain ⟨wo,hwo⟩:∃ wo:World,wo=wr:=⟨wr,rfl⟩
    subst hwo
    have hblt:=(A0 hb)
    go_wp2_with fail
    have HIN:Hid (Ab Cx (wo.alloc (.cells #[] 55)) wo.heap.size (.slice (some ⟨wo.heap.size,0,none⟩) 0 0) []):=Ab.empty Cx (heap_alloc_new _ _) (A3 _)
    have HBI:Hid (Below wo.heap.size wo (wo.alloc (.cells #[] 55))):=(Below.refl _ _).alloc (A3 _) _
    clear hzm hzd h0
    go_loopg [8,9] 3 (fun g v8 v9 wr=>∃ k:Nat,v9=.int .i64 (k:Int)∧k≤3∧g=3 - k∧Ab Cx wr wo.heap.size v8 (H6 z k)∧Below wo.heap.size wo wr)
    case atStart=>exact ⟨0,rfl,Nat.zero_le _,rfl,HIN.out,HBI.out⟩
    case round =>
     clear HIN HBI
     obtain ⟨k,rfl,hk,hgk2,hin2,hbi⟩:=hrel
     obtain ⟨a8,c8,hv8, -, -⟩:=hin2.form
     subst hv8
     have HIN:=A0 hin2;have HBI:=A0 hbi;have HGK2:=A0 hgk2
     have h0:=(hbi.cell (p:=⟨b,o+i,none⟩) hblt.out).trans HH0.out
     have hlen:=Qy z k
     have HTS:=A0 (PA z k)
     obtain ⟨T,hT⟩:∃ T,H6 z k=T:=⟨_,rfl⟩
     rw [hT] at HIN HTS hlen ⊢
     have HT:=A0 hT
     clear hin2 hbi hgk2 hT
     by_cases hk3:k<3
     ·
      have hk3I:(k:Int)<3:=by omega
      have hsh:=T0 z k z0
      cases hhs:JQ z k with
      | false =>
       rw [hhs] at hsh HTS
       have HE:Hid (H6 z (k+1)=T):=by show _=_;rw [HTS.out];simp
       clear hhs
       go_wp2_with fail
       go_roundg (3 - (k+1))
       case measure=>have:=HGK2.out;omega
       case rel=>exact ⟨k+1,by go_num,by omega,rfl,by rw [HE.out];exact HIN.out,HBI.out⟩
      | true =>
       rw [hhs] at hsh HTS
       have HE:Hid (H6 z (k+1)=T ++ [slC z k]):=by show _=_;rw [HTS.out];rfl
       have hzd:=HD.out
       have hzq:(wrap64 (z / 7*(k:Int))).tmod 12=z / 7*(k:Int) % 12:=by
        have h1:0≤z / 7*(k:Int):=Int.mul_nonneg (Int.ediv_nonneg z0 (by decide)) (by omega)
        have h2:z / 7*(k:Int)≤36*3:=Int.mul_le_mul (by omega) (by omega) (by omega) (by decide)
        rw [show wrap64 (z / 7*(k:Int))=z / 7*(k:Int) by unfold wrap64;omega,Int.tmod_eq_emod_of_nonneg h1]
       have henc:([slC z k].flatMap Cx.enc).toArray=#[.int .u8 (97+(k:Int)),.int .i64 (z / 7*(k:Int) % 12)]:=by
        have e:((UInt8.ofNat (97+k)).toNat:Int)=97+(k:Int):=by
         rw [UInt8.toNat_ofNat'];omega
        show #[Value.int .u8 ((UInt8.ofNat (97+k)).toNat:Int),.int .i64 (z / 7*(k:Int) % 12)]=_
        rw [e]
       have HENC:=A0 henc
       obtain ⟨cq,hcq⟩:∃ cq,z / 7*(k:Int) % 12=cq:=⟨_,rfl⟩
       rw [hcq] at hzq HENC
       clear hhs henc hcq
       go_wp2_with (at_builtin;go_loud (refine Aj (v:=.slice a8 T.length c8) EU rfl _ _ rfl rfl (HIN.out.later ((Below.refl _ _).alloc (A3 _) _) (A3 _)) ⟨wr.heap.size,0,none⟩ 1 [slC z k] rfl (An (by rw [HENC.out];exact heap_alloc_new _ _)) (by simp only [AC];omega) (by have:=HBI.out.size;simp only [A6];omega) ?_);intro v16 w16 hown16 hgrow16 hat16;have HO16:=A0 hown16;have HG16:=A0 hgrow16;clear hown16 hgrow16 hat16)
       go_roundg (3 - (k+1))
       case measure=>have:=HGK2.out;omega
       case rel=>exact ⟨k+1,by go_num,by omega,rfl,by rw [HE.out];exact HO16.out,(HBI.out.trans (((Below.refl _ _).alloc (A3 _) _).mono HBI.out.size)).grown HG16.out (by have:=HBI.out.size;simp only [A6];omega) fun q hq=>HIN.out.ge q hq⟩
     ·
      obtain rfl:k=3:=by omega
      have HE:Hid (Ev z=T):=HT.out
      have hx8:ElS wr ⟨a8,T.length,c8⟩ T:=ElS.of HIN.out
      have HX8:=A0 hx8
      have HQ8:=A0 (HQ.out.later HBI.out (A3 _))
      have HB8:Hid (Below w.heap.size w wr):=HB.out.trans (HBI.out.mono HB.out.size)
      clear hx8
      go_wp2_with (at_builtin;go_loud (refine Aj (v:=.slice a5 Ls.length c5) C5 rfl _ _ rfl rfl (HQ8.out.own.later ((Below.refl _ _).alloc (A3 _) _) (A3 _)) ⟨wr.heap.size,0,none⟩ 1 [⟨a8,T.length,c8⟩] rfl (An (heap_alloc_new _ _)) (by have:=HLL.out;simp only [AC];omega) (by have:=HB8.out.size;simp only [A6];omega) ?_);intro v16 w16 hown16 hgrow16 hat16;have HO16:=A0 hown16;have HG16:=A0 hgrow16;clear hown16 hgrow16 hat16)
      go_roundg (n - (i+1))
      case measure=>have:=HGK.out;omega
      case rel =>
       have hxa:Ext wr (wr.alloc (.cells #[.slice a8 T.length c8] 53)):=(Below.refl _ _).alloc (A3 _) _
       have hq16:=Cy.push (HQ8.out.later hxa (A3 _)) HO16.out HG16.out (HX8.out.kc (Kc.of hxa (A3 _)))
       have hsu:=HSU.out
       rw [HE.out] at hsu
       rw [← hsu] at hq16
       exact ⟨i+1,by go_num,by omega,by omega,rfl,⟨_,hq16⟩,(fun e=>by
        have h9:=hq16.len
        rcases hq16.own.blk with ⟨_,h⟩ | ⟨g,c,h,_⟩
        · simp at h
        · rw [h] at e;simp at e),(HB8.out.trans (hxa.mono HB8.out.size)).grown HG16.out (by have:=HB8.out.size;have:=hxa.size;omega) fun q hq=>HQ8.out.own.ge q hq⟩
   ·
    have hinI:¬ (i:Int)<(n:Int):=by omega
    have HR:Hid (Cs Z (min len n)=Cs Z i):=by show _=_;rw [show min len n=i by omega]
    go_wp2_with fail
    go_ret
    exact ⟨_,rfl,by rw [HR.out];exact ⟨_,HQ.out⟩,HNN.out,HB.out⟩
  ·
   have HR:Hid (Cs Z (min len n)=Cs Z i):=by show _=_;rw [show min len n=i by omega]
   go_wp2_with fail
   go_ret
   exact ⟨_,rfl,by rw [HR.out];exact ⟨_,HQ.out⟩,HNN.out,HB.out⟩
open Go.RowKit Go.WideShapes
def Fy (z:Int):UInt8:=if z % 4=0 then 97 else if z % 4=1 then 98 else if z % 4=2 then 65 else 66
def Hx (Z:Nat→Int) (n:Nat):List UInt8:=(List.range n).map fun i=>Fy (Z i)
theorem PB (Z:Nat→Int) (n:Nat):Hx Z (n+1)=Hx Z n ++ [Fy (Z n)]:=by simp [Hx,List.range_succ]
def dwF (Z:Nat→Int) (len:Nat):ByteArray:=⟨(Hx Z (min len 4)).toArray⟩
theorem Qz (Z:Nat→Int) (len:Nat):(dwF Z len).size=min len 4:=by
 show (Hx Z (min len 4)).toArray.size=_
 simp [Hx]
def Cl (Q:Nat→BR):Nat→List ByteArray
 | 0=>[]
 | k+1=>if (Q k).n=0 then Cl Q k else Fh (Cl Q k) (dwF (Q k).Z (Q k).n)
def H8 (Q:Nat→BR) (len n:Nat):List ByteArray:=if Cl Q (min len n)=[] then [⟨#[97]⟩] else Cl Q (min len n)
theorem Ff (Q:Nat→BR):∀ k,(Cl Q k).length≤k
 | 0=>by simp [Cl]
 | k+1=>by
  have h2:=Ff Q k
  rw [Cl]
  split
  · omega
  · have h1:=Pr (Cl Q k) (dwF (Q k).Z (Q k).n);omega
theorem S9 (z:Int):(!(BX ((Fy z).toNat:Int) == 0))=true:=by
 unfold Fy
 split
 · decide
 ·
  split
  · decide
  · split <;> decide
theorem T1 (Z:Nat→Int) (n:Nat) (hn:n≠0):CZ (dwF Z n)=true∧(dwF Z n).size≤4:=by
 have hsz:=Qz Z n
 refine ⟨?_,by omega⟩
 unfold CZ DE G7
 rw [hsz]
 have h1:decide (1≤min n 4)=true:=decide_eq_true (by omega)
 have h2:decide (min n 4≤20)=true:=decide_eq_true (by omega)
 rw [h1,h2]
 simp only [Bool.true_and,List.all_eq_true]
 intro c hc
 have hc2:c∈Hx Z (min n 4):=hc
 obtain ⟨i,_,rfl⟩:=AH.1 hc2
 exact S9 _
theorem L8 (Q:Nat→BR):∀ k,(Cl Q k).Pairwise (fun x y=>ltS x y=true)∧∀ x∈Cl Q k,CZ x=true∧x.size≤4
 | 0=>⟨.nil,fun x hx=>by cases hx⟩
 | k
   + 1=>by
  obtain ⟨h1,h2⟩:=L8 Q k
  rw [Cl]
  split
  · exact ⟨h1,h2⟩
  ·
   rename_i hn
   refine ⟨ins_sorted h1,fun x hx=>?_⟩
   rcases ins_mem.1 hx with rfl | hx
   · exact T1 _ _ hn
   · exact h2 x hx
theorem R3 (Q:Nat→BR) (len n:Nat) (hn:n≤200):CP (H8 Q len n):=by
 have hl:=Ff Q (min len n)
 unfold H8
 split
 · exact MD (by simp) (by simp) (fun x hx=>by rw [AD.1 hx];decide) (by simp)
 ·
  rename_i h
  exact MD (List.length_pos_iff.2 h) (by omega) (fun x hx=>((L8 Q _).2 x hx).1) (L8 Q _).1
theorem SB (Q:Nat→BR) (len n:Nat) (hn:1≤n):(H8 Q len n).length≤n:=by
 have hl:=Ff Q (min len n)
 unfold H8
 split
 · simpa using hn
 · omega
set_option maxHeartbeats 6400000 in
set_option maxRecDepth 100000 in
theorem
    dictionary13_any (Q:Nat→BR) (a:Option Addr) (len cap n:Nat) (w:World) (hQ:FE w a len Q) (hl:len≤9223372036854775807) (hn:n≤1000) :
  Calls Tryz.prog 12 #[.slice a len cap,.int .i64 (n:Int)] w (Ni (H8 Q len n) w):=by
 have HQ:=A0 hQ;clear hQ
 go_enter Tryz.func12,Tryz.ntmps12
 go_wp2_with fail
 have HB0:Hid (Below w.heap.size w (w.alloc (.cells #[] 9))):=(Below.refl _ _).alloc (A3 _) _
 go_loopg [5,6] n (fun g v5 v6 wr=>∃ (k b o c m:Nat),v6=.int .i64 (k:Int)∧k≤n∧k≤len∧g=n - k∧v5=.slice (some ⟨b,o,none⟩) m c∧m=(Cl Q k).length∧Ba wr (some ⟨b,o,none⟩) (Cl Q k)∧(Cl Q k).length≤c∧Below w.heap.size w wr)
 case atStart=>exact ⟨0,w.heap.size,0,0,0,rfl,Nat.zero_le _,Nat.zero_le _,rfl,rfl,rfl,Ba.nil _ _,A3 _,HB0.out⟩
 case round =>
  clear HB0
  obtain ⟨k,b,o,c,m,rfl,hkn,hk,hgk,rfl,hm,hS,hc,hB⟩:=hrel
  have HS:=A0 hS;have HB:=A0 hB;have HGK:=A0 hgk
  have hml:=Ff Q k
  obtain ⟨M,hM⟩:∃ M,Cl Q k=M:=⟨_,rfl⟩
  have HM:=A0 hM
  rw [hM] at hm hc hml HS
  subst hm
  clear hS hB hM hgk
  obtain ⟨wo,hwo⟩:∃ wo:World,wo=wr:=⟨wr,rfl⟩
  subst hwo
  by_cases hlt:k<len
  ·
   by_cases h4
         : k<n
   ·
    have h4I:(k:Int)<(n:Int):=by omega
    obtain ⟨b1,o1,ha,hb1,h0,hb,hbl⟩:=(HQ.out.later HB.out (A3 _)) k hlt
    have hidx:=Kn a b1 o1 len cap k ha hlt
    have HSU:Hid (Cl Q (k+1)=if (Q k).n=0 then M else Fh M (dwF (Q k).Z (Q k).n)):=by show _=_;rw [Cl,HM.out]
    obtain ⟨q,hq⟩:∃ q,Q k=q:=⟨_,rfl⟩
    rw [hq] at h0 hb hbl HSU
    obtain ⟨qa,qn,qc,qZ⟩:=q
    simp only at h0 hb hbl HSU
    have HBY:=A0 hb;have HC0:=A0 h0;have HB1:=A0 hb1;have HIX:=A0 hidx
    clear ha hq hb h0 hb1 hidx
    go_wp2_with fail
    go_loopg [7,8] 4 (fun g v7 v8 wr=>∃ (j:Nat) (x:ByteArray),v8=.int .i64 (j:Int)∧v7=.string x∧j≤4∧j≤qn∧g=4 - j∧x.data.toList=Hx qZ j∧Below wo.heap.size wo wr)
    case atStart=>exact ⟨0,⟨#[]⟩,rfl,rfl,by omega,Nat.zero_le _,rfl,rfl,Below.refl _ _⟩
    case round =>
     obtain ⟨j,x,rfl,rfl,hj4,hj,hgk2,hx,hbw⟩:=hrel
     have HBW:=A0 hbw;have HX:=A0 hx;have HGK2:=A0 hgk2
     have hxs:x.size=j:=by
      have:=congrArg List.length hx
      simpa [Hx] using this
     have h0:=(hbw.cell (p:=⟨b1,o1+k,none⟩) HB1.out).trans HC0.out
     have hidx:=HIX.out
     clear hbw hx hgk2
     by_cases hjl:j<qn
     ·
      by_cases hj3:j<4
      ·
       have hj3I:(j:Int)<4:=by omega
       obtain ⟨b2,o2,ha2,hb2,h2,z0,z1⟩:=(HBY.out.later HBW.out (A3 _)).at hjl
       have hidx2:=EO qa b2 o2 qn qc j ha2 hjl
       have HS2:=A0 (PB qZ j)
       obtain ⟨z,hz⟩:∃ z,qZ j=z:=⟨_,rfl⟩
       rw [hz] at h2 z0 z1 HS2
       clear hz ha2
       have hcase:z % 4=0∨z % 4=1∨z % 4=2∨z % 4=3:=by omega
       rcases hcase with hm | hm | hm | hm
       ·
        have hm2:z.tmod 4=0:=(Int.tmod_eq_emod_of_nonneg z0).trans hm
        have HL:Hid ((ByteArray.extract ⟨#[97,98,65,66]⟩ 0 1).data.toList=[Fy z]):=by
         show _=_
         have e:Fy z=[97,98,65,66].getD 0 0:=by unfold Fy;rw [hm];rfl
         rw [e];decide
        go_wp2_with fail
        go_quiet (fail)
        go_wp2_with fail
        go_roundg (4 - (j+1))
        case measure=>have:=HGK2.out;omega
        case rel=>exact ⟨j+1,_,by go_num,rfl,by omega,by omega,rfl,by rw [HS2.out,ByteArray.data_append,Array.toList_append,HX.out,HL.out],below_drewN HBW.out _⟩
       ·
        have hm2:z.tmod 4=1:=(Int.tmod_eq_emod_of_nonneg z0).trans hm
        have HL:Hid ((ByteArray.extract ⟨#[97,98,65,66]⟩ 1 2).data.toList=[Fy z]):=by
         show _=_
         have e:Fy z=[97,98,65,66].getD 1 0:=by unfold Fy;rw [hm];rfl
         rw [e];decide
        go_wp2_with fail
        go_quiet (fail)
        go_wp2_with fail
        go_roundg (4 - (j+1))
        case measure=>have:=HGK2.out;omega
        case rel=>exact ⟨j+1,_,by go_num,rfl,by omega,by omega,rfl,by rw [HS2.out,ByteArray.data_append,Array.toList_append,HX.out,HL.out],below_drewN HBW.out _⟩
       ·
        have hm2:z.tmod 4=2:=(Int.tmod_eq_emod_of_nonneg z0).trans hm
        have HL:Hid ((ByteArray.extract ⟨#[97,98,65,66]⟩ 2 3).data.toList=[Fy z]):=by
         show _=_
         have e:Fy z=[97,98,65,66].getD 2 0:=by unfold Fy;rw [hm];rfl
         rw [e];decide
        go_wp2_with fail
        go_quiet (fail)
        go_wp2_with fail
        go_roundg (4 - (j+1))
        case measure=>have:=HGK2.out;omega
        case rel=>exact ⟨j+1,_,by go_num,rfl,by omega,by omega,rfl,by rw [HS2.out,ByteArray.data_append,Array.toList_append,HX.out,HL.out],below_drewN HBW.out _⟩
       ·
        have hm2:z.tmod 4=3:=(Int.tmod_eq_emod_of_nonneg z0).trans hm
        have HL:Hid ((ByteArray.extract ⟨#[97,98,65,66]⟩ 3 4).data.toList=[Fy z]):=by
         show _=_
         have e:Fy z=[97,98,65,66].getD 3 0:=by unfold Fy;rw [hm];rfl
         rw [e];decide
        go_wp2_with fail
        go_quiet (fail)
        go_wp2_with fail
        go_roundg (4 - (j+1))
        case measure=>have:=HGK2.out;omega
        case rel=>exact ⟨j+1,_,by go_num,rfl,by omega,by omega,rfl,by rw [HS2.out,ByteArray.data_append,Array.toList_append,HX.out,HL.out],below_drewN HBW.out _⟩
      ·
       have hj3I:¬ (j:Int)<4:=by omega
       have HR:Hid (x=dwF qZ qn):=by
        show _=_
        have hmin:min qn 4=j:=by omega
        refine bytes_inj ?_
        rw [HX.out]
        show _=Hx qZ (min qn 4)
        rw [hmin]
       have HB2:Hid (Below w.heap.size w wr):=HB.out.trans (HBW.out.mono HB.out.size)
       have HS2:Hid (Ba wr (some ⟨b,o,none⟩) M):=HS.out.later HBW.out (A3 _)
       by_cases hq0:qn=0
       ·
        have hx0:x=⟨#[]⟩:=bytes_inj (by rw [HX.out,show j=0 by omega];rfl)
        have HE:Hid (Cl Q (k+1)=M):=by show _=_;rw [HSU.out,if_pos hq0]
        subst hx0
        clear hq0
        go_wp2_with fail
        go_roundg (n - (k+1))
        case measure=>have:=HGK.out;omega
        case rel=>exact ⟨k+1,b,o,c,_,by go_num,by omega,by omega,rfl,rfl,by rw [HE.out],by rw [HE.out];exact HS2.out,by rw [HE.out];exact hc,HB2.out⟩
       ·
        have HE:Hid (Cl Q (k+1)=Fh M x):=by show _=_;rw [HSU.out,if_neg hq0,HR.out]
        have hne:(x.toList == [])=false:=by rw [beq_eq_false_iff_ne,ByteArray.toList_eq,HX.out];intro h;have:=congrArg List.length h;simp [Hx] at this;omega
        have hne2:x.toList≠[]:=by simpa using hne
        clear hq0
        go_wp2_with fail
        refine (insert_any M _ b o c x _ HS2.out rfl hc (by omega)).mono ?_
        rintro e w6 ⟨b6,o6,c6,rfl,hs6,hc6,hb6⟩
        have HB6:=A0 (HB2.out.trans (hb6.mono HB2.out.size));have HS6:=A0 hs6;have HC6:=A0 hc6
        clear hb6 hs6 hc6
        go_wp2_with fail
        go_roundg (n - (k+1))
        case measure=>have:=HGK.out;omega
        case rel=>exact ⟨k+1,b6,o6,c6,_,by go_num,by omega,by omega,rfl,rfl,by rw [HE.out],by rw [HE.out];exact HS6.out,by rw [HE.out];exact HC6.out,HB6.out⟩
     ·
      have hjq:¬ (j:Int)<(qn:Int):=by omega
      have HR:Hid (x=dwF qZ qn):=by
       show _=_
       have hmin:min qn 4=j:=by omega
       refine bytes_inj ?_
       rw [HX.out]
       show _=Hx qZ (min qn 4)
       rw [hmin]
      have HB2:Hid (Below w.heap.size w wr):=HB.out.trans (HBW.out.mono HB.out.size)
      have HS2:Hid (Ba wr (some ⟨b,o,none⟩) M):=HS.out.later HBW.out (A3 _)
      by_cases hq0:qn=0
      ·
       have hx0:x=⟨#[]⟩:=bytes_inj (by rw [HX.out,show j=0 by omega];rfl)
       have HE:Hid (Cl Q (k+1)=M):=by show _=_;rw [HSU.out,if_pos hq0]
       subst hx0
       clear hq0
       go_wp2_with fail
       go_roundg (n - (k+1))
       case measure=>have:=HGK.out;omega
       case rel=>exact ⟨k+1,b,o,c,_,by go_num,by omega,by omega,rfl,rfl,by rw [HE.out],by rw [HE.out];exact HS2.out,by rw [HE.out];exact hc,HB2.out⟩
      ·
       have HE:Hid (Cl Q (k+1)=Fh M x):=by show _=_;rw [HSU.out,if_neg hq0,HR.out]
       have hne:(x.toList == [])=false:=by rw [beq_eq_false_iff_ne,ByteArray.toList_eq,HX.out];intro h;have:=congrArg List.length h;simp [Hx] at this;omega
       have hne2:x.toList≠[]:=by simpa using hne
       clear hq0
       go_wp2_with fail
       refine (insert_any M _ b o c x _ HS2.out rfl hc (by omega)).mono ?_
       rintro e w6 ⟨b6,o6,c6,rfl,hs6,hc6,hb6⟩
       have HB6:=A0 (HB2.out.trans (hb6.mono HB2.out.size));have HS6:=A0 hs6;have HC6:=A0 hc6
       clear hb6 hs6 hc6
       go_wp2_with fail
       go_roundg (n - (k+1))
       case measure=>have:=HGK.out;omega
       case rel=>exact ⟨k+1,b6,o6,c6,_,by go_num,by omega,by omega,rfl,rfl,by rw [HE.out],by rw [HE.out];exact HS6.out,by rw [HE.out];exact HC6.out,HB6.out⟩
   ·
    have h4I:¬ (k:Int)<(n:Int):=by omega
    have HA:Hid (min len n=k):=by show _=_;omega
    by_cases h0:M=[]
    ·
     have HR:Hid (H8 Q len n=[⟨#[97]⟩]):=by show _=_;rw [H8,HA.out,HM.out,if_pos h0]
     subst h0
     go_wp2_with fail
     go_ret
     rw [HR.out]
     have hrow:Ab B8 (wo.alloc (.cells #[.string ⟨#[97]⟩] 9)) 0 (.slice (some ⟨wo.heap.size,0,none⟩) 1 1) [⟨#[97]⟩]:=Ab.one Bd (x:=⟨#[97]⟩) (heap_alloc_new wo _) (Nat.zero_le _)
     exact ⟨wo.heap.size,0,1,rfl,hrow.strs.1,A3 _,HB.out.alloc HB.out.size _⟩
    ·
     have HR:Hid (H8 Q len n=M):=by show _=_;rw [H8,HA.out,HM.out,if_neg h0]
     have hml0:((M.length:Int) == 0)=false:=by
      rw [beq_eq_false_iff_ne]
      have:0<M.length:=List.length_pos_iff.2 h0
      omega
     have hne:M≠[]:=h0
     go_wp2_with fail
     go_ret
     rw [HR.out]
     exact ⟨b,o,c,rfl,HS.out,hc,HB.out⟩
  ·
   have HA:Hid (min len n=k):=by show _=_;omega
   by_cases h0:M=[]
   ·
    have HR:Hid (H8 Q len n=[⟨#[97]⟩]):=by show _=_;rw [H8,HA.out,HM.out,if_pos h0]
    subst h0
    go_wp2_with fail
    go_ret
    rw [HR.out]
    have hrow:Ab B8 (wo.alloc (.cells #[.string ⟨#[97]⟩] 9)) 0 (.slice (some ⟨wo.heap.size,0,none⟩) 1 1) [⟨#[97]⟩]:=Ab.one Bd (x:=⟨#[97]⟩) (heap_alloc_new wo _) (Nat.zero_le _)
    exact ⟨wo.heap.size,0,1,rfl,hrow.strs.1,A3 _,HB.out.alloc HB.out.size _⟩
   ·
    have HR:Hid (H8 Q len n=M):=by show _=_;rw [H8,HA.out,HM.out,if_neg h0]
    have hml0:((M.length:Int) == 0)=false:=by
     rw [beq_eq_false_iff_ne]
     have:0<M.length:=List.length_pos_iff.2 h0
     omega
    have hne:M≠[]:=h0
    go_wp2_with fail
    go_ret
    rw [HR.out]
    exact ⟨b,o,c,rfl,HS.out,hc,HB.out⟩
def SC (D:List Nd) (w:World) (e:Ending) (w':World):Prop:=∃ a1 c1,e=.returned (.slice a1 D.length c1)∧D.length≤c1∧Bs w' a1 D∧Below w.heap.size w w'
def TO (D:List Nd) (w:World) (e:Ending) (w':World):Prop:=∃ a1 c1,e=.returned (.tuple #[.slice a1 D.length c1,.int .i64 0])∧D.length≤c1∧Bs w' a1 D∧Below w.heap.size w w'
theorem T3 (L:List ByteArray) (n:Nat) (a:Option Addr) (cap:Nat) (w:World) (hR:Ba w a L) (hL:n=L.length) (hc:n≤cap) (hd:CP L) :
  Calls Tryz.prog 59 #[.slice a n cap] w (SC (ofF (Ah 0 L)) w):=Sn L n a cap w hR hL hc hd
theorem NL {D:List Nd} {L:List ByteArray} {n:Nat} {a:Option Addr} {cap:Nat} (w:World) (hR:Ba w a L) (hL:n=L.length) (hd:CP L)
  (hof:∀ W,Below w.heap.size w W→Calls Tryz.prog 59 #[.slice a n cap] W (SC D W)) :
  Calls Tryz.prog 30 #[.slice a n cap] w (TO D w):=by
 have HD2:=rdictionary_any L n a cap w hR hL (by have:=hd.2.1;omega)
 rw [FU hd] at HD2
 have HDD:=A0 HD2;have HOF:=A0 hof
 clear hR hd HD2 hof hL
 go_enter Tryz.func30,Tryz.ntmps30
 go_wp2_with fail
 refine HDD.out.mono ?_
 rintro e w1 ⟨rfl,hb⟩
 have HB1:=A0 hb
 clear hb
 go_wp2_with fail
 refine (HOF.out w1 HB1.out).mono ?_
 rintro e w2 ⟨a1,c1,rfl,hc1,h3,hb⟩
 have HB2:=A0 (HB1.out.trans (hb.mono HB1.out.size));have H3:=A0 h3
 clear hb h3
 go_wp2_with fail
 go_ret2
 exact ⟨a1,c1,rfl,hc1,H3.out,HB2.out⟩
theorem PC {D:List Nd} {n:Nat} {a:Option Addr} {cap:Nat} (w:World)
  (hof:Calls Tryz.prog 30 #[.slice a n cap] w (TO D w)) :
  Calls Tryz.prog 11 #[.slice a n cap] w (SC D w):=by
 have HOF:=A0 hof
 clear hof
 go_enter Tryz.func11,Tryz.ntmps11
 go_wp2_with fail
 refine HOF.out.mono ?_
 rintro e w2 ⟨a1,c1,rfl,hc1,h3,hb⟩
 have HB2:=A0 hb;have H3:=A0 h3
 clear hb h3
 go_wp2_with fail
 go_ret
 exact ⟨a1,c1,rfl,hc1,H3.out,HB2.out⟩
theorem PD (L:List ByteArray) (n:Nat) (a:Option Addr) (cap:Nat) (w:World) (hR:Ba w a L) (hL:n=L.length) (hc:n≤cap) (hd:CP L) :
  Calls Tryz.prog 11 #[.slice a n cap] w (SC (ofF (Ah 0 L)) w) :=
 PC w (NL w hR hL hd fun W hW=>T3 L n a cap W (hR.later hW (A3 _)) hL hc hd)
def T5 (R:List Rl) (acc:Int) (L:List Slt) (X:List (List UInt8)) (B:Nat) (e:Ending) (w':World):Prop :=
 ∃ a c l,e=.returned (.slice a l.length c)∧Ab BZ w' B (.slice a l.length c) l∧L3 R acc L X L.length l
set_option maxHeartbeats 6400000 in
set_option maxRecDepth 100000 in
theorem NM (R:List Rl) (modes acc:Int) (aS:Option Addr) (cS:Nat) (D:List Nd) (aD:Option Addr) (cD:Nat) (aL:Option Addr) (L:List Slt) (cL C:Nat) (w:World) (hR:BJ w aS R) (hRl:R.length≤1000) (hO:∀ r∈R,r.out.size≤1000000) (hD:Bs w aD D) (hDl:D.length≤9223372036854775807) (hC:Hs D)
  (hl:(B5 D).length≤1000) (hs:∀ x∈B5 D,x.size≤20) (hinc:((B5 D).map bts).Pairwise fun a b=>Op.bytesLess a b=true) (hL:Bc w aL L) (hLl:L.length≤1000) (hBs:Bq C L) (hCc:C≤1000000)
  (hcost:∀ N i,N≤1+20*(B5 D).length→i≤L.length→8*N*(i*((8*N+1)*(1000+4*C))+(8*N+1)*(1000+4*C)+2)≤900000000000) (ha0:0≤acc) (ha1:acc≤255) :
  Calls Tryz.prog 21 #[.agg #[.int .i64 modes,.int .u8 acc,.slice aS R.length cS],.slice aD D.length cD,.slice aL L.length cL] w fun e w'=>T5 R acc L ((B5 D).map bts) w.heap.size e w'∧Below w.heap.size w w':=by
 obtain ⟨X,hX⟩:∃ X,(B5 D).map bts=X:=⟨_,rfl⟩
 have hns:=fun w1 (hx:Ext w w1)=>ends_any R modes acc aS cS D aD cD aL L cL C w1 (hR.later hx (A3 _)) hRl hO (hD.later hx (A3 _)) hDl hC hl hs hinc (hL.later hx (A3 _)) hLl hBs hCc hcost ha0 ha1
 rw [hX] at hns ⊢
 have HNS:=A0 hns
 clear hR hO hD hC hs hinc hL hBs hcost hns hX
 go_enter Tryz.func21,Tryz.ntmps21
 go_wp2_with fail
 obtain ⟨w1,hw1⟩:∃ w1,w.alloc (.cells #[.int .i64 modes,.int .u8 acc,.slice aS R.length cS] 32)=w1:=⟨_,rfl⟩
 rw [hw1]
 have HX1:Hid (Ext w w1):=by
  show Ext _ _
  rw [← hw1];exact (Below.refl _ _).alloc (A3 _) _
 clear hw1
 refine (HNS.out w1 HX1.out).mono ?_
 rintro e w2 ⟨⟨g,Ls,rfl,hrow,hLs,hfs⟩,hb2⟩
 have hk:L.length<Ls.length:=by omega
 have hcl:=hrow.cell CU hk (j:=0) (by decide)
 have e1:L.length*Bx.k+0=L.length:=by show L.length*1+0=_;omega
 rw [e1] at hcl
 have hcl2:w2.cell? ⟨g,L.length,none⟩=some (.slice Ls[L.length].a Ls[L.length].n Ls[L.length].c):=hcl
 have hix:=H4 g (L.length+1) (L.length+1) L.length (Nat.lt_succ_self _)
 obtain ⟨l,ho,hf⟩:=hfs L.length hk (Nat.lt_succ_self _)
 obtain ⟨a,c,he, -⟩:=ho.form
 have HO:=A0 ho;have HF:=A0 hf;have HE:=A0 he;have HB:=A0 hb2
 clear hrow hfs hLs hcl e1 ho hf he hb2
 go_wp2_with fail
 go_ret
 have he:(.slice Ls[L.length].a Ls[L.length].n Ls[L.length].c:Value)=.slice a l.length c:=HE.out
 rw [he]
 have ho:=HO.out
 rw [show svS Ls[L.length]=_ from he] at ho
 exact ⟨⟨a,c,l,rfl,ho.mono HX1.out.size,HF.out⟩,Below.trans HX1.out (HB.out.mono HX1.out.size)⟩
set_option maxHeartbeats 1600000 in
theorem NN (s:Slt) (a:Option Addr) (c:Nat) (w:World) (hA:Dd w a (chA s)) (hl:s.length≤9223372036854775807) :
  Calls Tryz.prog 50 #[.slice a s.length c] w fun e w'=>e=.returned (.bool (!okS s))∧Below w.heap.size w w':=by
 have hv:=vslot_any s a c w hA hl
 have HV:=A0 hv
 clear hA hv
 go_enter Tryz.func50,Tryz.ntmps50
 go_wp2_with fail
 refine HV.out.mono ?_
 rintro e w1 ⟨rfl,hb⟩
 have HB:=A0 hb
 clear hb
 obtain ⟨r,hr⟩:∃ r,okS s=r:=⟨_,rfl⟩
 rw [hr]
 have HR:=A0 hr
 clear hr
 cases r with
 | true =>
  go_wp2_with fail
  go_ret
  exact ⟨Ae (by rw [HR.out];rfl),HB.out⟩
 | false =>
  go_wp2_with fail
  go_ret
  exact ⟨Ae (by rw [HR.out];rfl),HB.out⟩
set_option maxHeartbeats 1600000 in
theorem
    idx_valid_any (L:List Slt) (a:Option Addr) (cap:Nat) (w:World) (hX:Bc w a L) (hl:L.length≤9223372036854775807) :
  Calls Tryz.prog 79 #[.slice a L.length cap,.func (.func 50) #[] #[]] w fun e w'=>(∃ i:Int,e=.returned (.int .i64 i)∧decide (0≤i)=!L.all okS)∧Below w.heap.size w w':=by
 have HX:=A0 hX;clear hX
 go_enter Tryz.func79,Tryz.ntmps79
 go_wp2
 go_loopg [8] L.length (fun g v8 wr=>∃ j:Nat,v8=.int .i64 (j:Int)∧j≤L.length∧g=L.length - j∧(L.take j).all okS=true∧Below w.heap.size w wr)
 case atStart=>exact ⟨0,rfl,Nat.zero_le _,rfl,rfl,Below.refl _ _⟩
 case round =>
  obtain ⟨j,rfl,hj,hgk,ht,hB⟩:=hrel
  have HT:=A0 ht;have HB:=A0 hB;have HGK:=A0 hgk
  clear ht hB hgk
  by_cases hlj:j<L.length
  ·
   obtain ⟨b1,o1,ha1,hb1,aa,cc,q0,hle,harc⟩:=(HX.out.later HB.out (A3 _)).at hlj
   have hi1:=FX a b1 o1 L.length cap j ha1 hlj
   have hv:=NN L[j] aa cc wr harc hle
   have HTK:Hid (L.take (j+1)=L.take j ++ [L[j]]):=AO hlj
   have HME:Hid (L[j]∈L):=AG hlj
   obtain ⟨s,hs⟩:∃ s,L[j]=s:=⟨_,rfl⟩
   rw [hs] at hv q0 HTK HME
   have HV:=A0 hv
   clear ha1 hs harc hv hle
   go_wp2_with fail
   refine HV.out.mono ?_
   rintro e w1 ⟨rfl,hb⟩
   have HB1:Hid (Below w.heap.size w w1):=HB.out.trans (hb.mono HB.out.size)
   clear hb
   obtain ⟨r,hr⟩:∃ r,okS s=r:=⟨_,rfl⟩
   rw [hr]
   have HR:=A0 hr
   clear hr
   cases r with
   | false =>
    have HN:Hid (L.all okS=false):=by
     show _=_
     cases e:L.all okS with
     | false=>rfl
     | true=>have:=List.all_eq_true.1 e s HME.out;rw [HR.out] at this;cases this
    go_wp2_with fail
    go_ret
    exact ⟨⟨_,rfl,by rw [HN.out];simp⟩,HB1.out⟩
   | true =>
    go_wp2_with fail
    go_roundg (L.length - (j+1))
    case measure=>have:=HGK.out;omega
    case rel=>exact ⟨j+1,by go_num,by omega,rfl,by rw [HTK.out,List.all_append,HT.out];simp [HR.out],HB1.out⟩
  ·
   have HN:Hid (L.all okS=true):=by
    have h:=HT.out
    rw [AF (by omega)] at h
    exact h
   go_wp2_with fail
   go_ret
   exact ⟨⟨_,rfl,by rw [HN.out];rfl⟩,HB.out⟩
set_option maxHeartbeats 1600000 in
theorem JS (L:List Slt) (a:Option Addr) (cap:Nat) (w:World) (hX:Bc w a L) (hl:L.length≤9223372036854775807) :
  Calls Tryz.prog 49 #[.slice a L.length cap,.func (.func 50) #[] #[]] w fun e w'=>e=.returned (.bool (!L.all okS))∧Below w.heap.size w w':=by
 have hv:=idx_valid_any L a cap w hX hl
 have HV:=A0 hv
 clear hX hv
 go_enter Tryz.func49,Tryz.ntmps49
 go_wp2_with fail
 refine HV.out.mono ?_
 rintro e w1 ⟨⟨i,rfl,hi⟩,hb⟩
 have HB:=A0 hb;have HI:=A0 hi
 clear hb hi
 go_wp2_with fail
 go_ret
 exact ⟨Ae HI.out,HB.out⟩
set_option maxHeartbeats 1600000 in
theorem GR (L:List Slt) (a:Option Addr) (cap:Nat) (w:World) (hX:Bc w a L) (hl:L.length≤9223372036854775807) :
  Calls Tryz.prog 26 #[.slice a L.length cap] w fun e w'=>e=.returned (.bool (validB L))∧Below w.heap.size w w':=by
 have hv:=JS L a cap w hX hl
 have HV:=A0 hv
 clear hX hv
 by_cases h40:40<L.length
 ·
  have h40I:(40:Int)<(L.length:Int):=by omega
  have HR:Hid (validB L=false):=by show _=_;unfold validB;simp;omega
  go_enter Tryz.func26,Tryz.ntmps26
  go_wp2_with fail
  go_ret
  exact ⟨Ae HR.out.symm,Below.refl _ _⟩
 ·
  have h40I:¬ (40:Int)<(L.length:Int):=by omega
  have HR:Hid (validB L=L.all okS):=by show _=_;unfold validB;rw [decide_eq_true (by omega)];rfl
  go_enter Tryz.func26,Tryz.ntmps26
  go_wp2_with fail
  refine HV.out.mono ?_
  rintro e w1 ⟨rfl,hb⟩
  have HB:=A0 hb
  clear hb
  obtain ⟨r,hr⟩:∃ r,L.all okS=r:=⟨_,rfl⟩
  have HR2:Hid (validB L=r):=HR.out.trans hr
  rw [hr]
  clear hr HV HR
  cases r with
  | true =>
   go_wp2_with fail
   go_ret
   exact ⟨Ae HR2.out.symm,HB.out⟩
  | false =>
   go_wp2_with fail
   go_ret
   exact ⟨Ae HR2.out.symm,HB.out⟩
def Ey (w:World) (a:Option Addr) (l:List (Nat × Nat)):Prop:=∀ k (hk:k<l.length),∃ b o,a=some ⟨b,o,none⟩∧b<w.heap.size∧w.cell? ⟨b,o+k*2,none⟩=some (.int .i64 (l[k].1:Int))∧w.cell? ⟨b,o+k*2+1,none⟩=some (.int .i64 (l[k].2:Int))
theorem Ey.kp {w w1:World} {a:Option Addr} {l:List (Nat × Nat)} (h:Ey w a l) (hk:Kc w w1):Ey w1 a l:=fun k hl=>by
 obtain ⟨b,o,ha,h1,h2,h3⟩:=h k hl
 exact ⟨b,o,ha,A7 h1 hk.size,hk.cell h2,hk.cell h3⟩
theorem Ey.later {w w1:World} {a:Option Addr} {l:List (Nat × Nat)} {B:Nat} (h:Ey w a l) (hb:Below B w w1) (hB:w.heap.size≤B):Ey w1 a l:=h.kp (Kc.of hb hB)
theorem Ey.at {w:World} {a:Option Addr} {l:List (Nat × Nat)} (h:Ey w a l) {k:Nat} (hk:k<l.length):∃ b o,a=some ⟨b,o,none⟩∧b<w.heap.size∧w.cell? ⟨b,o+k*2,none⟩=some (.int .i64 (l[k].1:Int))∧w.cell? ⟨b,o+k*2+1,none⟩=some (.int .i64 (l[k].2:Int)):=h k hk
theorem Ab.fnds {w:World} {B:Nat} {a:Option Addr} {n c:Nat} {L:List (Nat × Nat)} (h:Ab BZ w B (.slice a n c) L):Ey w a L∧n=L.length∧L.length≤c:=by
 obtain ⟨a',c',he,hc,_⟩:=h.form
 injection he with e1 e2 e3
 refine ⟨fun k hk=>?_,e2,by omega⟩
 rcases h.blk with ⟨_,rfl⟩ | ⟨g,c2,he2,_,hg,_⟩
 · simp at hk
 ·
  injection he2 with f1 f2 f3
  subst f1
  refine ⟨g,0,rfl,hg,?_,?_⟩
  ·
   have:=h.cell ET hk (j:=0) (by decide)
   simpa [BZ] using this
  ·
   have:=h.cell ET hk (j:=1) (by decide)
   simpa [BZ] using this
theorem O1 (a:Option Addr) (b o len cap k:Nat) (ha:a=some ⟨b,o,none⟩) (hk:k<len) (w:World) :
  (Instr.indexAt 48 (.slice a len cap) (.int .i64 (k:Int))).run Tryz.prog w=.ok (.pointer (some ⟨b,o+k*2,none⟩)) w:=by
 subst ha
 have h0:(0:Int)≤(k:Int):=by omega
 have h1:(k:Int)<(len:Int):=by omega
 simp [go_sem,h0,h1]
set_option maxHeartbeats 3200000 in
set_option maxRecDepth 100000 in
theorem
    fsame_any (D E:List (Nat × Nat)) (a b:Option Addr) (c d:Nat) (w:World) (hX:Ey w a D) (hY:Ey w b E) (hl1:D.length≤9223372036854775807) (hl2:E.length≤9223372036854775807) :
  Calls Tryz.prog 20 #[.slice a D.length c,.slice b E.length d] w fun e w'=>e=.returned (.bool (decide (D=E)))∧Below w.heap.size w w':=by
 have HX:=A0 hX;have HY:=A0 hY;clear hX hY
 by_cases hl:D.length=E.length
 ·
  have hlI:((D.length:Int) != (E.length:Int))=false:=by simp [hl]
  have HL:=A0 hl
  clear hl
  go_enter Tryz.func20,Tryz.ntmps20
  go_wp2
  go_loopg [5] D.length (fun g v5 wr=>∃ k:Nat,v5=.int .i64 (k:Int)∧k≤D.length∧g=D.length - k∧D.take k=E.take k∧Below w.heap.size w wr)
  case atStart=>exact ⟨0,rfl,Nat.zero_le _,rfl,rfl,Below.refl _ _⟩
  case round =>
   obtain ⟨k,rfl,hk,hgk,ht,hB⟩:=hrel
   have HT:=A0 ht;have HB:=A0 hB;have HGK:=A0 hgk
   clear ht hB hgk
   by_cases hlt:k<D.length
   ·
    have hlt2:k<E.length:=by have:=HL.out;omega
    obtain ⟨b1,o1,ha1,hb1,q0,q1⟩:=(HX.out.later HB.out (A3 _)).at hlt
    obtain ⟨b2,o2,ha2,hb2,p0,p1⟩:=(HY.out.later HB.out (A3 _)).at hlt2
    have hi1:=O1 a b1 o1 D.length c k ha1 hlt
    have hi2:=O1 b b2 o2 E.length d k ha2 hlt2
    have HT1:Hid (D.take (k+1)=D.take k ++ [D[k]]):=AO hlt
    have HT2:Hid (E.take (k+1)=E.take k ++ [E[k]]):=AO hlt2
    have HNO:Hid (D[k]≠E[k]→decide (D=E)=false):=fun hne=>decide_eq_false fun h=>by
     subst h;exact hne rfl
    obtain ⟨⟨x1,x2⟩,hx⟩:∃ x,D[k]=x:=⟨_,rfl⟩
    obtain ⟨⟨y1,y2⟩,hy⟩:∃ y,E[k]=y:=⟨_,rfl⟩
    rw [hx] at q0 q1 HT1 HNO
    rw [hy] at p0 p1 HT2 HNO
    simp only at q0 q1 p0 p1
    clear ha1 ha2 hx hy
    by_cases hf:x1=y1
    ·
     subst hf
     by_cases hg:x2=y2
     ·
      subst hg
      go_wp2
      go_quiet (fail)
      go_wp2
      go_roundg (D.length - (k+1))
      case measure=>have:=HGK.out;omega
      case rel=>exact ⟨k+1,by go_num,by omega,rfl,by rw [HT1.out,HT2.out,HT.out],below_drewN HB.out _⟩
     ·
      have hg2:((x2:Int) == (y2:Int))=false:=by simpa using fun h=>hg (by omega)
      have HR:=A0 (HNO.out fun e=>hg (by injection e))
      go_wp2
      go_quiet (fail)
      go_wp2
      go_ret
      exact ⟨Ae HR.out.symm,below_drewN HB.out _⟩
    ·
     have hg2:((x1:Int) == (y1:Int))=false:=by simpa using fun h=>hf (by omega)
     have HR:=A0 (HNO.out fun e=>hf (by injection e))
     go_wp2
     go_quiet (fail)
     go_wp2
     go_ret
     exact ⟨Ae HR.out.symm,below_drewN HB.out _⟩
   ·
    have HR:Hid (decide (D=E)=true):=decide_eq_true (by
     have h:=HT.out
     have h2:=HL.out
     rw [AF (by omega),AF (by omega)] at h
     exact h)
    go_wp2
    go_ret
    exact ⟨Ae HR.out.symm,HB.out⟩
 ·
  have hlI:((D.length:Int) == (E.length:Int))=false:=by simpa using fun h=>hl (by omega)
  have HR:Hid (decide (D=E)=false):=decide_eq_false fun h=>hl (by rw [h])
  go_enter Tryz.func20,Tryz.ntmps20
  go_wp2
  go_ret
  exact ⟨Ae HR.out.symm,Below.refl _ _⟩
theorem SD {s:Slt} (h1:1≤s.length) (h2:s.length≤8) (h:(List.range s.length).all (okC s)=true):okS s=true:=by
 unfold okS;rw [h];simp;omega
theorem NO {L:List Slt} {k:Nat} (hk:k<L.length) (h:okS L[k]=false):validB L=false:=by
 unfold validB
 have:L.all okS=false:=by
  cases e:L.all okS with
  | false=>rfl
  | true=>have:=List.all_eq_true.1 e _ (AG hk);rw [h] at this;cases this
 rw [this];simp
theorem DN {w W:World} {g:Nat} {k c:Int} (hX:Ext w W) (h:w.heap[g]? = some (.cells #[.int .u8 k,.int .i64 c] 55 (0,0))):W.cell? ⟨g,0,none⟩=some (.int .u8 k)∧W.cell? ⟨g,1,none⟩=some (.int .i64 c):=by
 have h2:=(Below.block hX g (A5.1 h).1).trans h
 refine ⟨?_,?_⟩ <;> (rw [cell_of_row W g _ _ _ (0,0) h2];rfl)
set_option maxHeartbeats 6400000 in
set_option maxRecDepth 100000 in
theorem
    Bj (L:List Slt) (a:Option Addr) (cap:Nat) (w:World) (hX:Bc w a L) (hl:L.length≤9223372036854775807) :
  Calls Tryz.prog 17 #[.slice a L.length cap] w fun e w'=>e=.returned (.bool (validB L))∧Below w.heap.size w w':=by
 have HX:=A0 hX;clear hX
 go_enter Tryz.func17,Tryz.ntmps17
 go_wp2
 go_loopg [3] L.length (fun g v3 wr=>∃ i:Nat,v3=.int .i64 (i:Int)∧i≤L.length∧g=L.length - i∧(L.take i).all okS=true∧Below w.heap.size w wr)
 case atStart=>exact ⟨0,rfl,Nat.zero_le _,rfl,rfl,Below.refl _ _⟩
 case round =>
  obtain ⟨i,rfl,hi,hgk,ht,hB⟩:=hrel
  have HT:=A0 ht;have HB:=A0 hB;have HGK:=A0 hgk
  clear ht hB hgk
  by_cases hlt:i<L.length
  ·
   obtain ⟨
       b1,
         o1,ha1,hb1,aa,cc,q0,hle,harc⟩:=(HX.out.later HB.out (A3 _)).at hlt
   have hi1:=FX a b1 o1 L.length cap i ha1 hlt
   have HTK:Hid (L.take (i+1)=L.take i ++ [L[i]]):=AO hlt
   have HBAD:Hid (okS L[i]=false→validB L=false):=fun h=>NO hlt h
   obtain ⟨s,hs⟩:∃ s,L[i]=s:=⟨_,rfl⟩
   rw [hs] at q0 HTK HBAD hle harc
   have HA:=A0 harc
   have HQ0:=A0 q0
   clear hs harc ha1
   by_cases h1:s.length<1
   ·
    have HR:Hid (validB L=false):=HBAD.out (by unfold okS;simp;omega)
    have h1I:(s.length:Int)<1:=by omega
    go_wp2_with fail
    go_ret
    exact ⟨Ae HR.out.symm,HB.out⟩
   have h1I:¬ (s.length:Int)<1:=by omega
   by_cases h2:8<s.length
   ·
    have HR:Hid (validB L=false):=HBAD.out (by unfold okS;simp;omega)
    have h2I:(8:Int)<(s.length:Int):=by omega
    go_wp2_with fail
    go_ret
    exact ⟨Ae HR.out.symm,HB.out⟩
   have h2I:¬ (8:Int)<(s.length:Int):=by omega
   go_wp2_with fail
   clear q0
   obtain ⟨wo,hwo⟩:∃ wo:World,wo=wr:=⟨wr,rfl⟩
   subst hwo
   go_loopg [4] s.length (fun g v4 wt=>∃ j:Nat,v4=.int .i64 (j:Int)∧j≤s.length∧g=s.length - j∧(List.range j).all (okC s)=true∧Below wo.heap.size wo wt)
   case atStart=>exact ⟨0,rfl,Nat.zero_le _,rfl,rfl,Below.refl _ _⟩
   case round =>
    obtain ⟨j,rfl,hj,hgk,hall,hb⟩:=hrel
    have HALL:=A0 hall;have HB2:=A0 hb;have HGK2:=A0 hgk
    have q0:=(HB2.out.cell (p:=⟨b1,o1+i,none⟩) hb1).trans HQ0.out
    have hb1':b1<wr.heap.size:=A7 hb1 hb.size
    have HBW:Hid (Below w.heap.size w wr):=HB.out.trans (hb.mono HB.out.size)
    clear hall hb hgk
    by_cases hlt:j<s.length
    ·
     obtain ⟨
         b2,o2,ha2,hb2,p0,p1⟩:=(HA.out.later HB2.out (A3 _)).ch hlt
     have hi2:=Eg aa b2 o2 s.length cc j ha2 hlt
     have HOK:=A0 (Nz hlt)
     obtain ⟨kI,hkI⟩:∃ kI:Int,(s[j].key.toNat:Int)=kI:=⟨_,rfl⟩
     obtain ⟨cI,hcI⟩:∃ cI:Int,s[j].cost=cI:=⟨_,rfl⟩
     rw [hkI] at p0
     rw [hcI] at p1
     have HKI:=A0 hkI;have HCI:=A0 hcI
     clear hkI hcI ha2
     by_cases g1:kI<97
     ·
      have HR:Hid (validB L=false):=HBAD.out (DR hlt (by
       cases e:okC s j with
       | false=>rfl
       | true=>have:=HOK.out.1 e;have:=HKI.out;omega))
      go_wp2_with fail
      obtain ⟨w5,hw5⟩:∃ w5,wr.alloc (.cells #[.int .u8 kI,.int .i64 cI] 55)=w5:=⟨_,rfl⟩
      have HX5:Hid (Ext wr w5):=by show Ext _ _;rw [← hw5];exact (Below.refl _ _).alloc (A3 _) _
      have HC5:Hid (w5.heap[wr.heap.size]? = some (.cells #[.int .u8 kI,.int .i64 cI] 55 (0,0))):=by show _=_;rw [← hw5];exact heap_alloc_new _ _
      rw [hw5]
      clear hw5
      refine Ag (by kernel_rfl) (Vs [vq (.pointer (some ⟨wr.heap.size,0,none⟩)),vq (.int .u8 kI),vq (.bool true),vq (.bool true),vq (undef),vq (undef),vq (undef),vq (.bool true),vq (.bool true),vq (undef),vq (undef),vq (undef),vq (.bool true),vq (.bool true),vq (undef),vq (undef),vq (undef),vq (.bool true),vq (.bool true),vq (undef),vq (undef),vq (undef),vq (undef),vq (undef),vq (undef),vq (undef),vq (undef),vq (undef),vq (undef),vq (undef),vq (undef),vq (undef),vq (undef),vq (undef),vq (undef),vq (.bool true)]) (fun W=>Ext w5 W) 81 (by kernel_rfl) rfl ?hVx ?hSx ?hS (Ao ?hop) ?hfin
      case hop =>
       refine ⟨?_,?_,?_,?_,?_,?_,?_,?_,?_,?_,?_,?_,?_,?_,?_,?_,?_,?_,?_,?_,?_,?_,?_,?_,?_,?_,?_,?_,?_,?_,?_,?_,?_,?_,?_,?_,trivial⟩
       all_goals
        intro A W hsz hS hdep hbase
        obtain ⟨d0,d1⟩:=DN hS HC5.out
        have h0:A.tmps.getD 0 undef=.slice a L.length cap:=hbase 0 (by kernel_rfl)
        have h3:A.tmps.getD 3 undef=.int .i64 (i:Int):=hbase 3 (by kernel_rfl)
        have h4:A.tmps.getD 4 undef=.int .i64 (j:Int):=hbase 4 (by kernel_rfl)
        have h5:A.tmps.getD 5 undef=.pointer (some ⟨wr.heap.size,0,none⟩):=hbase 5 (by kernel_rfl)
        clear hbase
        simp [Aa,Region.binds,Vs,vq] at hdep
       all_goals first
        | (refine AZ rfl (.inl ⟨_,W,?_,rfl,Ext.refl _⟩);clear hsz hS;simp [go_sem,Act.eval, *];done)
        | exact Av (j:=3) (d:=45) (b:=true) rfl (by kernel_rfl) (by simp only [hdep]) rfl rfl
        | exact Av (j:=8) (d:=50) (b:=true) rfl (by kernel_rfl) (by simp only [hdep]) rfl rfl
        | exact Av (j:=13) (d:=55) (b:=true) rfl (by kernel_rfl) (by simp only [hdep]) rfl rfl
        | exact Av (j:=18) (d:=60) (b:=true) rfl (by kernel_rfl) (by simp only [hdep]) rfl rfl
        | exact CG (j:=21) (d:=63) rfl (by kernel_rfl) (by simp only [hdep]) rfl
      case hVx=>exact Ac (by simp only [AU,List.not_mem_nil,or_false,forall_eq_or_imp,forall_eq];and_intros <;> exact AY _)
      case hSx=>exact fun W W' h hx=>Ext.trans h hx
      case hS=>exact Ext.refl _
      case hfin =>
       intro A W hsz hdf hS hv hbase
       obtain ⟨x,hx,hA⟩:=Af [42,43,44,45,46,47,48,49,50,51,52,53,54,55,56,57,58,59,60,61,62,63,64,65,66,67,68,69,70,71,72,73,74,75,76,77] (by kernel_rfl) hsz hdf hbase
       have e77:x 77=.bool true:=(hx 77).trans (hv 35 (by decide))
       rw [hA]
       simp only [List.foldl]
       rw [e77]
       clear e77
       simp only [Act.put,List.setIfInBounds_toArray,List.set_cons_succ,List.set_cons_zero]
       clear hA hx hv hbase hsz hdf
       have HS0:Hid (Ext w5 W):=hS
       clear hS
       go_wp2_with fail
       go_ret
       exact ⟨Ae HR.out.symm,HBW.out.trans (Below.mono (Ext.trans HX5.out HS0.out) HBW.out.size)⟩
     by_cases g2:122<kI
     ·
      have HR:Hid (validB L=false):=HBAD.out (DR hlt (by
       cases e:okC s j with
       | false=>rfl
       | true=>have:=HOK.out.1 e;have:=HKI.out;omega))
      go_wp2_with fail
      obtain ⟨w5,hw5⟩:∃ w5,wr.alloc (.cells #[.int .u8 kI,.int .i64 cI] 55)=w5:=⟨_,rfl⟩
      have HX5:Hid (Ext wr w5):=by show Ext _ _;rw [← hw5];exact (Below.refl _ _).alloc (A3 _) _
      have HC5:Hid (w5.heap[wr.heap.size]? = some (.cells #[.int .u8 kI,.int .i64 cI] 55 (0,0))):=by show _=_;rw [← hw5];exact heap_alloc_new _ _
      rw [hw5]
      clear hw5
      refine Ag (by kernel_rfl) (Vs [vq (.pointer (some ⟨wr.heap.size,0,none⟩)),vq (.int .u8 kI),vq (.bool false),vq (.bool false),vq (.pointer (some ⟨wr.heap.size,0,none⟩)),vq (.int .u8 kI),vq (.bool true),vq (.bool true),vq (.bool true),vq (undef),vq (undef),vq (undef),vq (.bool true),vq (.bool true),vq (undef),vq (undef),vq (undef),vq (.bool true),vq (.bool true),vq (undef),vq (undef),vq (undef),vq (undef),vq (undef),vq (undef),vq (undef),vq (undef),vq (undef),vq (undef),vq (undef),vq (undef),vq (undef),vq (undef),vq (undef),vq (undef),vq (.bool true)]) (fun W=>Ext w5 W) 81 (by kernel_rfl) rfl ?hVx ?hSx ?hS (Ao ?hop) ?hfin
      case hop =>
       refine ⟨?_,?_,?_,?_,?_,?_,?_,?_,?_,?_,?_,?_,?_,?_,?_,?_,?_,?_,?_,?_,?_,?_,?_,?_,?_,?_,?_,?_,?_,?_,?_,?_,?_,?_,?_,?_,trivial⟩
       all_goals
        intro A W hsz hS hdep hbase
        obtain ⟨d0,d1⟩:=DN hS HC5.out
        have h0:A.tmps.getD 0 undef=.slice a L.length cap:=hbase 0 (by kernel_rfl)
        have h3:A.tmps.getD 3 undef=.int .i64 (i:Int):=hbase 3 (by kernel_rfl)
        have h4:A.tmps.getD 4 undef=.int .i64 (j:Int):=hbase 4 (by kernel_rfl)
        have h5:A.tmps.getD 5 undef=.pointer (some ⟨wr.heap.size,0,none⟩):=hbase 5 (by kernel_rfl)
        clear hbase
        simp [Aa,Region.binds,Vs,vq] at hdep
       all_goals first
        | (refine AZ rfl (.inl ⟨_,W,?_,rfl,Ext.refl _⟩);clear hsz hS;simp [go_sem,Act.eval, *];done)
        | (refine Ad (j:=3) (d:=45) (b:=false) rfl (by kernel_rfl) (by simp only [hdep]) rfl (.inl ⟨_,W,?_,rfl,Ext.refl _⟩);clear hsz hS;simp [go_sem,Act.eval, *];done)
        | exact Av (j:=8) (d:=50) (b:=true) rfl (by kernel_rfl) (by simp only [hdep]) rfl rfl
        | exact Av (j:=13) (d:=55) (b:=true) rfl (by kernel_rfl) (by simp only [hdep]) rfl rfl
        | exact Av (j:=18) (d:=60) (b:=true) rfl (by kernel_rfl) (by simp only [hdep]) rfl rfl
        | exact CG (j:=21) (d:=63) rfl (by kernel_rfl) (by simp only [hdep]) rfl
      case hVx=>exact Ac (by simp only [AU,List.not_mem_nil,or_false,forall_eq_or_imp,forall_eq];and_intros <;> exact AY _)
      case hSx=>exact fun W W' h hx=>Ext.trans h hx
      case hS=>exact Ext.refl _
      case hfin =>
       intro A W hsz hdf hS hv hbase
       obtain ⟨x,hx,hA⟩:=Af [42,43,44,45,46,47,48,49,50,51,52,53,54,55,56,57,58,59,60,61,62,63,64,65,66,67,68,69,70,71,72,73,74,75,76,77] (by kernel_rfl) hsz hdf hbase
       have e77:x 77=.bool true:=(hx 77).trans (hv 35 (by decide))
       rw [hA]
       simp only [List.foldl]
       rw [e77]
       clear e77
       simp only [Act.put,List.setIfInBounds_toArray,List.set_cons_succ,List.set_cons_zero]
       clear hA hx hv hbase hsz hdf
       have HS0:Hid (Ext w5 W):=hS
       clear hS
       go_wp2_with fail
       go_ret
       exact ⟨Ae HR.out.symm,HBW.out.trans (Below.mono (Ext.trans HX5.out HS0.out) HBW.out.size)⟩
     by_cases g3:cI<0
     ·
      have HR:Hid (validB L=false):=HBAD.out (DR hlt (by
       cases e:okC s j with
       | false=>rfl
       | true=>have:=HOK.out.1 e;have:=HCI.out;omega))
      go_wp2_with fail
      obtain ⟨w5,hw5⟩:∃ w5,wr.alloc (.cells #[.int .u8 kI,.int .i64 cI] 55)=w5:=⟨_,rfl⟩
      have HX5:Hid (Ext wr w5):=by show Ext _ _;rw [← hw5];exact (Below.refl _ _).alloc (A3 _) _
      have HC5:Hid (w5.heap[wr.heap.size]? = some (.cells #[.int .u8 kI,.int .i64 cI] 55 (0,0))):=by show _=_;rw [← hw5];exact heap_alloc_new _ _
      rw [hw5]
      clear hw5
      refine Ag (by kernel_rfl) (Vs [vq (.pointer (some ⟨wr.heap.size,0,none⟩)),vq (.int .u8 kI),vq (.bool false),vq (.bool false),vq (.pointer (some ⟨wr.heap.size,0,none⟩)),vq (.int .u8 kI),vq (.bool false),vq (.bool false),vq (.bool false),vq (.pointer (some ⟨wr.heap.size,1,none⟩)),vq (.int .i64 cI),vq (.bool true),vq (.bool true),vq (.bool true),vq (undef),vq (undef),vq (undef),vq (.bool true),vq (.bool true),vq (undef),vq (undef),vq (undef),vq (undef),vq (undef),vq (undef),vq (undef),vq (undef),vq (undef),vq (undef),vq (undef),vq (undef),vq (undef),vq (undef),vq (undef),vq (undef),vq (.bool true)]) (fun W=>Ext w5 W) 81 (by kernel_rfl) rfl ?hVx ?hSx ?hS (Ao ?hop) ?hfin
      case hop =>
       refine ⟨?_,?_,?_,?_,?_,?_,?_,?_,?_,?_,?_,?_,?_,?_,?_,?_,?_,?_,?_,?_,?_,?_,?_,?_,?_,?_,?_,?_,?_,?_,?_,?_,?_,?_,?_,?_,trivial⟩
       all_goals
        intro A W hsz hS hdep hbase
        obtain ⟨d0,d1⟩:=DN hS HC5.out
        have h0:A.tmps.getD 0 undef=.slice a L.length cap:=hbase 0 (by kernel_rfl)
        have h3:A.tmps.getD 3 undef=.int .i64 (i:Int):=hbase 3 (by kernel_rfl)
        have h4:A.tmps.getD 4 undef=.int .i64 (j:Int):=hbase 4 (by kernel_rfl)
        have h5:A.tmps.getD 5 undef=.pointer (some ⟨wr.heap.size,0,none⟩):=hbase 5 (by kernel_rfl)
        clear hbase
        simp [Aa,Region.binds,Vs,vq] at hdep
       all_goals first
        | (refine AZ rfl (.inl ⟨_,W,?_,rfl,Ext.refl _⟩);clear hsz hS;simp [go_sem,Act.eval, *];done)
        | (refine Ad (j:=3) (d:=45) (b:=false) rfl (by kernel_rfl) (by simp only [hdep]) rfl (.inl ⟨_,W,?_,rfl,Ext.refl _⟩);clear hsz hS;simp [go_sem,Act.eval, *];done)
        | (refine Ad (j:=8) (d:=50) (b:=false) rfl (by kernel_rfl) (by simp only [hdep]) rfl (.inl ⟨_,W,?_,rfl,Ext.refl _⟩);clear hsz hS;simp [go_sem,Act.eval, *];done)
        | exact Av (j:=13) (d:=55) (b:=true) rfl (by kernel_rfl) (by simp only [hdep]) rfl rfl
        | exact Av (j:=18) (d:=60) (b:=true) rfl (by kernel_rfl) (by simp only [hdep]) rfl rfl
        | exact CG (j:=21) (d:=63) rfl (by kernel_rfl) (by simp only [hdep]) rfl
      case hVx=>exact Ac (by simp only [AU,List.not_mem_nil,or_false,forall_eq_or_imp,forall_eq];and_intros <;> exact AY _)
      case hSx=>exact fun W W' h hx=>Ext.trans h hx
      case hS=>exact Ext.refl _
      case hfin =>
       intro A W hsz hdf hS hv hbase
       obtain ⟨x,hx,hA⟩:=Af [42,43,44,45,46,47,48,49,50,51,52,53,54,55,56,57,58,59,60,61,62,63,64,65,66,67,68,69,70,71,72,73,74,75,76,77] (by kernel_rfl) hsz hdf hbase
       have e77:x 77=.bool true:=(hx 77).trans (hv 35 (by decide))
       rw [hA]
       simp only [List.foldl]
       rw [e77]
       clear e77
       simp only [Act.put,List.setIfInBounds_toArray,List.set_cons_succ,List.set_cons_zero]
       clear hA hx hv hbase hsz hdf
       have HS0:Hid (Ext w5 W):=hS
       clear hS
       go_wp2_with fail
       go_ret
       exact ⟨Ae HR.out.symm,HBW.out.trans (Below.mono (Ext.trans HX5.out HS0.out) HBW.out.size)⟩
     by_cases g4:1000<cI
     ·
      have HR:Hid (validB L=false):=HBAD.out (DR hlt (by
       cases e:okC s j with
       | false=>rfl
       | true=>have:=HOK.out.1 e;have:=HCI.out;omega))
      go_wp2_with fail
      obtain ⟨w5,hw5⟩:∃ w5,wr.alloc (.cells #[.int .u8 kI,.int .i64 cI] 55)=w5:=⟨_,rfl⟩
      have HX5:Hid (Ext wr w5):=by show Ext _ _;rw [← hw5];exact (Below.refl _ _).alloc (A3 _) _
      have HC5:Hid (w5.heap[wr.heap.size]? = some (.cells #[.int .u8 kI,.int .i64 cI] 55 (0,0))):=by show _=_;rw [← hw5];exact heap_alloc_new _ _
      rw [hw5]
      clear hw5
      refine Ag (by kernel_rfl) (Vs [vq (.pointer (some ⟨wr.heap.size,0,none⟩)),vq (.int .u8 kI),vq (.bool false),vq (.bool false),vq (.pointer (some ⟨wr.heap.size,0,none⟩)),vq (.int .u8 kI),vq (.bool false),vq (.bool false),vq (.bool false),vq (.pointer (some ⟨wr.heap.size,1,none⟩)),vq (.int .i64 cI),vq (.bool false),vq (.bool false),vq (.bool false),vq (.pointer (some ⟨wr.heap.size,1,none⟩)),vq (.int .i64 cI),vq (.bool true),vq (.bool true),vq (.bool true),vq (undef),vq (undef),vq (undef),vq (undef),vq (undef),vq (undef),vq (undef),vq (undef),vq (undef),vq (undef),vq (undef),vq (undef),vq (undef),vq (undef),vq (undef),vq (undef),vq (.bool true)]) (fun W=>Ext w5 W) 81 (by kernel_rfl) rfl ?hVx ?hSx ?hS (Ao ?hop) ?hfin
      case hop =>
       refine ⟨?_,?_,?_,?_,?_,?_,?_,?_,?_,?_,?_,?_,?_,?_,?_,?_,?_,?_,?_,?_,?_,?_,?_,?_,?_,?_,?_,?_,?_,?_,?_,?_,?_,?_,?_,?_,trivial⟩
       all_goals
        intro A W hsz hS hdep hbase
        obtain ⟨d0,d1⟩:=DN hS HC5.out
        have h0:A.tmps.getD 0 undef=.slice a L.length cap:=hbase 0 (by kernel_rfl)
        have h3:A.tmps.getD 3 undef=.int .i64 (i:Int):=hbase 3 (by kernel_rfl)
        have h4:A.tmps.getD 4 undef=.int .i64 (j:Int):=hbase 4 (by kernel_rfl)
        have h5:A.tmps.getD 5 undef=.pointer (some ⟨wr.heap.size,0,none⟩):=hbase 5 (by kernel_rfl)
        clear hbase
        simp [Aa,Region.binds,Vs,vq] at hdep
       all_goals first
        | (refine AZ rfl (.inl ⟨_,W,?_,rfl,Ext.refl _⟩);clear hsz hS;simp [go_sem,Act.eval, *];done)
        | (refine Ad (j:=3) (d:=45) (b:=false) rfl (by kernel_rfl) (by simp only [hdep]) rfl (.inl ⟨_,W,?_,rfl,Ext.refl _⟩);clear hsz hS;simp [go_sem,Act.eval, *];done)
        | (refine Ad (j:=8) (d:=50) (b:=false) rfl (by kernel_rfl) (by simp only [hdep]) rfl (.inl ⟨_,W,?_,rfl,Ext.refl _⟩);clear hsz hS;simp [go_sem,Act.eval, *];done)
        | (refine Ad (j:=13) (d:=55) (b:=false) rfl (by kernel_rfl) (by simp only [hdep]) rfl (.inl ⟨_,W,?_,rfl,Ext.refl _⟩);clear hsz hS;simp [go_sem,Act.eval, *];done)
        | exact Av (j:=18) (d:=60) (b:=true) rfl (by kernel_rfl) (by simp only [hdep]) rfl rfl
        | exact CG (j:=21) (d:=63) rfl (by kernel_rfl) (by simp only [hdep]) rfl
      case hVx=>exact Ac (by simp only [AU,List.not_mem_nil,or_false,forall_eq_or_imp,forall_eq];and_intros <;> exact AY _)
      case hSx=>exact fun W W' h hx=>Ext.trans h hx
      case hS=>exact Ext.refl _
      case hfin =>
       intro A W hsz hdf hS hv hbase
       obtain ⟨x,hx,hA⟩:=Af [42,43,44,45,46,47,48,49,50,51,52,53,54,55,56,57,58,59,60,61,62,63,64,65,66,67,68,69,70,71,72,73,74,75,76,77] (by kernel_rfl) hsz hdf hbase
       have e77:x 77=.bool true:=(hx 77).trans (hv 35 (by decide))
       rw [hA]
       simp only [List.foldl]
       rw [e77]
       clear e77
       simp only [Act.put,List.setIfInBounds_toArray,List.set_cons_succ,List.set_cons_zero]
       clear hA hx hv hbase hsz hdf
       have HS0:Hid (Ext w5 W):=hS
       clear hS
       go_wp2_with fail
       go_ret
       exact ⟨Ae HR.out.symm,HBW.out.trans (Below.mono (Ext.trans HX5.out HS0.out) HBW.out.size)⟩
     by_cases hj0:j=0
     ·
      have HO:Hid (okC s j=true):=HOK.out.2 (by have:=HKI.out;have:=HCI.out;omega)
      have hjz:¬ (0:Int)<(j:Int):=by omega
      clear hj0
      go_wp2_with fail
      obtain ⟨w5,hw5⟩:∃ w5,wr.alloc (.cells #[.int .u8 kI,.int .i64 cI] 55)=w5:=⟨_,rfl⟩
      have HX5:Hid (Ext wr w5):=by show Ext _ _;rw [← hw5];exact (Below.refl _ _).alloc (A3 _) _
      have HC5:Hid (w5.heap[wr.heap.size]? = some (.cells #[.int .u8 kI,.int .i64 cI] 55 (0,0))):=by show _=_;rw [← hw5];exact heap_alloc_new _ _
      rw [hw5]
      clear hw5
      refine Ag (by kernel_rfl) (Vs [vq (.pointer (some ⟨wr.heap.size,0,none⟩)),vq (.int .u8 kI),vq (.bool false),vq (.bool false),vq (.pointer (some ⟨wr.heap.size,0,none⟩)),vq (.int .u8 kI),vq (.bool false),vq (.bool false),vq (.bool false),vq (.pointer (some ⟨wr.heap.size,1,none⟩)),vq (.int .i64 cI),vq (.bool false),vq (.bool false),vq (.bool false),vq (.pointer (some ⟨wr.heap.size,1,none⟩)),vq (.int .i64 cI),vq (.bool false),vq (.bool false),vq (.bool false),vq (.int .i64 (j:Int)),vq (.bool false),vq (.bool false),vq (undef),vq (undef),vq (undef),vq (undef),vq (undef),vq (undef),vq (undef),vq (undef),vq (undef),vq (undef),vq (undef),vq (undef),vq (.bool false),vq (.bool false)]) (fun W=>Ext w5 W) 81 (by kernel_rfl) rfl ?hVx ?hSx ?hS (Ao ?hop) ?hfin
      case hop =>
       refine ⟨?_,?_,?_,?_,?_,?_,?_,?_,?_,?_,?_,?_,?_,?_,?_,?_,?_,?_,?_,?_,?k20,?_,?_,?_,?_,?_,?_,?_,?_,?_,?_,?_,?_,?_,?_,?_,trivial⟩
       all_goals
        intro A W hsz hS hdep hbase
        obtain ⟨d0,d1⟩:=DN hS HC5.out
        have h0:A.tmps.getD 0 undef=.slice a L.length cap:=hbase 0 (by kernel_rfl)
        have h3:A.tmps.getD 3 undef=.int .i64 (i:Int):=hbase 3 (by kernel_rfl)
        have h4:A.tmps.getD 4 undef=.int .i64 (j:Int):=hbase 4 (by kernel_rfl)
        have h5:A.tmps.getD 5 undef=.pointer (some ⟨wr.heap.size,0,none⟩):=hbase 5 (by kernel_rfl)
        clear hbase
        simp [Aa,Region.binds,Vs,vq] at hdep
       case k20 =>
        refine Ad (j:=18) (d:=60) (b:=false) rfl (by kernel_rfl) (by simp only [hdep]) rfl (.inl ⟨_,W,?_,rfl,Ext.refl _⟩)
        clear hsz hS;simp [go_sem,Act.eval, *]
        omega
       all_goals first
        | (refine AZ rfl (.inl ⟨_,W,?_,rfl,Ext.refl _⟩);clear hsz hS;simp [go_sem,Act.eval, *];done)
        | (refine Ad (j:=3) (d:=45) (b:=false) rfl (by kernel_rfl) (by simp only [hdep]) rfl (.inl ⟨_,W,?_,rfl,Ext.refl _⟩);clear hsz hS;simp [go_sem,Act.eval, *];done)
        | (refine Ad (j:=8) (d:=50) (b:=false) rfl (by kernel_rfl) (by simp only [hdep]) rfl (.inl ⟨_,W,?_,rfl,Ext.refl _⟩);clear hsz hS;simp [go_sem,Act.eval, *];done)
        | (refine Ad (j:=13) (d:=55) (b:=false) rfl (by kernel_rfl) (by simp only [hdep]) rfl (.inl ⟨_,W,?_,rfl,Ext.refl _⟩);clear hsz hS;simp [go_sem,Act.eval, *];done)
        | (refine Ad (j:=18) (d:=60) (b:=false) rfl (by kernel_rfl) (by simp only [hdep]) rfl (.inl ⟨_,W,?_,rfl,Ext.refl _⟩);clear hsz hS;simp [go_sem,Act.eval, *];done)
        | exact Av (j:=21) (d:=63) (b:=false) rfl (by kernel_rfl) (by simp only [hdep]) rfl rfl
      case hVx=>exact Ac (by simp only [AU,List.not_mem_nil,or_false,forall_eq_or_imp,forall_eq];and_intros <;> exact AY _)
      case hSx=>exact fun W W' h hx=>Ext.trans h hx
      case hS=>exact Ext.refl _
      case hfin =>
       intro A W hsz hdf hS hv hbase
       obtain ⟨x,hx,hA⟩:=Af [42,43,44,45,46,47,48,49,50,51,52,53,54,55,56,57,58,59,60,61,62,63,64,65,66,67,68,69,70,71,72,73,74,75,76,77] (by kernel_rfl) hsz hdf hbase
       have e77:x 77=.bool false:=(hx 77).trans (hv 35 (by decide))
       rw [hA]
       simp only [List.foldl]
       rw [e77]
       clear e77
       simp only [Act.put,List.setIfInBounds_toArray,List.set_cons_succ,List.set_cons_zero]
       clear hA hx hv hbase hsz hdf
       have HS0:Hid (Ext w5 W):=hS
       clear hS
       go_wp2_with fail
       go_roundg (s.length - (j+1))
       case measure=>have:=HGK2.out;omega
       case rel=>exact ⟨j+1,by go_num,by omega,rfl,by rw [DQ,HALL.out,HO.out];rfl,HB2.out.trans (Below.mono (Ext.trans HX5.out HS0.out) HB2.out.size)⟩
     ·
      obtain ⟨p,hpj⟩:∃ p,j=p+1:=⟨j - 1,by omega⟩
      have hp:p<s.length:=by omega
      have hpe:(j:Int) - 1=(p:Int):=by omega
      have hwp:IntKind.i64.wrap (p:Int)=(p:Int):=IntWalk.i64_in _ (by omega)
      obtain ⟨b3,o3,ha3,hb3,l0, -⟩:=(HA.out.later HB2.out (A3 _)).ch hp
      have hi3:=Eg aa b3 o3 s.length cc p ha3 hp
      obtain ⟨pI,hpI⟩:∃ pI:Int,(s[p].key.toNat:Int)=pI:=⟨_,rfl⟩
      rw [hpI] at l0
      have hky:kyA s (j - 1)=s[p].key.toNat:=by rw [hpj];exact Ql hp
      have HKY:=A0 hky;have HPI:=A0 hpI
      have hjp:(0:Int)<(j:Int):=by omega
      have HJ0:=A0 hj0
      clear ha3 hky hpI hpj hj0
      by_cases g5:kI≤pI
      ·
       have HR:Hid (validB L=false):=HBAD.out (DR hlt (by
        cases e:okC s j with
        | false=>rfl
        | true=>have:=HOK.out.1 e;have:=HKI.out;have:=HKY.out;have:=HPI.out;have:=HJ0.out;omega))
       go_wp2_with fail
       obtain ⟨w5,hw5⟩:∃ w5,wr.alloc (.cells #[.int .u8 kI,.int .i64 cI] 55)=w5:=⟨_,rfl⟩
       have HX5:Hid (Ext wr w5):=by show Ext _ _;rw [← hw5];exact (Below.refl _ _).alloc (A3 _) _
       have HC5:Hid (w5.heap[wr.heap.size]? = some (.cells #[.int .u8 kI,.int .i64 cI] 55 (0,0))):=by show _=_;rw [← hw5];exact heap_alloc_new _ _
       rw [hw5]
       clear hw5
       refine Ag (by kernel_rfl) (Vs [vq (.pointer (some ⟨wr.heap.size,0,none⟩)),vq (.int .u8 kI),vq (.bool false),vq (.bool false),vq (.pointer (some ⟨wr.heap.size,0,none⟩)),vq (.int .u8 kI),vq (.bool false),vq (.bool false),vq (.bool false),vq (.pointer (some ⟨wr.heap.size,1,none⟩)),vq (.int .i64 cI),vq (.bool false),vq (.bool false),vq (.bool false),vq (.pointer (some ⟨wr.heap.size,1,none⟩)),vq (.int .i64 cI),vq (.bool false),vq (.bool false),vq (.bool false),vq (.int .i64 (j:Int)),vq (.bool true),vq (.bool true),vq (.slice a L.length cap),vq (.int .i64 (i:Int)),vq (.pointer (some ⟨b1,o1+i,none⟩)),vq (.slice aa s.length cc),vq (.int .i64 (j:Int)),vq (.int .i64 (p:Int)),vq (.pointer (some ⟨b3,o3+p*2,none⟩)),vq (.pointer (some ⟨b3,o3+p*2,none⟩)),vq (.int .u8 pI),vq (.pointer (some ⟨wr.heap.size,0,none⟩)),vq (.int .u8 kI),vq (.bool true),vq (.bool true),vq (.bool true)]) (fun W=>Ext w5 W) 81 (by kernel_rfl) rfl ?hVx ?hSx ?hS (Ao ?hop) ?hfin
       case hop =>
        refine ⟨?_,?_,?_,?_,?_,?_,?_,?_,?_,?_,?_,?_,?_,?_,?_,?_,?_,?_,?_,?_,?k20,?_,?_,?_,?_,?_,?_,?_,?_,?_,?_,?_,?_,?_,?_,?_,trivial⟩
        all_goals
         intro A W hsz hS hdep hbase
         obtain ⟨d0,d1⟩:=DN hS HC5.out
         have hq0:=Eq.trans (Below.cell (Ext.trans HX5.out hS) (p:=⟨b1,o1+i,none⟩) hb1') q0
         have hl0:=Eq.trans (Below.cell (Ext.trans HX5.out hS) (p:=⟨b3,o3+p*2,none⟩) hb3) l0
         have h0:A.tmps.getD 0 undef=.slice a L.length cap:=hbase 0 (by kernel_rfl)
         have h3:A.tmps.getD 3 undef=.int .i64 (i:Int):=hbase 3 (by kernel_rfl)
         have h4:A.tmps.getD 4 undef=.int .i64 (j:Int):=hbase 4 (by kernel_rfl)
         have h5:A.tmps.getD 5 undef=.pointer (some ⟨wr.heap.size,0,none⟩):=hbase 5 (by kernel_rfl)
         clear hbase
         simp [Aa,Region.binds,Vs,vq] at hdep
        case k20 =>
         refine Ad (j:=18) (d:=60) (b:=false) rfl (by kernel_rfl) (by simp only [hdep]) rfl (.inl ⟨_,W,?_,rfl,Ext.refl _⟩)
         clear hsz hS;simp [go_sem,Act.eval, *]
         omega
        all_goals first
         | (refine AZ rfl (.inl ⟨_,W,?_,rfl,Ext.refl _⟩);clear hsz hS;simp [go_sem,Act.eval, *];done)
         | (refine Ad (j:=3) (d:=45) (b:=false) rfl (by kernel_rfl) (by simp only [hdep]) rfl (.inl ⟨_,W,?_,rfl,Ext.refl _⟩);clear hsz hS;simp [go_sem,Act.eval, *];done)
         | (refine Ad (j:=8) (d:=50) (b:=false) rfl (by kernel_rfl) (by simp only [hdep]) rfl (.inl ⟨_,W,?_,rfl,Ext.refl _⟩);clear hsz hS;simp [go_sem,Act.eval, *];done)
         | (refine Ad (j:=13) (d:=55) (b:=false) rfl (by kernel_rfl) (by simp only [hdep]) rfl (.inl ⟨_,W,?_,rfl,Ext.refl _⟩);clear hsz hS;simp [go_sem,Act.eval, *];done)
         | (refine Ad (j:=18) (d:=60) (b:=false) rfl (by kernel_rfl) (by simp only [hdep]) rfl (.inl ⟨_,W,?_,rfl,Ext.refl _⟩);clear hsz hS;simp [go_sem,Act.eval, *];done)
         | (refine Ad (j:=21) (d:=63) (b:=true) rfl (by kernel_rfl) (by simp only [hdep]) rfl (.inl ⟨_,W,?_,rfl,Ext.refl _⟩);clear hsz hS;simp [go_sem,Act.eval, *];done)
       case hVx=>exact Ac (by simp only [AU,List.not_mem_nil,or_false,forall_eq_or_imp,forall_eq];and_intros <;> exact AY _)
       case hSx=>exact fun W W' h hx=>Ext.trans h hx
       case hS=>exact Ext.refl _
       case hfin =>
        intro A W hsz hdf hS hv hbase
        obtain ⟨x,hx,hA⟩:=Af [42,43,44,45,46,47,48,49,50,51,52,53,54,55,56,57,58,59,60,61,62,63,64,65,66,67,68,69,70,71,72,73,74,75,76,77] (by kernel_rfl) hsz hdf hbase
        have e77:x 77=.bool true:=(hx 77).trans (hv 35 (by decide))
        rw [hA]
        simp only [List.foldl]
        rw [e77]
        clear e77
        simp only [Act.put,List.setIfInBounds_toArray,List.set_cons_succ,List.set_cons_zero]
        clear hA hx hv hbase hsz hdf
        have HS0:Hid (Ext w5 W):=hS
        clear hS
        go_wp2_with fail
        go_ret
        exact ⟨Ae HR.out.symm,HBW.out.trans (Below.mono (Ext.trans HX5.out HS0.out) HBW.out.size)⟩
      ·
       have HO:Hid (okC s j=true):=HOK.out.2 (by have:=HKI.out;have:=HCI.out;have:=HKY.out;have:=HPI.out;omega)
       go_wp2_with fail
       obtain ⟨w5,hw5⟩:∃ w5,wr.alloc (.cells #[.int .u8 kI,.int .i64 cI] 55)=w5:=⟨_,rfl⟩
       have HX5:Hid (Ext wr w5):=by show Ext _ _;rw [← hw5];exact (Below.refl _ _).alloc (A3 _) _
       have HC5:Hid (w5.heap[wr.heap.size]? = some (.cells #[.int .u8 kI,.int .i64 cI] 55 (0,0))):=by show _=_;rw [← hw5];exact heap_alloc_new _ _
       rw [hw5]
       clear hw5
       refine Ag (by kernel_rfl) (Vs [vq (.pointer (some ⟨wr.heap.size,0,none⟩)),vq (.int .u8 kI),vq (.bool false),vq (.bool false),vq (.pointer (some ⟨wr.heap.size,0,none⟩)),vq (.int .u8 kI),vq (.bool false),vq (.bool false),vq (.bool false),vq (.pointer (some ⟨wr.heap.size,1,none⟩)),vq (.int .i64 cI),vq (.bool false),vq (.bool false),vq (.bool false),vq (.pointer (some ⟨wr.heap.size,1,none⟩)),vq (.int .i64 cI),vq (.bool false),vq (.bool false),vq (.bool false),vq (.int .i64 (j:Int)),vq (.bool true),vq (.bool true),vq (.slice a L.length cap),vq (.int .i64 (i:Int)),vq (.pointer (some ⟨b1,o1+i,none⟩)),vq (.slice aa s.length cc),vq (.int .i64 (j:Int)),vq (.int .i64 (p:Int)),vq (.pointer (some ⟨b3,o3+p*2,none⟩)),vq (.pointer (some ⟨b3,o3+p*2,none⟩)),vq (.int .u8 pI),vq (.pointer (some ⟨wr.heap.size,0,none⟩)),vq (.int .u8 kI),vq (.bool false),vq (.bool false),vq (.bool false)]) (fun W=>Ext w5 W) 81 (by kernel_rfl) rfl ?hVx ?hSx ?hS (Ao ?hop) ?hfin
       case hop =>
        refine ⟨?_,?_,?_,?_,?_,?_,?_,?_,?_,?_,?_,?_,?_,?_,?_,?_,?_,?_,?_,?_,?k20,?_,?_,?_,?_,?_,?_,?_,?_,?_,?_,?_,?_,?_,?_,?_,trivial⟩
        all_goals
         intro A W hsz hS hdep hbase
         obtain ⟨d0,d1⟩:=DN hS HC5.out
         have hq0:=Eq.trans (Below.cell (Ext.trans HX5.out hS) (p:=⟨b1,o1+i,none⟩) hb1') q0
         have hl0:=Eq.trans (Below.cell (Ext.trans HX5.out hS) (p:=⟨b3,o3+p*2,none⟩) hb3) l0
         have h0:A.tmps.getD 0 undef=.slice a L.length cap:=hbase 0 (by kernel_rfl)
         have h3:A.tmps.getD 3 undef=.int .i64 (i:Int):=hbase 3 (by kernel_rfl)
         have h4:A.tmps.getD 4 undef=.int .i64 (j:Int):=hbase 4 (by kernel_rfl)
         have h5:A.tmps.getD 5 undef=.pointer (some ⟨wr.heap.size,0,none⟩):=hbase 5 (by kernel_rfl)
         clear hbase
         simp [Aa,Region.binds,Vs,vq] at hdep
        case k20 =>
         refine Ad (j:=18) (d:=60) (b:=false) rfl (by kernel_rfl) (by simp only [hdep]) rfl (.inl ⟨_,W,?_,rfl,Ext.refl _⟩)
         clear hsz hS;simp [go_sem,Act.eval, *]
         omega
        all_goals first
         | (refine AZ rfl (.inl ⟨_,W,?_,rfl,Ext.refl _⟩);clear hsz hS;simp [go_sem,Act.eval, *];done)
         | (refine Ad (j:=3) (d:=45) (b:=false) rfl (by kernel_rfl) (by simp only [hdep]) rfl (.inl ⟨_,W,?_,rfl,Ext.refl _⟩);clear hsz hS;simp [go_sem,Act.eval, *];done)
         | (refine Ad (j:=8) (d:=50) (b:=false) rfl (by kernel_rfl) (by simp only [hdep]) rfl (.inl ⟨_,W,?_,rfl,Ext.refl _⟩);clear hsz hS;simp [go_sem,Act.eval, *];done)
         | (refine Ad (j:=13) (d:=55) (b:=false) rfl (by kernel_rfl) (by simp only [hdep]) rfl (.inl ⟨_,W,?_,rfl,Ext.refl _⟩);clear hsz hS;simp [go_sem,Act.eval, *];done)
         | (refine Ad (j:=18) (d:=60) (b:=false) rfl (by kernel_rfl) (by simp only [hdep]) rfl (.inl ⟨_,W,?_,rfl,Ext.refl _⟩);clear hsz hS;simp [go_sem,Act.eval, *];done)
         | (refine Ad (j:=21) (d:=63) (b:=true) rfl (by kernel_rfl) (by simp only [hdep]) rfl (.inl ⟨_,W,?_,rfl,Ext.refl _⟩);clear hsz hS;simp [go_sem,Act.eval, *];done)
       case hVx=>exact Ac (by simp only [AU,List.not_mem_nil,or_false,forall_eq_or_imp,forall_eq];and_intros <;> exact AY _)
       case hSx=>exact fun W W' h hx=>Ext.trans h hx
       case hS=>exact Ext.refl _
       case hfin =>
        intro A W hsz hdf hS hv hbase
        obtain ⟨x,hx,hA⟩:=Af [42,43,44,45,46,47,48,49,50,51,52,53,54,55,56,57,58,59,60,61,62,63,64,65,66,67,68,69,70,71,72,73,74,75,76,77] (by kernel_rfl) hsz hdf hbase
        have e77:x 77=.bool false:=(hx 77).trans (hv 35 (by decide))
        rw [hA]
        simp only [List.foldl]
        rw [e77]
        clear e77
        simp only [Act.put,List.setIfInBounds_toArray,List.set_cons_succ,List.set_cons_zero]
        clear hA hx hv hbase hsz hdf
        have HS0:Hid (Ext w5 W):=hS
        clear hS
        go_wp2_with fail
        go_roundg (s.length - (j+1))
        case measure=>have:=HGK2.out;omega
        case rel=>exact ⟨j+1,by go_num,by omega,rfl,by rw [DQ,HALL.out,HO.out];rfl,HB2.out.trans (Below.mono (Ext.trans HX5.out HS0.out) HB2.out.size)⟩
    ·
     have HO:Hid (okS s=true):=SD (by omega) (by omega) (by
      have h:=HALL.out
      have e:j=s.length:=by omega
      rw [e] at h
      exact h)
     go_wp2_with fail
     go_roundg (L.length - (i+1))
     case measure=>have:=HGK.out;omega
     case rel=>exact ⟨i+1,by go_num,by omega,rfl,by rw [HTK.out,List.all_append,HT.out];simp [HO.out],HBW.out⟩
  ·
   obtain ⟨r,hr⟩:∃ r,decide (L.length≤40)=r:=⟨_,rfl⟩
   have HR:Hid (validB L=r):=by
    have h:=HT.out
    rw [AF (by omega)] at h
    show _=_
    unfold validB;rw [h,hr];simp
   have hle:decide ((L.length:Int)≤40)=r:=by rw [← hr];exact decide_eq_decide.2 (by omega)
   clear hr
   go_wp2_with fail
   go_ret
   exact ⟨Ae HR.out.symm,HB.out⟩
structure Hy (w:World) (S:Sch) (b:Option Addr) (c:Nat):Prop where
 fair:I8 S.rules
 mo:∀ r∈S.rules,r.frm<S.modes∧r.dst<S.modes
 m0:1≤S.modes
 m8:S.modes≤8
 a0:0≤S.acc
 a1:S.acc≤255
 len:S.rules.length≤64
 out:∀ r∈S.rules,r.out.size≤1000
 cap:S.rules.length≤c
 rul:BJ w b S.rules
theorem Hy.go {w w1:World} {S:Sch} {b:Option Addr} {c:Nat} (h:Hy w S b c) (hb:Below w.heap.size w w1):Hy w1 S b c :=
 ⟨h.fair,h.mo,h.m0,h.m8,h.a0,h.a1,h.len,h.out,h.cap,h.rul.later hb (A3 _)⟩
theorem JT {S:Sch} (h:Fl.validB S=true) {r:Rl} (hr:r∈S.rules):EX S.modes r=true:=by
 obtain ⟨i,hi,rfl⟩:=List.mem_iff_getElem.1 hr
 have hv:=((En S).1 h).2 i hi hi
 unfold D3 at hv
 rw [Bool.and_eq_true] at hv
 exact hv.1
theorem FM {m:Int} {r:Rl} (h:EX m r=true):0≤r.frm∧r.frm<m∧0≤r.dst∧r.dst<m∧r.inp.size≤4∧r.out.size≤4∧0≤r.cost∧r.cost≤1000:=by
 unfold EX at h
 simp only [Bool.and_eq_true,decide_eq_true_eq] at h
 obtain ⟨h1,h2,h3,h4,h5,h6,h7,h8,h9,h10⟩:=h
 exact ⟨h1,h2,h3,h4,by omega,by omega,h9,h10⟩
theorem Hy.of_valid {w:World} {S:Sch} {b:Option Addr} {c:Nat} (hv:Fl.validB S=true) (ha:0≤S.acc) (ha1:S.acc≤255) (hc:S.rules.length≤c) (hr:BJ w b S.rules):Hy w S b c:=by
 have hf:=QY hv ha ha1
 have h1:=hf.m0;have h2:=hf.m1
 refine ⟨fun r hr=>?_,fun r hr=>?_,by omega,by omega,ha,ha1,hf.len,fun r hr=>?_,hc,hr⟩
 ·
  have h:=FM (JT hv hr)
  exact BU.2 ⟨h.1,by omega,h.2.2.1,by omega,h.2.2.2.2.1,h.2.2.2.2.2.2.1,h.2.2.2.2.2.2.2⟩
 · have h:=FM (JT hv hr);exact ⟨h.2.1,h.2.2.2.1⟩
 · have h:=FM (JT hv hr);omega
theorem Nx.schM {w:World} {S:Sch} {b:Option Addr} {c:Nat} (h:Nx w S b c):Hy w S b c:=Hy.of_valid h.valid (by rw [h.acc];decide) (by rw [h.acc];decide) h.cap h.rul
structure Ez (w:World) (a:Option Addr) (c:Nat) (L:List Slt):Prop where
 s:Bc w a L
 ha:(∀ b,a=some b→∃ b' o',b=⟨b',o',none⟩)∧(a=none→L=[])
 cap:L.length≤c
 len:L.length≤40
 bnd:Bq 300 L
 dis:Hw L
theorem Ez.go {w w1:World} {a:Option Addr} {c:Nat} {L:List Slt} (h:Ez w a c L) (hb:Below w.heap.size w w1):Ez w1 a c L :=
 ⟨h.s.later hb (A3 _),h.ha,h.cap,h.len,h.bnd,h.dis⟩
theorem Ez.of {w:World} {B:Nat} {a:Option Addr} {n c:Nat} {L:List Slt} (h:Eu w B (.slice a n c) L) (hl:L.length≤40) (hb:Bq 300 L) (hd:Hw L):Ez w a c L∧n=L.length:=by
 obtain ⟨h1,h2,h3⟩:=h.slotS
 refine ⟨⟨h1,⟨fun b hb=>?_,fun e=>?_⟩,h3,hl,hb,hd⟩,h2⟩
 ·
  obtain ⟨Ls,hr⟩:=h
  rcases hr.own.blk with ⟨e,_⟩ | ⟨g,c2,e,_⟩
  · injection e with e1;rw [e1] at hb;cases hb
  · injection e with e1;rw [e1] at hb;injection hb with hb;exact ⟨g,0,hb.symm⟩
 ·
  obtain ⟨Ls,hr⟩:=h
  rcases hr.own.blk with ⟨_,e2⟩ | ⟨g,c2,e2,_⟩
  · have:=hr.len;rw [e2] at this;exact List.eq_nil_of_length_eq_zero this.symm
  · injection e2 with e1;rw [e] at e1;cases e1
def FnP (R:List Rl) (acc:Int) (L:List Slt) (W:List (List UInt8)) (i:Nat) (w:World) (e:Ending) (w':World):Prop :=
 ∃ a c l,e=.returned (.slice a l.length c)∧Ab BZ w' w.heap.size (.slice a l.length c) l∧L3 R acc L W i l∧Below w.heap.size w w'
def EnP (R:List Rl) (acc:Int) (L:List Slt) (W:List (List UInt8)) (w:World) (e:Ending) (w':World):Prop:=Qj R acc L W w.heap.size e w'∧Below w.heap.size w w'
theorem JU {N i:Nat} (hN:N≤201) (hi:i≤40):8*N*(i*((8*N+1)*(1000+4*300))+(8*N+1)*(1000+4*300)+2)≤900000000000:=by
 have h1:(8*N+1)*(1000+4*300)≤1609*2200:=Nat.mul_le_mul (by omega) (by decide)
 have h2:i*((8*N+1)*(1000+4*300))≤40*(1609*2200):=Nat.mul_le_mul hi h1
 have h3:8*N*(i*((8*N+1)*(1000+4*300))+(8*N+1)*(1000+4*300)+2)≤1608*(40*(1609*2200)+1609*2200+2):=Nat.mul_le_mul (by omega) (by omega)
 omega
theorem MQ {K i:Nat} (hK:K≤21) (hi:i≤40):i*((8*K+1)*(1000+4*300))+(8*K+1)*(1000+4*300)≤900000000:=by
 have h1:(8*K+1)*(1000+4*300)≤169*2200:=Nat.mul_le_mul (by omega) (by decide)
 have h2:i*((8*K+1)*(1000+4*300))≤40*(169*2200):=Nat.mul_le_mul hi h1
 omega
theorem CP.inc {Ws:List ByteArray} (hd:CP Ws):(Ws.map bts).Pairwise fun a b=>Op.bytesLess a b=true:=by
 rw [AS]
 refine hd.sorted.imp fun {x y} h=>?_
 unfold ltS at h
 rw [ByteArray.toList_eq,ByteArray.toList_eq] at h
 exact h
section
variable {w:World} {S:Sch} {b aD aL:Option Addr} {cS nD cD cL:Nat} {Ws:List ByteArray} {L:List Slt}
theorem L9 (hS:Hy w S b cS) (hD:GL w aD nD cD Ws) (hW:Ws.length≤10) (hL:Ez w aL cL L) :
  Calls Tryz.prog 21 #[.agg #[.int .i64 S.modes,.int .u8 S.acc,.slice b S.rules.length cS],.slice aD nD cD,.slice aL L.length cL] w (FnP S.rules S.acc L (Ws.map bts) L.length w):=by
 have hwf:=MB hD.dict
 have hsz:∀ x∈Ws,x.size≤20:=fun x hx=>(DK (hD.dict.word x hx)).2.1
 have hlen:=hD.len
 have h:=NM S.rules S.modes S.acc b cS (ofF (Ah 0 Ws)) aD cD aL L cL 300 w hS.rul (by have:=hS.len;omega) (fun r hr=>by have:=hS.out r hr;omega) hD.rows hD.big (Ko hD.dict)
  (by rw [hwf];omega) (by rw [hwf];exact hsz) (by rw [hwf];exact hD.dict.inc) hL.s (by have:=hL.len;omega) hL.bnd (by decide) (by rw [hwf];exact fun N i hN hi=>JU (by omega) (by have:=hL.len;omega)) hS.a0 hS.a1
 rw [hwf,← hlen] at h
 refine h.mono ?_
 rintro e w' ⟨⟨a,c,l,rfl,h1,h2⟩,hb⟩
 exact ⟨a,c,l,rfl,h1,h2,hb⟩
theorem R4 (hS:Hy w S b cS) (hD:GL w aD nD cD Ws) (hW:Ws.length≤10) (hL:Ez w aL cL L) :
  Calls Tryz.prog 18 #[.agg #[.int .i64 S.modes,.int .u8 S.acc,.slice b S.rules.length cS],.slice aD nD cD,.slice aL L.length cL] w (EnP S.rules S.acc L (Ws.map bts) w):=by
 have hwf:=MB hD.dict
 have hsz:∀ x∈Ws,x.size≤20:=fun x hx=>(DK (hD.dict.word x hx)).2.1
 have hlen:=hD.len
 have h:=ends_any S.rules S.modes S.acc b cS (ofF (Ah 0 Ws)) aD cD aL L cL 300 w hS.rul (by have:=hS.len;omega) (fun r hr=>by have:=hS.out r hr;omega) hD.rows hD.big (Ko hD.dict)
  (by rw [hwf];omega) (by rw [hwf];exact hsz) (by rw [hwf];exact hD.dict.inc) hL.s (by have:=hL.len;omega) hL.bnd (by decide) (by rw [hwf];exact fun N i hN hi=>JU (by omega) (by have:=hL.len;omega)) hS.a0 hS.a1
 rw [hwf,← hlen] at h
 exact h
theorem SF (hS:Hy w S b cS) (hD:GL w aD nD cD Ws) (hW:Ws.length≤10) (hL:Ez w aL cL L) :
  Calls Tryz.prog 19 #[.agg #[.int .i64 S.modes,.int .u8 S.acc,.slice b S.rules.length cS],.slice aD nD cD,.slice aL L.length cL] w (EnP S.rules S.acc L (Ws.map bts) w):=by
 have hwf:BK (CO (ofF (Ah 0 Ws))).2=Ws:=by rw [(Or hD.dict).1,J9]
 have hsz:∀ x∈Ws,x.size≤20:=fun x hx=>(DK (hD.dict.word x hx)).2.1
 have hlen:=hD.len
 have hm0:=hS.m0;have hm8:=hS.m8
 have hmo:((S.modes.toNat:Nat):Int)=S.modes:=Int.toNat_of_nonneg (by omega)
 have h:=rends_any S.rules S.modes.toNat S.acc b cS (ofF (Ah 0 Ws)) aD cD aL L cL 300 w hS.rul (by have:=hS.len;omega) (fun r hr=>by have:=hS.out r hr;omega) hS.fair (by rw [hmo];exact hS.mo) (by omega) (by omega)
  hD.rows hD.big (Ko hD.dict) (by rw [hwf];omega) (by rw [hwf];exact hsz) hL.s hL.ha hL.cap (by have:=hL.len;omega) hL.bnd (by decide) hL.dis hS.a0 hS.a1 (fun K i hK hi=>MQ hK (by have:=hL.len;omega))
 rw [hwf,hmo,← hlen] at h
 exact h
end
theorem MR (s:ByteArray):Bq 300 (CJ s):=fun t ht x hx=>by
 unfold CJ MH at ht
 obtain ⟨c,_,rfl⟩:=AH.1 ht
 rw [AD.1 hx]
 exact ⟨Int.le_refl 0,show (0:Int)≤300 by decide⟩
theorem MS (s:ByteArray):Hw (CJ s):=fun t ht=>by
 unfold CJ MH at ht
 obtain ⟨c,_,rfl⟩:=AH.1 ht
 exact List.pairwise_singleton _ _
def PE (s:ByteArray) (v:Value) (w:World):Prop:=∃ a c,v=.slice a s.size c∧Ez w a c (CJ s)
theorem JV (s:ByteArray):Bp (PE s):=by
 rintro v w w' ⟨a,c,h1,h2⟩ hx
 exact ⟨a,c,h1,h2.go hx⟩
theorem IW {s:ByteArray} {w w':World} {e:Ending} (h:NI s w e w') (hs:s.size≤40):∃ v,e=.returned v∧PE s v w':=by
 obtain ⟨a,c,he,hg⟩:=h
 exact ⟨_,he,a,c,rfl,(Ez.of hg (by rw [CB];exact hs) (MR s) (MS s)).1⟩
def FnS (R:List Rl) (acc:Int) (L:List Slt) (W:List (List UInt8)) (i:Nat) (v:Value) (w:World):Prop:=∃ a c l,v=.slice a l.length c∧Ey w a l∧L3 R acc L W i l∧l.length≤c
theorem Hz (R:List Rl) (acc:Int) (L:List Slt) (W:List (List UInt8)) (i:Nat):Bp (FnS R acc L W i):=by
 rintro v w w' ⟨a,c,l,h1,h2,h3,h4⟩ hx
 exact ⟨a,c,l,h1,h2.kp (Kc.of hx (A3 _)),h3,h4⟩
theorem NP {R:List Rl} {acc:Int} {L:List Slt} {W:List (List UInt8)} {i:Nat} {w w':World} {e:Ending} (h:FnP R acc L W i w e w'):∃ v,e=.returned v∧FnS R acc L W i v w'∧Below w.heap.size w w':=by
 obtain ⟨a,c,l,he,h1,h2,hb⟩:=h
 exact ⟨_,he,⟨a,c,l,rfl,h1.fnds.1,h2,h1.fnds.2.2⟩,hb⟩
structure EnR (R:List Rl) (acc:Int) (L:List Slt) (W:List (List UInt8)) (g:Nat) (Ls:List SV) (w:World):Prop where
 own:Ab Bx w 0 (.slice (some ⟨g,0,none⟩) (L.length+1) (L.length+1)) Ls
 len:Ls.length=L.length+1
 ok:∀ (k:Nat) (h:k<Ls.length),∃ l,Ab BZ w 0 (svS Ls[k]) l∧L3 R acc L W k l
theorem EnR.go {R:List Rl} {acc:Int} {L:List Slt} {W:List (List UInt8)} {g:Nat} {Ls:List SV} {w w':World} (h:EnR R acc L W g Ls w) (hb:Below w.heap.size w w'):EnR R acc L W g Ls w' :=
 ⟨h.own.later hb (A3 _),h.len,fun k hk=>by obtain ⟨l,h1,h2⟩:=h.ok k hk;exact ⟨l,h1.later hb (A3 _),h2⟩⟩
theorem EnR.at {R:List Rl} {acc:Int} {L:List Slt} {W:List (List UInt8)} {g:Nat} {Ls:List SV} {w:World} (h:EnR R acc L W g Ls w) {k:Nat} (hk:k<L.length+1) :
  ∃ a c l,w.cell? ⟨g,k,none⟩=some (.slice a l.length c)∧Ey w a l∧L3 R acc L W k l∧∀ W,(Instr.indexAt 45 (.slice (some ⟨g,0,none⟩) (L.length+1) (L.length+1)) (.int .i64 (k:Int))).run Tryz.prog W=.ok (.pointer (some ⟨g,k,none⟩)) W:=by
 have hkl:k<Ls.length:=by rw [h.len];exact hk
 obtain ⟨l,h1,h2⟩:=h.ok k hkl
 obtain ⟨a,c,he, -, -⟩:=h1.form
 have hcl:=h.own.cell CU hkl (j:=0) (by decide)
 have e1:k*Bx.k+0=k:=by show k*1+0=k;omega
 rw [e1] at hcl
 have hcl2:w.cell? ⟨g,k,none⟩=some (svS Ls[k]):=hcl
 rw [he] at hcl2 h1
 exact ⟨a,c,l,hcl2,h1.fnds.1,h2,fun W=>H4 g _ _ k hk W⟩
def EnS (R:List Rl) (acc:Int) (L:List Slt) (W:List (List UInt8)) (v:Value) (w:World):Prop:=∃ g Ls,v=.slice (some ⟨g,0,none⟩) (L.length+1) (L.length+1)∧EnR R acc L W g Ls w
theorem Dt (R:List Rl) (acc:Int) (L:List Slt) (W:List (List UInt8)):Bp (EnS R acc L W):=by
 rintro v w w' ⟨g,Ls,h1,h2⟩ hx
 exact ⟨g,Ls,h1,h2.go hx⟩
theorem NQ {R:List Rl} {acc:Int} {L:List Slt} {W:List (List UInt8)} {w w':World} {e:Ending} (h:EnP R acc L W w e w'):∃ v,e=.returned v∧EnS R acc L W v w'∧Below w.heap.size w w':=by
 obtain ⟨⟨g,Ls,he,h1,h2,h3⟩,hb⟩:=h
 exact ⟨_,he,⟨g,Ls,rfl,h1.mono (Nat.zero_le _),h2,fun k hk=>by obtain ⟨l,h4,h5⟩:=h3 k hk (by omega);exact ⟨l,h4.mono (Nat.zero_le _),h5⟩⟩,hb⟩
end Go.Proofs.YthjmdgejnakcmaaGreatDoor
