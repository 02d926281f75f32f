/- Texts that the claims share: K11, K12, K14, K19, N2, K16. -/
import Derived.Test.YtpljngaejaehcaaGreatDoorMK4
import Derived.Test.YtpljngaejaehcaaGreatDoorMD4
import Derived.Test.YtpljngaejaehcaaGreatDoorMK3
set_option maxHeartbeats 6400000
set_option maxRecDepth 100000
set_option linter.unusedVariables false
set_option linter.unusedSimpArgs false
namespace Go.Proofs.YtpljngaejaehcaaGreatDoor
open Go.RowKit Go.WideShapes Fl
def TI (W:List ByteArray) (e:Ending) (w':World):Prop:=∃ aT nT cT T,e=.returned (.slice aT nT cT)∧nT=T.length∧D6 w' aT T∧TrW T (W.map bts)
theorem BH.kp {w w1:World} {a:Option Addr} {L:List ByteArray} (h:BH w a L) (hk:Kc w w1):BH w1 a L:=fun k hl=>by
 obtain ⟨b,o,ha,h1,h2⟩:=h k hl;exact ⟨b,o,ha,A7 h1 hk.size,hk.cell h2⟩
theorem OI (a:Option Addr) (b o len cap k:Nat) (ha:a=some ⟨b,o,none⟩) (hk:k<len) (w:World) :
  (Instr.indexAt 35 (.slice a len cap) (.int .i64 (k:Int))).run Tryz.prog w=.ok (.pointer (some ⟨b,o+k,none⟩)) w:=by
 subst ha;have h0:(0:Int)≤(k:Int):=by omega
 have h1:(k:Int)<(len:Int):=by omega
 simp [go_sem,h0,h1]
theorem TJ {W:List ByteArray} {i:Nat} (hi:i<W.length):(W.map bts)[i]'(by simpa using hi)=bts W[i]:=by simp
theorem begin_any
         (Ws:List ByteArray) (n:Nat) (a:Option Addr) (cap:Nat) (w:World) (hW:BH w a Ws) (hn:n=Ws.length) (hl:Ws.length≤1000) (hs:∀ x∈Ws,x.size≤20) (jW:(Ws.map bts).Pairwise fun a b=>Op.bytesLess a b=true) :
  Calls Tryz.prog 103 #[.slice a n cap] w fun e w'=>TI Ws e w'∧Below w.heap.size w w':=by
 subst hn;have HW:=A0 hW;have HS:=A0 hs;have HI:=A0 jW;clear hW hs jW
 go_enter Tryz.func103,Tryz.ntmps103
 go_wp2;have kr:Hid (TrM (w.alloc (.cells #[.int .i64 (-1),.slice none 0 0] 189)) w.heap.size (.slice (some ⟨w.heap.size,0,none⟩) 1 1) [⟨-1,none,0,0⟩] [⟨-1,[]⟩]):=by
  refine ⟨AZ.one Dd (x:=⟨-1,none,0,0⟩) (heap_alloc_new _ _) (A3 _),rfl,fun k h h2=>?_,fun j k hj hk q hjk hq=>?_⟩
  ·have e:k=0:=by simp at h;omega
   subst e;exact ⟨rfl,AZ.nil _ _ _⟩
  ·have e:j=0:=by simp at hj;omega
   subst e;cases hq
 go_loopg [3,14] Ws.length (fun g v3 v14 wr=>∃ (i:Nat) (N:List BV) (T:List Bn) (X:List (List UInt8)),v14=.int .i64 (i:Int)∧i≤Ws.length∧g=Ws.length - i∧TrM wr w.heap.size v3 N T∧E5 (Ws.map bts) i 0 ((Ws.map bts).getD i []) 0 T X∧Below w.heap.size w wr)
 case atStart=>exact ⟨0,_,_,_,rfl,Nat.zero_le _,rfl,kr.out,E5.start _ _,(Below.refl _ _).alloc (A3 _) _⟩
 case round =>
  clear kr;obtain ⟨i,N,T,X,rfl,hi,ky,js,jz,jT⟩:=hrel;have jm:=A0 js;have jn:=A0 jz;have jp:=A0 jT;have kF:=A0 ky;have kO:=jz.node_lt;have kv:=jz.size;clear js jz jT ky;by_cases jN:i<Ws.length
  ·obtain ⟨
       b0,
         o0,ha0,hb0,q0⟩:=(BH.kp HW.out (Kc.of jp.out (A3 _))).at jN
   have hidx:=OI a b0 o0 Ws.length cap i ha0 jN;have kk:=HS.out _ (AG jN);have j6:=TJ jN;have kh:(Ws.map bts).getD i []=bts Ws[i]:=by rw [AO,AA (by simpa using jN),← j6];rfl
   obtain ⟨s,kC⟩:∃ s,Ws[i]=s:=⟨_,rfl⟩
   rw [kC] at q0 kk j6 kh;rw [kh] at jn;have ku:=A0 j6;have kA:i<(Ws.map bts).length:=by simpa using jN
   clear ha0 j6 kh kC
   go_wp2_with fail
   go_loopg [3,6,21] s.size (fun g v3 v6 v21 wr=>∃ (k node:Nat) (N:List BV) (T:List Bn) (X:List (List UInt8)),v21=.int .i64 (k:Int)∧v6=.int .i64 (node:Int)∧k≤s.size∧g=s.size - k∧TrM wr w.heap.size v3 N T∧E5 (Ws.map bts) i k (bts s) node T X∧Below w.heap.size w wr)
   case atStart=>exact ⟨0,0,_,_,_,rfl,rfl,Nat.zero_le _,rfl,jm.out,jn.out,jp.out⟩
   case round =>
    clear jm jn jp kO kv;obtain ⟨k,node,N,T,X,rfl,rfl,hk,jV,js,jz,jT⟩:=hrel;have jE:=A0 jV;have jr:=jz.node_lt;have kv:=jz.size;have kj:node<N.length:=by rw [js.len];exact jr
    rcases js.own.blk with ⟨_,rfl⟩ | ⟨gT,cT,rfl,kg,j3,kR⟩
    · simp at kj
    have jR:=js.len;rw [jR] at js kR ⊢;obtain ⟨jM,t0,t1⟩:=js.cells jr;obtain ⟨_,t2,t3,t4⟩:=js.arcs jr;have ki:=I6 (some ⟨gT,0,none⟩) gT 0 T.length cT node rfl jr;rw [Nat.zero_add] at ki;have jX:=(js.row node jM jr).2;have jm:=A0 js;have jn:=A0 jz;have jp:=A0 jT;have jF:=A0 jX;clear js jz jT jV jX jR;by_cases kB:k<s.size
    ·have jK:k<(bts s).length:=by rw [CX];exact kB
     have kE:=A0 (fun x=>jn.out.follow jK (x:=x));have km:=A0 (jn.out.add kA ku.out HI.out jK);have kP:T[node].arcs.length≤256:=by
      have h1:=jn.out.tr.sorted node jr;have h2:=nodup_bound 256 (T[node].arcs.map fun x=>x.c.toNat) (by
       unfold List.Nodup;rw [AR];refine List.Pairwise.imp_of_mem (fun {a b} ha hb hab=>?_) h1;have h3:=(jn.out.tr.fwd node jr a ha).1;have h4:=(jn.out.tr.fwd node jr b hb).1;omega) (fun x hx=>by
       obtain ⟨y,hy,rfl⟩:=AH.1 hx;have h3:=jn.out.tr.fwd node jr y hy;omega)
      simpa using h2
     obtain ⟨AL,hA⟩:∃ AL,T[node].arcs=AL:=⟨_,rfl⟩
     obtain ⟨an,j2⟩:∃ an,N[node].a=an:=⟨_,rfl⟩
     obtain ⟨cn,ke⟩:∃ cn,N[node].c=cn:=⟨_,rfl⟩
     rw [hA] at t1 t2 t3 t4 kP;rw [j2,ke] at t1;rw [j2] at t4;have jG:Hid (N[node].s=.slice an AL.length cn):=by show _=_;unfold BV.s;rw [j2,ke,t2]
     rw [jG.out,hA] at jF;have HA:=A0 hA;have jC:(bts s)[k]'jK=s[k]:=rfl;have kn:=A0 jC;have kI:=A0 t4;have hTb:T.length≤100000:=by omega
     have jU:wr.frozen? ⟨gT,node*2+1,none⟩=false:=by
      obtain ⟨cs,kf⟩:=Au jm.out.own (g:=gT) rfl;simp [World.frozen?,kf]
     have hc0:(0:Int)≤(s[k].toNat:Int):=by omega
     have hc1:(s[k].toNat:Int)≤255:=by have:=s[k].toNat_lt;omega
     have ks:=A0 t1;have ko:=A0 jU;clear hA j2 ke t2 t3 t4 jC;cases jA:AL.length with
     | zero =>
      have ju:Hid (∀ x,AL.getLast? = some x→x.c≠(s[k].toNat:Int)):=fun x hx=>by
       rw [List.eq_nil_of_length_eq_zero jA] at hx;cases hx
      have j1:Hid (AL=[]):=List.eq_nil_of_length_eq_zero jA;clear jA
      go_wp2_with fail
      refine Am (by kernel_rfl) (Vs [vq (.int .i64 (AL.length:Int)),vq (.bool false),vq (.bool false),vq (undef),vq (undef),vq (undef),vq (undef),vq (undef),vq (undef),vq (undef),vq (undef),vq (undef),vq (undef),vq (.bool false)]) (fun W=>Ext wr W) 78 (by kernel_rfl) rfl ?hVx ?hSx ?hS (Ay ?hop) ?hfin
      case hop =>
       refine ⟨?_,?k1,?_,?_,?_,?_,?_,?_,?_,?_,?_,?_,?_,?_,trivial⟩
       all_goals
        intro A W jg hS jf ja;skip;have h5:A.tmps.getD 5 undef=.string s:=ja 5 (by kernel_rfl);have h7:A.tmps.getD 7 undef=.int .i64 (k:Int):=ja 7 (by kernel_rfl);have h8:A.tmps.getD 8 undef=.slice an AL.length cn:=ja 8 (by kernel_rfl);have h9:A.tmps.getD 9 undef=.int .i64 (AL.length:Int):=ja 9 (by kernel_rfl);clear ja;simp [AY,Region.binds,Vs,vq] at jf
       case k1 =>
        refine AX rfl (.inl ⟨_,W,?_,rfl,Ext.refl _⟩);clear jg hS;simp [go_sem,Act.eval, *];exact j1.out
       all_goals first
        | (refine AX rfl (.inl ⟨_,W,?_,rfl,Ext.refl _⟩);clear jg hS;simp [go_sem,Act.eval, *];done)
        | exact DM (j:=2) (d:=33) (b:=false) rfl (by kernel_rfl) (by simp only [jf]) rfl rfl
      case hVx=>exact Af (by simp only [AS,List.not_mem_nil,or_false,forall_eq_or_imp,forall_eq];and_intros <;> exact AW _)
      case hSx=>exact fun W W' h hx=>Ext.trans h hx
      case hS=>exact Ext.refl _
      case hfin =>
       intro A W jg jD hS hv ja;obtain ⟨x,hx,hA⟩:=Ag [31,32,33,34,35,36,37,38,39,40,41,42,43,44] (by kernel_rfl) jg jD ja;have e44:x 44=.bool false:=(hx 44).trans (hv 13 (by decide));rw [hA];simp only [List.foldl];rw [e44];clear e44;simp only [Act.put,List.setIfInBounds_toArray,List.set_cons_succ,List.set_cons_zero];clear hA hx hv ja jg jD;have jq:Hid (Ext wr W):=hS;have kb:Hid (W.cell? ⟨gT,node*2+1,none⟩=some (.slice an AL.length cn)):=Eq.trans (Below.cell hS (p:=⟨gT,node*2+1,none⟩) j3) ks.out;have j8:Hid (W.frozen? ⟨gT,node*2+1,none⟩=false):=Eq.trans (Below.frozen hS (p:=⟨gT,node*2+1,none⟩) j3) ko.out;clear hS;obtain ⟨X',je⟩:=km.out (by rw [HA.out];exact ju.out);rw [kn.out] at je;have jo:=A0 je;have jj:=A0 (jF.out.later jq.out (A3 _));have ji:=A0 (jm.out.ext jq.out);have jl:Hid (Below w.heap.size w W):=jp.out.trans (Below.mono jq.out jp.out.size);have jt:Hid (w.heap.size≤W.heap.size):=jl.out.size;clear je jq
       go_upto_region 14 with (first | (at_builtin;go_loud ((refine Ac (v:=.slice an AL.length cn) DO rfl _ _ rfl rfl (jj.out.later ((Below.refl _ _).alloc (A3 _) _) (A3 _)) ⟨W.heap.size,0,none⟩ 1 [⟨(s[k].toNat:Int),(T.length:Int)⟩] rfl (Ae (heap_alloc_new _ _)) (by simp only [AC];omega) (by have:=jt.out;simp only [A6];omega) ?_);intro v5 w5 jd jb jw;obtain ⟨a5,c5,jY, -, -⟩:=jd.form;rw [AB,AC] at jY;subst jY;have jJ:w5.heap[gT]? = W.heap[gT]?:=(jb.block gT (by have:=ji.out.own.lt gT rfl;simp only [A6];omega) (fun e=>ji.out.ne jM (by rw [jG.out];exact e.symm))).trans (Below.heap_alloc _ _ _ (ji.out.own.lt gT rfl));have q5:=(World.cell?_of_block (a:=⟨gT,node*2+1,none⟩) jJ).trans kb.out;have f5:=(World.frozen?_of_block (a:=⟨gT,node*2+1,none⟩) jJ).trans j8.out;have Jx:=A0 jd;have jP:=A0 jb;have j7:=A0 jw;clear jd jb jw jJ)))
       obtain ⟨w6,jB⟩:∃ w6,w5.setCell ⟨gT,node*2+1,none⟩ (.slice a5 (AL.length+1) c5)=w6:=⟨_,rfl⟩
       rw [jB];have jh:Hid (TrM w6 w.heap.size (.slice (some ⟨gT,0,none⟩) T.length cT) (N.set node ⟨N[node].word,a5,AL.length+1,c5⟩) (Db T node ⟨(s[k].toNat:Int),(T.length:Int)⟩)):=by
        show TrM _ _ _ _ _;have h:=(ji.out.ext ((Below.refl _ W).alloc (A3 _) (.cells #[.int .u8 (s[k].toNat:Int),.int .i64 (T.length:Int)] 170))).put1 (k:=node) (x:=⟨(s[k].toNat:Int),(T.length:Int)⟩) (a':=a5) (c':=c5) jM jr (by rw [HA.out];exact Jx.out) (by rw [jG.out];exact jP.out) (by rw [HA.out,jG.out];exact j7.out);rw [HA.out,jB] at h;exact h
       have jy:Hid (Below w.heap.size w w6):=by
        show Below _ _ _;rw [← jB];exact ((jl.out.trans (((Below.refl _ W).alloc (A3 _) _).mono jl.out.size)).grown jP.out (by have:=jt.out;simp only [A6];omega) fun q hq=>jj.out.ge q hq).setCell (show w.heap.size≤(⟨gT,node*2+1,none⟩:Addr).block from kg) _
       have jH:(N.set node ⟨N[node].word,a5,AL.length+1,c5⟩).length=T.length:=by rw [List.length_set];exact jm.out.len
       obtain ⟨N6,jv⟩:∃ N6,N.set node ⟨N[node].word,a5,AL.length+1,c5⟩=N6:=⟨_,rfl⟩
       rw [jv] at jh jH;have j9:=A0 jH;clear jB q5 f5 jv jH
       go_wp2_with (at_builtin;go_loud (refine Ac (v:=.slice (some ⟨gT,0,none⟩) T.length cT) Dd rfl _ _ rfl rfl (jh.out.own.later ((Below.refl _ _).alloc (A3 _) _) (A3 _)) ⟨w6.heap.size,0,none⟩ 1 [⟨-1,none,0,0⟩] rfl (Ae (heap_alloc_new _ _)) (by have:=j9.out;simp only [AC];omega) (by have:=jy.out.size;simp only [A6];omega) ?_);intro v7 w7 jk jc jI;have ka:=A0 jk;have jQ:=A0 jc;clear jk jc jI)
       go_roundg (s.size - (k+1))
       case measure=>have:=jE.out;omega
       case rel =>
        have jS:Below w.heap.size w w7:=(jy.out.trans (((Below.refl _ w6).alloc (A3 _) _).mono jy.out.size)).grown jQ.out (by have:=jy.out.size;simp only [A6];omega) fun q hq=>jh.out.own.ge q hq;exact ⟨k+1,T.length,_,E4 T node s[k],X',by go_num,rfl,by omega,rfl,(jh.out.ext ((Below.refl _ _).alloc (A3 _) _)).grow ka.out jQ.out jS.size,jo.out,jS⟩
     | succ p =>
      have hp:p<AL.length:=by omega
      have j4:(AL.length:Int) - 1=(p:Int):=by omega
      have jZ:IntKind.i64.wrap ((AL.length:Int) - 1)=(p:Int):=by rw [j4];exact IntWalk.i64_in _ (by omega)
      have j1:Hid (0<AL.length):=by show 0<_;omega
      have kz:AL.getLast? = some AL[p]:=by rw [List.getLast?_eq_getElem?,show AL.length - 1=p by omega,AA hp]
      have kG:=A0 kz;have kc:=A0 jZ;obtain ⟨b2,o2,kw,kd,l0,l1⟩:=kI.out.at hp;have hi2:=EI an b2 o2 AL.length cn p kw hp;have j0:=A0 l0;have kq:=A0 l1;have kH:=A0 j4;clear jA kz kw l0 l1 jZ j4;by_cases jO:AL[p].c=(s[k].toNat:Int)
      ·have jL:(AL[p].c == (s[k].toNat:Int))=true:=by rw [jO];simp
       have je:=kE.out AL[p] (by rw [HA.out];exact AG hp) jO;have kS:=jn.out.tr.fwd node jr AL[p] (by rw [HA.out];exact AG hp);have jo:=A0 je;obtain ⟨m,hm⟩:∃ m:Nat,AL[p].t=(m:Int):=⟨AL[p].t.toNat,by omega⟩
       rw [hm,Int.toNat_natCast] at jo;rw [hm] at kq;obtain ⟨xc,jx⟩:∃ xc,AL[p].c=xc:=⟨_,rfl⟩
       rw [jx] at j0 jL;clear jO je kS hm jx
       go_wp2_with fail
       refine Am (by kernel_rfl) (Vs [vq (.int .i64 (AL.length:Int)),vq (.bool true),vq (.bool true),vq (.slice an AL.length cn),vq (.int .i64 (AL.length:Int)),vq (.int .i64 (p:Int)),vq (.pointer (some ⟨b2,o2+p*2,none⟩)),vq (.pointer (some ⟨b2,o2+p*2,none⟩)),vq (.int .u8 xc),vq (.string s),vq (.int .i64 (k:Int)),vq (.int .u8 (s[k].toNat:Int)),vq (.bool true),vq (.bool true)]) (fun W=>Ext wr W) 78 (by kernel_rfl) rfl ?hVx ?hSx ?hS (Ay ?hop) ?hfin
       case hop =>
        refine ⟨?_,?k1,?_,?_,?_,?_,?_,?_,?_,?_,?_,?k11,?_,?_,trivial⟩
        all_goals
         intro A W jg hS jf ja;have l0:=Eq.trans (Below.cell hS (p:=⟨b2,o2+p*2,none⟩) kd) j0.out;have jZ:=kc.out;have h5:A.tmps.getD 5 undef=.string s:=ja 5 (by kernel_rfl);have h7:A.tmps.getD 7 undef=.int .i64 (k:Int):=ja 7 (by kernel_rfl);have h8:A.tmps.getD 8 undef=.slice an AL.length cn:=ja 8 (by kernel_rfl);have h9:A.tmps.getD 9 undef=.int .i64 (AL.length:Int):=ja 9 (by kernel_rfl);clear ja;simp [AY,Region.binds,Vs,vq] at jf
        case k1 =>
         refine AX rfl (.inl ⟨_,W,?_,rfl,Ext.refl _⟩);clear jg hS;simp [go_sem,Act.eval, *];exact j1.out
        case k11 =>
         refine Al (j:=2) (d:=33) (b:=true) rfl (by kernel_rfl) (by simp only [jf]) rfl (.inl ⟨_,W,?_,rfl,Ext.refl _⟩);clear jg hS;simp [go_sem,Act.eval, *]
         all_goals rfl
        all_goals first
         | (refine AX rfl (.inl ⟨_,W,?_,rfl,Ext.refl _⟩);clear jg hS;simp [go_sem,Act.eval, *];done)
         | (refine Al (j:=2) (d:=33) (b:=true) rfl (by kernel_rfl) (by simp only [jf]) rfl (.inl ⟨_,W,?_,rfl,Ext.refl _⟩);clear jg hS;simp [go_sem,Act.eval, *];done)
       case hVx=>exact Af (by simp only [AS,List.not_mem_nil,or_false,forall_eq_or_imp,forall_eq];and_intros <;> exact AW _)
       case hSx=>exact fun W W' h hx=>Ext.trans h hx
       case hS=>exact Ext.refl _
       case hfin =>
        intro A W jg jD hS hv ja;obtain ⟨x,hx,hA⟩:=Ag [31,32,33,34,35,36,37,38,39,40,41,42,43,44] (by kernel_rfl) jg jD ja;have e44:x 44=.bool true:=(hx 44).trans (hv 13 (by decide));rw [hA];simp only [List.foldl];rw [e44];clear e44;simp only [Act.put,List.setIfInBounds_toArray,List.set_cons_succ,List.set_cons_zero];clear hA hx hv ja jg jD;have jq:Hid (Ext wr W):=hS;have l1:=Eq.trans (Below.cell hS (p:=⟨b2,o2+p*2+1,none⟩) kd) kq.out;have jZ:=kc.out;have j4:=kH.out;clear hS
        go_wp2_with fail
        go_roundg (s.size - (k+1))
        case measure=>have:=jE.out;omega
        case rel=>exact ⟨k+1,m,N,T,X,by go_num,rfl,by omega,rfl,jm.out.ext jq.out,jo.out,jp.out.trans (Below.mono jq.out jp.out.size)⟩
      ·have jL:(AL[p].c == (s[k].toNat:Int))=false:=by simpa using jO
       have ju:Hid (∀ x,AL.getLast? = some x→x.c≠(s[k].toNat:Int)):=fun x hx=>by
        rw [kG.out] at hx;injection hx with hx;rw [← hx];exact jO
       obtain ⟨xc,jx⟩:∃ xc,AL[p].c=xc:=⟨_,rfl⟩
       rw [jx] at j0 jL;clear jO jx
       go_wp2_with fail
       refine Am (by kernel_rfl) (Vs [vq (.int .i64 (AL.length:Int)),vq (.bool true),vq (.bool true),vq (.slice an AL.length cn),vq (.int .i64 (AL.length:Int)),vq (.int .i64 (p:Int)),vq (.pointer (some ⟨b2,o2+p*2,none⟩)),vq (.pointer (some ⟨b2,o2+p*2,none⟩)),vq (.int .u8 xc),vq (.string s),vq (.int .i64 (k:Int)),vq (.int .u8 (s[k].toNat:Int)),vq (.bool false),vq (.bool false)]) (fun W=>Ext wr W) 78 (by kernel_rfl) rfl ?hVx ?hSx ?hS (Ay ?hop) ?hfin
       case hop =>
        refine ⟨?_,?k1,?_,?_,?_,?_,?_,?_,?_,?_,?_,?k11,?_,?_,trivial⟩
        all_goals
         intro A W jg hS jf ja;have l0:=Eq.trans (Below.cell hS (p:=⟨b2,o2+p*2,none⟩) kd) j0.out;have jZ:=kc.out;have h5:A.tmps.getD 5 undef=.string s:=ja 5 (by kernel_rfl);have h7:A.tmps.getD 7 undef=.int .i64 (k:Int):=ja 7 (by kernel_rfl);have h8:A.tmps.getD 8 undef=.slice an AL.length cn:=ja 8 (by kernel_rfl);have h9:A.tmps.getD 9 undef=.int .i64 (AL.length:Int):=ja 9 (by kernel_rfl);clear ja;simp [AY,Region.binds,Vs,vq] at jf
        case k1 =>
         refine AX rfl (.inl ⟨_,W,?_,rfl,Ext.refl _⟩);clear jg hS;simp [go_sem,Act.eval, *];exact j1.out
        case k11 =>
         refine Al (j:=2) (d:=33) (b:=true) rfl (by kernel_rfl) (by simp only [jf]) rfl (.inl ⟨_,W,?_,rfl,Ext.refl _⟩);clear jg hS;simp [go_sem,Act.eval, *]
         all_goals rfl
        all_goals first
         | (refine AX rfl (.inl ⟨_,W,?_,rfl,Ext.refl _⟩);clear jg hS;simp [go_sem,Act.eval, *];done)
         | (refine Al (j:=2) (d:=33) (b:=true) rfl (by kernel_rfl) (by simp only [jf]) rfl (.inl ⟨_,W,?_,rfl,Ext.refl _⟩);clear jg hS;simp [go_sem,Act.eval, *];done)
       case hVx=>exact Af (by simp only [AS,List.not_mem_nil,or_false,forall_eq_or_imp,forall_eq];and_intros <;> exact AW _)
       case hSx=>exact fun W W' h hx=>Ext.trans h hx
       case hS=>exact Ext.refl _
       case hfin =>
        intro A W jg jD hS hv ja;obtain ⟨x,hx,hA⟩:=Ag [31,32,33,34,35,36,37,38,39,40,41,42,43,44] (by kernel_rfl) jg jD ja;have e44:x 44=.bool false:=(hx 44).trans (hv 13 (by decide));rw [hA];simp only [List.foldl];rw [e44];clear e44;simp only [Act.put,List.setIfInBounds_toArray,List.set_cons_succ,List.set_cons_zero];clear hA hx hv ja jg jD;have jq:Hid (Ext wr W):=hS;have kb:Hid (W.cell? ⟨gT,node*2+1,none⟩=some (.slice an AL.length cn)):=Eq.trans (Below.cell hS (p:=⟨gT,node*2+1,none⟩) j3) ks.out;have j8:Hid (W.frozen? ⟨gT,node*2+1,none⟩=false):=Eq.trans (Below.frozen hS (p:=⟨gT,node*2+1,none⟩) j3) ko.out;clear hS;obtain ⟨X',je⟩:=km.out (by rw [HA.out];exact ju.out);rw [kn.out] at je;have jo:=A0 je;have jj:=A0 (jF.out.later jq.out (A3 _));have ji:=A0 (jm.out.ext jq.out);have jl:Hid (Below w.heap.size w W):=jp.out.trans (Below.mono jq.out jp.out.size);have jt:Hid (w.heap.size≤W.heap.size):=jl.out.size;clear je jq
        go_upto_region 14 with (first | (at_builtin;go_loud ((refine Ac (v:=.slice an AL.length cn) DO rfl _ _ rfl rfl (jj.out.later ((Below.refl _ _).alloc (A3 _) _) (A3 _)) ⟨W.heap.size,0,none⟩ 1 [⟨(s[k].toNat:Int),(T.length:Int)⟩] rfl (Ae (heap_alloc_new _ _)) (by simp only [AC];omega) (by have:=jt.out;simp only [A6];omega) ?_);intro v5 w5 jd jb jw;obtain ⟨a5,c5,jY, -, -⟩:=jd.form;rw [AB,AC] at jY;subst jY;have jJ:w5.heap[gT]? = W.heap[gT]?:=(jb.block gT (by have:=ji.out.own.lt gT rfl;simp only [A6];omega) (fun e=>ji.out.ne jM (by rw [jG.out];exact e.symm))).trans (Below.heap_alloc _ _ _ (ji.out.own.lt gT rfl));have q5:=(World.cell?_of_block (a:=⟨gT,node*2+1,none⟩) jJ).trans kb.out;have f5:=(World.frozen?_of_block (a:=⟨gT,node*2+1,none⟩) jJ).trans j8.out;have Jx:=A0 jd;have jP:=A0 jb;have j7:=A0 jw;clear jd jb jw jJ)))
        obtain ⟨w6,jB⟩:∃ w6,w5.setCell ⟨gT,node*2+1,none⟩ (.slice a5 (AL.length+1) c5)=w6:=⟨_,rfl⟩
        rw [jB];have jh:Hid (TrM w6 w.heap.size (.slice (some ⟨gT,0,none⟩) T.length cT) (N.set node ⟨N[node].word,a5,AL.length+1,c5⟩) (Db T node ⟨(s[k].toNat:Int),(T.length:Int)⟩)):=by
         show TrM _ _ _ _ _;have h:=(ji.out.ext ((Below.refl _ W).alloc (A3 _) (.cells #[.int .u8 (s[k].toNat:Int),.int .i64 (T.length:Int)] 170))).put1 (k:=node) (x:=⟨(s[k].toNat:Int),(T.length:Int)⟩) (a':=a5) (c':=c5) jM jr (by rw [HA.out];exact Jx.out) (by rw [jG.out];exact jP.out) (by rw [HA.out,jG.out];exact j7.out);rw [HA.out,jB] at h;exact h
        have jy:Hid (Below w.heap.size w w6):=by
         show Below _ _ _;rw [← jB];exact ((jl.out.trans (((Below.refl _ W).alloc (A3 _) _).mono jl.out.size)).grown jP.out (by have:=jt.out;simp only [A6];omega) fun q hq=>jj.out.ge q hq).setCell (show w.heap.size≤(⟨gT,node*2+1,none⟩:Addr).block from kg) _
        have jH:(N.set node ⟨N[node].word,a5,AL.length+1,c5⟩).length=T.length:=by rw [List.length_set];exact jm.out.len
        obtain ⟨N6,jv⟩:∃ N6,N.set node ⟨N[node].word,a5,AL.length+1,c5⟩=N6:=⟨_,rfl⟩
        rw [jv] at jh jH;have j9:=A0 jH;clear jB q5 f5 jv jH
        go_wp2_with (at_builtin;go_loud (refine Ac (v:=.slice (some ⟨gT,0,none⟩) T.length cT) Dd rfl _ _ rfl rfl (jh.out.own.later ((Below.refl _ _).alloc (A3 _) _) (A3 _)) ⟨w6.heap.size,0,none⟩ 1 [⟨-1,none,0,0⟩] rfl (Ae (heap_alloc_new _ _)) (by have:=j9.out;simp only [AC];omega) (by have:=jy.out.size;simp only [A6];omega) ?_);intro v7 w7 jk jc jI;have ka:=A0 jk;have jQ:=A0 jc;clear jk jc jI)
        go_roundg (s.size - (k+1))
        case measure=>have:=jE.out;omega
        case rel =>
         have jS:Below w.heap.size w w7:=(jy.out.trans (((Below.refl _ w6).alloc (A3 _) _).mono jy.out.size)).grown jQ.out (by have:=jy.out.size;simp only [A6];omega) fun q hq=>jh.out.own.ge q hq;exact ⟨k+1,T.length,_,E4 T node s[k],X',by go_num,rfl,by omega,rfl,(jh.out.ext ((Below.refl _ _).alloc (A3 _) _)).grow ka.out jQ.out jS.size,jo.out,jS⟩
    ·have kM:=A0 (jn.out.wordEnd kA ku.out HI.out (by rw [CX];exact kB) (by omega) ((Ws.map bts).getD (i+1) []));have kl:=jm.out.word (i:=(i:Int)) jM;obtain ⟨w9,j5⟩:∃ w9,wr.setCell ⟨gT,node*2,none⟩ (.int .i64 (i:Int))=w9:=⟨_,rfl⟩
     have kx:Below w.heap.size w w9:=by
      rw [← j5];exact jp.out.setCell (show w.heap.size≤(⟨gT,node*2,none⟩:Addr).block from kg) _
     rw [j5] at kl;have kL:=A0 kl;have kD:=A0 kx;have kt:=A0 j5;have jU:wr.frozen? ⟨gT,node*2,none⟩=false:=by
      obtain ⟨cs,kf⟩:=Au jm.out.own (g:=gT) rfl;simp [World.frozen?,kf]
     clear kl kx j5
     go_wp2_with fail
     go_roundg (Ws.length - (i+1))
     case measure=>have:=kF.out;omega
     case rel=>exact ⟨i+1,_,_,X,by go_num,by omega,rfl,by rw [kt.out];exact kL.out,kM.out,by rw [kt.out];exact kD.out⟩
  ·have kN:i=Ws.length:=by omega
   subst kN;obtain ⟨ax,cx,kQ, -, -⟩:=jm.out.own.form;subst kQ;have jR:=jm.out.len;rw [jR] at jm ⊢;have kJ:=A0 (E5.done (W:=Ws.map bts) (by
    have:=jn.out;rw [show Ws.length=(Ws.map bts).length by simp] at this;exact this) HI.out)
   have kK:=A0 jm.out.tree;clear jR;go_wp2;go_ret;exact ⟨⟨_,_,_,T,rfl,rfl,kK.out,kJ.out⟩,jp.out⟩
def sxM (acc:Int) (v1:Value) (aT:Option Addr) (nT cT:Nat) (aL:Option Addr) (nL cL:Nat) (f:Nat→Value):Array Value :=
 #[.int .u8 acc,v1,.slice aT nT cT,.slice aL nL cL,f 0,f 1,f 2,f 3,f 4]
def mpV (k:Nat) (gm:Nat→Nat) (j:Nat):Value:=if j<k then .map (some (gm j)) else .map none
theorem R7 {acc:Int} {v1:Value} {aT:Option Addr} {nT cT:Nat} {aL:Option Addr} {nL cL:Nat} {gm:Nat→Nat} {k g:Nat} (hk:k<5) :
  (sxM acc v1 aT nT cT aL nL cL (mpV k gm)).setIfInBounds (4+k) (.map (some g))=sxM acc v1 aT nT cT aL nL cL (mpV (k+1) (Et gm k g)):=by
 rcases (show k=0∨k=1∨k=2∨k=3∨k=4 from by omega) with rfl | rfl | rfl | rfl | rfl <;> simp [sxM,mpV,Et]
theorem Pe {acc:Int} {aR:Option Addr} {nR cR:Nat} {aT:Option Addr} {nT cT:Nat} {aL:Option Addr} {nL cL:Nat} {gm:Nat→Nat}:sxM acc (.slice aR nR cR) aT nT cT aL nL cL (mpV 5 gm)=sxC acc aR nR cR aT nT cT aL nL cL gm:=by
 simp [sxM,sxC,mpV]
structure NsM (w0 w:World) (gx:Nat) (cs:Array Value) (k:Nat) (gm:Nat→Nat):Prop where
 rep:w.heap[gx]? = some (.cells cs 180 (0,0))
 maps:∀ j,j<k→MpG BY w (gm j) []∧w0.heap.size≤gm j
 apart:∀ a b,a<k→b<k→gm a=gm b→a=b
 gx:w0.heap.size≤gx
 bl:Below w0.heap.size w0 w
theorem NsM.ext {w0 w w':World} {gx:Nat} {cs:Array Value} {k:Nat} {gm:Nat→Nat} (h:NsM w0 w gx cs k gm) (hx:Ext w w'):NsM w0 w' gx cs k gm :=
 ⟨(Below.block hx _ (A5.1 h.rep).1).trans h.rep,fun j hj=>⟨(h.maps j hj).1.kept (Below.block hx _ (h.maps j hj).1.lt),(h.maps j hj).2⟩,h.apart,h.gx,h.bl.trans (Below.mono hx h.bl.size)⟩
theorem NsM.put {w0 w:World} {gx:Nat} {acc:Int} {v1:Value} {aT:Option Addr} {nT cT:Nat} {aL:Option Addr} {nL cL:Nat} {k:Nat} {gm:Nat→Nat} (h:NsM w0 w gx (sxM acc v1 aT nT cT aL nL cL (mpV k gm)) k gm) (hk:k<5) :
  NsM w0 ((w.alloc (.map #[] 0)).setCell ⟨gx,4+k,none⟩ (.map (some w.heap.size))) gx (sxM acc v1 aT nT cT aL nL cL (mpV (k+1) (Et gm k w.heap.size))) (k+1) (Et gm k w.heap.size):=by
 have jc:=(A5.1 h.rep).1;have jb:∀ q,q≠gx→((w.alloc (.map #[] 0)).setCell ⟨gx,4+k,none⟩ (.map (some w.heap.size))).heap[q]? = (w.alloc (.map #[] 0)).heap[q]?:=fun q hq=>Below.heap_setCell _ _ _ _ hq;have hr:(w.alloc (.map #[] 0)).heap[gx]? = some (.cells (sxM acc v1 aT nT cT aL nL cL (mpV k gm)) 180 (0,0)):=(Below.heap_alloc _ _ _ jc).trans h.rep;have jd:∀ j,j<k→gm j≠gx:=fun j hj e=>by
  obtain ⟨es,c,hm⟩:=(h.maps j hj).1.obj;rw [e,h.rep] at hm;cases hm
 refine ⟨?_,fun j hj=>?_,fun a b ha hb ja=>?_,h.gx,?_⟩
 · rw [heap_setCell_same _ gx (4+k) _ _ _ hr,R7 hk]
 ·unfold Et;by_cases e:j=k
  ·rw [if_pos e];exact ⟨(MpG.new BY w).kept (jb _ (by omega)),h.bl.size⟩
  ·rw [if_neg e];have h1:=h.maps j (by omega);refine ⟨(h1.1.kept (Below.heap_alloc _ _ _ h1.1.lt)).kept (jb _ (jd j (by omega))),h1.2⟩
 ·unfold Et at ja;by_cases e:a=k
  ·rw [if_pos e] at ja;by_cases e2:b=k
   · omega
   ·rw [if_neg e2] at ja;have:=(h.maps b (by omega)).1.lt;omega
  ·rw [if_neg e] at ja;by_cases e2:b=k
   ·rw [if_pos e2] at ja;have:=(h.maps a (by omega)).1.lt;omega
   ·rw [if_neg e2] at ja;exact h.apart a b (by omega) (by omega) ja
 · exact (h.bl.trans (((Below.refl _ w).alloc (A3 _) _).mono h.bl.size)).setCell (show w0.heap.size≤(⟨gx,4+k,none⟩:Addr).block from h.gx) _
def
  NsP (R:List Rl) (Ws:List ByteArray) (acc:Int) (aL:Option Addr) (nL cL:Nat) (w:World) (e:Ending) (w':World):Prop :=
 ∃
  gx aR cR aT cT gm T,e=.returned (.pointer (some ⟨gx,0,none⟩))∧SX w' gx acc aR (R.filter Bj).length cR aT T.length cT aL nL cL gm∧BG w' aR (R.filter Bj)∧D6 w' aT T∧TrW T (Ws.map bts)∧Rv w.heap.size gm ∧
  MpG BY w' (gm 0) [((0,0),0)]∧(∀ j,0<j→j<5→MpG BY w' (gm j) [])
def WdS (Ws:List ByteArray) (v:Value) (W:World):Prop:=∃ a c,v=.slice a Ws.length c∧BH W a Ws
theorem OJ (Ws:List ByteArray):Bb (WdS Ws):=by
 rintro v w w' ⟨a,c,h1,h2⟩ hx;exact ⟨a,c,h1,h2.later hx (A3 _)⟩
def BgS (Ws:List ByteArray) (v:Value) (W:World):Prop:=∃ aT cT T,v=.slice aT T.length cT∧D6 W aT T∧TrW T (Ws.map bts)
theorem OK (Ws:List ByteArray):Bb (BgS Ws):=by
 rintro v w w' ⟨a,c,T,h1,h2,h3⟩ hx;exact ⟨a,c,T,h1,h2.later hx (A3 _),h3⟩
def RpS (Ws:List ByteArray) (acc:Int) (aL:Option Addr) (nL cL:Nat) (v:Value) (W:World):Prop:=∃ aT cT T,v=.agg #[.int .u8 acc,.slice none 0 0,.slice aT T.length cT,.slice aL nL cL,.map none,.map none,.map none,.map none,.map none]∧D6 W aT T∧TrW T (Ws.map bts)
theorem OL (Ws:List ByteArray) (acc:Int) (aL:Option Addr) (nL cL:Nat):Bb (RpS Ws acc aL nL cL):=by
 rintro v w w' ⟨a,c,T,h1,h2,h3⟩ hx;exact ⟨a,c,T,h1,h2.later hx (A3 _),h3⟩
def PxS (w1:World) (Ws:List ByteArray) (acc:Int) (aL:Option Addr) (nL cL:Nat) (v:Value) (W:World):Prop:=∃ g aT cT T W0,v=.pointer (some ⟨g,0,none⟩)∧W0.heap.size≤g∧W.heap[g]? = some (.cells #[.int .u8 acc,.slice none 0 0,.slice aT T.length cT,.slice aL nL cL,.map none,.map none,.map none,.map none,.map none] 180 (0,0))∧D6 W0 aT T∧TrW T (Ws.map bts)∧Below W0.heap.size W0 W∧Below w1.heap.size w1 W0
theorem Jb (w1:World) (Ws:List ByteArray) (acc:Int) (aL:Option Addr) (nL cL:Nat):Bb (PxS w1 Ws acc aL nL cL):=by
 rintro v w w' ⟨g,a,c,T,W0,h1,h0,hg,h2,h3,h4,h5⟩ hx;exact ⟨g,a,c,T,W0,h1,h0,(Below.block hx g (A5.1 hg).1).trans hg,h2,h3,h4.trans (Below.mono hx h4.size),h5⟩
theorem NsM.rules {w0 w W:World} {gx B:Nat} {acc:Int} {v1:Value} {aT:Option Addr} {nT cT:Nat} {aL:Option Addr} {nL cL:Nat} {gm:Nat→Nat} {L1 L2:List Rl} {ya:Option Addr} {yc:Nat} (h:NsM w0 w gx (sxM acc v1 aT nT cT aL nL cL (mpV 5 gm)) 5 gm) (ho:AZ Br w B v1 L1) (hp:Bq Br w B v1 L2 (.slice ya L2.length yc) W) (hB:w0.heap.size≤B) :
  NsM w0 (W.setCell ⟨gx,1,none⟩ (.slice ya L2.length yc)) gx (sxM acc (.slice ya L2.length yc) aT nT cT aL nL cL (mpV 5 gm)) 5 gm∧AZ Br (W.setCell ⟨gx,1,none⟩ (.slice ya L2.length yc)) B (.slice ya L2.length yc) L2:=by
 have jc:=(A5.1 h.rep).1;have jb:∀ q,q≠gx→(W.setCell ⟨gx,1,none⟩ (.slice ya L2.length yc)).heap[q]? = W.heap[q]?:=fun q hq=>Below.heap_setCell _ _ _ _ hq;have ja:v1.ownBlock≠some gx:=fun e=>by
  obtain ⟨cs,h1⟩:=Au ho e;rw [h.rep] at h1;injection h1 with h1;injection h1 with _ h2;exact absurd h2 (by decide)
 have hr:W.heap[gx]? = some (.cells (sxM acc v1 aT nT cT aL nL cL (mpV 5 gm)) 180 (0,0)):=(hp.block gx jc ja).trans h.rep;refine ⟨⟨?_,fun j hj=>⟨?_,(h.maps j hj).2⟩,h.apart,h.gx,?_⟩,hp.own.keep fun g hg=>jb g fun e=>?_⟩
 · rw [heap_setCell_same W gx 1 _ _ _ hr];rfl
 ·have h1:=(h.maps j hj).1;refine (h1.kept (hp.block _ h1.lt fun e=>h1.not_row ho e)).kept (jb _ fun e=>?_);obtain ⟨es,c,hm⟩:=h1.obj;rw [e,h.rep] at hm;cases hm
 · refine Below.setCell (h.bl.trans (hp.below (C:=w0.heap.size) h.bl.size fun q hq=>A8 hB (ho.ge q hq))) (show w0.heap.size≤(⟨gx,1,none⟩:Addr).block from h.gx) _
 ·rcases hp.loc with h1 | ⟨q,h1,h2⟩
  · rw [h1] at hg;exact ja (by rw [hg,e])
  · rw [h1] at hg;injection hg with hg;omega
theorem newSearch_any (R:List Rl) (modes acc:Int) (aS:Option Addr) (cS:Nat) (D:List Nd) (aD:Option Addr) (cD:Nat) (aL:Option Addr) (nL cL:Nat) (w:World) (hR:BG w aS R) (hRl:R.length≤1000) (hD:C7 w aD D) (kI:D.length≤9223372036854775807) (hC:KD D)
  (hl:(B7 D).length≤1000) (hs:∀ x∈B7 D,x.size≤20) (jM:((B7 D).map bts).Pairwise fun a b=>Op.bytesLess a b=true) :
  Calls Tryz.prog 78 #[.agg #[.int .i64 modes,.int .u8 acc,.slice aS R.length cS],.slice aD D.length cD,.slice aL nL cL] w fun e w'=>NsP R (B7 D) acc aL nL cL w e w'∧Below w.heap.size w w':=by
 have HR:=A0 hR;have HD:=A0 hD;have HC:=A0 hC;have HS:=A0 hs;have HI:=A0 jM;clear hR hD hC hs jM;have jX:=@run_makeMap Tryz.prog;have kB:=A0 jX;clear jX
 go_enter Tryz.func78,Tryz.ntmps78
 go_wp2_with fail
 obtain ⟨w1,jZ⟩:∃ w1,w.alloc (.cells #[.int .i64 modes,.int .u8 acc,.slice aS R.length cS] 33)=w1:=⟨_,rfl⟩
 rw [jZ];have jT:Hid (Ext w w1):=by
  show Ext _ _;rw [← jZ];exact (Below.refl _ _).alloc (A3 _) _
 have j1:Hid (w1.heap[w.heap.size]? = some (.cells #[.int .i64 modes,.int .u8 acc,.slice aS R.length cS] 33 (0,0))):=by
  show _=_;rw [← jZ];exact heap_alloc_new _ _
 obtain ⟨gs,j9⟩:∃ gs,w.heap.size=gs:=⟨_,rfl⟩
 rw [j9] at j1 ⊢;have HGS:=A0 j9;clear jZ j9;refine An (by kernel_rfl) (Vs [vq (.pointer (some ⟨gs,1,none⟩)),vq (.int .u8 acc),vq (.slice aD D.length cD),WdS (B7 D),BgS (B7 D),vq (.slice aL nL cL),RpS (B7 D) acc aL nL cL,PxS w1 (B7 D) acc aL nL cL,PxS w1 (B7 D) acc aL nL cL]) (Xs []) (fun fL=>(fun W=>Ext w1 W) ) [0,1,0,4,12,0,63,127,255] 53 9 (by kernel_rfl) rfl ?hV ?hS ?hop ?hfin ?hlast
 case hV =>
  refine Az (Af (by simp only [AS,List.not_mem_nil,or_false,forall_eq_or_imp,forall_eq];exact ⟨AW _,AW _,AW _,OJ _,OK _,AW _,OL _ _ _ _ _,Jb _ _ _ _ _ _,Jb _ _ _ _ _ _⟩)) ?_;exact trivial
 case hS =>
  intro fL hf;show (fun W=>Ext w1 W)  _
  first | exact Ext.refl _ | exact B8 _
 case hop =>
  refine ⟨?_,?_,?_,?c3,?c4,?_,?c6,?c7,?c8,trivial⟩
  all_goals first | rw [if_neg (by decide)] | rw [if_pos (by decide)]
  all_goals try intro ac W fL jg jl jY jV jb jc ja jz
  all_goals try have hS:(fun W=>Ext w1 W)  W:=jb
  all_goals try (
   have ku:Kc w1 W:=Kc.of hS (A3 _);have x1:=ku.cell (p:=⟨gs,1,none⟩) (v:=.int .u8 acc) (by rw [cell_of_row w1 gs 1 _ _ (0,0) j1.out];rfl);clear ku)
  all_goals try have hh3:=gdA ac 3 (.pointer (some ⟨gs,0,none⟩)) (ja 3 (by kernel_rfl))
  all_goals try have hh1:=gdA ac 1 (.slice aD D.length cD) (ja 1 (by kernel_rfl))
  all_goals try have hh2:=gdA ac 2 (.slice aL nL cL) (ja 2 (by kernel_rfl))
  all_goals try have d14:(WdS (B7 D)) (ac.tmps.getD 14 undef) W:=jc 3 (by decide)
  all_goals try have d15:(BgS (B7 D)) (ac.tmps.getD 15 undef) W:=jc 4 (by decide)
  all_goals try have d17:(RpS (B7 D) acc aL nL cL) (ac.tmps.getD 17 undef) W:=jc 6 (by decide)
  all_goals try have d18:(PxS w1 (B7 D) acc aL nL cL) (ac.tmps.getD 18 undef) W:=jc 7 (by decide)
  all_goals try (have jc:=DJ jc;simp [Cg,AY,vq] at jc)
  all_goals try clear ja jY jV jz
  case c3 =>
   have jh:(fun W=>Ext w1 W)  W:=jb;refine AX rfl (.inr ⟨104,#[.slice aD D.length cD],W,by (clear jg hS jb jh jl;simp [go_sem,Act.eval, *]),?_⟩);refine (OF D aD cD W ((HD.out.later jT.out (A3 _)).later hS (A3 _)) kI HC.out).mono ?_;rintro e w' ⟨a1,c1,rfl,kN,_,hb⟩;exact ⟨_,rfl,⟨⟨a1,c1,rfl,kN⟩,hb,Ext.trans jb hb⟩⟩
  case c4 =>
   have jh:(fun W=>Ext w1 W)  W:=jb;obtain ⟨a1,c1,e14,jO⟩:=d14;rw [A4] at e14;refine AX rfl (.inr ⟨103,#[.slice a1 (B7 D).length c1],W,by (clear jg hS jb jh jl jO;simp [go_sem,Act.eval, *]),?_⟩);refine (begin_any (B7 D) (B7 D).length a1 c1 W jO rfl hl HS.out HI.out).mono ?_;rintro e w' ⟨⟨aT,nT,cT,T,rfl,rfl,hT,hW⟩,hb⟩;exact ⟨_,rfl,⟨⟨aT,cT,T,rfl,hT,hW⟩,hb,Ext.trans jb hb⟩⟩
  case c6 =>
   have jh:(fun W=>Ext w1 W)  W:=jb;obtain ⟨aT,cT,T,e15,jC,jE⟩:=d15;rw [A4] at e15;refine AX rfl (.inl ⟨.agg #[.int .u8 acc,.slice none 0 0,.slice aT T.length cT,.slice aL nL cL,.map none,.map none,.map none,.map none,.map none],W,?_,⟨aT,cT,T,rfl,jC,jE⟩,Ext.refl _,jh⟩);clear jg hS jb jh jl jC jE;simp [go_sem,Act.eval, *]
  case c7 =>
   have jh:(fun W=>Ext w1 W)  W:=jb;obtain ⟨aT,cT,T,e17,jD,jF⟩:=d17;rw [A4] at e17;have jn:Ext W (W.alloc (.cells #[.int .u8 acc,.slice none 0 0,.slice aT T.length cT,.slice aL nL cL,.map none,.map none,.map none,.map none,.map none] 180)):=(Below.refl _ _).alloc (A3 _) _;refine AX rfl (.inl ⟨.pointer (some ⟨W.heap.size,0,none⟩),W.alloc (.cells #[.int .u8 acc,.slice none 0 0,.slice aT T.length cT,.slice aL nL cL,.map none,.map none,.map none,.map none,.map none] 180),?_,⟨W.heap.size,aT,cT,T,W,rfl,A3 _,heap_alloc_new _ _,jD,jF,jn,hS⟩,jn,Ext.trans jb jn⟩);clear jg hS jb jh jl jD jF jn;simp [go_sem,Act.eval, *]
  case c8 =>
   have jh:(fun W=>Ext w1 W)  W:=jb;refine AX rfl (.inl ⟨_,W,?_,d18,Ext.refl _,jh⟩);clear jg hS jb jh jl;simp [go_sem,Act.eval, *]
  all_goals (refine AX rfl (.inl ⟨_,W,?_,rfl,Ext.refl _,jb⟩);clear jg hS jb jl;simp [go_sem,Act.eval, *];done)
 case hlast =>
  intro h;exact absurd rfl h
 case hfin
      =>
  intro _ ac W jg jJ fL hf jb hv ja;have hS:(fun W=>Ext w1 W)  W:=jb;clear jb;obtain ⟨sx,jq,jP⟩:=Ag [11,12,13,14,15,16,17,18,7] (by kernel_rfl) jg jJ ja;have kM:PxS w1 (B7 D) acc aL nL cL (ac.tmps.getD 7 undef) W:=hv 8 (by decide);obtain ⟨gx,aT,cT,T,W0,e7v,jv,jp,ko,kq,jt,js⟩:=kM;have e7:sx 7=.pointer (some ⟨gx,0,none⟩):=(jq 7).trans e7v;clear e7v;rw [jP];simp only [List.foldl];simp only [Act.put,List.setIfInBounds_toArray,List.set_cons_succ,List.set_cons_zero];clear jP jq hv ja jg jJ hf;rw [e7];clear e7;have jQ:Hid (Below w.heap.size w W0):=Below.trans jT.out (js.mono (Below.size jT.out));have jd:Hid (NsM w W gx (sxM acc (.slice none 0 0) aT T.length cT aL nL cL (mpV 0 fun _=>0)) 0 fun _=>0):=⟨jp,fun j hj=>absurd hj (Nat.not_lt_zero _),fun a b ha=>absurd ha (Nat.not_lt_zero _),A8 jQ.out.size jv,jQ.out.trans (jt.mono jQ.out.size)⟩
  have kF:=A0 ko;have kG:=A0 kq;have kf:=A0 jt;have kx:=A0 js;clear ko kq jt js jp hS;have jX:=kB.out
  go_wp2_with fail
  go_loopg [19] 5 (fun g v19 wr=>∃ (k:Nat) (gm:Nat→Nat),v19=.int .i64 (k:Int)∧k≤5∧g=5 - k∧NsM w wr gx (sxM acc (.slice none 0 0) aT T.length cT aL nL cL (mpV k gm)) k gm∧Below W0.heap.size W0 wr)
  case atStart=>exact ⟨0,_,rfl,Nat.zero_le _,rfl,jd.out,kf.out⟩
  case round =>
   clear jd kf;obtain ⟨k,gm,rfl,hk,jK,jw,jI⟩:=hrel;have jd:=A0 jw;have jk:=A0 jI;have jB:=A0 jK;have jm:=(A5.1 jw.rep).1;clear jw jI jK;by_cases jA:k<5
   ·have hlI:(k:Int)<5:=by omega
    have h0I:(0:Int)≤(k:Int):=by omega
    have hcl:wr.cell? ⟨gx,4+k,none⟩=some (.map none):=by
     rw [cell_of_row wr gx (4+k) _ _ (0,0) jd.out.rep];rcases (show k=0∨k=1∨k=2∨k=3∨k=4 from by omega) with rfl | rfl | rfl | rfl | rfl <;> simp [sxM,mpV]
    have hfz:wr.frozen? ⟨gx,4+k,none⟩=false:=by simp [World.frozen?,jd.out.rep]
    have jy:=jd.out.put jA;rw [World.setCell_alloc_past _ _ _ _ jm] at jy;have kC:=A0 jy;clear jy;have ky:Hid (Below W0.heap.size W0 ((wr.setCell ⟨gx,4+k,none⟩ (.map (some wr.heap.size))).alloc (.map #[] 0))):=by
     show Below _ _ _;rw [← World.setCell_alloc_past _ _ _ _ jm];exact Below.setCell (jk.out.trans (((Below.refl _ wr).alloc (A3 _) _).mono jk.out.size)) (show W0.heap.size≤(⟨gx,4+k,none⟩:Addr).block from jv) _
    go_wp2_with fail
    go_roundg (5 - (k+1))
    case measure=>have:=jB.out;omega
    case rel=>exact ⟨k+1,_,by go_num,by omega,rfl,kC.out,ky.out⟩
   ·obtain rfl:k=5:=by omega
    clear jX;have ki:Hid (∀ W,Below W0.heap.size W0 W→Kc w1 W):=fun W hb=>(Kc.of kx.out (A3 _)).trans (Kc.of hb (A3 _));have x2:=(ki.out wr jk.out).cell (p:=⟨gs,2,none⟩) (v:=.slice aS R.length cS) (by rw [cell_of_row w1 gs 2 _ _ (0,0) j1.out];rfl)
    go_wp2_with fail
    clear x2
    go_loopg [32] R.length (fun g v32 wr=>∃ (k:Nat) (v1:Value),v32=.int .i64 (k:Int)∧k≤R.length∧g=R.length - k∧NsM w wr gx (sxM acc v1 aT T.length cT aL nL cL (mpV 5 gm)) 5 gm∧AZ Br wr W0.heap.size v1 ((R.take k).filter Bj)∧Below W0.heap.size W0 wr)
    case atStart=>exact ⟨0,_,rfl,Nat.zero_le _,rfl,jd.out,AZ.nil _ _ _,jk.out⟩
    case round =>
     clear jd jk jB jA jm;obtain ⟨k,v1,rfl,hk2,jK,jw,jx,jI⟩:=hrel;obtain ⟨a1,c1,kO, -, -⟩:=jx.form;subst kO;have jd:=A0 jw;have jS:=A0 jx;have jk:=A0 jI;have jB:=A0 jK;have jm:=(A5.1 jw.rep).1;clear jw jx jI jK;obtain ⟨L1,jU⟩:∃ L1,(R.take k).filter Bj=L1:=⟨_,rfl⟩
     have hL1l:L1.length≤1000:=by
      rw [← jU];exact A8 (List.length_filter_le _ _) (by rw [AK];omega)
     rw [jU] at jd jS;have j2:=A0 jU;clear jU;by_cases jA:k<R.length
     ·have kv:Kc w wr:=(Kc.of jT.out (A3 _)).trans (ki.out wr jk.out);obtain ⟨b1,o1,kr,kK,r0,r1,r2,r3,r4⟩:=(BG.kp HR.out kv).at jA;have kL:=Bx aS b1 o1 R.length cS k kr jA;have kb:R.take (k+1)=R.take k ++ [R[k]]:=AN jA;obtain ⟨r,hr⟩:∃ r,R[k]=r:=⟨_,rfl⟩
      rw [hr] at r0 r1 r2 r3 r4 kb;have km:=A0 kb;obtain ⟨frm,dst,inp,out,cost⟩:=r;simp only at r0 r1 r2 r3 r4;clear kv kr hr kb
      go_upto_region 10 with fail
      obtain ⟨w4,j0⟩:∃ w4,wr.alloc (.cells #[.int .i64 frm,.int .i64 dst,.string inp,.string out,.int .i64 cost] 88)=w4:=⟨_,rfl⟩
      rw [j0];have kH:Hid (Ext wr w4):=by
       show Ext _ _;rw [← j0];exact (Below.refl _ _).alloc (A3 _) _
      have jR:Hid (w4.heap[wr.heap.size]? = some (.cells #[.int .i64 frm,.int .i64 dst,.string inp,.string out,.int .i64 cost] 88 (0,0))):=by
       show _=_;rw [← j0];exact heap_alloc_new _ _
      obtain ⟨g4,kt⟩:∃ g4,wr.heap.size=g4:=⟨_,rfl⟩
      rw [kt] at jR ⊢;have hg4g:g4≠gx:=by omega
      have j3:Hid ((.slice a1 L1.length c1:Value).ownBlock≠some g4):=fun e=>by have:=jS.out.lt _ e;omega
      obtain ⟨d0,d1,d2,d3,d4⟩:=BP jR.out;have j6:=PG ⟨frm,dst,inp,out,cost⟩ w4;obtain ⟨fb,j7⟩:∃ fb,Bj ⟨frm,dst,inp,out,cost⟩=fb:=⟨_,rfl⟩
      rw [j7] at j6;have kA:=A0 j6;have kh:=A0 j7;clear j0 kt j6 j7 r0 r1 r2 r3 r4 kL kK
      go_wp2_with fail
      refine kA.out.mono ?_;rintro e w5 ⟨rfl,j5⟩;have j4:Hid (Ext wr w5):=Ext.trans kH.out j5;have kg:Hid (w5.heap[g4]? = some (.cells #[.int .i64 frm,.int .i64 dst,.string inp,.string out,.int .i64 cost] 88 (0,0))):=(j5.block g4 (A5.1 jR.out).1).trans jR.out;have je:=A0 (jd.out.ext j4.out);have jf:=A0 (jS.out.later j4.out (A3 _));have jr:Hid (Below W0.heap.size W0 w5):=jk.out.trans (Below.mono j4.out jk.out.size);clear d0 d1 d2 d3 d4 j5;cases fb with
      | false =>
       have HN:Hid ((R.take (k+1)).filter Bj=L1):=by show _=_;rw [km.out,List.filter_append,j2.out];simp [List.filter_cons,kh.out]
       go_wp2_with fail
       go_roundg (R.length - (k+1))
       case measure=>have:=jB.out;omega
       case rel=>exact ⟨k+1,_,by go_num,by omega,rfl,je.out,by rw [HN.out];exact jf.out,jr.out⟩
      | true =>
       have HN:Hid ((R.take (k+1)).filter Bj=L1 ++ [⟨frm,dst,inp,out,cost⟩]):=by show _=_;rw [km.out,List.filter_append,j2.out];simp [List.filter_cons,kh.out]
       have kl:Hid (W0.heap.size≤w5.heap.size):=jr.out.size;have jL:=(A5.1 je.out.rep).1
       go_wp2_with fail
       refine An (by kernel_rfl) (Vs [vq (.pointer (some ⟨gx,0,none⟩)),vq (.pointer (some ⟨gx,0,none⟩)),vq (.pointer (some ⟨gx,0,none⟩)),vq (.pointer (some ⟨gx,1,none⟩)),vq (.slice a1 L1.length c1),vq (.agg #[.int .i64 frm,.int .i64 dst,.string inp,.string out,.int .i64 cost]),Da Br (.slice a1 L1.length c1) (⟨frm,dst,inp,out,cost⟩:Rl),Bq Br (w5) (W0.heap.size) (.slice a1 L1.length c1) (L1 ++ [(⟨frm,dst,inp,out,cost⟩:Rl)]),vq (.pointer (some ⟨gx,0,none⟩)),vq (.pointer (some ⟨gx,1,none⟩))]) (Xs [Ext,Ext,Ext,Ext,Ext,Ext,Ext,(fun w w'=>w.grownBy w' (.slice a1 L1.length c1:Value).ownBlock),Ext,Ext]) (fun fL=>(ApT (w5) (.slice a1 L1.length c1)) (fL 7)) [0,0,2,6,14,0,32,126,1,257] 53 10 (by kernel_rfl) rfl ?hV ?hS ?hop ?hfin ?hlast
       case hV =>
        refine Az (Af (by simp only [AS,List.not_mem_nil,or_false,forall_eq_or_imp,forall_eq];exact ⟨AW _,AW _,AW _,AW _,AW _,AW _,CT _ _ _,Bf,AW _,AW _⟩)) ?_;exact ⟨.inl rfl,.inl rfl,.inl rfl,.inl rfl,.inl rfl,.inl rfl,.inl rfl,.inr (Aw ⟨fun _ _=>fun _ _ _ h _=>h,fun _ _=>fun _ _ _ h _=>h,fun _ _=>fun _ _ _ h _=>h,fun _ _=>fun _ _ _ h _=>h,fun _ _=>fun _ _ _ h _=>h,fun _ _=>fun _ _ _ h _=>h,fun _ _=>CU _ _ _,fun h=>absurd rfl h,fun _ _=>fun _ _ _ h _=>h,fun _ _=>fun _ _ _ h _=>h,trivial⟩),.inl rfl,.inl rfl,trivial⟩
       case hS =>
        intro fL hf;show (ApT (w5) (.slice a1 L1.length c1)) (fL 7) _;rw [hf 7 (by decide)]
        first | exact Ext.refl _ | exact B8 _
       case hop =>
        refine ⟨?_,?_,?_,?_,?_,?_,?c6,?c7,?_,?_,?_,trivial⟩
        all_goals first | rw [if_neg (by decide)] | rw [if_pos (by decide)]
        all_goals try exact True.intro
        all_goals try intro ac W fL jg jl jY jV jb jc ja jz
        all_goals try have hS:(ApT (w5) (.slice a1 L1.length c1)) (fL 7) W:=jb
        all_goals try (have ju:fL 7=true:=jY 7 (by decide);rw [ju] at hS)
        all_goals try (have ju:fL 7=false:=(by first | exact jl | exact jV 7 (by decide) (by decide));rw [ju] at hS)
        all_goals try (
         have jN:(.slice a1 L1.length c1:Value).ownBlock≠some gx:=fun e=>by
          obtain ⟨cs,h1⟩:=Au jf.out e;rw [je.out.rep] at h1;injection h1 with h1;injection h1 with _ h2;exact absurd h2 (by decide)
         have ji:=(ApT.old jb gx jL jN).trans je.out.rep;have hcx:W.cell? ⟨gx,1,none⟩=some (.slice a1 L1.length c1):=by rw [cell_of_row W gx 1 _ _ (0,0) ji];rfl
         obtain ⟨d0,d1,d2,d3,d4⟩:=BP ((ApT.old jb g4 (A5.1 kg.out).1 j3.out).trans kg.out);clear ji jN)
        all_goals try have hh7:=gdA ac 7 (.pointer (some ⟨gx,0,none⟩)) (ja 7 (by kernel_rfl))
        all_goals try have hh10:=gdA ac 10 (.pointer (some ⟨g4,0,none⟩)) (ja 10 (by kernel_rfl))
        all_goals try (have d42:ac.tmps.getD 42 undef=.slice a1 L1.length c1:=jc 4 (by decide);have dd42:=d42;rw [A4] at dd42)
        all_goals try have d44:(Da Br (.slice a1 L1.length c1) (⟨frm,dst,inp,out,cost⟩:Rl)) (ac.tmps.getD 44 undef) W:=jc 6 (by decide)
        all_goals try (have jc:=DJ jc;simp [Cg,AY,vq] at jc)
        all_goals try clear ja jY jV jz
        case c6 =>
         have jh:(ApT (w5) (.slice a1 L1.length c1)) ((upd fL 6) 7) W:=jb;have jo:(.slice a1 L1.length c1:Value).ownBlock≠some W.heap.size:=fun e=>by
          have h9:=(jf.out).lt _ e;have h8:=Below.size hS;omega
         refine AX rfl (.inl ⟨.slice (some ⟨W.heap.size,0,none⟩) 1 1,W.alloc (.cells #[.int .i64 frm,.int .i64 dst,.string inp,.string out,.int .i64 cost] 88),?_,⟨_,rfl,heap_alloc_new _ _,jo⟩,(Below.refl _ _).alloc (A3 _) _,(show (ApT (w5) (.slice a1 L1.length c1)) ((upd fL 6) 7) _ by
          rw [show upd fL 6 7=fL 7 from if_neg (by decide)];exact ApT.ext _ _ _ jb ((Below.refl _ _).alloc (A3 _) _))⟩)
         clear jg hS jb jh jl jo;simp [go_sem,Act.eval, *]
        case c7 =>
         obtain ⟨g62,e62,j8,hn62⟩:=d44;refine AX rfl ((B6 FD (.tmp 42) (.tmp 44) rfl (Ad d42) ((jf.out).later hS (A3 _)) ⟨g62,0,none⟩ 1 [(⟨frm,dst,inp,out,cost⟩:Rl)] (Ad e62) (Ae j8) (by simp only [AC];omega) (A8 kl.out (Below.size hS))).mono ?_);rintro va w' ⟨ho,jW,kJ⟩;have jH:=Bq.made hS ho jW kJ;refine ⟨jH,jW,?_⟩;show ApT (w5) (.slice a1 L1.length c1) (upd fL 7 7) w';rw [show upd fL 7 7=true from if_pos rfl];exact jH.old
        all_goals (refine AX rfl (.inl ⟨_,W,?_,rfl,Ext.refl _,jb⟩);clear jg hS jb jl;simp [go_sem,Act.eval, *];done)
       case hfin =>
        intro h;exact absurd h (by decide)
       case hlast =>
        intro _ ac W jg jJ fL hf jb hv ja;have hS:(ApT (w5) (.slice a1 L1.length c1)) (fL 7) W:=jb;clear jb;rw [hf 7 (by decide)] at hS;have kw:ac.tmps.getD 47 undef=.pointer (some ⟨gx,1,none⟩):=hv 9 (by decide);have jj:Bq Br (w5) (W0.heap.size) (.slice a1 L1.length c1) (L1 ++ [(⟨frm,dst,inp,out,cost⟩:Rl)]) (ac.tmps.getD 45 undef) W:=hv 7 (by decide);obtain ⟨ya,yc,kd, -, -⟩:=jj.own.form;rw [kd] at jj;have jN:(.slice a1 L1.length c1:Value).ownBlock≠some gx:=fun e=>by
         obtain ⟨cs,h1⟩:=Au jf.out e;rw [je.out.rep] at h1;injection h1 with h1;injection h1 with _ h2;exact absurd h2 (by decide)
        have ji:=(jj.block gx jL jN).trans je.out.rep;refine BK rfl rfl rfl rfl (Ad kw) (Ad kd) (by simp [World.frozen?,ji]) (by rw [cell_of_row W _ _ _ _ (0,0) ji];rfl) (by kernel_rfl) ?_;clear ji jN;obtain ⟨wz,kc⟩:∃ wz,W.setCell ⟨gx,1,none⟩ (.slice ya (L1 ++ [(⟨frm,dst,inp,out,cost⟩:Rl)]).length yc)=wz:=⟨_,rfl⟩
        rw [kc];have ke:=A0 jj;have kn:=A0 kc;clear hS jj kw kc;obtain ⟨sx,jq,jP⟩:=Ag [38,39,40,41,42,43,44,45,46,47] (by kernel_rfl) jg jJ ja;clear kd;rw [jP];simp only [List.foldl];simp only [Act.put,List.setIfInBounds_toArray,List.set_cons_succ,List.set_cons_zero];clear jP jq hv ja jg jJ hf;have ka:=je.out.rules jf.out ke.out jQ.out.size;rw [kn.out] at ka;have ks:Below W0.heap.size W0 wz:=by
         rw [← kn.out];exact Below.setCell (jr.out.trans (ke.out.below kl.out fun q hq=>jf.out.ge q hq)) (show W0.heap.size≤(⟨gx,1,none⟩:Addr).block from jv) _
        have kk:=A0 ka;have kz:=A0 ks;clear ka ks
        go_wp2_with fail
        go_roundg (R.length - (k+1))
        case measure=>have:=jB.out;omega
        case rel=>exact ⟨k+1,_,by go_num,by omega,rfl,kk.out.1,by rw [HN.out];exact kk.out.2,kz.out⟩
     ·have jG:R.take k=R:=AF (by omega);have kj:Hid (L1=R.filter Bj):=by show _=_;rw [← j2.out,jG]
      have jq:SX wr gx acc a1 L1.length c1 aT T.length cT aL nL cL gm:=by
       have h:=jd.out.rep;rw [Pe] at h;exact h
      have kD:=A0 (put_new (w:=wr) 0 0 0 0 0 [] (by omega) rfl jq (jd.out.maps 0 (by decide)).1 (show BY.ok (0,0) from ⟨by decide,by decide⟩) (by decide) (by decide) rfl);have kE:=A0 jq;clear jG jq
      go_wp2_with fail
      refine kD.out.mono ?_;rintro e w9 ⟨rfl,hp⟩;have HP:=A0 hp;clear hp
      go_wp2_with fail
      go_ret;have Jx:=HP.out.kp (jd.out.maps 0 (by decide)).1;have jW:=HP.out.gr;refine ⟨⟨gx,a1,c1,aT,cT,gm,T,rfl,?_,?_,?_,kG.out,⟨jd.out.apart,fun j hj=>(jd.out.maps j hj).2⟩,HP.out.map,fun j h0 hj=>?_⟩,jd.out.bl.trans (HP.out.below (jd.out.maps 0 (by decide)).2 jd.out.bl.size)⟩
      · rw [← kj.out];exact kE.out.kp Jx
      · rw [← kj.out];exact BG.kp (AZ.ruls jS.out).1 Jx
      · exact (kF.out.later jk.out (A3 _)).kp Jx
      · exact (jd.out.maps j hj).1.kept (jW _ (jd.out.maps j hj).1.lt fun e=>by have:=jd.out.apart j 0 hj (by decide) e;omega)
def svS (x:SV):Value:=.slice x.a x.n x.c
def CZ:BQ SV:=⟨103,72,1,24,.slice none 0 0,fun x=>[.slice x.a x.n x.c]⟩
theorem EW:CZ.Ok:=⟨Tryz.underlying103,by kernel_rfl,rfl,by decide,fun _=>rfl,fun x u hu=>by obtain rfl:u=.slice x.a x.n x.c:=(AD.1 hu);rfl,by decide⟩
theorem AZ.kc {α:Type} {T:BQ α} {w w':World} {B:Nat} {v:Value} {L:List α} (h:AZ T w B v L) (hk:Kc w w'):AZ T w' B v L:=h.keep fun g hg=>by
 obtain ⟨cs,hc⟩:=Au h hg;rw [hk.block _ _ _ _ hc,hc]
theorem H7 {α:Type} (T:BQ α) (z0:α) (hz:T.enc z0=[T.z]):∀ n,(List.replicate n z0).flatMap T.enc=List.replicate n T.z
 | 0=>rfl
 | n+1=>by rw [List.replicate_succ,List.flatMap_cons,H7 T z0 hz n,hz,List.replicate_succ];rfl
theorem J3 {α:Type} {T:BQ α} (hT:T.Ok) (jc:T.k=1) (z0:α) (hz:T.enc z0=[T.z]) (jh:T.z.cells=#[T.z]) {w:World} {ops:Array Oper} {rest:List Oper} {o:Oper} {a:Act} {Q:Exit→Act→World→Prop}
  (jb:o.guard=none) (l c:Operand) (jd:o.op=Op.makeSlice T.sl l c) (B n:Nat) (hl:a.eval l=.int .i64 (n:Int)) (hc:a.eval c=.int .i64 (n:Int)) (hn:n≤1000000) (hB:B≤w.heap.size)
  (hK:∀ w',AZ T w' B (.slice (some ⟨w.heap.size,0,none⟩) n n) (List.replicate n z0)→Below w.heap.size w w'→wpList Tryz.prog ops Q rest (a.put o.dst (.slice (some ⟨w.heap.size,0,none⟩) n n)) w'):wpList Tryz.prog ops Q (o :: rest) a w:=by
 obtain ⟨i0,hi,je,jf,jg⟩:=info_parts hT.info;have hb:i0.bytes*n≤64*1000000:=Nat.mul_le_mul (by rw [jg];exact hT.b) hn;refine wpList_make_full w jb l c T.sl jd B T.e i0 T.z T.k hT.und hi je jf .i64 .i64 (n:Int) (n:Int) n hl hc rfl rfl (by omega) (by unfold maxLen;omega) hB ?_;intro w' ja hg;refine hK w' ?_ ⟨hg.os,hg.tape,hg.output,hg.size,fun k hk=>hg.block k hk (by simp)⟩;unfold AZ;rw [List.length_replicate];have e:(madeCells T.z.cells (n*T.k)).toList=(List.replicate n z0).flatMap T.enc:=by
  rw [jc,Nat.mul_one,jh];have h1:=H7 T z0 hz n;rw [h1];apply List.ext_getElem
  · simp [madeCells]
  ·intro j h2 h3;simp [madeCells,Nat.mod_one]
 rw [← e];exact ja
def MM (R:List Rl) (acc:Int) (L:List Slt) (W:List (List UInt8)) (B:Nat) (w:World) (Ls:List SV) (i:Nat):Prop :=
 ∀ (k:Nat) (h:k<Ls.length),k<i→∃ l,AZ C2 w B (svS Ls[k]) l∧PJ R acc L W k l
theorem MM.kc {R:List Rl} {acc:Int} {L:List Slt} {W:List (List UInt8)} {B:Nat} {w w':World} {Ls:List SV} {i:Nat} (h:MM R acc L W B w Ls i) (hk:Kc w w'):MM R acc L W B w' Ls i:=fun k hl hi=>by
 obtain ⟨l,h1,h2⟩:=h k hl hi;exact ⟨l,h1.kc hk,h2⟩
def Rg (R:List Rl) (acc:Int) (L:List Slt) (W:List (List UInt8)) (B:Nat) (e:Ending) (w':World):Prop :=
 ∃ g Ls,e=.returned (.slice (some ⟨g,0,none⟩) (L.length+1) (L.length+1))∧AZ CZ w' B (.slice (some ⟨g,0,none⟩) (L.length+1) (L.length+1)) Ls∧Ls.length=L.length+1∧MM R acc L W B w' Ls (L.length+1)
theorem MN {R:List Rl} {acc:Int} {L:List Slt} {W:List (List UInt8)} {B C g n i:Nat} {w:World} {Ls:List SV} {a:Option Addr} {l:List (Nat × Nat)} {c:Nat} (ho:AZ CZ w C (.slice (some ⟨g,0,none⟩) n n) Ls) (hf:MM R acc L W B w Ls i) (hi:i<Ls.length)
  (hv:AZ C2 w B (.slice a l.length c) l) (hl:PJ R acc L W i l) :
  AZ CZ (w.setCell ⟨g,i,none⟩ (.slice a l.length c)) C (.slice (some ⟨g,0,none⟩) n n) (Ls.set i ⟨a,l.length,c⟩)∧MM R acc L W B (w.setCell ⟨g,i,none⟩ (.slice a l.length c)) (Ls.set i ⟨a,l.length,c⟩) (i+1):=by
 have ja:∀ {v:Value} {l2:List (Nat × Nat)},AZ C2 w B v l2→AZ C2 (w.setCell ⟨g,i,none⟩ (.slice a l.length c)) B v l2:=fun {v l2} h=>h.keep fun q hq=>Below.heap_setCell _ _ _ _ (by
  show q≠g;intro e;obtain ⟨cs,h1⟩:=Au h hq;obtain ⟨cs2,h2⟩:=Au ho (g:=g) rfl;rw [e,h2] at h1;injection h1 with h1;injection h1 with _ h3;exact absurd h3 (by decide))
 refine ⟨ho.setCell (by simp) ?_ (by show i<Ls.length*1;omega) EW,fun k hk hki=>?_⟩
 ·have:∀ (M:List SV),M.flatMap CZ.enc=M.map fun x=>.slice x.a x.n x.c:=fun M=>by
   induction M with
   | nil=>rfl
   | cons x r ih=>rw [List.flatMap_cons,ih];rfl
  rw [this,this,List.map_set]
 ·have jb:k<Ls.length:=by simpa using hk
  rw [List.getElem_set];by_cases e:i=k
  ·subst e;rw [if_pos rfl];exact ⟨l,ja hv,hl⟩
  ·rw [if_neg e];obtain ⟨l2,h1,h2⟩:=hf k jb (by omega);exact ⟨l2,ja h1,h2⟩
structure SrI (R:List Rl) (L:List Slt) (T:List Bn) (gm:Nat→Nat) (i D:Nat) (M:Nat→Ent) (w:World):Prop where
 maps:∀ j,i≤j→j<i+5→MpG BY w (gm (j % 5)) (M j)
 inv:Inv R L (folT T) i M
 bnd:Bnd T.length i (i*((8*T.length+1)*D)) D M
 out:∀ j,¬ j<i+5→M j=[]
theorem IR (b len cap k:Nat) (hk:k<len) (w:World) :
  (Instr.indexAt 103 (.slice (some ⟨b,0,none⟩) len cap) (.int .i64 (k:Int))).run Tryz.prog w=.ok (.pointer (some ⟨b,k,none⟩)) w:=by
 have h0:(0:Int)≤(k:Int):=by omega
 have h1:(k:Int)<(len:Int):=by omega
 simp [go_sem,h0,h1]
structure EnQ (R:List Rl) (acc:Int) (L:List Slt) (X:List (List UInt8)) (T:List Bn) (gm:Nat→Nat) (D:Nat) (w1 w2:World) (gE i:Nat) (w:World):Prop where
 sr:∃ M,SrI (R.filter Bj) L T gm i D M w
 row:∃ Ls,AZ CZ w w2.heap.size (.slice (some ⟨gE,0,none⟩) (L.length+1) (L.length+1)) Ls∧Ls.length=L.length+1∧MM R acc L X w1.heap.size w Ls i
 kc:Kc w2 w
 bl:Below w1.heap.size w1 w
theorem ends_any (R:List Rl) (modes acc:Int) (aS:Option Addr) (cS:Nat) (D:List Nd) (aD:Option Addr) (cD:Nat) (aL:Option Addr) (L:List Slt) (cL C:Nat) (w:World) (hR:BG w aS R) (j4:R.length≤1000) (hO:∀ r∈R,r.out.size≤1000000) (hD:C7 w aD D) (kH:D.length≤9223372036854775807) (hC:KD D)
  (hl:(B7 D).length≤1000) (hs:∀ x∈B7 D,x.size≤20) (jq:((B7 D).map bts).Pairwise fun a b=>Op.bytesLess a b=true) (hL:CE w aL L) (hLl:L.length≤1000) (j2:Bp C L) (kG:C≤1000000)
  (jd:∀ N i,N≤1+20*(B7 D).length→i≤L.length→8*N*(i*((8*N+1)*(1000+4*C))+(8*N+1)*(1000+4*C)+2)≤900000000000) (kJ:0≤acc) (kK:acc≤255) :
  Calls Tryz.prog 44 #[.agg #[.int .i64 modes,.int .u8 acc,.slice aS R.length cS],.slice aD D.length cD,.slice aL L.length cL] w fun e w'=>Rg R acc L ((B7 D).map bts) w.heap.size e w'∧Below w.heap.size w w':=by
 have HO:=A0 hO;have ky:=A0 hL;have kr:=A0 j2;have jR:=A0 jd;obtain ⟨X,hX⟩:∃ X,(B7 D).map bts=X:=⟨_,rfl⟩
 have j6:X.length=(B7 D).length:=by rw [← hX,AM]
 have j1:=A0 j6;have kF:=A0 hX;have kl:=fun w1 (hx:Ext w w1)=>newSearch_any R modes acc aS cS D aD cD aL L.length cL w1 (hR.later hx (A3 _)) j4 (hD.later hx (A3 _)) kH hC hl hs jq;have jW:=A0 kl;have j3:(R.filter Bj).length≤1000:=A8 (List.length_filter_le _ _) j4;have kC:=A0 j3;clear hR hO hD hC hs jq hL j2 jd kl j6 j3
 go_enter Tryz.func44,Tryz.ntmps44
 go_wp2_with fail
 obtain ⟨w1,jP⟩:∃ w1,w.alloc (.cells #[.int .i64 modes,.int .u8 acc,.slice aS R.length cS] 33)=w1:=⟨_,rfl⟩
 rw [jP];have jk:Hid (Ext w w1):=by
  show Ext _ _;rw [← jP];exact (Below.refl _ _).alloc (A3 _) _
 clear jP;refine (jW.out w1 jk.out).mono ?_;rintro e w2 ⟨⟨gx,aR,cR,aT,cT,gm,T,rfl,kn,km,ko,jy,kf,ki,kk⟩,j8⟩;rw [hX] at jy;have jI:=A0 kn;have kD:=A0 km;have jZ:=A0 ko;have jj:=A0 jy;have jE:=A0 kf;have jS:=A0 ki;have jV:=A0 kk;have jl:=A0 j8;have j5:T.length≤1+20*(B7 D).length:=by have:=jy.size;have:=j1.out;omega
 have jw:=A0 j5;clear hX jW kn km ko jy kf ki kk j8 j5
 go_wp2_with (at_make;go_loud (refine J3 EW rfl ⟨none,0,0⟩ rfl rfl rfl _ _ rfl w2.heap.size (L.length+1) (by go_num) (by go_num) (by omega) (A3 _) ?_);intro w3 je j9;have jX:=A0 je;have ju:=A0 j9;clear je j9)
 have jb:Hid (EnQ R acc L X T gm (1000+4*C) w1 w2 w2.heap.size 0 w3):=by
  refine ⟨⟨M0,⟨fun j h1 h2=>?_,TC _ _ _,by rw [Nat.zero_mul];exact TD jj.out.pos,fun j hj=>?_⟩⟩,⟨_,jX.out,by rw [List.length_replicate],fun k _ hk=>absurd hk (Nat.not_lt_zero _)⟩,Kc.of ju.out (A3 _),jl.out.trans (ju.out.mono jl.out.size)⟩
  ·have hj:j % 5=j:=Nat.mod_eq_of_lt (by omega);rw [hj];have hm:MpG BY w2 (gm j) (M0 j):=by
    unfold M0;split
    · rename_i e;subst e;exact jS.out
    · rename_i e;exact jV.out j (by omega) (by omega)
   exact hm.kept (ju.out.block _ hm.lt)
  ·unfold M0;rw [if_neg (by omega)]
 obtain ⟨gE,kd⟩:∃ gE,w2.heap.size=gE:=⟨_,rfl⟩
 have kv:Hid (w1.heap.size≤gE):=by have:=jl.out.size;show _≤_;omega
 have jD:Hid (w2.heap.size≤gE):=by show _≤_;omega
 have kx:Hid (gx<gE):=by have:=jI.out.lt;show _<_;omega
 rw [kd] at jb ⊢;clear kd jX ju jS jV
 go_loopg [20] (L.length+1) (fun g v20 wr=>∃ i:Nat,v20=.int .i64 (i:Int)∧i≤L.length+1∧g=L.length+1 - i∧EnQ R acc L X T gm (1000+4*C) w1 w2 gE i wr)
 case atStart=>exact ⟨0,rfl,Nat.zero_le _,rfl,jb.out⟩
 case round =>
  clear jb;obtain ⟨i,rfl,hi,ke,ka⟩:=hrel;have jb:=A0 ka;have kw:=A0 ke;clear ka ke;by_cases kN:i<L.length+1
  ·obtain ⟨M,js⟩:=jb.out.sr;obtain ⟨Ls,jc,jx,jp⟩:=jb.out.row;have kh:Kc w wr:=(Kc.of jk.out (A3 _)).trans ((Kc.of jl.out (A3 _)).trans jb.out.kc);have jt:=svisit_any (R.filter Bj) L T C i (i*((8*T.length+1)*(1000+4*C))) (1000+4*C) w1.heap.size M (jI.out.kp jb.out.kc) (BG.kp kD.out jb.out.kc) rfl kC.out (K7 R) (fun r hr=>HO.out r (AU.1 hr).1)
    (ky.out.kp kh) rfl (by omega) (by omega) kr.out kG (jZ.out.kp jb.out.kc) rfl (by have:=jw.out;omega) jj.out.trIn jE.out jb.out.bl.size js.maps js.inv js.bnd (A3 _) (jR.out T.length i jw.out (by omega)) jj.out.pos
   have jo:=A0 jt;have jg:=A0 jc;have jB:=A0 jp;have jm:=A0 jx;have jY:=A0 js;clear jt jc jp jx js kh
   go_wp2_with fail
   refine jo.out.mono ?_;rintro e w4 ⟨rfl,M',kq⟩;have ja:=A0 kq;clear kq jo;have kz:=A0 (ja.out.vx.maps i (A3 _) (by omega));have jn:=A0 (jI.out.kp (jb.out.kc.trans ja.out.vx.kp));have jf:Hid (Below w1.heap.size w1 w4):=jb.out.bl.trans ja.out.vx.bl;have kE:Hid (Sr T):=fun b hb=>by have h:=jj.out.wd b hb;have:=j1.out;omega
   have jA:=A0 (found_any T i (i % 5) (M' i) (by omega) rfl jn.out (jZ.out.kp (jb.out.kc.trans ja.out.vx.kp)) rfl (by have:=jw.out;omega) kE.out kz.out (ja.out.bnd.rng i) kJ kK)
   go_wp2_with fail
   refine jA.out.mono ?_;rintro e w5 ⟨⟨v,l,rfl,ji,jO⟩,jL⟩;obtain ⟨a5,c5,kO,hc5, -⟩:=ji.form;subst kO;have ku:Hid (PJ R acc L X i l):=⟨(S0 jj.out ja.out.inv ja.out.shut (ja.out.bnd.keys i) jO).fair,fun p hp=>by
    obtain ⟨t,ht, -⟩:=((jO.mem p.1 p.2).1 hp).1;have h1:=ja.out.bnd.here_le (BM (ja.out.bnd.keys i) ht);have h2:=jR.out T.length i jw.out (by omega);have h3:=jj.out.pos;have h4:8*T.length*(1000+4*C)≤(8*T.length+1)*(1000+4*C):=Nat.mul_le_mul_right _ (Nat.le_succ _);have h5:i*((8*T.length+1)*(1000+4*C))+(8*T.length+1)*(1000+4*C)+2≤8*T.length*(i*((8*T.length+1)*(1000+4*C))+(8*T.length+1)*(1000+4*C)+2):=Nat.le_mul_of_pos_left _ (by omega);omega⟩
   have jF:Hid (Kc wr w5):=ja.out.vx.kp.trans (Kc.of jL (A3 _));have jz:=A0 jL;have kB:=A0 (ji.mono jf.out.size);have jG:=A0 (jg.out.kc jF.out);have kt:=A0 (jB.out.kc jF.out);have kg:i<Ls.length:=by have:=jm.out;omega
   have jH:=A0 (MN jG.out kt.out kg kB.out ku.out);obtain ⟨cs5,jh⟩:=Au jG.out (g:=gE) rfl;have kL:w5.frozen? ⟨gE,i,none⟩=false:=by simp [World.frozen?,jh]
   have jM:=jG.out.cell EW kg (j:=0) (by decide);have e1:i*CZ.k+0=i:=by show i*1+0=i;omega
   rw [e1] at jM;have jN:w5.cell? ⟨gE,i,none⟩=some (.slice Ls[i].a Ls[i].n Ls[i].c):=jM;have kM:=IR gE (L.length+1) (L.length+1) i kN;have jv:Hid (∀ q,q≠gE→(w5.setCell ⟨gE,i,none⟩ (.slice a5 l.length c5)).heap[q]? = w5.heap[q]?):=fun q hq=>Below.heap_setCell _ _ _ _ hq;have ks:=A0 jh;clear ji jO jL jM e1 jh
   go_wp2_with fail
   obtain ⟨w6,jQ⟩:∃ w6,w5.setCell ⟨gE,i,none⟩ (.slice a5 l.length c5)=w6:=⟨_,rfl⟩
   rw [jQ] at jH jv ⊢;have j0:=A0 jQ;clear jQ kL jN kM;have jJ:Hid (SX w6 gx acc aR (R.filter Bj).length cR aT T.length cT aL L.length cL gm):=by
    have h:=jn.out.kp (Kc.of jz.out (A3 _));exact (jv.out gx (by have:=kx.out;omega)).trans h
   have jU:Hid (∀ j,i≤j→j<i+5→MpG BY w6 (gm (j % 5)) (M' j)):=fun j h1 h2=>by
    have h:=(ja.out.vx.maps j h1 h2).kept (jz.out.block _ (ja.out.vx.maps j h1 h2).lt);refine h.kept (jv.out _ fun e=>?_);obtain ⟨es,c,h3⟩:=h.obj;rw [e,ks.out] at h3;cases h3
   have jT:=A0 (jU.out i (A3 _) (by omega));have j7:=Es i (i % 5) (by omega) rfl jJ.out;refine j7.mono ?_;clear j7;rintro e w7 ⟨rfl,rfl⟩;obtain ⟨w7,jr,kj,kb⟩:=jT.out.run_clear C0 0;have kA:=A0 kj;have jC:=A0 kb;clear kj kb;dsimp only [BY] at jr
   go_wp2_with fail
   clear jr
   go_roundg (L.length+1 - (i+1))
   case measure=>have:=kw.out;omega
   case rel =>
    have kI:Kc w2 w6:=by
     have h:=jb.out.kc.trans jF.out;refine ⟨by rw [← j0.out,World.size_setCell];exact h.size,fun q cs t f hq=>?_⟩;have hlt2:=(A5.1 hq).1;exact (jv.out q (by have:=jD.out;omega)).trans (h.block q cs t f hq)
    have jK:Kc w6 w7:=Kc.map jC.out jT.out.obj;have Jx:Below w1.heap.size w1 w6:=by
     rw [← j0.out];exact (jf.out.trans (jz.out.mono jf.out.size)).setCell (show w1.heap.size≤(⟨gE,i,none⟩:Addr).block from kv.out) _
    refine ⟨i+1,by go_num,by omega,rfl,⟨⟨nextM i M',⟨fun j h1 h2=>?_,ja.out.inv.nextM ja.out.shut,by rw [Nat.succ_mul];exact ja.out.bnd.nextM,fun j hj=>?_⟩⟩,⟨_,jH.out.1.kc jK,by rw [List.length_set];exact jm.out,jH.out.2.kc jK⟩,kI.trans jK,Jx.grown jC.out Jx.size fun q hq=>?_⟩⟩
    ·unfold nextM;rw [if_pos (show i<j by omega)];by_cases e:j=i+5
     ·subst e;rw [show (i+5) % 5=i % 5 by omega,ja.out.out _ (by omega),jY.out.out _ (by omega)];exact kA.out
     ·have h:=jU.out j (by omega) (by omega);refine h.kept (jC.out.block _ h.lt fun e2=>?_);injection e2 with e2;have:=jE.out.apart (j % 5) (i % 5) (Nat.mod_lt _ (by decide)) (Nat.mod_lt _ (by decide)) e2;omega
    ·unfold nextM;rw [if_pos (show i<j by omega),ja.out.out _ (by omega),jY.out.out _ (by omega)]
    ·injection hq with hq;rw [← hq];exact jE.out.ge _ (Nat.mod_lt _ (by decide))
  ·obtain rfl:i=L.length+1:=by omega
   obtain ⟨Ls,jc,jx,jp⟩:=jb.out.row;have jg:=A0 jc;have jB:=A0 jp;clear jc jp
   go_wp2_with fail
   go_ret;exact ⟨⟨gE,Ls,rfl,jg.out.mono (A8 jk.out.size jl.out.size),jx,fun k h hk=>by obtain ⟨l,h1,h2⟩:=jB.out k h hk;exact ⟨l,h1.mono jk.out.size,by rw [kF.out];exact h2⟩⟩,Below.trans jk.out (jb.out.bl.mono jk.out.size)⟩
def SD (w:World) (a:Option Addr) (l:List (Nat × Nat)):Prop:=∀ k (hk:k<l.length),∃ b o,a=some ⟨b,o,none⟩∧b<w.heap.size∧w.cell? ⟨b,o+k*2,none⟩=some (.int .i64 (l[k].1:Int))∧w.cell? ⟨b,o+k*2+1,none⟩=some (.int .i64 (l[k].2:Int))
theorem SD.at {w:World} {a:Option Addr} {l:List (Nat × Nat)} (h:SD w a l) {k:Nat} (hk:k<l.length):∃ b o,a=some ⟨b,o,none⟩∧b<w.heap.size∧w.cell? ⟨b,o+k*2,none⟩=some (.int .i64 (l[k].1:Int))∧w.cell? ⟨b,o+k*2+1,none⟩=some (.int .i64 (l[k].2:Int)):=h k hk
theorem AZ.fnds {w:World} {B:Nat} {a:Option Addr} {n c:Nat} {L:List (Nat × Nat)} (h:AZ C2 w B (.slice a n c) L):SD w a L∧n=L.length∧L.length≤c:=by
 obtain ⟨a',c',he,hc,_⟩:=h.form;injection he with e1 e2 e3;refine ⟨fun k hk=>?_,e2,by omega⟩;rcases h.blk with ⟨_,rfl⟩ | ⟨g,c2,ja,_,hg,_⟩
 · simp at hk
 ·injection ja with f1 f2 f3;subst f1;refine ⟨g,0,rfl,hg,?_,?_⟩
  ·have:=h.cell Gi hk (j:=0) (by decide);simpa [C2] using this
  ·have:=h.cell Gi hk (j:=1) (by decide);simpa [C2] using this
theorem NF (a:Option Addr) (b o len cap k:Nat) (ha:a=some ⟨b,o,none⟩) (hk:k<len) (w:World) :
  (Instr.indexAt 72 (.slice a len cap) (.int .i64 (k:Int))).run Tryz.prog w=.ok (.pointer (some ⟨b,o+k*2,none⟩)) w:=by
 subst ha;have h0:(0:Int)≤(k:Int):=by omega
 have h1:(k:Int)<(len:Int):=by omega
 simp [go_sem,h0,h1]
def BB:BQ Edg:=⟨43,62,4,32,.agg #[.int .i64 0,.int .i64 0,.int .i64 0,.int .i64 0],fun e=>[.int .i64 e.1,.int .i64 e.2.1,.int .i64 e.2.2.1,.int .i64 e.2.2.2]⟩
theorem Cv:BB.Ok:=⟨Tryz.underlying43,by kernel_rfl,rfl,by decide,fun _=>rfl,fun x u hu=>by
 have h:u=.int .i64 x.1∨u=.int .i64 x.2.1∨u=.int .i64 x.2.2.1∨u=.int .i64 x.2.2.2:=by simpa [BB] using hu
 rcases h with rfl | rfl | rfl | rfl <;> rfl,by decide⟩
def CM (w:World) (a:Option Addr) (E:List Edg):Prop:=∀ k (hk:k<E.length),∃ b o,a=some ⟨b,o,none⟩∧b<w.heap.size∧w.cell? ⟨b,o+k*4,none⟩=some (.int .i64 E[k].1)∧w.cell? ⟨b,o+k*4+1,none⟩=some (.int .i64 E[k].2.1)∧w.cell? ⟨b,o+k*4+2,none⟩=some (.int .i64 E[k].2.2.1)∧w.cell? ⟨b,o+k*4+3,none⟩=some (.int .i64 E[k].2.2.2)
theorem CM.kp {w w1:World} {a:Option Addr} {E:List Edg} (h:CM w a E) (hk:Kc w w1):CM w1 a E:=fun k hl=>by
 obtain ⟨b,o,ha,h1,h2,h3,h4,h5⟩:=h k hl;exact ⟨b,o,ha,A7 h1 hk.size,hk.cell h2,hk.cell h3,hk.cell h4,hk.cell h5⟩
theorem CM.later {w w1:World} {a:Option Addr} {E:List Edg} {B:Nat} (h:CM w a E) (hb:Below B w w1) (hB:w.heap.size≤B):CM w1 a E:=h.kp (Kc.of hb hB)
theorem CM.go {w w1:World} {a:Option Addr} {E:List Edg} (h:CM w a E) (hx:Ext w w1):CM w1 a E:=h.later hx (A3 _)
theorem CM.nil (w:World) (a:Option Addr):CM w a []:=fun k hk=>absurd hk (Nat.not_lt_zero k)
theorem AZ.edgs {w:World} {B:Nat} {a:Option Addr} {n c:Nat} {L:List Edg} (h:AZ BB w B (.slice a n c) L):CM w a L∧n=L.length∧L.length≤c:=by
 obtain ⟨a',c',he,hc,_⟩:=h.form;injection he with e1 e2 e3;refine ⟨fun k hk=>?_,e2,by omega⟩;rcases h.blk with ⟨_,rfl⟩ | ⟨g,c2,ja,_,hg,_⟩
 · simp at hk
 ·injection ja with f1 f2 f3;subst f1;refine ⟨g,0,rfl,hg,?_,?_,?_,?_⟩
  ·have:=h.cell Cv hk (j:=0) (by decide);simpa [BB] using this
  ·have:=h.cell Cv hk (j:=1) (by decide);simpa [BB] using this
  ·have:=h.cell Cv hk (j:=2) (by decide);simpa [BB] using this
  ·have:=h.cell Cv hk (j:=3) (by decide);simpa [BB] using this
theorem Ca (a:Option Addr) (b o len cap k:Nat) (ha:a=some ⟨b,o,none⟩) (hk:k<len) (w:World) :
  (Instr.indexAt 43 (.slice a len cap) (.int .i64 (k:Int))).run Tryz.prog w=.ok (.pointer (some ⟨b,o+k*4,none⟩)) w:=by
 subst ha;have h0:(0:Int)≤(k:Int):=by omega
 have h1:(k:Int)<(len:Int):=by omega
 simp [go_sem,h0,h1]
def FP (n:Int) (a:Option Addr) (len cap:Nat):Value:=.agg #[.int .i64 n,.slice a len cap]
theorem OM (n m:Int) (a b:Option Addr) (k c l d:Nat) (w:World):∃ w1,(w.alloc (.cells #[.int .i64 n,.slice a k c] 45)).alloc (.cells #[.int .i64 m,.slice b l d] 45)=w1∧Ext w w1 ∧
  (∀ W,Ext w1 W→W.cell? ⟨w.heap.size,0,none⟩=some (.int .i64 n)∧W.cell? ⟨w.heap.size,1,none⟩=some (.slice a k c))∧(∀ W,Ext w1 W→W.cell? ⟨w.heap.size+1,0,none⟩=some (.int .i64 m)∧W.cell? ⟨w.heap.size+1,1,none⟩=some (.slice b l d)):=by
 obtain ⟨wa,ja⟩:∃ wa,w.alloc (.cells #[.int .i64 n,.slice a k c] 45)=wa:=⟨_,rfl⟩
 obtain ⟨w1,jb⟩:∃ w1,wa.alloc (.cells #[.int .i64 m,.slice b l d] 45)=w1:=⟨_,rfl⟩
 have hx:Ext w wa:=by rw [← ja];exact (Below.refl _ _).alloc (A3 _) _
 have hy:Ext wa w1:=by rw [← jb];exact (Below.refl _ _).alloc (A3 _) _
 have hz:wa.heap.size=w.heap.size+1:=by rw [← ja];simp
 have h1:wa.heap[w.heap.size]? = some (.cells #[.int .i64 n,.slice a k c] 45 (0,0)):=by rw [← ja];exact heap_alloc_new _ _
 have h2:w1.heap[w.heap.size+1]? = some (.cells #[.int .i64 m,.slice b l d] 45 (0,0)):=by rw [← hz,← jb];exact heap_alloc_new _ _
 refine ⟨w1,by rw [ja,jb],Ext.trans hx hy,fun W hW=>?_,fun W hW=>?_⟩
 ·have h3:=(Below.block (Ext.trans hy hW) _ (A5.1 h1).1).trans h1;exact ⟨by rw [cell_of_row W _ 0 _ _ _ h3];rfl,by rw [cell_of_row W _ 1 _ _ _ h3];rfl⟩
 ·have h3:=(Below.block hW _ (A5.1 h2).1).trans h2;exact ⟨by rw [cell_of_row W _ 0 _ _ _ h3];rfl,by rw [cell_of_row W _ 1 _ _ _ h3];rfl⟩
theorem esame_any
         (D E:List Edg) (n m:Int) (a b:Option Addr) (c d:Nat) (w:World) (hX:CM w a D) (hY:CM w b E) (hl1:D.length≤9223372036854775807) (hl2:E.length≤9223372036854775807) :
  Calls Tryz.prog 16 #[FP n a D.length c,FP m b E.length d] w fun e w'=>e=.returned (.bool (decide (n=m∧D=E)))∧Ext w w':=by
 have HX:=A0 hX;have HY:=A0 hY;clear hX hY;unfold FP
 go_enter Tryz.func16,Tryz.ntmps16
 go_upto_region 1 with fail
 obtain ⟨w1,jo,jp,jl,jm⟩:=OM n m a b D.length c E.length d w;rw [jo];have ja:=A0 jp;have je:=A0 jl;have jf:=A0 jm;clear jo jp jl jm;obtain ⟨g,hg⟩:∃ g,w.heap.size=g:=⟨_,rfl⟩
 rw [hg] at je jf ⊢;clear hg;obtain ⟨p0,p1⟩:=je.out w1 (Ext.refl _);obtain ⟨q0,q1⟩:=jf.out w1 (Ext.refl _);by_cases hn:n=m
 ·subst
     hn
  by_cases hl:D.length=E.length
  ·have jr:(
         (D.length:Int) != (E.length:Int))=false:=by simp [hl]
   have HL:=A0 hl;clear hl
   go_wp2_with fail
   clear p0 p1 q0 q1
   go_loopg [5] D.length (fun g v5 wr=>∃ k:Nat,v5=.int .i64 (k:Int)∧k≤D.length∧g=D.length - k∧D.take k=E.take k∧Ext w1 wr)
   case atStart=>exact ⟨0,rfl,Nat.zero_le _,rfl,rfl,Ext.refl _⟩
   case round =>
    obtain ⟨k,rfl,hk,jn,ht,hB⟩:=hrel;have HT:=A0 ht;have HB:=A0 hB;have jq:=A0 jn;clear ht hB jn;obtain ⟨p0,p1⟩:=je.out wr HB.out;obtain ⟨q0,q1⟩:=jf.out wr HB.out;have jd:Ext w wr:=Ext.trans ja.out HB.out;by_cases jg:k<D.length
    ·have jb:k<E.length:=by have:=HL.out;omega
     obtain ⟨b1,o1,jj,hb1,x0,x1,x2,x3⟩:=(HX.out.go jd) k jg;obtain ⟨b2,o2,jk,hb2,y0,y1,y2,y3⟩:=(HY.out.go jd) k jb;have hi1:=Ca a b1 o1 D.length c k jj jg;have hi2:=Ca b b2 o2 E.length d k jk jb;have jh:Hid (D.take (k+1)=D.take k ++ [D[k]]):=AN jg;have ji:Hid (E.take (k+1)=E.take k ++ [E[k]]):=AN jb;have jc:Hid (D[k]≠E[k]→decide (D=E)=false):=fun js=>decide_eq_false fun h=>by
      subst h;exact js rfl
     have HXR:=A0 jd;obtain ⟨⟨e1,e2,e3,e4⟩,hx⟩:∃ x,D[k]=x:=⟨_,rfl⟩
     obtain ⟨⟨f1,f2,f3,f4⟩,hy⟩:∃ y,E[k]=y:=⟨_,rfl⟩
     rw [hx] at x0 x1 x2 x3 jh jc;rw [hy] at y0 y1 y2 y3 ji jc;simp only at x0 x1 x2 x3 y0 y1 y2 y3;clear jj jk hx hy jd;by_cases h0:e1=f1
     ·subst
         h0
      by_cases h1:e2=f2
      ·subst h1;by_cases h2:e3=f3
       ·subst h2;by_cases h3:e4=f4
        ·subst h3;go_wp2
         go_quiet (fail)
         go_wp2
         go_roundg (D.length - (k+1))
         case measure=>have:=jq.out;omega
         case rel=>exact ⟨k+1,by go_num,by omega,rfl,by rw [jh.out,ji.out,HT.out],below_drewN HB.out _⟩
        ·have hg3:(e4 == f4)=false:=by rw [beq_eq_false_iff_ne];exact h3
         have HR:=A0 (jc.out fun e=>h3 (by injection e with _ e;injection e with _ e;injection e with _ e));go_wp2
         go_quiet (fail)
         go_wp2;go_ret;exact ⟨Aa HR.out.symm,Ext.trans ja.out (below_drewN HB.out _)⟩
       ·have hg2:(e3 == f3)=false:=by rw [beq_eq_false_iff_ne];exact h2
        have HR:=A0 (jc.out fun e=>h2 (by injection e with _ e;injection e with _ e;injection e with e));go_wp2
        go_quiet (fail)
        go_wp2;go_ret;exact ⟨Aa HR.out.symm,Ext.trans ja.out (below_drewN HB.out _)⟩
      ·have hg1:(e2 == f2)=false:=by rw [beq_eq_false_iff_ne];exact h1
       have HR:=A0 (jc.out fun e=>h1 (by injection e with _ e;injection e with e));go_wp2
       go_quiet (fail)
       go_wp2;go_ret;exact ⟨Aa HR.out.symm,Ext.trans ja.out (below_drewN HB.out _)⟩
     ·have hg0:(e1 == f1)=false:=by rw [beq_eq_false_iff_ne];exact h0
      have HR:=A0 (jc.out fun e=>h0 (by injection e with e));go_wp2
      go_quiet (fail)
      go_wp2;go_ret;exact ⟨Aa HR.out.symm,Ext.trans ja.out (below_drewN HB.out _)⟩
    ·have HR:Hid (decide (D=E)=true):=decide_eq_true (by
      have h:=HT.out;have h2:=HL.out;rw [AF (by omega),AF (by omega)] at h;exact h)
     go_wp2;go_ret;exact ⟨Aa HR.out.symm,Ext.trans ja.out HB.out⟩
  ·have jr:((D.length:Int) == (E.length:Int))=false:=by simpa using fun h=>hl (by omega)
   have HR:Hid (decide (D=E)=false):=decide_eq_false fun h=>hl (by rw [h]);go_wp2;go_ret;exact ⟨Aa HR.out.symm,ja.out⟩
 ·have hnI:(n == m)=false:=by rw [beq_eq_false_iff_ne];exact hn
  have HR:Hid (decide (n=m∧D=E)=false):=decide_eq_false fun h=>hn h.1;go_wp2;go_ret;exact ⟨Aa HR.out.symm,ja.out⟩
def Bl:BQ SV:=⟨41,81,1,24,.slice none 0 0,fun x=>[.slice x.a x.n x.c]⟩
theorem C4:Bl.Ok:=⟨Tryz.underlying41,by kernel_rfl,rfl,by decide,fun _=>rfl,fun x u hu=>by obtain rfl:u=.slice x.a x.n x.c:=(AD.1 hu);rfl,by decide⟩
def Av:BQ Ch:=⟨81,79,2,16,.agg #[.int .u8 0,.int .i64 0],fun x=>[.int .u8 (x.key.toNat:Int),.int .i64 x.cost]⟩
theorem Bd:Av.Ok:=⟨Tryz.underlying81,by kernel_rfl,rfl,by decide,fun _=>rfl,fun x u hu=>by
 have h:u=.int .u8 (x.key.toNat:Int)∨u=.int .i64 x.cost:=by simpa [Av] using hu
 rcases h with rfl | rfl <;> rfl,by decide⟩
theorem AZ.chs {w:World} {B:Nat} {a:Option Addr} {n c:Nat} {L:Slt} (h:AZ Av w B (.slice a n c) L):DD w a (chA L)∧n=L.length∧L.length≤c:=by
 obtain ⟨a',c',he,hc,_⟩:=h.form;injection he with e1 e2 e3;refine ⟨fun k hk=>?_,e2,by omega⟩;rw [Cy] at hk;rcases h.blk with ⟨_,rfl⟩ | ⟨g,c2,ja,_,hg,_⟩
 · simp at hk
 ·injection ja with f1 f2 f3;subst f1;refine ⟨g,0,rfl,hg,?_,?_⟩
  ·have:=h.cell Bd hk (j:=0) (by decide);simpa [Av,chA] using this
  ·have:=h.cell Bd hk (j:=1) (by decide);simpa [Av,chA] using this
def ElS (w:World) (x:SV) (s:Slt):Prop:=AZ Av w 0 (svS x) s
theorem ElS.kc {w w':World} {x:SV} {s:Slt} (h:ElS w x s) (hk:Kc w w'):ElS w' x s:=AZ.kc h hk
theorem ElS.n {w:World} {x:SV} {s:Slt} (h:ElS w x s):x.n=s.length:=(AZ.chs h).2.1
theorem ElS.arcs {w:World} {x:SV} {s:Slt} (h:ElS w x s):DD w x.a (chA s):=(AZ.chs h).1
theorem ElS.le {w:World} {x:SV} {s:Slt} (h:ElS w x s):s.length≤9223372036854775807:=by
 obtain ⟨a,c,e,h1,h2⟩:=AZ.form h;unfold maxLen at h2;omega
theorem ElS.of {w:World} {B:Nat} {x:SV} {s:Slt} (h:AZ Av w B (svS x) s):ElS w x s:=h.mono (Nat.zero_le _)
theorem ElS.keep {w w':World} {x:SV} {s:Slt} {B:Nat} {v:Value} {Ls:List SV} (h:ElS w x s) (ho:AZ Bl w B v Ls) (hk:∀ q,q<w.heap.size→v.ownBlock≠some q→w'.heap[q]? = w.heap[q]?):ElS w' x s:=AZ.keep h fun q hq=>hk q (AZ.lt h q hq) fun e=>by
 obtain ⟨cs,h1⟩:=Au h hq;obtain ⟨cs2,h2⟩:=Au ho e;rw [h2] at h1;injection h1 with h1;injection h1 with _ h4;exact absurd h4 (by decide)
structure Be (w:World) (B:Nat) (v:Value) (Ls:List SV) (L:List Slt):Prop where
 own:AZ Bl w B v Ls
 len:Ls.length=L.length
 el:∀ (k:Nat) (x:SV) (s:Slt),Ls[k]? = some x→L[k]? = some s→ElS w x s
def Cd (w:World) (B:Nat) (v:Value) (L:List Slt):Prop:=∃ Ls,Be w B v Ls L
theorem Be.kc {w w':World} {B:Nat} {v:Value} {Ls:List SV} {L:List Slt} (h:Be w B v Ls L) (hk:Kc w w'):Be w' B v Ls L :=
 ⟨h.own.kc hk,h.len,fun k x s h1 h2=>(h.el k x s h1 h2).kc hk⟩
theorem Be.later {w w':World} {B C:Nat} {v:Value} {Ls:List SV} {L:List Slt} (h:Be w B v Ls L) (hb:Below C w w') (hC:w.heap.size≤C):Be w' B v Ls L:=h.kc (Kc.of hb hC)
theorem Be.mono {w:World} {B C:Nat} {v:Value} {Ls:List SV} {L:List Slt} (h:Be w B v Ls L) (hC:C≤B):Be w C v Ls L:=⟨h.own.mono hC,h.len,h.el⟩
theorem Cd.kc {w w':World} {B:Nat} {v:Value} {L:List Slt} (h:Cd w B v L) (hk:Kc w w'):Cd w' B v L:=h.imp fun _ h=>h.kc hk
theorem Cd.later {w w':World} {B C:Nat} {v:Value} {L:List Slt} (h:Cd w B v L) (hb:Below C w w') (hC:w.heap.size≤C):Cd w' B v L:=h.kc (Kc.of hb hC)
theorem Cd.mono {w:World} {B C:Nat} {v:Value} {L:List Slt} (h:Cd w B v L) (hC:C≤B):Cd w C v L:=h.imp fun _ h=>h.mono hC
theorem Be.push {w w':World} {B B':Nat} {v v':Value} {Ls:List SV} {L:List Slt} {x:SV} {s:Slt} (h:Be w B v Ls L) (ho:AZ Bl w' B' v' (Ls ++ [x])) (hg:w.grownBy w' v.ownBlock) (hx:ElS w x s):Be w' B' v' (Ls ++ [x]) (L ++ [s]):=by
 have hk:∀ {y t},ElS w y t→ElS w' y t:=fun {y t} hy=>hy.keep h.own fun q hq jb=>hg.block q hq (Ne.symm jb);refine ⟨ho,by simp [h.len],fun k y t h1 h2=>?_⟩;have hl:=h.len;by_cases ja:k<Ls.length
 ·rw [AI ja] at h1;rw [AI (by omega)] at h2;exact hk (h.el k y t h1 h2)
 ·rw [List.getElem?_append_right (by omega)] at h1;rw [List.getElem?_append_right (by omega)] at h2;rw [hl] at h1;cases e:k - L.length with
  | zero=>rw [e] at h1 h2;cases h1;cases h2;exact hk hx
  | succ n=>rw [e] at h1;simp at h1
theorem Be.slotS {w:World} {B:Nat} {a:Option Addr} {n c:Nat} {Ls:List SV} {L:List Slt} (h:Be w B (.slice a n c) Ls L):CE w a L∧n=L.length∧L.length≤c:=by
 obtain ⟨a',c',he,hc,_⟩:=h.own.form;injection he with e1 e2 e3;refine ⟨fun k hk=>?_,by rw [e2,h.len],by rw [← h.len];omega⟩;have ja:k<Ls.length:=by rw [h.len];exact hk
 rcases h.own.blk with ⟨_,e⟩ | ⟨g,c2,jc,_,hg,_⟩
 · rw [e] at ja;simp at ja
 ·injection jc with f1 f2 f3;subst f1;have jb:=h.el k _ _ (AA ja) (AA hk);have hc:=h.own.cell C4 ja (j:=0) (by decide);refine ⟨g,0,rfl,hg,Ls[k].a,Ls[k].c,?_,jb.le,jb.arcs⟩;rw [← jb.n];simpa [Bl] using hc
theorem Cd.slotS {w:World} {B:Nat} {a:Option Addr} {n c:Nat} {L:List Slt} (h:Cd w B (.slice a n c) L):CE w a L∧n=L.length∧L.length≤c:=by
 obtain ⟨Ls,h⟩:=h;exact h.slotS
theorem IS (b len cap k:Nat) (hk:k<len) (w:World) :
  (Instr.indexAt 41 (.slice (some ⟨b,0,none⟩) len cap) (.int .i64 (k:Int))).run Tryz.prog w=.ok (.pointer (some ⟨b,k,none⟩)) w:=by
 have h0:(0:Int)≤(k:Int):=by omega
 have h1:(k:Int)<(len:Int):=by omega
 simp [go_sem,h0,h1]
end Go.Proofs.YtpljngaejaehcaaGreatDoor
