/- Texts that the claims share: K11, K12, K13, K14, K16. -/
import Derived.Test.YthjmdgejnakcmaaGreatDoorMK4
import Derived.Test.YthjmdgejnakcmaaGreatDoorMD5
import Derived.Test.YthjmdgejnakcmaaGreatDoorMK3
namespace Go.Proofs.YthjmdgejnakcmaaGreatDoor
open Go.RowKit Go.WideShapes Fl
set_option linter.unusedVariables false
set_option linter.unusedSimpArgs false
def BegP (W:List ByteArray) (e:Ending) (w':World):Prop:=∃ aT nT cT T,e=.returned (.slice aT nT cT)∧nT=T.length∧TreeS w' aT T∧TrW T (W.map bts)
theorem StrS.kp {w w1:World} {a:Option Addr} {L:List ByteArray} (h:StrS w a L) (hk:Kc w w1):StrS w1 a L:=fun k hl=>by
 obtain ⟨b,o,ha,h1,h2⟩:=h k hl
 exact ⟨b,o,ha,Nat.lt_of_lt_of_le h1 hk.size,hk.cell h2⟩
theorem idx_strs2 (a:Option Addr) (b o len cap k:Nat) (ha:a=some ⟨b,o,none⟩) (hk:k<len) (w:World) :
  (Instr.indexAt 37 (.slice a len cap) (.int .i64 (k:Int))).run Tryz.prog w=.ok (.pointer (some ⟨b,o+k,none⟩)) w:=by
 subst ha
 have h0:(0:Int)≤(k:Int):=by omega
 have h1:(k:Int)<(len:Int):=by omega
 simp [go_sem,h0,h1]
theorem wbts {W:List ByteArray} {i:Nat} (hi:i<W.length):(W.map bts)[i]'(by simpa using hi)=bts W[i]:=by simp
set_option maxHeartbeats 6400000 in
set_option maxRecDepth 100000 in
theorem
    begin_any
         (Ws:List ByteArray) (n:Nat) (a:Option Addr) (cap:Nat) (w:World) (hW:StrS w a Ws) (hn:n=Ws.length) (hl:Ws.length≤1000) (hs:∀ x∈Ws,x.size≤20) (hinc:(Ws.map bts).Pairwise fun a b=>Op.bytesLess a b=true) :
  Calls Tryz.prog 61 #[.slice a n cap] w fun e w'=>BegP Ws e w'∧Below w.heap.size w w':=by
 subst hn
 have HW:=Lib.hid hW;have HS:=Lib.hid hs;have HI:=Lib.hid hinc
 clear hW hs hinc
 go_enter Tryz.func61,Tryz.ntmps61
 go_wp2
 have HT0:Hid (TrM (w.alloc (.cells #[.int .i64 (-1),.slice none 0 0] 133)) w.heap.size (.slice (some ⟨w.heap.size,0,none⟩) 1 1) [⟨-1,none,0,0⟩] [⟨-1,[]⟩]):=by
  refine ⟨OwnG.one rowBn_ok (x:=⟨-1,none,0,0⟩) (heap_alloc_new _ _) (Nat.le_refl _),rfl,fun k h h2=>?_,fun j k hj hk q hjk hq=>?_⟩
  ·
   have e:k=0:=by simp at h;omega
   subst e
   exact ⟨rfl,OwnG.nil _ _ _⟩
  ·
   have e:j=0:=by simp at hj;omega
   subst e
   cases hq
 go_loopg [3,14] Ws.length (fun g v3 v14 wr=>∃ (i:Nat) (N:List BV) (T:List Bn) (X:List (List UInt8)),v14=.int .i64 (i:Int)∧i≤Ws.length∧g=Ws.length - i∧TrM wr w.heap.size v3 N T∧BegI (Ws.map bts) i 0 ((Ws.map bts).getD i []) 0 T X∧Below w.heap.size w wr)
 case atStart=>exact ⟨0,_,_,_,rfl,Nat.zero_le _,rfl,HT0.out,BegI.start _ _,(Below.refl _ _).alloc (Nat.le_refl _) _⟩
 case round =>
  clear HT0
  obtain ⟨i,N,T,X,rfl,hi,hgk,htm,hbi,hbl⟩:=hrel
  have HTM:=Lib.hid htm;have HBI:=Lib.hid hbi;have HBL:=Lib.hid hbl;have HGK:=Lib.hid hgk
  have hTp:=hbi.node_lt
  have hTs:=hbi.size
  clear htm hbi hbl hgk
  by_cases hlt:i<Ws.length
  ·
   obtain ⟨
       b0,
         o0,ha0,hb0,q0⟩:=(StrS.kp HW.out (Kc.of HBL.out (Nat.le_refl _))).at hlt
   have hidx:=idx_strs2 a b0 o0 Ws.length cap i ha0 hlt
   have hs20:=HS.out _ (List.getElem_mem hlt)
   have hwi:=wbts hlt
   have hgd:(Ws.map bts).getD i []=bts Ws[i]:=by rw [List.getD_eq_getElem?_getD,List.getElem?_eq_getElem (by simpa using hlt),← hwi];rfl
   obtain ⟨s,hse⟩:∃ s,Ws[i]=s:=⟨_,rfl⟩
   rw [hse] at q0 hs20 hwi hgd
   rw [hgd] at HBI
   have HWI:=Lib.hid hwi
   have hiW:i<(Ws.map bts).length:=by simpa using hlt
   clear ha0 hwi hgd hse
   go_wp2_with fail
   go_loopg [3,6,21] s.size (fun g v3 v6 v21 wr=>∃ (k node:Nat) (N:List BV) (T:List Bn) (X:List (List UInt8)),v21=.int .i64 (k:Int)∧v6=.int .i64 (node:Int)∧k≤s.size∧g=s.size - k∧TrM wr w.heap.size v3 N T∧BegI (Ws.map bts) i k (bts s) node T X∧Below w.heap.size w wr)
   case atStart=>exact ⟨0,0,_,_,_,rfl,rfl,Nat.zero_le _,rfl,HTM.out,HBI.out,HBL.out⟩
   case round =>
    clear HTM HBI HBL hTp hTs
    obtain ⟨k,node,N,T,X,rfl,rfl,hk,hgk2,htm,hbi,hbl⟩:=hrel
    have HGK2:=Lib.hid hgk2
    have hnd:=hbi.node_lt
    have hTs:=hbi.size
    have hndN:node<N.length:=by rw [htm.len];exact hnd
    rcases htm.own.blk with ⟨_,rfl⟩ | ⟨gT,cT,rfl,hgB,hgs,hcT⟩
    · simp at hndN
    have hNl:=htm.len
    rw [hNl] at htm hcT ⊢
    obtain ⟨hN2,t0,t1⟩:=htm.cells hnd
    obtain ⟨_,t2,t3,t4⟩:=htm.arcs hnd
    have hidt:=idx_tree (some ⟨gT,0,none⟩) gT 0 T.length cT node rfl hnd
    rw [Nat.zero_add] at hidt
    have hrow:=(htm.row node hN2 hnd).2
    have HTM:=Lib.hid htm;have HBI:=Lib.hid hbi;have HBL:=Lib.hid hbl;have HROW:=Lib.hid hrow
    clear htm hbi hbl hgk2 hrow hNl
    by_cases hlk:k<s.size
    ·
     have hlk2:k<(bts s).length:=by rw [bts_len];exact hlk
     have HFO:=Lib.hid (fun x=>HBI.out.follow hlk2 (x:=x))
     have HAD:=Lib.hid (HBI.out.add hiW HWI.out HI.out hlk2)
     have hal:T[node].arcs.length≤256:=by
      have h1:=HBI.out.tr.sorted node hnd
      have h2:=nodup_bound 256 (T[node].arcs.map fun x=>x.c.toNat) (by
       unfold List.Nodup
       rw [List.pairwise_map]
       refine List.Pairwise.imp_of_mem (fun {a b} ha hb hab=>?_) h1
       have h3:=(HBI.out.tr.fwd node hnd a ha).1
       have h4:=(HBI.out.tr.fwd node hnd b hb).1
       omega) (fun x hx=>by
       obtain ⟨y,hy,rfl⟩:=List.mem_map.1 hx
       have h3:=HBI.out.tr.fwd node hnd y hy
       omega)
      simpa using h2
     obtain ⟨AL,hA⟩:∃ AL,T[node].arcs=AL:=⟨_,rfl⟩
     obtain ⟨an,han⟩:∃ an,N[node].a=an:=⟨_,rfl⟩
     obtain ⟨cn,hcn⟩:∃ cn,N[node].c=cn:=⟨_,rfl⟩
     rw [hA] at t1 t2 t3 t4 hal
     rw [han,hcn] at t1
     rw [han] at t4
     have HSV:Hid (N[node].s=.slice an AL.length cn):=by show _=_;unfold BV.s;rw [han,hcn,t2]
     rw [HSV.out,hA] at HROW
     have HA:=Lib.hid hA
     have hbyte:(bts s)[k]'hlk2=s[k]:=rfl
     have HBY:=Lib.hid hbyte
     have HT4:=Lib.hid t4
     have hTb:T.length≤100000:=by omega
     have hfzT:wr.frozen? ⟨gT,node*2+1,none⟩=false:=by
      obtain ⟨cs,hcs⟩:=ownG_obj HTM.out.own (g:=gT) rfl
      simp [World.frozen?,hcs]
     have hc0:(0:Int)≤(s[k].toNat:Int):=by omega
     have hc1:(s[k].toNat:Int)≤255:=by have:=s[k].toNat_lt;omega
     have HT1:=Lib.hid t1;have HFZ:=Lib.hid hfzT
     clear hA han hcn t2 t3 t4 hbyte
     cases hlen:AL.length with
     | zero =>
      have HLAST:Hid (∀ x,AL.getLast? = some x→x.c≠(s[k].toNat:Int)):=fun x hx=>by
       rw [List.eq_nil_of_length_eq_zero hlen] at hx;cases hx
      have HNL:Hid (AL=[]):=List.eq_nil_of_length_eq_zero hlen
      clear hlen
      go_wp2_with fail
      refine wp_region_rv (by kernel_rfl) (Vs [fun v _=>v=.int .i64 (AL.length:Int),fun v _=>v=.bool false,fun v _=>v=.bool false,fun v _=>v=undef,fun v _=>v=undef,fun v _=>v=undef,fun v _=>v=undef,fun v _=>v=undef,fun v _=>v=undef,fun v _=>v=undef,fun v _=>v=undef,fun v _=>v=undef,fun v _=>v=undef,fun v _=>v=.bool false]) (fun W=>Ext wr W) 78 (by kernel_rfl) rfl ?hVx ?hSx ?hS (opsOk_all ?hop) ?hfin
      case hop =>
       refine ⟨?_,?_,?_,?_,?_,?_,?_,?_,?_,?_,?_,?_,?_,?_,trivial⟩
       all_goals
        intro A W hsz hS hdep hbase
        skip
        have h5:A.tmps.getD 5 undef=.string s:=hbase 5 (by kernel_rfl)
        have h7:A.tmps.getD 7 undef=.int .i64 (k:Int):=hbase 7 (by kernel_rfl)
        have h8:A.tmps.getD 8 undef=.slice an AL.length cn:=hbase 8 (by kernel_rfl)
        have h9:A.tmps.getD 9 undef=.int .i64 (AL.length:Int):=hbase 9 (by kernel_rfl)
        clear hbase
        simp [slotOf,Region.binds,Vs] at hdep
       · refine opOk_run rfl (.inl ⟨_,W,?_,rfl,Ext.refl _⟩);clear hsz hS;simp [go_sem,Act.eval, *]
       ·
        refine opOk_run rfl (.inl ⟨_,W,?_,rfl,Ext.refl _⟩)
        clear hsz hS;simp [go_sem,Act.eval, *]
        exact HNL.out
       · refine opOk_run rfl (.inl ⟨_,W,?_,rfl,Ext.refl _⟩);clear hsz hS;simp [go_sem,Act.eval, *]
       · exact opOk_skip (j:=2) (d:=33) (b:=false) rfl (by kernel_rfl) (by simp only [hdep]) rfl rfl
       · exact opOk_skip (j:=2) (d:=33) (b:=false) rfl (by kernel_rfl) (by simp only [hdep]) rfl rfl
       · exact opOk_skip (j:=2) (d:=33) (b:=false) rfl (by kernel_rfl) (by simp only [hdep]) rfl rfl
       · exact opOk_skip (j:=2) (d:=33) (b:=false) rfl (by kernel_rfl) (by simp only [hdep]) rfl rfl
       · exact opOk_skip (j:=2) (d:=33) (b:=false) rfl (by kernel_rfl) (by simp only [hdep]) rfl rfl
       · exact opOk_skip (j:=2) (d:=33) (b:=false) rfl (by kernel_rfl) (by simp only [hdep]) rfl rfl
       · exact opOk_skip (j:=2) (d:=33) (b:=false) rfl (by kernel_rfl) (by simp only [hdep]) rfl rfl
       · exact opOk_skip (j:=2) (d:=33) (b:=false) rfl (by kernel_rfl) (by simp only [hdep]) rfl rfl
       · exact opOk_skip (j:=2) (d:=33) (b:=false) rfl (by kernel_rfl) (by simp only [hdep]) rfl rfl
       · exact opOk_skip (j:=2) (d:=33) (b:=false) rfl (by kernel_rfl) (by simp only [hdep]) rfl rfl
       · refine opOk_run rfl (.inl ⟨_,W,?_,rfl,Ext.refl _⟩);clear hsz hS;simp [go_sem,Act.eval, *]
      case hVx=>exact vs_stays (by simp only [List.mem_cons,List.not_mem_nil,or_false,forall_eq_or_imp,forall_eq];exact ⟨stays_const _,stays_const _,stays_const _,stays_const _,stays_const _,stays_const _,stays_const _,stays_const _,stays_const _,stays_const _,stays_const _,stays_const _,stays_const _,stays_const _⟩)
      case hSx=>exact fun W W' h hx=>Ext.trans h hx
      case hS=>exact Ext.refl _
      case hfin =>
       intro A W hsz hdf hS hv hbase
       obtain ⟨x,hx,hA⟩:=act_puts [31,32,33,34,35,36,37,38,39,40,41,42,43,44] (by kernel_rfl) hsz hdf hbase
       have e44:x 44=.bool false:=(hx 44).trans (hv 13 (by decide))
       rw [hA]
       simp only [List.foldl]
       rw [e44]
       clear e44
       simp only [Act.put,List.setIfInBounds_toArray,List.set_cons_succ,List.set_cons_zero]
       clear hA hx hv hbase hsz hdf
       have HS0:Hid (Ext wr W):=hS
       have HQ5:Hid (W.cell? ⟨gT,node*2+1,none⟩=some (.slice an AL.length cn)):=Eq.trans (Below.cell hS (p:=⟨gT,node*2+1,none⟩) hgs) HT1.out
       have HF5:Hid (W.frozen? ⟨gT,node*2+1,none⟩=false):=Eq.trans (Below.frozen hS (p:=⟨gT,node*2+1,none⟩) hgs) HFZ.out
       clear hS
       obtain ⟨X',hbi'⟩:=HAD.out (by rw [HA.out];exact HLAST.out)
       rw [HBY.out] at hbi'
       have HBI':=Lib.hid hbi'
       have HROWW:=Lib.hid (HROW.out.later HS0.out (Nat.le_refl _))
       have HTMW:=Lib.hid (HTM.out.ext HS0.out)
       have HBLW:Hid (Below w.heap.size w W):=HBL.out.trans (Below.mono HS0.out HBL.out.size)
       have HBW9:Hid (w.heap.size≤W.heap.size):=HBLW.out.size
       clear hbi' HS0
       go_upto_region 14 with (first | (at_builtin;go_loud ((refine wpList_append_g (v:=.slice an AL.length cn) rowArc_ok rfl _ _ rfl rfl (HROWW.out.later ((Below.refl _ _).alloc (Nat.le_refl _) _) (Nat.le_refl _)) ⟨W.heap.size,0,none⟩ 1 [⟨(s[k].toNat:Int),(T.length:Int)⟩] rfl (cells_built (heap_alloc_new _ _)) (by simp only [List.length_singleton];omega) (by have:=HBW9.out;simp only [World.size_alloc];omega) ?_);intro v5 w5 hown5 hgrow5 hat5;obtain ⟨a5,c5,hv5, -, -⟩:=hown5.form;rw [List.length_append,List.length_singleton] at hv5;subst hv5;have hb5:w5.heap[gT]? = W.heap[gT]?:=(hgrow5.block gT (by have:=HTMW.out.own.lt gT rfl;simp only [World.size_alloc];omega) (fun e=>HTMW.out.ne hN2 (by rw [HSV.out];exact e.symm))).trans (Below.heap_alloc _ _ _ (HTMW.out.own.lt gT rfl));have q5:=(World.cell?_of_block (a:=⟨gT,node*2+1,none⟩) hb5).trans HQ5.out;have f5:=(World.frozen?_of_block (a:=⟨gT,node*2+1,none⟩) hb5).trans HF5.out;have HO5:=Lib.hid hown5;have HG5:=Lib.hid hgrow5;have HA5:=Lib.hid hat5;clear hown5 hgrow5 hat5 hb5)))
       obtain ⟨w6,hw6⟩:∃ w6,w5.setCell ⟨gT,node*2+1,none⟩ (.slice a5 (AL.length+1) c5)=w6:=⟨_,rfl⟩
       rw [hw6]
       have HTM6:Hid (TrM w6 w.heap.size (.slice (some ⟨gT,0,none⟩) T.length cT) (N.set node ⟨N[node].word,a5,AL.length+1,c5⟩) (setArc T node ⟨(s[k].toNat:Int),(T.length:Int)⟩)):=by
        show TrM _ _ _ _ _
        have h:=(HTMW.out.ext ((Below.refl _ W).alloc (Nat.le_refl _) (.cells #[.int .u8 (s[k].toNat:Int),.int .i64 (T.length:Int)] 155))).put1 (k:=node) (x:=⟨(s[k].toNat:Int),(T.length:Int)⟩) (a':=a5) (c':=c5) hN2 hnd (by rw [HA.out];exact HO5.out) (by rw [HSV.out];exact HG5.out) (by rw [HA.out,HSV.out];exact HA5.out)
        rw [HA.out,hw6] at h
        exact h
       have HB6:Hid (Below w.heap.size w w6):=by
        show Below _ _ _
        rw [← hw6]
        exact ((HBLW.out.trans (((Below.refl _ W).alloc (Nat.le_refl _) _).mono HBLW.out.size)).grown HG5.out (by have:=HBW9.out;simp only [World.size_alloc];omega) fun q hq=>HROWW.out.ge q hq).setCell (show w.heap.size≤(⟨gT,node*2+1,none⟩:Addr).block from hgB) _
       have hN6:(N.set node ⟨N[node].word,a5,AL.length+1,c5⟩).length=T.length:=by rw [List.length_set];exact HTM.out.len
       obtain ⟨N6,hN6e⟩:∃ N6,N.set node ⟨N[node].word,a5,AL.length+1,c5⟩=N6:=⟨_,rfl⟩
       rw [hN6e] at HTM6 hN6
       have HN6:=Lib.hid hN6
       clear hw6 q5 f5 hN6e hN6
       go_wp2_with (at_builtin;go_loud (refine wpList_append_g (v:=.slice (some ⟨gT,0,none⟩) T.length cT) rowBn_ok rfl _ _ rfl rfl (HTM6.out.own.later ((Below.refl _ _).alloc (Nat.le_refl _) _) (Nat.le_refl _)) ⟨w6.heap.size,0,none⟩ 1 [⟨-1,none,0,0⟩] rfl (cells_built (heap_alloc_new _ _)) (by have:=HN6.out;simp only [List.length_singleton];omega) (by have:=HB6.out.size;simp only [World.size_alloc];omega) ?_);intro v7 w7 hown7 hgrow7 hat7;have HO7:=Lib.hid hown7;have HG7:=Lib.hid hgrow7;clear hown7 hgrow7 hat7)
       go_roundg (s.size - (k+1))
       case measure=>have:=HGK2.out;omega
       case rel =>
        have hb7:Below w.heap.size w w7:=(HB6.out.trans (((Below.refl _ w6).alloc (Nat.le_refl _) _).mono HB6.out.size)).grown HG7.out (by have:=HB6.out.size;simp only [World.size_alloc];omega) fun q hq=>HTM6.out.own.ge q hq
        exact ⟨k+1,T.length,_,addArc T node s[k],X',by go_num,rfl,by omega,rfl,(HTM6.out.ext ((Below.refl _ _).alloc (Nat.le_refl _) _)).grow HO7.out HG7.out hb7.size,HBI'.out,hb7⟩
     | succ p =>
      have hp:p<AL.length:=by omega
      have hpe:(AL.length:Int) - 1=(p:Int):=by omega
      have hwp:IntKind.i64.wrap ((AL.length:Int) - 1)=(p:Int):=by rw [hpe];exact IntWalk.i64_in _ (by omega)
      have HNL:Hid (0<AL.length):=by show 0<_;omega
      have hgl:AL.getLast? = some AL[p]:=by rw [List.getLast?_eq_getElem?,show AL.length - 1=p by omega,List.getElem?_eq_getElem hp]
      have HGL:=Lib.hid hgl;have HWP:=Lib.hid hwp
      obtain ⟨b2,o2,ha2,hb2,l0,l1⟩:=HT4.out.at hp
      have hi2:=idx_arcs an b2 o2 AL.length cn p ha2 hp
      have HL0:=Lib.hid l0;have HL1:=Lib.hid l1;have HPE:=Lib.hid hpe
      clear hlen hgl ha2 l0 l1 hwp hpe
      by_cases hxc:AL[p].c=(s[k].toNat:Int)
      ·
       have hxcB:(AL[p].c == (s[k].toNat:Int))=true:=by rw [hxc];simp
       have hbi':=HFO.out AL[p] (by rw [HA.out];exact List.getElem_mem hp) hxc
       have hxt:=HBI.out.tr.fwd node hnd AL[p] (by rw [HA.out];exact List.getElem_mem hp)
       have HBI':=Lib.hid hbi'
       obtain ⟨m,hm⟩:∃ m:Nat,AL[p].t=(m:Int):=⟨AL[p].t.toNat,by omega⟩
       rw [hm,Int.toNat_natCast] at HBI'
       rw [hm] at HL1
       obtain ⟨xc,hxce⟩:∃ xc,AL[p].c=xc:=⟨_,rfl⟩
       rw [hxce] at HL0 hxcB
       clear hxc hbi' hxt hm hxce
       go_wp2_with fail
       refine wp_region_rv (by kernel_rfl) (Vs [fun v _=>v=.int .i64 (AL.length:Int),fun v _=>v=.bool true,fun v _=>v=.bool true,fun v _=>v=.slice an AL.length cn,fun v _=>v=.int .i64 (AL.length:Int),fun v _=>v=.int .i64 (p:Int),fun v _=>v=.pointer (some ⟨b2,o2+p*2,none⟩),fun v _=>v=.pointer (some ⟨b2,o2+p*2,none⟩),fun v _=>v=.int .u8 xc,fun v _=>v=.string s,fun v _=>v=.int .i64 (k:Int),fun v _=>v=.int .u8 (s[k].toNat:Int),fun v _=>v=.bool true,fun v _=>v=.bool true]) (fun W=>Ext wr W) 78 (by kernel_rfl) rfl ?hVx ?hSx ?hS (opsOk_all ?hop) ?hfin
       case hop =>
        refine ⟨?_,?_,?_,?_,?_,?_,?_,?_,?_,?_,?_,?_,?_,?_,trivial⟩
        all_goals
         intro A W hsz hS hdep hbase
         have l0:=Eq.trans (Below.cell hS (p:=⟨b2,o2+p*2,none⟩) hb2) HL0.out
         have hwp:=HWP.out
         have h5:A.tmps.getD 5 undef=.string s:=hbase 5 (by kernel_rfl)
         have h7:A.tmps.getD 7 undef=.int .i64 (k:Int):=hbase 7 (by kernel_rfl)
         have h8:A.tmps.getD 8 undef=.slice an AL.length cn:=hbase 8 (by kernel_rfl)
         have h9:A.tmps.getD 9 undef=.int .i64 (AL.length:Int):=hbase 9 (by kernel_rfl)
         clear hbase
         simp [slotOf,Region.binds,Vs] at hdep
        · refine opOk_run rfl (.inl ⟨_,W,?_,rfl,Ext.refl _⟩);clear hsz hS;simp [go_sem,Act.eval, *]
        ·
         refine opOk_run rfl (.inl ⟨_,W,?_,rfl,Ext.refl _⟩)
         clear hsz hS;simp [go_sem,Act.eval, *]
         exact HNL.out
        · refine opOk_run rfl (.inl ⟨_,W,?_,rfl,Ext.refl _⟩);clear hsz hS;simp [go_sem,Act.eval, *]
        · refine opOk_runG (j:=2) (d:=33) (b:=true) rfl (by kernel_rfl) (by simp only [hdep]) rfl (.inl ⟨_,W,?_,rfl,Ext.refl _⟩);clear hsz hS;simp [go_sem,Act.eval, *]
        · refine opOk_runG (j:=2) (d:=33) (b:=true) rfl (by kernel_rfl) (by simp only [hdep]) rfl (.inl ⟨_,W,?_,rfl,Ext.refl _⟩);clear hsz hS;simp [go_sem,Act.eval, *]
        · refine opOk_runG (j:=2) (d:=33) (b:=true) rfl (by kernel_rfl) (by simp only [hdep]) rfl (.inl ⟨_,W,?_,rfl,Ext.refl _⟩);clear hsz hS;simp [go_sem,Act.eval, *]
        · refine opOk_runG (j:=2) (d:=33) (b:=true) rfl (by kernel_rfl) (by simp only [hdep]) rfl (.inl ⟨_,W,?_,rfl,Ext.refl _⟩);clear hsz hS;simp [go_sem,Act.eval, *]
        · refine opOk_runG (j:=2) (d:=33) (b:=true) rfl (by kernel_rfl) (by simp only [hdep]) rfl (.inl ⟨_,W,?_,rfl,Ext.refl _⟩);clear hsz hS;simp [go_sem,Act.eval, *]
        · refine opOk_runG (j:=2) (d:=33) (b:=true) rfl (by kernel_rfl) (by simp only [hdep]) rfl (.inl ⟨_,W,?_,rfl,Ext.refl _⟩);clear hsz hS;simp [go_sem,Act.eval, *]
        · refine opOk_runG (j:=2) (d:=33) (b:=true) rfl (by kernel_rfl) (by simp only [hdep]) rfl (.inl ⟨_,W,?_,rfl,Ext.refl _⟩);clear hsz hS;simp [go_sem,Act.eval, *]
        · refine opOk_runG (j:=2) (d:=33) (b:=true) rfl (by kernel_rfl) (by simp only [hdep]) rfl (.inl ⟨_,W,?_,rfl,Ext.refl _⟩);clear hsz hS;simp [go_sem,Act.eval, *]
        ·
         refine opOk_runG (j:=2) (d:=33) (b:=true) rfl (by kernel_rfl) (by simp only [hdep]) rfl (.inl ⟨_,W,?_,rfl,Ext.refl _⟩)
         clear hsz hS;simp [go_sem,Act.eval, *]
         all_goals rfl
        · refine opOk_runG (j:=2) (d:=33) (b:=true) rfl (by kernel_rfl) (by simp only [hdep]) rfl (.inl ⟨_,W,?_,rfl,Ext.refl _⟩);clear hsz hS;simp [go_sem,Act.eval, *]
        · refine opOk_run rfl (.inl ⟨_,W,?_,rfl,Ext.refl _⟩);clear hsz hS;simp [go_sem,Act.eval, *]
       case hVx=>exact vs_stays (by simp only [List.mem_cons,List.not_mem_nil,or_false,forall_eq_or_imp,forall_eq];exact ⟨stays_const _,stays_const _,stays_const _,stays_const _,stays_const _,stays_const _,stays_const _,stays_const _,stays_const _,stays_const _,stays_const _,stays_const _,stays_const _,stays_const _⟩)
       case hSx=>exact fun W W' h hx=>Ext.trans h hx
       case hS=>exact Ext.refl _
       case hfin =>
        intro A W hsz hdf hS hv hbase
        obtain ⟨x,hx,hA⟩:=act_puts [31,32,33,34,35,36,37,38,39,40,41,42,43,44] (by kernel_rfl) hsz hdf hbase
        have e44:x 44=.bool true:=(hx 44).trans (hv 13 (by decide))
        rw [hA]
        simp only [List.foldl]
        rw [e44]
        clear e44
        simp only [Act.put,List.setIfInBounds_toArray,List.set_cons_succ,List.set_cons_zero]
        clear hA hx hv hbase hsz hdf
        have HS0:Hid (Ext wr W):=hS
        have l1:=Eq.trans (Below.cell hS (p:=⟨b2,o2+p*2+1,none⟩) hb2) HL1.out
        have hwp:=HWP.out
        have hpe:=HPE.out
        clear hS
        go_wp2_with fail
        go_roundg (s.size - (k+1))
        case measure=>have:=HGK2.out;omega
        case rel=>exact ⟨k+1,m,N,T,X,by go_num,rfl,by omega,rfl,HTM.out.ext HS0.out,HBI'.out,HBL.out.trans (Below.mono HS0.out HBL.out.size)⟩
      ·
       have hxcB:(AL[p].c == (s[k].toNat:Int))=false:=by simpa using hxc
       have HLAST:Hid (∀ x,AL.getLast? = some x→x.c≠(s[k].toNat:Int)):=fun x hx=>by
        rw [HGL.out] at hx;injection hx with hx;rw [← hx];exact hxc
       obtain ⟨xc,hxce⟩:∃ xc,AL[p].c=xc:=⟨_,rfl⟩
       rw [hxce] at HL0 hxcB
       clear hxc hxce
       go_wp2_with fail
       refine wp_region_rv (by kernel_rfl) (Vs [fun v _=>v=.int .i64 (AL.length:Int),fun v _=>v=.bool true,fun v _=>v=.bool true,fun v _=>v=.slice an AL.length cn,fun v _=>v=.int .i64 (AL.length:Int),fun v _=>v=.int .i64 (p:Int),fun v _=>v=.pointer (some ⟨b2,o2+p*2,none⟩),fun v _=>v=.pointer (some ⟨b2,o2+p*2,none⟩),fun v _=>v=.int .u8 xc,fun v _=>v=.string s,fun v _=>v=.int .i64 (k:Int),fun v _=>v=.int .u8 (s[k].toNat:Int),fun v _=>v=.bool false,fun v _=>v=.bool false]) (fun W=>Ext wr W) 78 (by kernel_rfl) rfl ?hVx ?hSx ?hS (opsOk_all ?hop) ?hfin
       case hop =>
        refine ⟨?_,?_,?_,?_,?_,?_,?_,?_,?_,?_,?_,?_,?_,?_,trivial⟩
        all_goals
         intro A W hsz hS hdep hbase
         have l0:=Eq.trans (Below.cell hS (p:=⟨b2,o2+p*2,none⟩) hb2) HL0.out
         have hwp:=HWP.out
         have h5:A.tmps.getD 5 undef=.string s:=hbase 5 (by kernel_rfl)
         have h7:A.tmps.getD 7 undef=.int .i64 (k:Int):=hbase 7 (by kernel_rfl)
         have h8:A.tmps.getD 8 undef=.slice an AL.length cn:=hbase 8 (by kernel_rfl)
         have h9:A.tmps.getD 9 undef=.int .i64 (AL.length:Int):=hbase 9 (by kernel_rfl)
         clear hbase
         simp [slotOf,Region.binds,Vs] at hdep
        · refine opOk_run rfl (.inl ⟨_,W,?_,rfl,Ext.refl _⟩);clear hsz hS;simp [go_sem,Act.eval, *]
        ·
         refine opOk_run rfl (.inl ⟨_,W,?_,rfl,Ext.refl _⟩)
         clear hsz hS;simp [go_sem,Act.eval, *]
         exact HNL.out
        · refine opOk_run rfl (.inl ⟨_,W,?_,rfl,Ext.refl _⟩);clear hsz hS;simp [go_sem,Act.eval, *]
        · refine opOk_runG (j:=2) (d:=33) (b:=true) rfl (by kernel_rfl) (by simp only [hdep]) rfl (.inl ⟨_,W,?_,rfl,Ext.refl _⟩);clear hsz hS;simp [go_sem,Act.eval, *]
        · refine opOk_runG (j:=2) (d:=33) (b:=true) rfl (by kernel_rfl) (by simp only [hdep]) rfl (.inl ⟨_,W,?_,rfl,Ext.refl _⟩);clear hsz hS;simp [go_sem,Act.eval, *]
        · refine opOk_runG (j:=2) (d:=33) (b:=true) rfl (by kernel_rfl) (by simp only [hdep]) rfl (.inl ⟨_,W,?_,rfl,Ext.refl _⟩);clear hsz hS;simp [go_sem,Act.eval, *]
        · refine opOk_runG (j:=2) (d:=33) (b:=true) rfl (by kernel_rfl) (by simp only [hdep]) rfl (.inl ⟨_,W,?_,rfl,Ext.refl _⟩);clear hsz hS;simp [go_sem,Act.eval, *]
        · refine opOk_runG (j:=2) (d:=33) (b:=true) rfl (by kernel_rfl) (by simp only [hdep]) rfl (.inl ⟨_,W,?_,rfl,Ext.refl _⟩);clear hsz hS;simp [go_sem,Act.eval, *]
        · refine opOk_runG (j:=2) (d:=33) (b:=true) rfl (by kernel_rfl) (by simp only [hdep]) rfl (.inl ⟨_,W,?_,rfl,Ext.refl _⟩);clear hsz hS;simp [go_sem,Act.eval, *]
        · refine opOk_runG (j:=2) (d:=33) (b:=true) rfl (by kernel_rfl) (by simp only [hdep]) rfl (.inl ⟨_,W,?_,rfl,Ext.refl _⟩);clear hsz hS;simp [go_sem,Act.eval, *]
        · refine opOk_runG (j:=2) (d:=33) (b:=true) rfl (by kernel_rfl) (by simp only [hdep]) rfl (.inl ⟨_,W,?_,rfl,Ext.refl _⟩);clear hsz hS;simp [go_sem,Act.eval, *]
        ·
         refine opOk_runG (j:=2) (d:=33) (b:=true) rfl (by kernel_rfl) (by simp only [hdep]) rfl (.inl ⟨_,W,?_,rfl,Ext.refl _⟩)
         clear hsz hS;simp [go_sem,Act.eval, *]
         all_goals rfl
        · refine opOk_runG (j:=2) (d:=33) (b:=true) rfl (by kernel_rfl) (by simp only [hdep]) rfl (.inl ⟨_,W,?_,rfl,Ext.refl _⟩);clear hsz hS;simp [go_sem,Act.eval, *]
        · refine opOk_run rfl (.inl ⟨_,W,?_,rfl,Ext.refl _⟩);clear hsz hS;simp [go_sem,Act.eval, *]
       case hVx=>exact vs_stays (by simp only [List.mem_cons,List.not_mem_nil,or_false,forall_eq_or_imp,forall_eq];exact ⟨stays_const _,stays_const _,stays_const _,stays_const _,stays_const _,stays_const _,stays_const _,stays_const _,stays_const _,stays_const _,stays_const _,stays_const _,stays_const _,stays_const _⟩)
       case hSx=>exact fun W W' h hx=>Ext.trans h hx
       case hS=>exact Ext.refl _
       case hfin =>
        intro A W hsz hdf hS hv hbase
        obtain ⟨x,hx,hA⟩:=act_puts [31,32,33,34,35,36,37,38,39,40,41,42,43,44] (by kernel_rfl) hsz hdf hbase
        have e44:x 44=.bool false:=(hx 44).trans (hv 13 (by decide))
        rw [hA]
        simp only [List.foldl]
        rw [e44]
        clear e44
        simp only [Act.put,List.setIfInBounds_toArray,List.set_cons_succ,List.set_cons_zero]
        clear hA hx hv hbase hsz hdf
        have HS0:Hid (Ext wr W):=hS
        have HQ5:Hid (W.cell? ⟨gT,node*2+1,none⟩=some (.slice an AL.length cn)):=Eq.trans (Below.cell hS (p:=⟨gT,node*2+1,none⟩) hgs) HT1.out
        have HF5:Hid (W.frozen? ⟨gT,node*2+1,none⟩=false):=Eq.trans (Below.frozen hS (p:=⟨gT,node*2+1,none⟩) hgs) HFZ.out
        clear hS
        obtain ⟨X',hbi'⟩:=HAD.out (by rw [HA.out];exact HLAST.out)
        rw [HBY.out] at hbi'
        have HBI':=Lib.hid hbi'
        have HROWW:=Lib.hid (HROW.out.later HS0.out (Nat.le_refl _))
        have HTMW:=Lib.hid (HTM.out.ext HS0.out)
        have HBLW:Hid (Below w.heap.size w W):=HBL.out.trans (Below.mono HS0.out HBL.out.size)
        have HBW9:Hid (w.heap.size≤W.heap.size):=HBLW.out.size
        clear hbi' HS0
        go_upto_region 14 with (first | (at_builtin;go_loud ((refine wpList_append_g (v:=.slice an AL.length cn) rowArc_ok rfl _ _ rfl rfl (HROWW.out.later ((Below.refl _ _).alloc (Nat.le_refl _) _) (Nat.le_refl _)) ⟨W.heap.size,0,none⟩ 1 [⟨(s[k].toNat:Int),(T.length:Int)⟩] rfl (cells_built (heap_alloc_new _ _)) (by simp only [List.length_singleton];omega) (by have:=HBW9.out;simp only [World.size_alloc];omega) ?_);intro v5 w5 hown5 hgrow5 hat5;obtain ⟨a5,c5,hv5, -, -⟩:=hown5.form;rw [List.length_append,List.length_singleton] at hv5;subst hv5;have hb5:w5.heap[gT]? = W.heap[gT]?:=(hgrow5.block gT (by have:=HTMW.out.own.lt gT rfl;simp only [World.size_alloc];omega) (fun e=>HTMW.out.ne hN2 (by rw [HSV.out];exact e.symm))).trans (Below.heap_alloc _ _ _ (HTMW.out.own.lt gT rfl));have q5:=(World.cell?_of_block (a:=⟨gT,node*2+1,none⟩) hb5).trans HQ5.out;have f5:=(World.frozen?_of_block (a:=⟨gT,node*2+1,none⟩) hb5).trans HF5.out;have HO5:=Lib.hid hown5;have HG5:=Lib.hid hgrow5;have HA5:=Lib.hid hat5;clear hown5 hgrow5 hat5 hb5)))
        obtain ⟨w6,hw6⟩:∃ w6,w5.setCell ⟨gT,node*2+1,none⟩ (.slice a5 (AL.length+1) c5)=w6:=⟨_,rfl⟩
        rw [hw6]
        have HTM6:Hid (TrM w6 w.heap.size (.slice (some ⟨gT,0,none⟩) T.length cT) (N.set node ⟨N[node].word,a5,AL.length+1,c5⟩) (setArc T node ⟨(s[k].toNat:Int),(T.length:Int)⟩)):=by
         show TrM _ _ _ _ _
         have h:=(HTMW.out.ext ((Below.refl _ W).alloc (Nat.le_refl _) (.cells #[.int .u8 (s[k].toNat:Int),.int .i64 (T.length:Int)] 155))).put1 (k:=node) (x:=⟨(s[k].toNat:Int),(T.length:Int)⟩) (a':=a5) (c':=c5) hN2 hnd (by rw [HA.out];exact HO5.out) (by rw [HSV.out];exact HG5.out) (by rw [HA.out,HSV.out];exact HA5.out)
         rw [HA.out,hw6] at h
         exact h
        have HB6:Hid (Below w.heap.size w w6):=by
         show Below _ _ _
         rw [← hw6]
         exact ((HBLW.out.trans (((Below.refl _ W).alloc (Nat.le_refl _) _).mono HBLW.out.size)).grown HG5.out (by have:=HBW9.out;simp only [World.size_alloc];omega) fun q hq=>HROWW.out.ge q hq).setCell (show w.heap.size≤(⟨gT,node*2+1,none⟩:Addr).block from hgB) _
        have hN6:(N.set node ⟨N[node].word,a5,AL.length+1,c5⟩).length=T.length:=by rw [List.length_set];exact HTM.out.len
        obtain ⟨N6,hN6e⟩:∃ N6,N.set node ⟨N[node].word,a5,AL.length+1,c5⟩=N6:=⟨_,rfl⟩
        rw [hN6e] at HTM6 hN6
        have HN6:=Lib.hid hN6
        clear hw6 q5 f5 hN6e hN6
        go_wp2_with (at_builtin;go_loud (refine wpList_append_g (v:=.slice (some ⟨gT,0,none⟩) T.length cT) rowBn_ok rfl _ _ rfl rfl (HTM6.out.own.later ((Below.refl _ _).alloc (Nat.le_refl _) _) (Nat.le_refl _)) ⟨w6.heap.size,0,none⟩ 1 [⟨-1,none,0,0⟩] rfl (cells_built (heap_alloc_new _ _)) (by have:=HN6.out;simp only [List.length_singleton];omega) (by have:=HB6.out.size;simp only [World.size_alloc];omega) ?_);intro v7 w7 hown7 hgrow7 hat7;have HO7:=Lib.hid hown7;have HG7:=Lib.hid hgrow7;clear hown7 hgrow7 hat7)
        go_roundg (s.size - (k+1))
        case measure=>have:=HGK2.out;omega
        case rel =>
         have hb7:Below w.heap.size w w7:=(HB6.out.trans (((Below.refl _ w6).alloc (Nat.le_refl _) _).mono HB6.out.size)).grown HG7.out (by have:=HB6.out.size;simp only [World.size_alloc];omega) fun q hq=>HTM6.out.own.ge q hq
         exact ⟨k+1,T.length,_,addArc T node s[k],X',by go_num,rfl,by omega,rfl,(HTM6.out.ext ((Below.refl _ _).alloc (Nat.le_refl _) _)).grow HO7.out HG7.out hb7.size,HBI'.out,hb7⟩
    ·
     have HWE:=Lib.hid (HBI.out.wordEnd hiW HWI.out HI.out (by rw [bts_len];exact hlk) (by omega) ((Ws.map bts).getD (i+1) []))
     have htw:=HTM.out.word (i:=(i:Int)) hN2
     obtain ⟨w9,hw9⟩:∃ w9,wr.setCell ⟨gT,node*2,none⟩ (.int .i64 (i:Int))=w9:=⟨_,rfl⟩
     have hb9:Below w.heap.size w w9:=by
      rw [← hw9];exact HBL.out.setCell (show w.heap.size≤(⟨gT,node*2,none⟩:Addr).block from hgB) _
     rw [hw9] at htw
     have HTW:=Lib.hid htw;have HB9:=Lib.hid hb9;have HW9:=Lib.hid hw9
     have hfzT:wr.frozen? ⟨gT,node*2,none⟩=false:=by
      obtain ⟨cs,hcs⟩:=ownG_obj HTM.out.own (g:=gT) rfl
      simp [World.frozen?,hcs]
     clear htw hb9 hw9
     go_wp2_with fail
     go_roundg (Ws.length - (i+1))
     case measure=>have:=HGK.out;omega
     case rel=>exact ⟨i+1,_,_,X,by go_num,by omega,rfl,by rw [HW9.out];exact HTW.out,HWE.out,by rw [HW9.out];exact HB9.out⟩
  ·
   have hTE:i=Ws.length:=by omega
   subst hTE
   obtain ⟨ax,cx,hax, -, -⟩:=HTM.out.own.form
   subst hax
   have hNl:=HTM.out.len
   rw [hNl] at HTM ⊢
   have HTE:=Lib.hid (BegI.done (W:=Ws.map bts) (by
    have:=HBI.out
    rw [show Ws.length=(Ws.map bts).length by simp] at this
    exact this) HI.out)
   have HTS:=Lib.hid HTM.out.tree
   clear hNl
   go_wp2
   go_ret
   exact ⟨⟨_,_,_,T,rfl,rfl,HTS.out,HTE.out⟩,HBL.out⟩
end Go.Proofs.YthjmdgejnakcmaaGreatDoor
namespace Go.Proofs.YthjmdgejnakcmaaGreatDoor
open Go.RowKit Go.WideShapes Fl
set_option linter.unusedVariables false
set_option linter.unusedSimpArgs false
def sxM (acc:Int) (v1:Value) (aT:Option Addr) (nT cT:Nat) (aL:Option Addr) (nL cL:Nat) (f:Nat→Value):Array Value :=
 #[.int .u8 acc,v1,.slice aT nT cT,.slice aL nL cL,f 0,f 1,f 2,f 3,f 4]
def mpV (k:Nat) (gm:Nat→Nat) (j:Nat):Value:=if j<k then .map (some (gm j)) else .map none
theorem sxM_set {acc:Int} {v1:Value} {aT:Option Addr} {nT cT:Nat} {aL:Option Addr} {nL cL:Nat} {gm:Nat→Nat} {k g:Nat} (hk:k<5) :
  (sxM acc v1 aT nT cT aL nL cL (mpV k gm)).setIfInBounds (4+k) (.map (some g))=sxM acc v1 aT nT cT aL nL cL (mpV (k+1) (updF gm k g)):=by
 rcases (show k=0∨k=1∨k=2∨k=3∨k=4 from by omega) with rfl | rfl | rfl | rfl | rfl <;> simp [sxM,mpV,updF]
theorem sxM_full {acc:Int} {aR:Option Addr} {nR cR:Nat} {aT:Option Addr} {nT cT:Nat} {aL:Option Addr} {nL cL:Nat} {gm:Nat→Nat}:sxM acc (.slice aR nR cR) aT nT cT aL nL cL (mpV 5 gm)=sxC acc aR nR cR aT nT cT aL nL cL gm:=by
 simp [sxM,sxC,mpV]
structure NsM (w0 w:World) (gx:Nat) (cs:Array Value) (k:Nat) (gm:Nat→Nat):Prop where
 rep:w.heap[gx]? = some (.cells cs 120 (0,0))
 maps:∀ j,j<k→MpG keyS w (gm j) []∧w0.heap.size≤gm j
 apart:∀ a b,a<k→b<k→gm a=gm b→a=b
 gx:w0.heap.size≤gx
 bl:Below w0.heap.size w0 w
theorem NsM.ext {w0 w w':World} {gx:Nat} {cs:Array Value} {k:Nat} {gm:Nat→Nat} (h:NsM w0 w gx cs k gm) (hx:Ext w w'):NsM w0 w' gx cs k gm :=
 ⟨(Below.block hx _ (Array.getElem?_eq_some_iff.1 h.rep).1).trans h.rep,fun j hj=>⟨(h.maps j hj).1.kept (Below.block hx _ (h.maps j hj).1.lt),(h.maps j hj).2⟩,h.apart,h.gx,h.bl.trans (Below.mono hx h.bl.size)⟩
theorem
    NsM.put {w0 w:World} {gx:Nat} {acc:Int} {v1:Value} {aT:Option Addr} {nT cT:Nat} {aL:Option Addr} {nL cL:Nat} {k:Nat} {gm:Nat→Nat} (h:NsM w0 w gx (sxM acc v1 aT nT cT aL nL cL (mpV k gm)) k gm) (hk:k<5) :
  NsM w0 ((w.alloc (.map #[] 0)).setCell ⟨gx,4+k,none⟩ (.map (some w.heap.size))) gx (sxM acc v1 aT nT cT aL nL cL (mpV (k+1) (updF gm k w.heap.size))) (k+1) (updF gm k w.heap.size):=by
 have hgx:=(Array.getElem?_eq_some_iff.1 h.rep).1
 have hne:∀ q,q≠gx→((w.alloc (.map #[] 0)).setCell ⟨gx,4+k,none⟩ (.map (some w.heap.size))).heap[q]? = (w.alloc (.map #[] 0)).heap[q]?:=fun q hq=>Below.heap_setCell _ _ _ _ hq
 have hr:(w.alloc (.map #[] 0)).heap[gx]? = some (.cells (sxM acc v1 aT nT cT aL nL cL (mpV k gm)) 120 (0,0)):=(Below.heap_alloc _ _ _ hgx).trans h.rep
 have hmg:∀ j,j<k→gm j≠gx:=fun j hj e=>by
  obtain ⟨es,c,hm⟩:=(h.maps j hj).1.obj
  rw [e,h.rep] at hm;cases hm
 refine ⟨?_,fun j hj=>?_,fun a b ha hb hab=>?_,h.gx,?_⟩
 · rw [heap_setCell_same _ gx (4+k) _ _ _ hr,sxM_set hk]
 ·
  unfold updF
  by_cases e:j=k
  ·
   rw [if_pos e]
   exact ⟨(MpG.new keyS w).kept (hne _ (by omega)),h.bl.size⟩
  ·
   rw [if_neg e]
   have h1:=h.maps j (by omega)
   refine ⟨(h1.1.kept (Below.heap_alloc _ _ _ h1.1.lt)).kept (hne _ (hmg j (by omega))),h1.2⟩
 ·
  unfold updF at hab
  by_cases e:a=k
  ·
   rw [if_pos e] at hab
   by_cases e2:b=k
   · omega
   ·
    rw [if_neg e2] at hab
    have:=(h.maps b (by omega)).1.lt
    omega
  ·
   rw [if_neg e] at hab
   by_cases e2:b=k
   ·
    rw [if_pos e2] at hab
    have:=(h.maps a (by omega)).1.lt
    omega
   ·
    rw [if_neg e2] at hab
    exact h.apart a b (by omega) (by omega) hab
 · exact (h.bl.trans (((Below.refl _ w).alloc (Nat.le_refl _) _).mono h.bl.size)).setCell (show w0.heap.size≤(⟨gx,4+k,none⟩:Addr).block from h.gx) _
def
  NsP (R:List Rl) (Ws:List ByteArray) (acc:Int) (aL:Option Addr) (nL cL:Nat) (w:World) (e:Ending) (w':World):Prop :=
 ∃
  gx aR cR aT cT gm T,e=.returned (.pointer (some ⟨gx,0,none⟩))∧SX w' gx acc aR (R.filter fairB).length cR aT T.length cT aL nL cL gm∧RulS w' aR (R.filter fairB)∧TreeS w' aT T∧TrW T (Ws.map bts)∧GmOk w.heap.size gm ∧
  MpG keyS w' (gm 0) [((0,0),0)]∧(∀ j,0<j→j<5→MpG keyS w' (gm j) [])
def WdS (Ws:List ByteArray) (v:Value) (W:World):Prop:=∃ a c,v=.slice a Ws.length c∧StrS W a Ws
theorem wdS_stays (Ws:List ByteArray):Stays (WdS Ws):=by
 rintro v w w' ⟨a,c,h1,h2⟩ hx
 exact ⟨a,c,h1,h2.later hx (Nat.le_refl _)⟩
def BgS (Ws:List ByteArray) (v:Value) (W:World):Prop:=∃ aT cT T,v=.slice aT T.length cT∧TreeS W aT T∧TrW T (Ws.map bts)
theorem bgS_stays (Ws:List ByteArray):Stays (BgS Ws):=by
 rintro v w w' ⟨a,c,T,h1,h2,h3⟩ hx
 exact ⟨a,c,T,h1,h2.later hx (Nat.le_refl _),h3⟩
def RpS (Ws:List ByteArray) (acc:Int) (aL:Option Addr) (nL cL:Nat) (v:Value) (W:World):Prop:=∃ aT cT T,v=.agg #[.int .u8 acc,.slice none 0 0,.slice aT T.length cT,.slice aL nL cL,.map none,.map none,.map none,.map none,.map none]∧TreeS W aT T∧TrW T (Ws.map bts)
theorem rpS_stays (Ws:List ByteArray) (acc:Int) (aL:Option Addr) (nL cL:Nat):Stays (RpS Ws acc aL nL cL):=by
 rintro v w w' ⟨a,c,T,h1,h2,h3⟩ hx
 exact ⟨a,c,T,h1,h2.later hx (Nat.le_refl _),h3⟩
def PxS (w1:World) (Ws:List ByteArray) (acc:Int) (aL:Option Addr) (nL cL:Nat) (v:Value) (W:World):Prop:=∃ g aT cT T W0,v=.pointer (some ⟨g,0,none⟩)∧W0.heap.size≤g∧W.heap[g]? = some (.cells #[.int .u8 acc,.slice none 0 0,.slice aT T.length cT,.slice aL nL cL,.map none,.map none,.map none,.map none,.map none] 120 (0,0))∧TreeS W0 aT T∧TrW T (Ws.map bts)∧Below W0.heap.size W0 W∧Below w1.heap.size w1 W0
theorem pxS_stays (w1:World) (Ws:List ByteArray) (acc:Int) (aL:Option Addr) (nL cL:Nat):Stays (PxS w1 Ws acc aL nL cL):=by
 rintro v w w' ⟨g,a,c,T,W0,h1,h0,hg,h2,h3,h4,h5⟩ hx
 exact ⟨g,a,c,T,W0,h1,h0,(Below.block hx g (Array.getElem?_eq_some_iff.1 hg).1).trans hg,h2,h3,h4.trans (Below.mono hx h4.size),h5⟩
theorem NsM.rules {w0 w W:World} {gx B:Nat} {acc:Int} {v1:Value} {aT:Option Addr} {nT cT:Nat} {aL:Option Addr} {nL cL:Nat} {gm:Nat→Nat} {L1 L2:List Rl} {ya:Option Addr} {yc:Nat} (h:NsM w0 w gx (sxM acc v1 aT nT cT aL nL cL (mpV 5 gm)) 5 gm) (ho:OwnG rowRul w B v1 L1) (hp:AppP rowRul w B v1 L2 (.slice ya L2.length yc) W) (hB:w0.heap.size≤B) :
  NsM w0 (W.setCell ⟨gx,1,none⟩ (.slice ya L2.length yc)) gx (sxM acc (.slice ya L2.length yc) aT nT cT aL nL cL (mpV 5 gm)) 5 gm∧OwnG rowRul (W.setCell ⟨gx,1,none⟩ (.slice ya L2.length yc)) B (.slice ya L2.length yc) L2:=by
 have hgx:=(Array.getElem?_eq_some_iff.1 h.rep).1
 have hne:∀ q,q≠gx→(W.setCell ⟨gx,1,none⟩ (.slice ya L2.length yc)).heap[q]? = W.heap[q]?:=fun q hq=>Below.heap_setCell _ _ _ _ hq
 have hn1:v1.ownBlock≠some gx:=fun e=>by
  obtain ⟨cs,h1⟩:=ownG_obj ho e
  rw [h.rep] at h1
  injection h1 with h1
  injection h1 with _ h2
  exact absurd h2 (by decide)
 have hr:W.heap[gx]? = some (.cells (sxM acc v1 aT nT cT aL nL cL (mpV 5 gm)) 120 (0,0)):=(hp.block gx hgx hn1).trans h.rep
 refine ⟨⟨?_,fun j hj=>⟨?_,(h.maps j hj).2⟩,h.apart,h.gx,?_⟩,hp.own.keep fun g hg=>hne g fun e=>?_⟩
 · rw [heap_setCell_same W gx 1 _ _ _ hr];rfl
 ·
  have h1:=(h.maps j hj).1
  refine (h1.kept (hp.block _ h1.lt fun e=>h1.not_row ho e)).kept (hne _ fun e=>?_)
  obtain ⟨es,c,hm⟩:=h1.obj
  rw [e,h.rep] at hm;cases hm
 · refine Below.setCell (h.bl.trans (hp.below (C:=w0.heap.size) h.bl.size fun q hq=>Nat.le_trans hB (ho.ge q hq))) (show w0.heap.size≤(⟨gx,1,none⟩:Addr).block from h.gx) _
 ·
  rcases hp.loc with h1 | ⟨q,h1,h2⟩
  · rw [h1] at hg;exact hn1 (by rw [hg,e])
  · rw [h1] at hg;injection hg with hg;omega
set_option maxHeartbeats 6400000 in
set_option maxRecDepth 100000 in
theorem
    newSearch_any (R:List Rl) (modes acc:Int) (aS:Option Addr) (cS:Nat) (D:List Nd) (aD:Option Addr) (cD:Nat) (aL:Option Addr) (nL cL:Nat) (w:World) (hR:RulS w aS R) (hRl:R.length≤1000) (hD:DawgS w aD D) (hDl:D.length≤9223372036854775807) (hC:CsOk D)
  (hl:(wordsF D).length≤1000) (hs:∀ x∈wordsF D,x.size≤20) (hinc:((wordsF D).map bts).Pairwise fun a b=>Op.bytesLess a b=true) :
  Calls Tryz.prog 32 #[.agg #[.int .i64 modes,.int .u8 acc,.slice aS R.length cS],.slice aD D.length cD,.slice aL nL cL] w fun e w'=>NsP R (wordsF D) acc aL nL cL w e w'∧Below w.heap.size w w':=by
 have HR:=Lib.hid hR;have HD:=Lib.hid hD;have HC:=Lib.hid hC;have HS:=Lib.hid hs;have HI:=Lib.hid hinc
 clear hR hD hC hs hinc
 have hmm:=@run_makeMap Tryz.prog
 have HMM:=Lib.hid hmm
 clear hmm
 go_enter Tryz.func32,Tryz.ntmps32
 go_wp2_with fail
 obtain ⟨w1,hw1⟩:∃ w1,w.alloc (.cells #[.int .i64 modes,.int .u8 acc,.slice aS R.length cS] 32)=w1:=⟨_,rfl⟩
 rw [hw1]
 have HX1:Hid (Ext w w1):=by
  show Ext _ _
  rw [← hw1];exact (Below.refl _ _).alloc (Nat.le_refl _) _
 have HC1:Hid (w1.heap[w.heap.size]? = some (.cells #[.int .i64 modes,.int .u8 acc,.slice aS R.length cS] 32 (0,0))):=by
  show _=_
  rw [← hw1];exact heap_alloc_new _ _
 obtain ⟨gs,hgs⟩:∃ gs,w.heap.size=gs:=⟨_,rfl⟩
 rw [hgs] at HC1 ⊢
 have HGS:=Lib.hid hgs
 clear hw1 hgs
 refine wp_region_st (by kernel_rfl) (Vs [fun v _=>v=.pointer (some ⟨gs,1,none⟩),fun v _=>v=.int .u8 acc,fun v _=>v=.slice aD D.length cD,WdS (wordsF D),BgS (wordsF D),fun v _=>v=.slice aL nL cL,RpS (wordsF D) acc aL nL cL,PxS w1 (wordsF D) acc aL nL cL,PxS w1 (wordsF D) acc aL nL cL]) (Xs [Ext,Ext,Ext,Ext,Ext,Ext,Ext,Ext,Ext]) (fun fL=>(fun W=>Ext w1 W) ) [0,1,0,4,12,0,63,127,255] 53 9 (by kernel_rfl) rfl ?hV ?hS ?hop ?hfin ?hlast
 case hV =>
  refine xs_stays (vs_stays (by simp only [List.mem_cons,List.not_mem_nil,or_false,forall_eq_or_imp,forall_eq];exact ⟨stays_const _,stays_const _,stays_const _,wdS_stays _,bgS_stays _,stays_const _,rpS_stays _ _ _ _ _,pxS_stays _ _ _ _ _ _,pxS_stays _ _ _ _ _ _⟩)) ?_
  exact ⟨.inl rfl,.inl rfl,.inl rfl,.inl rfl,.inl rfl,.inl rfl,.inl rfl,.inl rfl,.inl rfl,trivial⟩
 case hS =>
  intro fL hf
  show (fun W=>Ext w1 W)  _
  first | exact Ext.refl _ | exact drew_ext _
 case hop =>
  refine ⟨?_,?_,?_,?c3,?c4,?_,?c6,?c7,?c8,trivial⟩
  all_goals first | rw [if_neg (by decide)] | rw [if_pos (by decide)]
  all_goals try intro ac W fL hsz hfi hms hdn hS0 hdep hbase hund
  all_goals try have hS:(fun W=>Ext w1 W)  W:=hS0
  all_goals try (
   have hk9:Kc w1 W:=Kc.of hS (Nat.le_refl _)
   have x1:=hk9.cell (p:=⟨gs,1,none⟩) (v:=.int .u8 acc) (by rw [cell_of_row w1 gs 1 _ _ (0,0) HC1.out];rfl)
   clear hk9)
  all_goals try (have h3:ac.tmps.getD 3 undef=.pointer (some ⟨gs,0,none⟩):=hbase 3 (by kernel_rfl);have hh3:=h3;rw [Array.getD_eq_getD_getElem?] at hh3)
  all_goals try (have h1:ac.tmps.getD 1 undef=.slice aD D.length cD:=hbase 1 (by kernel_rfl);have hh1:=h1;rw [Array.getD_eq_getD_getElem?] at hh1)
  all_goals try (have h2:ac.tmps.getD 2 undef=.slice aL nL cL:=hbase 2 (by kernel_rfl);have hh2:=h2;rw [Array.getD_eq_getD_getElem?] at hh2)
  all_goals try (have d11:ac.tmps.getD 11 undef=.pointer (some ⟨gs,1,none⟩):=hdep 0 (by decide);have dd11:=d11;rw [Array.getD_eq_getD_getElem?] at dd11)
  all_goals try (have d12:ac.tmps.getD 12 undef=.int .u8 acc:=hdep 1 (by decide);have dd12:=d12;rw [Array.getD_eq_getD_getElem?] at dd12)
  all_goals try (have d13:ac.tmps.getD 13 undef=.slice aD D.length cD:=hdep 2 (by decide);have dd13:=d13;rw [Array.getD_eq_getD_getElem?] at dd13)
  all_goals try have d14:(WdS (wordsF D)) (ac.tmps.getD 14 undef) W:=hdep 3 (by decide)
  all_goals try have d15:(BgS (wordsF D)) (ac.tmps.getD 15 undef) W:=hdep 4 (by decide)
  all_goals try (have d16:ac.tmps.getD 16 undef=.slice aL nL cL:=hdep 5 (by decide);have dd16:=d16;rw [Array.getD_eq_getD_getElem?] at dd16)
  all_goals try have d17:(RpS (wordsF D) acc aL nL cL) (ac.tmps.getD 17 undef) W:=hdep 6 (by decide)
  all_goals try have d18:(PxS w1 (wordsF D) acc aL nL cL) (ac.tmps.getD 18 undef) W:=hdep 7 (by decide)
  all_goals try clear hbase hdep hms hdn hund
  case c3 =>
   have hS1:(fun W=>Ext w1 W)  W:=hS0
   refine opOk_run rfl (.inr ⟨62,#[.slice aD D.length cD],W,by (clear hsz hS hS0 hS1 hfi;simp [go_sem,Act.eval, *]),?_⟩)
   refine (words_any D aD cD W ((HD.out.later HX1.out (Nat.le_refl _)).later hS (Nat.le_refl _)) hDl HC.out).mono ?_
   rintro e w' ⟨a1,c1,rfl,hs1,_,hb⟩
   exact ⟨_,rfl,⟨⟨a1,c1,rfl,hs1⟩,hb,Ext.trans hS0 hb⟩⟩
  case c4 =>
   have hS1:(fun W=>Ext w1 W)  W:=hS0
   obtain ⟨a1,c1,e14,hs14⟩:=d14
   rw [Array.getD_eq_getD_getElem?] at e14
   refine opOk_run rfl (.inr ⟨61,#[.slice a1 (wordsF D).length c1],W,by (clear hsz hS hS0 hS1 hfi hs14;simp [go_sem,Act.eval, *]),?_⟩)
   refine (begin_any (wordsF D) (wordsF D).length a1 c1 W hs14 rfl hl HS.out HI.out).mono ?_
   rintro e w' ⟨⟨aT,nT,cT,T,rfl,rfl,hT,hW⟩,hb⟩
   exact ⟨_,rfl,⟨⟨aT,cT,T,rfl,hT,hW⟩,hb,Ext.trans hS0 hb⟩⟩
  case c6 =>
   have hS1:(fun W=>Ext w1 W)  W:=hS0
   obtain ⟨aT,cT,T,e15,hT15,hW15⟩:=d15
   rw [Array.getD_eq_getD_getElem?] at e15
   refine opOk_run rfl (.inl ⟨.agg #[.int .u8 acc,.slice none 0 0,.slice aT T.length cT,.slice aL nL cL,.map none,.map none,.map none,.map none,.map none],W,?_,⟨aT,cT,T,rfl,hT15,hW15⟩,Ext.refl _,hS1⟩)
   clear hsz hS hS0 hS1 hfi hT15 hW15;simp [go_sem,Act.eval, *]
  case c7 =>
   have hS1:(fun W=>Ext w1 W)  W:=hS0
   obtain ⟨aT,cT,T,e17,hT17,hW17⟩:=d17
   rw [Array.getD_eq_getD_getElem?] at e17
   have hx18:Ext W (W.alloc (.cells #[.int .u8 acc,.slice none 0 0,.slice aT T.length cT,.slice aL nL cL,.map none,.map none,.map none,.map none,.map none] 120)):=(Below.refl _ _).alloc (Nat.le_refl _) _
   refine opOk_run rfl (.inl ⟨.pointer (some ⟨W.heap.size,0,none⟩),W.alloc (.cells #[.int .u8 acc,.slice none 0 0,.slice aT T.length cT,.slice aL nL cL,.map none,.map none,.map none,.map none,.map none] 120),?_,⟨W.heap.size,aT,cT,T,W,rfl,Nat.le_refl _,heap_alloc_new _ _,hT17,hW17,hx18,hS⟩,hx18,Ext.trans hS0 hx18⟩)
   clear hsz hS hS0 hS1 hfi hT17 hW17 hx18;simp [go_sem,Act.eval, *]
  case c8 =>
   have hS1:(fun W=>Ext w1 W)  W:=hS0
   refine opOk_run rfl (.inl ⟨_,W,?_,d18,Ext.refl _,hS1⟩)
   clear hsz hS hS0 hS1 hfi;simp [go_sem,Act.eval, *]
  all_goals (refine opOk_run rfl (.inl ⟨_,W,?_,rfl,Ext.refl _,hS0⟩);clear hsz hS hS0 hfi;simp [go_sem,Act.eval, *];done)
 case hlast =>
  intro h;exact absurd rfl h
 case hfin
      =>
  intro _ ac W hsz hdf fL hf hS0 hv hbase
  have hS:(fun W=>Ext w1 W)  W:=hS0
  clear hS0
  obtain ⟨sx,hsx,hsA⟩:=act_puts [11,12,13,14,15,16,17,18,7] (by kernel_rfl) hsz hdf hbase
  have hp7:PxS w1 (wordsF D) acc aL nL cL (ac.tmps.getD 7 undef) W:=hv 8 (by decide)
  obtain ⟨gx,aT,cT,T,W0,e7v,hgx7,hrep7,hT7,hW7,hbl7,hbl1⟩:=hp7
  have e7:sx 7=.pointer (some ⟨gx,0,none⟩):=(hsx 7).trans e7v
  clear e7v
  rw [hsA]
  simp only [List.foldl]
  simp only [Act.put,List.setIfInBounds_toArray,List.set_cons_succ,List.set_cons_zero]
  clear hsA hsx hv hbase hsz hdf hf
  rw [e7]
  clear e7
  have HB0:Hid (Below w.heap.size w W0):=Below.trans HX1.out (hbl1.mono (Below.size HX1.out))
  have HNS:Hid (NsM w W gx (sxM acc (.slice none 0 0) aT T.length cT aL nL cL (mpV 0 fun _=>0)) 0 fun _=>0):=⟨hrep7,fun j hj=>absurd hj (Nat.not_lt_zero _),fun a b ha=>absurd ha (Nat.not_lt_zero _),Nat.le_trans HB0.out.size hgx7,HB0.out.trans (hbl7.mono HB0.out.size)⟩
  have HT7:=Lib.hid hT7;have HW7:=Lib.hid hW7;have HB7:=Lib.hid hbl7;have HB1:=Lib.hid hbl1
  clear hT7 hW7 hbl7 hbl1 hrep7 hS
  have hmm:=HMM.out
  go_wp2_with fail
  go_loopg [19] 5 (fun g v19 wr=>∃ (k:Nat) (gm:Nat→Nat),v19=.int .i64 (k:Int)∧k≤5∧g=5 - k∧NsM w wr gx (sxM acc (.slice none 0 0) aT T.length cT aL nL cL (mpV k gm)) k gm∧Below W0.heap.size W0 wr)
  case atStart=>exact ⟨0,_,rfl,Nat.zero_le _,rfl,HNS.out,HB7.out⟩
  case round =>
   clear HNS HB7
   obtain ⟨k,gm,rfl,hk,hgk,hns,hbl⟩:=hrel
   have HNS:=Lib.hid hns;have HBL:=Lib.hid hbl;have HGK:=Lib.hid hgk
   have hgxl:=(Array.getElem?_eq_some_iff.1 hns.rep).1
   clear hns hbl hgk
   by_cases hlt:k<5
   ·
    have hlI:(k:Int)<5:=by omega
    have h0I:(0:Int)≤(k:Int):=by omega
    have hcl:wr.cell? ⟨gx,4+k,none⟩=some (.map none):=by
     rw [cell_of_row wr gx (4+k) _ _ (0,0) HNS.out.rep]
     rcases (show k=0∨k=1∨k=2∨k=3∨k=4 from by omega) with rfl | rfl | rfl | rfl | rfl <;> simp [sxM,mpV]
    have hfz:wr.frozen? ⟨gx,4+k,none⟩=false:=by simp [World.frozen?,HNS.out.rep]
    have hput:=HNS.out.put hlt
    rw [World.setCell_alloc_past _ _ _ _ hgxl] at hput
    have HPT:=Lib.hid hput
    clear hput
    have HBP:Hid (Below W0.heap.size W0 ((wr.setCell ⟨gx,4+k,none⟩ (.map (some wr.heap.size))).alloc (.map #[] 0))):=by
     show Below _ _ _
     rw [← World.setCell_alloc_past _ _ _ _ hgxl]
     exact Below.setCell (HBL.out.trans (((Below.refl _ wr).alloc (Nat.le_refl _) _).mono HBL.out.size)) (show W0.heap.size≤(⟨gx,4+k,none⟩:Addr).block from hgx7) _
    go_wp2_with fail
    go_roundg (5 - (k+1))
    case measure=>have:=HGK.out;omega
    case rel=>exact ⟨k+1,_,by go_num,by omega,rfl,HPT.out,HBP.out⟩
   ·
    obtain rfl:k=5:=by omega
    clear hmm
    have HK1:Hid (∀ W,Below W0.heap.size W0 W→Kc w1 W):=fun W hb=>(Kc.of HB1.out (Nat.le_refl _)).trans (Kc.of hb (Nat.le_refl _))
    have x2:=(HK1.out wr HBL.out).cell (p:=⟨gs,2,none⟩) (v:=.slice aS R.length cS) (by rw [cell_of_row w1 gs 2 _ _ (0,0) HC1.out];rfl)
    go_wp2_with fail
    clear x2
    go_loopg [32] R.length (fun g v32 wr=>∃ (k:Nat) (v1:Value),v32=.int .i64 (k:Int)∧k≤R.length∧g=R.length - k∧NsM w wr gx (sxM acc v1 aT T.length cT aL nL cL (mpV 5 gm)) 5 gm∧OwnG rowRul wr W0.heap.size v1 ((R.take k).filter fairB)∧Below W0.heap.size W0 wr)
    case atStart=>exact ⟨0,_,rfl,Nat.zero_le _,rfl,HNS.out,OwnG.nil _ _ _,HBL.out⟩
    case round =>
     clear HNS HBL HGK hlt hgxl
     obtain ⟨k,v1,rfl,hk2,hgk,hns,hown,hbl⟩:=hrel
     obtain ⟨a1,c1,hv1, -, -⟩:=hown.form
     subst hv1
     have HNS:=Lib.hid hns;have HOW:=Lib.hid hown;have HBL:=Lib.hid hbl;have HGK:=Lib.hid hgk
     have hgxl:=(Array.getElem?_eq_some_iff.1 hns.rep).1
     clear hns hown hbl hgk
     obtain ⟨L1,hL1⟩:∃ L1,(R.take k).filter fairB=L1:=⟨_,rfl⟩
     have hL1l:L1.length≤1000:=by
      rw [← hL1]
      exact Nat.le_trans (List.length_filter_le _ _) (by rw [List.length_take];omega)
     rw [hL1] at HNS HOW
     have HL1:=Lib.hid hL1
     clear hL1
     by_cases hlt:k<R.length
     ·
      have hkr:Kc w wr:=(Kc.of HX1.out (Nat.le_refl _)).trans (HK1.out wr HBL.out)
      obtain ⟨b1,o1,ha1,hb1,r0,r1,r2,r3,r4⟩:=(RulS.kp HR.out hkr).at hlt
      have hi1:=idx_rules aS b1 o1 R.length cS k ha1 hlt
      have htk:R.take (k+1)=R.take k ++ [R[k]]:=List.take_succ_eq_append_getElem hlt
      obtain ⟨r,hr⟩:∃ r,R[k]=r:=⟨_,rfl⟩
      rw [hr] at r0 r1 r2 r3 r4 htk
      have HTK:=Lib.hid htk
      obtain ⟨frm,dst,inp,out,cost⟩:=r
      simp only at r0 r1 r2 r3 r4
      clear hkr ha1 hr htk
      go_upto_region 10 with fail
      obtain ⟨w4,hw4⟩:∃ w4,wr.alloc (.cells #[.int .i64 frm,.int .i64 dst,.string inp,.string out,.int .i64 cost] 64)=w4:=⟨_,rfl⟩
      rw [hw4]
      have HX4:Hid (Ext wr w4):=by
       show Ext _ _
       rw [← hw4];exact (Below.refl _ _).alloc (Nat.le_refl _) _
      have HC4:Hid (w4.heap[wr.heap.size]? = some (.cells #[.int .i64 frm,.int .i64 dst,.string inp,.string out,.int .i64 cost] 64 (0,0))):=by
       show _=_
       rw [← hw4];exact heap_alloc_new _ _
      obtain ⟨g4,hg4⟩:∃ g4,wr.heap.size=g4:=⟨_,rfl⟩
      rw [hg4] at HC4 ⊢
      have hg4g:g4≠gx:=by omega
      have HNR4:Hid ((.slice a1 L1.length c1:Value).ownBlock≠some g4):=fun e=>by have:=HOW.out.lt _ e;omega
      obtain ⟨d0,d1,d2,d3,d4⟩:=rul_cells HC4.out
      have hfa:=fair_any ⟨frm,dst,inp,out,cost⟩ w4
      obtain ⟨fb,hfb⟩:∃ fb,fairB ⟨frm,dst,inp,out,cost⟩=fb:=⟨_,rfl⟩
      rw [hfb] at hfa
      have HFA:=Lib.hid hfa;have HFB:=Lib.hid hfb
      clear hw4 hg4 hfa hfb r0 r1 r2 r3 r4 hi1 hb1
      go_wp2_with fail
      refine HFA.out.mono ?_
      rintro e w5 ⟨rfl,hb5⟩
      have HX5:Hid (Ext wr w5):=Ext.trans HX4.out hb5
      have HC5:Hid (w5.heap[g4]? = some (.cells #[.int .i64 frm,.int .i64 dst,.string inp,.string out,.int .i64 cost] 64 (0,0))):=(hb5.block g4 (Array.getElem?_eq_some_iff.1 HC4.out).1).trans HC4.out
      have HNS5:=Lib.hid (HNS.out.ext HX5.out)
      have HOW5:=Lib.hid (HOW.out.later HX5.out (Nat.le_refl _))
      have HBL5:Hid (Below W0.heap.size W0 w5):=HBL.out.trans (Below.mono HX5.out HBL.out.size)
      clear d0 d1 d2 d3 d4 hb5
      cases fb with
      | false =>
       have HN:Hid ((R.take (k+1)).filter fairB=L1):=by show _=_;rw [HTK.out,List.filter_append,HL1.out];simp [List.filter_cons,HFB.out]
       go_wp2_with fail
       go_roundg (R.length - (k+1))
       case measure=>have:=HGK.out;omega
       case rel=>exact ⟨k+1,_,by go_num,by omega,rfl,HNS5.out,by rw [HN.out];exact HOW5.out,HBL5.out⟩
      | true =>
       have HN:Hid ((R.take (k+1)).filter fairB=L1 ++ [⟨frm,dst,inp,out,cost⟩]):=by show _=_;rw [HTK.out,List.filter_append,HL1.out];simp [List.filter_cons,HFB.out]
       have HSZ:Hid (W0.heap.size≤w5.heap.size):=HBL5.out.size
       have hgx5:=(Array.getElem?_eq_some_iff.1 HNS5.out.rep).1
       go_wp2_with fail
       refine wp_region_st (by kernel_rfl) (Vs [fun v _=>v=.pointer (some ⟨gx,0,none⟩),fun v _=>v=.pointer (some ⟨gx,0,none⟩),fun v _=>v=.pointer (some ⟨gx,0,none⟩),fun v _=>v=.pointer (some ⟨gx,1,none⟩),fun v _=>v=.slice a1 L1.length c1,fun v _=>v=.agg #[.int .i64 frm,.int .i64 dst,.string inp,.string out,.int .i64 cost],RowG1 rowRul (.slice a1 L1.length c1) (⟨frm,dst,inp,out,cost⟩:Rl),AppP rowRul (w5) (W0.heap.size) (.slice a1 L1.length c1) (L1 ++ [(⟨frm,dst,inp,out,cost⟩:Rl)]),fun v _=>v=.pointer (some ⟨gx,0,none⟩),fun v _=>v=.pointer (some ⟨gx,1,none⟩)]) (Xs [Ext,Ext,Ext,Ext,Ext,Ext,Ext,(fun w w'=>w.grownBy w' (.slice a1 L1.length c1:Value).ownBlock),Ext,Ext]) (fun fL=>(ApT (w5) (.slice a1 L1.length c1)) (fL 7)) [0,0,2,6,14,0,32,126,1,257] 53 10 (by kernel_rfl) rfl ?hV ?hS ?hop ?hfin ?hlast
       case hV =>
        refine xs_stays (vs_stays (by simp only [List.mem_cons,List.not_mem_nil,or_false,forall_eq_or_imp,forall_eq];exact ⟨stays_const _,stays_const _,stays_const _,stays_const _,stays_const _,stays_const _,rowG1_stays _ _ _,appP_stays,stays_const _,stays_const _⟩)) ?_
        exact ⟨.inl rfl,.inl rfl,.inl rfl,.inl rfl,.inl rfl,.inl rfl,.inl rfl,.inr (staysM_all ⟨fun _ _=>fun _ _ _ h _=>h,fun _ _=>fun _ _ _ h _=>h,fun _ _=>fun _ _ _ h _=>h,fun _ _=>fun _ _ _ h _=>h,fun _ _=>fun _ _ _ h _=>h,fun _ _=>fun _ _ _ h _=>h,fun _ _=>rowG1_grown _ _ _,fun h=>absurd rfl h,fun _ _=>fun _ _ _ h _=>h,fun _ _=>fun _ _ _ h _=>h,trivial⟩),.inl rfl,.inl rfl,trivial⟩
       case hS =>
        intro fL hf
        show (ApT (w5) (.slice a1 L1.length c1)) (fL 7) _
        rw [hf 7 (by decide)]
        first | exact Ext.refl _ | exact drew_ext _
       case hop =>
        refine ⟨?_,?_,?_,?_,?_,?_,?c6,?c7,?_,?_,?_,trivial⟩
        all_goals first | rw [if_neg (by decide)] | rw [if_pos (by decide)]
        all_goals try exact True.intro
        all_goals try intro ac W fL hsz hfi hms hdn hS0 hdep hbase hund
        all_goals try have hS:(ApT (w5) (.slice a1 L1.length c1)) (fL 7) W:=hS0
        all_goals try (have hfl7:fL 7=true:=hms 7 (by decide);rw [hfl7] at hS)
        all_goals try (have hfl7:fL 7=false:=(by first | exact hfi | exact hdn 7 (by decide) (by decide));rw [hfl7] at hS)
        all_goals try (
         have hnx:(.slice a1 L1.length c1:Value).ownBlock≠some gx:=fun e=>by
          obtain ⟨cs,h1⟩:=ownG_obj HOW5.out e
          rw [HNS5.out.rep] at h1
          injection h1 with h1
          injection h1 with _ h2
          exact absurd h2 (by decide)
         have hblk:=(ApT.old hS0 gx hgx5 hnx).trans HNS5.out.rep
         have hcx:W.cell? ⟨gx,1,none⟩=some (.slice a1 L1.length c1):=by rw [cell_of_row W gx 1 _ _ (0,0) hblk];rfl
         obtain ⟨d0,d1,d2,d3,d4⟩:=rul_cells ((ApT.old hS0 g4 (Array.getElem?_eq_some_iff.1 HC5.out).1 HNR4.out).trans HC5.out)
         clear hblk hnx)
        all_goals try (have h7:ac.tmps.getD 7 undef=.pointer (some ⟨gx,0,none⟩):=hbase 7 (by kernel_rfl);have hh7:=h7;rw [Array.getD_eq_getD_getElem?] at hh7)
        all_goals try (have h10:ac.tmps.getD 10 undef=.pointer (some ⟨g4,0,none⟩):=hbase 10 (by kernel_rfl);have hh10:=h10;rw [Array.getD_eq_getD_getElem?] at hh10)
        all_goals try (have d38:ac.tmps.getD 38 undef=.pointer (some ⟨gx,0,none⟩):=hdep 0 (by decide);have dd38:=d38;rw [Array.getD_eq_getD_getElem?] at dd38)
        all_goals try (have d39:ac.tmps.getD 39 undef=.pointer (some ⟨gx,0,none⟩):=hdep 1 (by decide);have dd39:=d39;rw [Array.getD_eq_getD_getElem?] at dd39)
        all_goals try (have d40:ac.tmps.getD 40 undef=.pointer (some ⟨gx,0,none⟩):=hdep 2 (by decide);have dd40:=d40;rw [Array.getD_eq_getD_getElem?] at dd40)
        all_goals try (have d41:ac.tmps.getD 41 undef=.pointer (some ⟨gx,1,none⟩):=hdep 3 (by decide);have dd41:=d41;rw [Array.getD_eq_getD_getElem?] at dd41)
        all_goals try (have d42:ac.tmps.getD 42 undef=.slice a1 L1.length c1:=hdep 4 (by decide);have dd42:=d42;rw [Array.getD_eq_getD_getElem?] at dd42)
        all_goals try (have d43:ac.tmps.getD 43 undef=.agg #[.int .i64 frm,.int .i64 dst,.string inp,.string out,.int .i64 cost]:=hdep 5 (by decide);have dd43:=d43;rw [Array.getD_eq_getD_getElem?] at dd43)
        all_goals try have d44:(RowG1 rowRul (.slice a1 L1.length c1) (⟨frm,dst,inp,out,cost⟩:Rl)) (ac.tmps.getD 44 undef) W:=hdep 6 (by decide)
        all_goals try (have d46:ac.tmps.getD 46 undef=.pointer (some ⟨gx,0,none⟩):=hdep 8 (by decide);have dd46:=d46;rw [Array.getD_eq_getD_getElem?] at dd46)
        all_goals try clear hbase hdep hms hdn hund
        case c6 =>
         have hS1:(ApT (w5) (.slice a1 L1.length c1)) ((upd fL 6) 7) W:=hS0
         have hlt62:(.slice a1 L1.length c1:Value).ownBlock≠some W.heap.size:=fun e=>by
          have h9:=(HOW5.out).lt _ e
          have h8:=Below.size hS
          omega
         refine opOk_run rfl (.inl ⟨.slice (some ⟨W.heap.size,0,none⟩) 1 1,W.alloc (.cells #[.int .i64 frm,.int .i64 dst,.string inp,.string out,.int .i64 cost] 64),?_,⟨_,rfl,heap_alloc_new _ _,hlt62⟩,(Below.refl _ _).alloc (Nat.le_refl _) _,(show (ApT (w5) (.slice a1 L1.length c1)) ((upd fL 6) 7) _ by
          rw [show upd fL 6 7=fL 7 from if_neg (by decide)]
          exact ApT.ext _ _ _ hS0 ((Below.refl _ _).alloc (Nat.le_refl _) _))⟩)
         clear hsz hS hS0 hS1 hfi hlt62;simp [go_sem,Act.eval, *]
        case c7 =>
         obtain ⟨g62,e62,hg62,hn62⟩:=d44
         refine opOk_run rfl ((opres_append_g rowRul_ok (.tmp 42) (.tmp 44) rfl (eval_tmp d42) ((HOW5.out).later hS (Nat.le_refl _)) ⟨g62,0,none⟩ 1 [(⟨frm,dst,inp,out,cost⟩:Rl)] (eval_tmp e62) (cells_built hg62) (by simp only [List.length_singleton];omega) (Nat.le_trans HSZ.out (Below.size hS))).mono ?_)
         rintro va w' ⟨ho,hgr,hat⟩
         have hap8:=AppP.made hS ho hgr hat
         refine ⟨hap8,hgr,?_⟩
         show ApT (w5) (.slice a1 L1.length c1) (upd fL 7 7) w'
         rw [show upd fL 7 7=true from if_pos rfl]
         exact hap8.old
        all_goals (refine opOk_run rfl (.inl ⟨_,W,?_,rfl,Ext.refl _,hS0⟩);clear hsz hS hS0 hfi;simp [go_sem,Act.eval, *];done)
       case hfin =>
        intro h;exact absurd h (by decide)
       case hlast =>
        intro _ ac W hsz hdf fL hf hS0 hv hbase
        have hS:(ApT (w5) (.slice a1 L1.length c1)) (fL 7) W:=hS0
        clear hS0
        rw [hf 7 (by decide)] at hS
        have hst:ac.tmps.getD 47 undef=.pointer (some ⟨gx,1,none⟩):=hv 9 (by decide)
        have hap9:AppP rowRul (w5) (W0.heap.size) (.slice a1 L1.length c1) (L1 ++ [(⟨frm,dst,inp,out,cost⟩:Rl)]) (ac.tmps.getD 45 undef) W:=hv 7 (by decide)
        obtain ⟨ya,yc,hya, -, -⟩:=hap9.own.form
        rw [hya] at hap9
        have hnx:(.slice a1 L1.length c1:Value).ownBlock≠some gx:=fun e=>by
         obtain ⟨cs,h1⟩:=ownG_obj HOW5.out e
         rw [HNS5.out.rep] at h1
         injection h1 with h1
         injection h1 with _ h2
         exact absurd h2 (by decide)
        have hblk:=(hap9.block gx hgx5 hnx).trans HNS5.out.rep
        refine wpOp_store rfl rfl rfl rfl (eval_tmp hst) (eval_tmp hya) (by simp [World.frozen?,hblk]) (by rw [cell_of_row W _ _ _ _ (0,0) hblk];rfl) (by kernel_rfl) ?_
        clear hblk hnx
        obtain ⟨wz,hwz⟩:∃ wz,W.setCell ⟨gx,1,none⟩ (.slice ya (L1 ++ [(⟨frm,dst,inp,out,cost⟩:Rl)]).length yc)=wz:=⟨_,rfl⟩
        rw [hwz]
        have HAP:=Lib.hid hap9;have HWZ:=Lib.hid hwz
        clear hS hap9 hst hwz
        obtain ⟨sx,hsx,hsA⟩:=act_puts [38,39,40,41,42,43,44,45,46,47] (by kernel_rfl) hsz hdf hbase
        clear hya
        rw [hsA]
        simp only [List.foldl]
        simp only [Act.put,List.setIfInBounds_toArray,List.set_cons_succ,List.set_cons_zero]
        clear hsA hsx hv hbase hsz hdf hf
        have hru:=HNS5.out.rules HOW5.out HAP.out HB0.out.size
        rw [HWZ.out] at hru
        have hbz:Below W0.heap.size W0 wz:=by
         rw [← HWZ.out]
         exact Below.setCell (HBL5.out.trans (HAP.out.below HSZ.out fun q hq=>HOW5.out.ge q hq)) (show W0.heap.size≤(⟨gx,1,none⟩:Addr).block from hgx7) _
        have HRU:=Lib.hid hru;have HBZ:=Lib.hid hbz
        clear hru hbz
        go_wp2_with fail
        go_roundg (R.length - (k+1))
        case measure=>have:=HGK.out;omega
        case rel=>exact ⟨k+1,_,by go_num,by omega,rfl,HRU.out.1,by rw [HN.out];exact HRU.out.2,HBZ.out⟩
     ·
      have hall:R.take k=R:=List.take_of_length_le (by omega)
      have HLE:Hid (L1=R.filter fairB):=by show _=_;rw [← HL1.out,hall]
      have hsx:SX wr gx acc a1 L1.length c1 aT T.length cT aL nL cL gm:=by
       have h:=HNS.out.rep
       rw [sxM_full] at h
       exact h
      have HPU:=Lib.hid (put_new (w:=wr) 0 0 0 0 0 [] (by omega) rfl hsx (HNS.out.maps 0 (by decide)).1 (show keyS.ok (0,0) from ⟨by decide,by decide⟩) (by decide) (by decide) rfl)
      have HSX:=Lib.hid hsx
      clear hall hsx
      go_wp2_with fail
      refine HPU.out.mono ?_
      rintro e w9 ⟨rfl,hp⟩
      have HP:=Lib.hid hp
      clear hp
      go_wp2_with fail
      go_ret
      have hkp:=HP.out.kp (HNS.out.maps 0 (by decide)).1
      have hgr:=HP.out.gr
      refine ⟨⟨gx,a1,c1,aT,cT,gm,T,rfl,?_,?_,?_,HW7.out,⟨HNS.out.apart,fun j hj=>(HNS.out.maps j hj).2⟩,HP.out.map,fun j h0 hj=>?_⟩,HNS.out.bl.trans (HP.out.below (HNS.out.maps 0 (by decide)).2 HNS.out.bl.size)⟩
      · rw [← HLE.out];exact HSX.out.kp hkp
      · rw [← HLE.out];exact RulS.kp (OwnG.ruls HOW.out).1 hkp
      · exact (HT7.out.later HBL.out (Nat.le_refl _)).kp hkp
      · exact (HNS.out.maps j hj).1.kept (hgr _ (HNS.out.maps j hj).1.lt fun e=>by have:=HNS.out.apart j 0 hj (by decide) e;omega)
end Go.Proofs.YthjmdgejnakcmaaGreatDoor
namespace Go.Proofs.YthjmdgejnakcmaaGreatDoor
open Go.RowKit Go.WideShapes Fl
set_option linter.unusedVariables false
set_option linter.unusedSimpArgs false
theorem rts_fair {R:List Rl} {L:List Slt} {i m:Nat} {o:List UInt8} {c:Nat}:RtS (R.filter fairB) L i m o c↔RtS R L i m o c:=by
 constructor
 ·
  intro h
  induction h with
  | start=>exact .start
  | step _ hr hf hm hk ih=>exact .step ih (List.mem_filter.1 hr).1 hf hm hk
 ·
  intro h
  induction h with
  | start=>exact .start
  | step _ hr hf hm hk ih=>exact .step ih (List.mem_filter.2 ⟨hr,hf⟩) hf hm hk
theorem fairs_filter (R:List Rl):Fairs (R.filter fairB):=fun r hr=>(List.mem_filter.1 hr).2
theorem whole_fair {R:List Rl} {acc:Int} {L:List Slt} {i:Nat} {w:List UInt8} {c:Nat}:Whole (R.filter fairB) acc L i w c↔Whole R acc L i w c:=by
 unfold Whole
 constructor
 · rintro ⟨m,h1,h2⟩;exact ⟨m,h1,rts_fair.1 h2⟩
 · rintro ⟨m,h1,h2⟩;exact ⟨m,h1,rts_fair.2 h2⟩
theorem FndOk.fair {R:List Rl} {acc:Int} {L:List Slt} {W:List (List UInt8)} {i:Nat} {l:List (Nat × Nat)} (h:FndOk (R.filter fairB) acc L W i l):FndOk R acc L W i l :=
 ⟨h.sorted,fun k c=>by
  rw [h.mem]
  exact ⟨fun ⟨hk,hl⟩=>⟨hk,hl.congr fun d=>whole_fair⟩,fun ⟨hk,hl⟩=>⟨hk,hl.congr fun d=>whole_fair.symm⟩⟩⟩
structure FndB (R:List Rl) (acc:Int) (L:List Slt) (W:List (List UInt8)) (i:Nat) (l:List (Nat × Nat)):Prop extends FndOk R acc L W i l where
 low:∀ p∈l,p.2≤900000000000
theorem least_iff {p q:Nat→Prop} {c:Nat} (h1:∀ d,p d→q d) (h2:∀ d,q d→∃ d',d'≤d∧p d'):Least p c↔Least q c:=by
 constructor
 ·
  rintro ⟨h3,h4⟩
  refine ⟨h1 c h3,fun d hd=>?_⟩
  obtain ⟨d',h5,h6⟩:=h2 d hd
  exact Nat.le_trans (h4 d' h6) h5
 ·
  rintro ⟨h3,h4⟩
  obtain ⟨d',h5,h6⟩:=h2 c h3
  have:=h4 d' (h1 d' h6)
  have e:d'=c:=by omega
  subst e
  exact ⟨h6,fun d hd=>h4 d (h1 d hd)⟩
theorem fnd_ok {T:List Bn} {W:List (List UInt8)} {R:List Rl} {L:List Slt} {acc:Int} {i:Nat} {M:Nat→Ent} {l:List (Nat × Nat)} (hT:TrW T W) (hinv:Inv R L (folT T) i M) (hs:∀ t,Shut R L (folT T) i M t) (hk:KeysN (M i)) (hf:FndE T acc (M i) l):FndOk R acc L W i l where
 sorted:=hf.sorted
 mem
   k c:=by
  rw [hf.mem]
  have hA:∀ d,(∃ t,(t,d)∈M i∧wordT T t.2=(k:Int)∧accB acc t.1=true)→∃ h:k<W.length,Whole R acc L i W[k] d:=by
   rintro d ⟨t,h1,h2,h3⟩
   obtain ⟨o,h4,h5⟩:=rt_of (folw T) (hinv.sound i t d (look_of_mem hk h1))
   obtain ⟨hkw,e⟩:=(hT.fol1 o t.2 k h5).1 h2
   exact ⟨hkw,t.1,h3,by rw [e];exact h4⟩
  constructor
  ·
   intro hl
   obtain ⟨hkw,_⟩:=hA c hl.1
   refine ⟨hkw,(least_iff (fun d hd=>(hA d hd).2) fun d hd=>?_).1 hl⟩
   obtain ⟨m,h3,h4⟩:=hd
   obtain ⟨n,hn⟩:=hT.fol2 W[k] (List.getElem_mem hkw)
   obtain ⟨c',h5,h6⟩:=hinv.least hs (rt_mk (folw T) h4 hn)
   exact ⟨c',h6,(m,n),look_mem h5,(hT.fol1 W[k] n k hn).2 ⟨hkw,rfl⟩,h3⟩
  ·
   rintro ⟨hkw,hl⟩
   refine (least_iff (fun d hd=>(hA d hd).2) fun d hd=>?_).2 hl
   obtain ⟨m,h3,h4⟩:=hd
   obtain ⟨n,hn⟩:=hT.fol2 W[k] (List.getElem_mem hkw)
   obtain ⟨c',h5,h6⟩:=hinv.least hs (rt_mk (folw T) h4 hn)
   exact ⟨c',h6,(m,n),look_mem h5,(hT.fol1 W[k] n k hn).2 ⟨hkw,rfl⟩,h3⟩
def M0 (j:Nat):Ent:=if j=0 then [((0,0),0)] else []
theorem inv0 (R:List Rl) (L:List Slt) (fol:Nat→List UInt8→Option Nat):Inv R L fol 0 M0 where
 sound j t c h:=by
  unfold M0 at h
  split at h
  ·
   rename_i e
   subst e
   rw [look_cons] at h
   split at h
   · rename_i e2;injection h with h;subst h;rw [← e2];exact .start
   · cases h
  · cases h
 comp k t c r t' d hk:=absurd hk (Nat.not_lt_zero _)
 base _:=⟨0,by simp [M0,look_cons],Nat.le_refl _⟩
theorem bnd0 {N D:Nat} (hN:0<N):Bnd N 0 0 D M0 where
 keys j:=by unfold M0;split <;> simp [KeysN]
 rng j p hp:=by
  unfold M0 at hp
  split at hp
  · rw [List.mem_singleton.1 hp];exact ⟨by decide,hN⟩
  · cases hp
 here p hp:=by
  simp only [M0,if_pos,List.mem_singleton] at hp
  rw [hp];exact Nat.zero_le _
 next j hj p hp:=by
  unfold M0 at hp
  rw [if_neg hj] at hp
  cases hp
def nextM (i:Nat) (M:Nat→Ent) (j:Nat):Ent:=if i<j then M j else []
theorem Bnd.nextM {N i B D:Nat} {M:Nat→Ent} (h:Bnd N i B D M):Bnd N (i+1) (B+(8*N+1)*D) D (nextM i M) where
 keys j:=by
  unfold Go.Proofs.YthjmdgejnakcmaaGreatDoor.nextM
  split
  · exact h.keys j
  · exact List.Pairwise.nil
 rng j p hp:=by
  unfold Go.Proofs.YthjmdgejnakcmaaGreatDoor.nextM at hp
  split at hp
  · exact h.rng j p hp
  · cases hp
 here p hp:=by
  unfold Go.Proofs.YthjmdgejnakcmaaGreatDoor.nextM at hp ⊢
  rw [if_pos (Nat.lt_succ_self i)] at hp ⊢
  have:=h.next (i+1) (by omega) p hp
  omega
 next j hj p hp:=by
  unfold Go.Proofs.YthjmdgejnakcmaaGreatDoor.nextM at hp
  split at hp
  ·
   have:=h.next j (by omega) p hp
   omega
  · cases hp
theorem Inv.nextM {R:List Rl} {L:List Slt} {fol:Nat→List UInt8→Option Nat} {i:Nat} {M:Nat→Ent} (h:Inv R L fol i M) (hs:∀ t,Shut R L fol i M t):Inv R L fol (i+1) (nextM i M) :=
 h.next hs (fun j hj=>if_pos hj) fun j hj=>if_neg hj
end Go.Proofs.YthjmdgejnakcmaaGreatDoor
namespace Go.Proofs.YthjmdgejnakcmaaGreatDoor
open Go.RowKit Go.WideShapes Fl
set_option linter.unusedVariables false
set_option linter.unusedSimpArgs false
def svS (x:SV):Value:=.slice x.a x.n x.c
def rowFnds:RowT SV:=⟨45,48,1,24,.slice none 0 0,fun x=>[.slice x.a x.n x.c]⟩
theorem rowFnds_ok:rowFnds.Ok:=⟨Tryz.underlying45,by kernel_rfl,rfl,by decide,fun _=>rfl,fun x u hu=>by obtain rfl:u=.slice x.a x.n x.c:=(List.mem_singleton.1 hu);rfl,by decide⟩
theorem OwnG.kc {α:Type} {T:RowT α} {w w':World} {B:Nat} {v:Value} {L:List α} (h:OwnG T w B v L) (hk:Kc w w'):OwnG T w' B v L:=h.keep fun g hg=>by
 obtain ⟨cs,hc⟩:=ownG_obj h hg
 rw [hk.block _ _ _ _ hc,hc]
theorem flatMap_rep {α:Type} (T:RowT α) (z0:α) (hz:T.enc z0=[T.z]):∀ n,(List.replicate n z0).flatMap T.enc=List.replicate n T.z
 | 0=>rfl
 | n+1=>by rw [List.replicate_succ,List.flatMap_cons,flatMap_rep T z0 hz n,hz,List.replicate_succ];rfl
theorem wpList_make_g {α:Type} {T:RowT α} (hT:T.Ok) (hk1:T.k=1) (z0:α) (hz:T.enc z0=[T.z]) (hzc:T.z.cells=#[T.z]) {w:World} {ops:Array Oper} {rest:List Oper} {o:Oper} {a:Act} {Q:Exit→Act→World→Prop}
  (hgd:o.guard=none) (l c:Operand) (hop:o.op=Op.makeSlice T.sl l c) (B n:Nat) (hl:a.eval l=.int .i64 (n:Int)) (hc:a.eval c=.int .i64 (n:Int)) (hn:n≤1000000) (hB:B≤w.heap.size)
  (hK:∀ w',OwnG T w' B (.slice (some ⟨w.heap.size,0,none⟩) n n) (List.replicate n z0)→Below w.heap.size w w'→wpList Tryz.prog ops Q rest (a.put o.dst (.slice (some ⟨w.heap.size,0,none⟩) n n)) w'):wpList Tryz.prog ops Q (o :: rest) a w:=by
 obtain ⟨i0,hi,hz0,hz1,hz2⟩:=info_parts hT.info
 have hb:i0.bytes*n≤64*1000000:=Nat.mul_le_mul (by rw [hz2];exact hT.b) hn
 refine wpList_make_full w hgd l c T.sl hop B T.e i0 T.z T.k hT.und hi hz0 hz1 .i64 .i64 (n:Int) (n:Int) n hl hc rfl rfl (by omega) (by unfold maxLen;omega) hB ?_
 intro w' hown hg
 refine hK w' ?_ ⟨hg.os,hg.tape,hg.output,hg.size,fun k hk=>hg.block k hk (by simp)⟩
 unfold OwnG
 rw [List.length_replicate]
 have e:(madeCells T.z.cells (n*T.k)).toList=(List.replicate n z0).flatMap T.enc:=by
  rw [hk1,Nat.mul_one,hzc]
  have h1:=flatMap_rep T z0 hz n
  rw [h1]
  apply List.ext_getElem
  · simp [madeCells]
  ·
   intro j h2 h3
   simp [madeCells,Nat.mod_one]
 rw [← e]
 exact hown
def FsOk (R:List Rl) (acc:Int) (L:List Slt) (W:List (List UInt8)) (B:Nat) (w:World) (Ls:List SV) (i:Nat):Prop :=
 ∀ (k:Nat) (h:k<Ls.length),k<i→∃ l,OwnG rowFnd w B (svS Ls[k]) l∧FndB R acc L W k l
theorem FsOk.kc {R:List Rl} {acc:Int} {L:List Slt} {W:List (List UInt8)} {B:Nat} {w w':World} {Ls:List SV} {i:Nat} (h:FsOk R acc L W B w Ls i) (hk:Kc w w'):FsOk R acc L W B w' Ls i:=fun k hl hi=>by
 obtain ⟨l,h1,h2⟩:=h k hl hi
 exact ⟨l,h1.kc hk,h2⟩
def EndsP (R:List Rl) (acc:Int) (L:List Slt) (W:List (List UInt8)) (B:Nat) (e:Ending) (w':World):Prop :=
 ∃ g Ls,e=.returned (.slice (some ⟨g,0,none⟩) (L.length+1) (L.length+1))∧OwnG rowFnds w' B (.slice (some ⟨g,0,none⟩) (L.length+1) (L.length+1)) Ls∧Ls.length=L.length+1∧FsOk R acc L W B w' Ls (L.length+1)
theorem ends_store {R:List Rl} {acc:Int} {L:List Slt} {W:List (List UInt8)} {B C g n i:Nat} {w:World} {Ls:List SV} {a:Option Addr} {l:List (Nat × Nat)} {c:Nat} (ho:OwnG rowFnds w C (.slice (some ⟨g,0,none⟩) n n) Ls) (hf:FsOk R acc L W B w Ls i) (hi:i<Ls.length)
  (hv:OwnG rowFnd w B (.slice a l.length c) l) (hl:FndB R acc L W i l) :
  OwnG rowFnds (w.setCell ⟨g,i,none⟩ (.slice a l.length c)) C (.slice (some ⟨g,0,none⟩) n n) (Ls.set i ⟨a,l.length,c⟩)∧FsOk R acc L W B (w.setCell ⟨g,i,none⟩ (.slice a l.length c)) (Ls.set i ⟨a,l.length,c⟩) (i+1):=by
 have hkeep:∀ {v:Value} {l2:List (Nat × Nat)},OwnG rowFnd w B v l2→OwnG rowFnd (w.setCell ⟨g,i,none⟩ (.slice a l.length c)) B v l2:=fun {v l2} h=>h.keep fun q hq=>Below.heap_setCell _ _ _ _ (by
  show q≠g
  intro e
  obtain ⟨cs,h1⟩:=ownG_obj h hq
  obtain ⟨cs2,h2⟩:=ownG_obj ho (g:=g) rfl
  rw [e,h2] at h1
  injection h1 with h1
  injection h1 with _ h3
  exact absurd h3 (by decide))
 refine ⟨ho.setCell (by simp) ?_ (by show i<Ls.length*1;omega) rowFnds_ok,fun k hk hki=>?_⟩
 ·
  have:∀ (M:List SV),M.flatMap rowFnds.enc=M.map fun x=>.slice x.a x.n x.c:=fun M=>by
   induction M with
   | nil=>rfl
   | cons x r ih=>rw [List.flatMap_cons,ih];rfl
  rw [this,this,List.map_set]
 ·
  have hk':k<Ls.length:=by simpa using hk
  rw [List.getElem_set]
  by_cases e:i=k
  ·
   subst e
   rw [if_pos rfl]
   exact ⟨l,hkeep hv,hl⟩
  ·
   rw [if_neg e]
   obtain ⟨l2,h1,h2⟩:=hf k hk' (by omega)
   exact ⟨l2,hkeep h1,h2⟩
structure SrI (R:List Rl) (L:List Slt) (T:List Bn) (gm:Nat→Nat) (i D:Nat) (M:Nat→Ent) (w:World):Prop where
 maps:∀ j,i≤j→j<i+5→MpG keyS w (gm (j % 5)) (M j)
 inv:Inv R L (folT T) i M
 bnd:Bnd T.length i (i*((8*T.length+1)*D)) D M
 out:∀ j,¬ j<i+5→M j=[]
theorem idx_fnds (b len cap k:Nat) (hk:k<len) (w:World) :
  (Instr.indexAt 45 (.slice (some ⟨b,0,none⟩) len cap) (.int .i64 (k:Int))).run Tryz.prog w=.ok (.pointer (some ⟨b,k,none⟩)) w:=by
 have h0:(0:Int)≤(k:Int):=by omega
 have h1:(k:Int)<(len:Int):=by omega
 simp [go_sem,h0,h1]
structure EnQ (R:List Rl) (acc:Int) (L:List Slt) (X:List (List UInt8)) (T:List Bn) (gm:Nat→Nat) (D:Nat) (w1 w2:World) (gE i:Nat) (w:World):Prop where
 sr:∃ M,SrI (R.filter fairB) L T gm i D M w
 row:∃ Ls,OwnG rowFnds w w2.heap.size (.slice (some ⟨gE,0,none⟩) (L.length+1) (L.length+1)) Ls∧Ls.length=L.length+1∧FsOk R acc L X w1.heap.size w Ls i
 kc:Kc w2 w
 bl:Below w1.heap.size w1 w
set_option maxHeartbeats 6400000 in
set_option maxRecDepth 100000 in
theorem
    ends_any (R:List Rl) (modes acc:Int) (aS:Option Addr) (cS:Nat) (D:List Nd) (aD:Option Addr) (cD:Nat) (aL:Option Addr) (L:List Slt) (cL C:Nat) (w:World) (hR:RulS w aS R) (hRl:R.length≤1000) (hO:∀ r∈R,r.out.size≤1000000) (hD:DawgS w aD D) (hDl:D.length≤9223372036854775807) (hC:CsOk D)
  (hl:(wordsF D).length≤1000) (hs:∀ x∈wordsF D,x.size≤20) (hinc:((wordsF D).map bts).Pairwise fun a b=>Op.bytesLess a b=true) (hL:SlotS w aL L) (hLl:L.length≤1000) (hBs:SlotsB C L) (hCc:C≤1000000)
  (hcost:∀ N i,N≤1+20*(wordsF D).length→i≤L.length→8*N*(i*((8*N+1)*(1000+4*C))+(8*N+1)*(1000+4*C)+2)≤900000000000) (ha0:0≤acc) (ha1:acc≤255) :
  Calls Tryz.prog 18 #[.agg #[.int .i64 modes,.int .u8 acc,.slice aS R.length cS],.slice aD D.length cD,.slice aL L.length cL] w fun e w'=>EndsP R acc L ((wordsF D).map bts) w.heap.size e w'∧Below w.heap.size w w':=by
 have HO:=Lib.hid hO;have HLS:=Lib.hid hL;have HBS:=Lib.hid hBs;have HCO:=Lib.hid hcost
 obtain ⟨X,hX⟩:∃ X,(wordsF D).map bts=X:=⟨_,rfl⟩
 have hXl:X.length=(wordsF D).length:=by rw [← hX,List.length_map]
 have HXL:=Lib.hid hXl;have HXE:=Lib.hid hX
 have hns:=fun w1 (hx:Ext w w1)=>newSearch_any R modes acc aS cS D aD cD aL L.length cL w1 (hR.later hx (Nat.le_refl _)) hRl (hD.later hx (Nat.le_refl _)) hDl hC hl hs hinc
 have HNS:=Lib.hid hns
 have hRf:(R.filter fairB).length≤1000:=Nat.le_trans (List.length_filter_le _ _) hRl
 have HRF:=Lib.hid hRf
 clear hR hO hD hC hs hinc hL hBs hcost hns hXl hRf
 go_enter Tryz.func18,Tryz.ntmps18
 go_wp2_with fail
 obtain ⟨w1,hw1⟩:∃ w1,w.alloc (.cells #[.int .i64 modes,.int .u8 acc,.slice aS R.length cS] 32)=w1:=⟨_,rfl⟩
 rw [hw1]
 have HX1:Hid (Ext w w1):=by
  show Ext _ _
  rw [← hw1];exact (Below.refl _ _).alloc (Nat.le_refl _) _
 clear hw1
 refine (HNS.out w1 HX1.out).mono ?_
 rintro e w2 ⟨⟨gx,aR,cR,aT,cT,gm,T,rfl,hsx,hru,hts,htw,hgm,hm0,hmr⟩,hb2⟩
 rw [hX] at htw
 have HSX:=Lib.hid hsx;have HRU:=Lib.hid hru;have HTS:=Lib.hid hts;have HTW:=Lib.hid htw;have HGM:=Lib.hid hgm;have HM0:=Lib.hid hm0;have HMR:=Lib.hid hmr;have HB2:=Lib.hid hb2
 have hTl:T.length≤1+20*(wordsF D).length:=by have:=htw.size;have:=HXL.out;omega
 have HTL:=Lib.hid hTl
 clear hX HNS hsx hru hts htw hgm hm0 hmr hb2 hTl
 go_wp2_with (at_make;go_loud (refine wpList_make_g rowFnds_ok rfl ⟨none,0,0⟩ rfl rfl rfl _ _ rfl w2.heap.size (L.length+1) (by go_num) (by go_num) (by omega) (Nat.le_refl _) ?_);intro w3 hown3 hb3;have HO3:=Lib.hid hown3;have HB3:=Lib.hid hb3;clear hown3 hb3)
 have HEQ:Hid (EnQ R acc L X T gm (1000+4*C) w1 w2 w2.heap.size 0 w3):=by
  refine ⟨⟨M0,⟨fun j h1 h2=>?_,inv0 _ _ _,by rw [Nat.zero_mul];exact bnd0 HTW.out.pos,fun j hj=>?_⟩⟩,⟨_,HO3.out,by rw [List.length_replicate],fun k _ hk=>absurd hk (Nat.not_lt_zero _)⟩,Kc.of HB3.out (Nat.le_refl _),HB2.out.trans (HB3.out.mono HB2.out.size)⟩
  ·
   have hj:j % 5=j:=Nat.mod_eq_of_lt (by omega)
   rw [hj]
   have hm:MpG keyS w2 (gm j) (M0 j):=by
    unfold M0
    split
    · rename_i e;subst e;exact HM0.out
    · rename_i e;exact HMR.out j (by omega) (by omega)
   exact hm.kept (HB3.out.block _ hm.lt)
  ·
   unfold M0
   rw [if_neg (by omega)]
 obtain ⟨gE,hgE⟩:∃ gE,w2.heap.size=gE:=⟨_,rfl⟩
 have HGE:Hid (w1.heap.size≤gE):=by have:=HB2.out.size;show _≤_;omega
 have HGE2:Hid (w2.heap.size≤gE):=by show _≤_;omega
 have HGX:Hid (gx<gE):=by have:=HSX.out.lt;show _<_;omega
 rw [hgE] at HEQ ⊢
 clear hgE HO3 HB3 HM0 HMR
 go_loopg [20] (L.length+1) (fun g v20 wr=>∃ i:Nat,v20=.int .i64 (i:Int)∧i≤L.length+1∧g=L.length+1 - i∧EnQ R acc L X T gm (1000+4*C) w1 w2 gE i wr)
 case atStart=>exact ⟨0,rfl,Nat.zero_le _,rfl,HEQ.out⟩
 case round =>
  clear HEQ
  obtain ⟨i,rfl,hi,hgk,heq⟩:=hrel
  have HEQ:=Lib.hid heq;have HGK:=Lib.hid hgk
  clear heq hgk
  by_cases hlt:i<L.length+1
  ·
   obtain ⟨M,hsr⟩:=HEQ.out.sr
   obtain ⟨Ls,hrow,hLs,hfs⟩:=HEQ.out.row
   have hkc:Kc w wr:=(Kc.of HX1.out (Nat.le_refl _)).trans ((Kc.of HB2.out (Nat.le_refl _)).trans HEQ.out.kc)
   have hvis:=svisit_any (R.filter fairB) L T C i (i*((8*T.length+1)*(1000+4*C))) (1000+4*C) w1.heap.size M (HSX.out.kp HEQ.out.kc) (RulS.kp HRU.out HEQ.out.kc) rfl HRF.out (fairs_filter R) (fun r hr=>HO.out r (List.mem_filter.1 hr).1)
    (HLS.out.kp hkc) rfl (by omega) (by omega) HBS.out hCc (HTS.out.kp HEQ.out.kc) rfl (by have:=HTL.out;omega) HTW.out.trIn HGM.out HEQ.out.bl.size hsr.maps hsr.inv hsr.bnd (Nat.le_refl _) (HCO.out T.length i HTL.out (by omega)) HTW.out.pos
   have HVIS:=Lib.hid hvis;have HROW:=Lib.hid hrow;have HFS:=Lib.hid hfs;have HLS2:=Lib.hid hLs;have HSR:=Lib.hid hsr
   clear hvis hrow hfs hLs hsr hkc
   go_wp2_with fail
   refine HVIS.out.mono ?_
   rintro e w4 ⟨rfl,M',hvp⟩
   have HVP:=Lib.hid hvp
   clear hvp HVIS
   have HM4:=Lib.hid (HVP.out.vx.maps i (Nat.le_refl _) (by omega))
   have HSX4:=Lib.hid (HSX.out.kp (HEQ.out.kc.trans HVP.out.vx.kp))
   have HBL4:Hid (Below w1.heap.size w1 w4):=HEQ.out.bl.trans HVP.out.vx.bl
   have HWI:Hid (WdIn T):=fun b hb=>by have h:=HTW.out.wd b hb;have:=HXL.out;omega
   have HFND:=Lib.hid (found_any T i (i % 5) (M' i) (by omega) rfl HSX4.out (HTS.out.kp (HEQ.out.kc.trans HVP.out.vx.kp)) rfl (by have:=HTL.out;omega) HWI.out HM4.out (HVP.out.bnd.rng i) ha0 ha1)
   go_wp2_with fail
   refine HFND.out.mono ?_
   rintro e w5 ⟨⟨v,l,rfl,hown,hfe⟩,hb5⟩
   obtain ⟨a5,c5,hv5,hc5, -⟩:=hown.form
   subst hv5
   have HFE:Hid (FndB R acc L X i l):=⟨(fnd_ok HTW.out HVP.out.inv HVP.out.shut (HVP.out.bnd.keys i) hfe).fair,fun p hp=>by
    obtain ⟨t,ht, -⟩:=((hfe.mem p.1 p.2).1 hp).1
    have h1:=HVP.out.bnd.here_le (look_of_mem (HVP.out.bnd.keys i) ht)
    have h2:=HCO.out T.length i HTL.out (by omega)
    have h3:=HTW.out.pos
    have h4:8*T.length*(1000+4*C)≤(8*T.length+1)*(1000+4*C):=Nat.mul_le_mul_right _ (Nat.le_succ _)
    have h5:i*((8*T.length+1)*(1000+4*C))+(8*T.length+1)*(1000+4*C)+2≤8*T.length*(i*((8*T.length+1)*(1000+4*C))+(8*T.length+1)*(1000+4*C)+2):=Nat.le_mul_of_pos_left _ (by omega)
    omega⟩
   have HK5:Hid (Kc wr w5):=HVP.out.vx.kp.trans (Kc.of hb5 (Nat.le_refl _))
   have HB5:=Lib.hid hb5
   have HO5:=Lib.hid (hown.mono HBL4.out.size)
   have HR5:=Lib.hid (HROW.out.kc HK5.out)
   have HF5:=Lib.hid (HFS.out.kc HK5.out)
   have hiL:i<Ls.length:=by have:=HLS2.out;omega
   have HST:=Lib.hid (ends_store HR5.out HF5.out hiL HO5.out HFE.out)
   obtain ⟨cs5,hcs5⟩:=ownG_obj HR5.out (g:=gE) rfl
   have hfz:w5.frozen? ⟨gE,i,none⟩=false:=by simp [World.frozen?,hcs5]
   have hcl:=HR5.out.cell rowFnds_ok hiL (j:=0) (by decide)
   have e1:i*rowFnds.k+0=i:=by show i*1+0=i;omega
   rw [e1] at hcl
   have hcl2:w5.cell? ⟨gE,i,none⟩=some (.slice Ls[i].a Ls[i].n Ls[i].c):=hcl
   have hix:=idx_fnds gE (L.length+1) (L.length+1) i hlt
   have HHP:Hid (∀ q,q≠gE→(w5.setCell ⟨gE,i,none⟩ (.slice a5 l.length c5)).heap[q]? = w5.heap[q]?):=fun q hq=>Below.heap_setCell _ _ _ _ hq
   have HCS:=Lib.hid hcs5
   clear hown hfe hb5 hcl e1 hcs5
   go_wp2_with fail
   obtain ⟨w6,hw6⟩:∃ w6,w5.setCell ⟨gE,i,none⟩ (.slice a5 l.length c5)=w6:=⟨_,rfl⟩
   rw [hw6] at HST HHP ⊢
   have HW6:=Lib.hid hw6
   clear hw6 hfz hcl2 hix
   have HSX6:Hid (SX w6 gx acc aR (R.filter fairB).length cR aT T.length cT aL L.length cL gm):=by
    have h:=HSX4.out.kp (Kc.of HB5.out (Nat.le_refl _))
    exact (HHP.out gx (by have:=HGX.out;omega)).trans h
   have HMK:Hid (∀ j,i≤j→j<i+5→MpG keyS w6 (gm (j % 5)) (M' j)):=fun j h1 h2=>by
    have h:=(HVP.out.vx.maps j h1 h2).kept (HB5.out.block _ (HVP.out.vx.maps j h1 h2).lt)
    refine h.kept (HHP.out _ fun e=>?_)
    obtain ⟨es,c,h3⟩:=h.obj
    rw [e,HCS.out] at h3
    cases h3
   have HM6:=Lib.hid (HMK.out i (Nat.le_refl _) (by omega))
   have hat:=at_any i (i % 5) (by omega) rfl HSX6.out
   refine hat.mono ?_
   clear hat
   rintro e w7 ⟨rfl,rfl⟩
   obtain ⟨w7,hrun,hm7,hg7⟩:=HM6.out.run_clear keyS_ok 0
   have HM7:=Lib.hid hm7;have HG7:=Lib.hid hg7
   clear hm7 hg7
   dsimp only [keyS] at hrun
   go_wp2_with fail
   clear hrun
   go_roundg (L.length+1 - (i+1))
   case measure=>have:=HGK.out;omega
   case rel =>
    have hK6:Kc w2 w6:=by
     have h:=HEQ.out.kc.trans HK5.out
     refine ⟨by rw [← HW6.out,World.size_setCell];exact h.size,fun q cs t f hq=>?_⟩
     have hlt2:=(Array.getElem?_eq_some_iff.1 hq).1
     exact (HHP.out q (by have:=HGE2.out;omega)).trans (h.block q cs t f hq)
    have hK7:Kc w6 w7:=Kc.map HG7.out HM6.out.obj
    have hb6:Below w1.heap.size w1 w6:=by
     rw [← HW6.out]
     exact (HBL4.out.trans (HB5.out.mono HBL4.out.size)).setCell (show w1.heap.size≤(⟨gE,i,none⟩:Addr).block from HGE.out) _
    refine ⟨i+1,by go_num,by omega,rfl,⟨⟨nextM i M',⟨fun j h1 h2=>?_,HVP.out.inv.nextM HVP.out.shut,by rw [Nat.succ_mul];exact HVP.out.bnd.nextM,fun j hj=>?_⟩⟩,⟨_,HST.out.1.kc hK7,by rw [List.length_set];exact HLS2.out,HST.out.2.kc hK7⟩,hK6.trans hK7,hb6.grown HG7.out hb6.size fun q hq=>?_⟩⟩
    ·
     unfold nextM
     rw [if_pos (show i<j by omega)]
     by_cases e:j=i+5
     ·
      subst e
      rw [show (i+5) % 5=i % 5 by omega,HVP.out.out _ (by omega),HSR.out.out _ (by omega)]
      exact HM7.out
     ·
      have h:=HMK.out j (by omega) (by omega)
      refine h.kept (HG7.out.block _ h.lt fun e2=>?_)
      injection e2 with e2
      have:=HGM.out.apart (j % 5) (i % 5) (Nat.mod_lt _ (by decide)) (Nat.mod_lt _ (by decide)) e2
      omega
    ·
     unfold nextM
     rw [if_pos (show i<j by omega),HVP.out.out _ (by omega),HSR.out.out _ (by omega)]
    ·
     injection hq with hq
     rw [← hq]
     exact HGM.out.ge _ (Nat.mod_lt _ (by decide))
  ·
   obtain rfl:i=L.length+1:=by omega
   obtain ⟨Ls,hrow,hLs,hfs⟩:=HEQ.out.row
   have HROW:=Lib.hid hrow;have HFS:=Lib.hid hfs
   clear hrow hfs
   go_wp2_with fail
   go_ret
   exact ⟨⟨gE,Ls,rfl,HROW.out.mono (Nat.le_trans HX1.out.size HB2.out.size),hLs,fun k h hk=>by obtain ⟨l,h1,h2⟩:=HFS.out k h hk;exact ⟨l,h1.mono HX1.out.size,by rw [HXE.out];exact h2⟩⟩,Below.trans HX1.out (HEQ.out.bl.mono HX1.out.size)⟩
end Go.Proofs.YthjmdgejnakcmaaGreatDoor
namespace Go.Proofs.YthjmdgejnakcmaaGreatDoor
open Go.RowKit Go.WideShapes Fl
set_option linter.unusedVariables false
set_option linter.unusedSimpArgs false
def rowSlts:RowT SV:=⟨39,53,1,24,.slice none 0 0,fun x=>[.slice x.a x.n x.c]⟩
theorem rowSlts_ok:rowSlts.Ok:=⟨Tryz.underlying39,by kernel_rfl,rfl,by decide,fun _=>rfl,fun x u hu=>by obtain rfl:u=.slice x.a x.n x.c:=(List.mem_singleton.1 hu);rfl,by decide⟩
def rowCh:RowT Ch:=⟨53,55,2,16,.agg #[.int .u8 0,.int .i64 0],fun x=>[.int .u8 (x.key.toNat:Int),.int .i64 x.cost]⟩
theorem rowCh_ok:rowCh.Ok:=⟨Tryz.underlying53,by kernel_rfl,rfl,by decide,fun _=>rfl,fun x u hu=>by
 have h:u=.int .u8 (x.key.toNat:Int)∨u=.int .i64 x.cost:=by simpa [rowCh] using hu
 rcases h with rfl | rfl <;> rfl,by decide⟩
theorem OwnG.chs {w:World} {B:Nat} {a:Option Addr} {n c:Nat} {L:Slt} (h:OwnG rowCh w B (.slice a n c) L):ArcS w a (chA L)∧n=L.length∧L.length≤c:=by
 obtain ⟨a',c',he,hc,_⟩:=h.form
 injection he with e1 e2 e3
 refine ⟨fun k hk=>?_,e2,by omega⟩
 rw [chA_len] at hk
 rcases h.blk with ⟨_,rfl⟩ | ⟨g,c2,he2,_,hg,_⟩
 · simp at hk
 ·
  injection he2 with f1 f2 f3
  subst f1
  refine ⟨g,0,rfl,hg,?_,?_⟩
  ·
   have:=h.cell rowCh_ok hk (j:=0) (by decide)
   simpa [rowCh,chA] using this
  ·
   have:=h.cell rowCh_ok hk (j:=1) (by decide)
   simpa [rowCh,chA] using this
def ElS (w:World) (x:SV) (s:Slt):Prop:=OwnG rowCh w 0 (svS x) s
theorem ElS.kc {w w':World} {x:SV} {s:Slt} (h:ElS w x s) (hk:Kc w w'):ElS w' x s:=OwnG.kc h hk
theorem ElS.n {w:World} {x:SV} {s:Slt} (h:ElS w x s):x.n=s.length:=(OwnG.chs h).2.1
theorem ElS.arcs {w:World} {x:SV} {s:Slt} (h:ElS w x s):ArcS w x.a (chA s):=(OwnG.chs h).1
theorem ElS.le {w:World} {x:SV} {s:Slt} (h:ElS w x s):s.length≤9223372036854775807:=by
 obtain ⟨a,c,e,h1,h2⟩:=OwnG.form h
 unfold maxLen at h2
 omega
theorem ElS.of {w:World} {B:Nat} {x:SV} {s:Slt} (h:OwnG rowCh w B (svS x) s):ElS w x s:=h.mono (Nat.zero_le _)
theorem ElS.keep {w w':World} {x:SV} {s:Slt} {B:Nat} {v:Value} {Ls:List SV} (h:ElS w x s) (ho:OwnG rowSlts w B v Ls) (hk:∀ q,q<w.heap.size→v.ownBlock≠some q→w'.heap[q]? = w.heap[q]?):ElS w' x s:=OwnG.keep h fun q hq=>hk q (OwnG.lt h q hq) fun e=>by
 obtain ⟨cs,h1⟩:=ownG_obj h hq
 obtain ⟨cs2,h2⟩:=ownG_obj ho e
 rw [h2] at h1
 injection h1 with h1
 injection h1 with _ h4
 exact absurd h4 (by decide)
structure SltsR (w:World) (B:Nat) (v:Value) (Ls:List SV) (L:List Slt):Prop where
 own:OwnG rowSlts w B v Ls
 len:Ls.length=L.length
 el:∀ (k:Nat) (x:SV) (s:Slt),Ls[k]? = some x→L[k]? = some s→ElS w x s
def SltsG (w:World) (B:Nat) (v:Value) (L:List Slt):Prop:=∃ Ls,SltsR w B v Ls L
theorem SltsR.kc {w w':World} {B:Nat} {v:Value} {Ls:List SV} {L:List Slt} (h:SltsR w B v Ls L) (hk:Kc w w'):SltsR w' B v Ls L :=
 ⟨h.own.kc hk,h.len,fun k x s h1 h2=>(h.el k x s h1 h2).kc hk⟩
theorem SltsR.later {w w':World} {B C:Nat} {v:Value} {Ls:List SV} {L:List Slt} (h:SltsR w B v Ls L) (hb:Below C w w') (hC:w.heap.size≤C):SltsR w' B v Ls L:=h.kc (Kc.of hb hC)
theorem SltsR.mono {w:World} {B C:Nat} {v:Value} {Ls:List SV} {L:List Slt} (h:SltsR w B v Ls L) (hC:C≤B):SltsR w C v Ls L:=⟨h.own.mono hC,h.len,h.el⟩
theorem SltsR.push {w w':World} {B B':Nat} {v v':Value} {Ls:List SV} {L:List Slt} {x:SV} {s:Slt} (h:SltsR w B v Ls L) (ho:OwnG rowSlts w' B' v' (Ls ++ [x])) (hg:w.grownBy w' v.ownBlock) (hx:ElS w x s):SltsR w' B' v' (Ls ++ [x]) (L ++ [s]):=by
 have hk:∀ {y t},ElS w y t→ElS w' y t:=fun {y t} hy=>hy.keep h.own fun q hq hne=>hg.block q hq (Ne.symm hne)
 refine ⟨ho,by simp [h.len],fun k y t h1 h2=>?_⟩
 have hl:=h.len
 by_cases hlt:k<Ls.length
 ·
  rw [List.getElem?_append_left hlt] at h1
  rw [List.getElem?_append_left (by omega)] at h2
  exact hk (h.el k y t h1 h2)
 ·
  rw [List.getElem?_append_right (by omega)] at h1
  rw [List.getElem?_append_right (by omega)] at h2
  rw [hl] at h1
  cases e:k - L.length with
  | zero=>rw [e] at h1 h2;cases h1;cases h2;exact hk hx
  | succ n=>rw [e] at h1;simp at h1
theorem SltsR.slotS {w:World} {B:Nat} {a:Option Addr} {n c:Nat} {Ls:List SV} {L:List Slt} (h:SltsR w B (.slice a n c) Ls L):SlotS w a L∧n=L.length∧L.length≤c:=by
 obtain ⟨a',c',he,hc,_⟩:=h.own.form
 injection he with e1 e2 e3
 refine ⟨fun k hk=>?_,by rw [e2,h.len],by rw [← h.len];omega⟩
 have hk2:k<Ls.length:=by rw [h.len];exact hk
 rcases h.own.blk with ⟨_,e⟩ | ⟨g,c2,he2,_,hg,_⟩
 · rw [e] at hk2;simp at hk2
 ·
  injection he2 with f1 f2 f3
  subst f1
  have hel:=h.el k _ _ (List.getElem?_eq_getElem hk2) (List.getElem?_eq_getElem hk)
  have hc:=h.own.cell rowSlts_ok hk2 (j:=0) (by decide)
  refine ⟨g,0,rfl,hg,Ls[k].a,Ls[k].c,?_,hel.le,hel.arcs⟩
  rw [← hel.n]
  simpa [rowSlts] using hc
theorem SltsG.slotS {w:World} {B:Nat} {a:Option Addr} {n c:Nat} {L:List Slt} (h:SltsG w B (.slice a n c) L):SlotS w a L∧n=L.length∧L.length≤c:=by
 obtain ⟨Ls,h⟩:=h
 exact h.slotS
def typB (l:List UInt8):List Slt:=l.map fun c=>[⟨c,0⟩]
def typL (s:ByteArray):List Slt:=typB (bts s)
theorem typL_len (s:ByteArray):(typL s).length=s.size:=by simp [typL,typB,bts_len]
def TypedP (s:ByteArray) (w:World) (e:Ending) (w':World):Prop:=∃ a c,e=.returned (.slice a s.size c)∧SltsG w' w.heap.size (.slice a s.size c) (typL s)
theorem ownCh_one {w:World} {g B:Nat} {c:UInt8} (h:w.heap[g]? = some (.cells #[.int .u8 (c.toNat:Int),.int .i64 0] 55 (0,0))) (hB:B≤g):OwnG rowCh w B (.slice (some ⟨g,0,none⟩) 1 1) [⟨c,0⟩] :=
 OwnG.one rowCh_ok (x:=⟨c,0⟩) h hB
structure TyQ (s:ByteArray) (w0:World) (g i:Nat) (Ls:List SV) (w:World):Prop where
 own:OwnG rowSlts w w0.heap.size (.slice (some ⟨g,0,none⟩) s.size s.size) Ls
 len:Ls.length=s.size
 el:∀ (k:Nat) (x:SV) (t:Slt),k<i→Ls[k]? = some x→(typL s)[k]? = some t→OwnG rowCh w w0.heap.size (svS x) t
 bl:Below w0.heap.size w0 w
theorem typL_get {s:ByteArray} {i:Nat} (hi:i<s.size):(typL s)[i]? = some [⟨s[i],0⟩]:=by
 unfold typL typB
 rw [List.getElem?_map,List.getElem?_eq_getElem (by rw [bts_len];exact hi),bts_get hi];rfl
theorem TyQ.put {s:ByteArray} {w0 w:World} {g i:Nat} {Ls:List SV} (h:TyQ s w0 g i Ls w) (hg:w0.heap.size≤g) (hi:i<s.size) :
  TyQ s w0 g (i+1) (Ls.set i ⟨some ⟨w.heap.size,0,none⟩,1,1⟩) ((w.setCell ⟨g,i,none⟩ (.slice (some ⟨w.heap.size,0,none⟩) 1 1)).alloc (.cells #[.int .u8 (s[i].toNat:Int),.int .i64 0] 55)):=by
 obtain ⟨cs,hcs⟩:=ownG_obj h.own (g:=g) rfl
 obtain ⟨w1,hw1⟩:∃ w1,w.setCell ⟨g,i,none⟩ (.slice (some ⟨w.heap.size,0,none⟩) 1 1)=w1:=⟨_,rfl⟩
 have hsz:w1.heap.size=w.heap.size:=by rw [← hw1,World.size_setCell]
 have ho1:OwnG rowSlts w1 w0.heap.size (.slice (some ⟨g,0,none⟩) s.size s.size) (Ls.set i ⟨some ⟨w.heap.size,0,none⟩,1,1⟩):=by
  rw [← hw1]
  refine h.own.setCell (by simp) ?_ (by show i<Ls.length*1;rw [h.len];omega) rowSlts_ok
  have:∀ (M:List SV),M.flatMap rowSlts.enc=M.map fun x=>.slice x.a x.n x.c:=fun M=>by
   induction M with
   | nil=>rfl
   | cons x r ih=>rw [List.flatMap_cons,ih];rfl
  rw [this,this,List.map_set]
 have hne:∀ q,q≠g→w1.heap[q]? = w.heap[q]?:=fun q hq=>by rw [← hw1];exact Below.heap_setCell _ _ _ _ hq
 have hx:Ext w1 (w1.alloc (.cells #[.int .u8 (s[i].toNat:Int),.int .i64 0] 55)):=(Below.refl _ _).alloc (Nat.le_refl _) _
 have hb1:Below w0.heap.size w0 w1:=by rw [← hw1];exact h.bl.setCell (show w0.heap.size≤(⟨g,i,none⟩:Addr).block from hg) _
 rw [hw1]
 refine ⟨ho1.later hx (Nat.le_refl _),by rw [List.length_set];exact h.len,fun k x t hk h1 h2=>?_,hb1.trans (hx.mono hb1.size)⟩
 rw [List.getElem?_set] at h1
 by_cases e:i=k
 ·
  subst e
  rw [if_pos rfl,if_pos (by rw [h.len];exact hi)] at h1
  cases h1
  rw [typL_get hi] at h2
  cases h2
  refine ownCh_one (g:=w.heap.size) ?_ h.bl.size
  rw [← hsz]
  exact heap_alloc_new _ _
 ·
  rw [if_neg e] at h1
  refine ((h.el k x t (by omega) h1 h2).keep fun q hq=>hne q fun e2=>?_).later hx (Nat.le_refl _)
  obtain ⟨cs2,h3⟩:=ownG_obj (h.el k x t (by omega) h1 h2) hq
  rw [e2,hcs] at h3
  injection h3 with h3
  injection h3 with _ h4
  exact absurd h4 (by decide)
theorem TyQ.done {s:ByteArray} {w0 w:World} {g:Nat} {Ls:List SV} (h:TyQ s w0 g s.size Ls w):SltsG w w0.heap.size (.slice (some ⟨g,0,none⟩) s.size s.size) (typL s) :=
 ⟨Ls,h.own,by rw [h.len,typL_len],fun k x t h1 h2=>ElS.of (h.el k x t (by have:=(List.getElem?_eq_some_iff.1 h2).1;rw [typL_len] at this;exact this) h1 h2)⟩
theorem idx_slts (b len cap k:Nat) (hk:k<len) (w:World) :
  (Instr.indexAt 39 (.slice (some ⟨b,0,none⟩) len cap) (.int .i64 (k:Int))).run Tryz.prog w=.ok (.pointer (some ⟨b,k,none⟩)) w:=by
 have h0:(0:Int)≤(k:Int):=by omega
 have h1:(k:Int)<(len:Int):=by omega
 simp [go_sem,h0,h1]
set_option maxHeartbeats 6400000 in
set_option maxRecDepth 100000 in
theorem ltyped_any (s:ByteArray) (w:World) (hs:s.size≤1000000) :
  Calls Tryz.prog 16 #[.string s] w fun e w'=>TypedP s w e w'∧Below w.heap.size w w':=by
 go_enter Tryz.func16,Tryz.ntmps16
 go_wp2_with (at_make;go_loud (refine wpList_make_g rowSlts_ok rfl ⟨none,0,0⟩ rfl rfl rfl _ _ rfl w.heap.size s.size (by go_num) (by go_num) (by omega) (Nat.le_refl _) ?_);intro w3 hown3 hb3;have HO3:=Lib.hid hown3;have HB3:=Lib.hid hb3;clear hown3 hb3)
 go_loopg [10] s.size (fun g v10 wr=>∃ (i:Nat) (Ls:List SV),v10=.int .i64 (i:Int)∧i≤s.size∧g=s.size - i∧TyQ s w w.heap.size i Ls wr)
 case atStart=>exact ⟨0,_,rfl,Nat.zero_le _,rfl,HO3.out,by simp,fun k _ _ hk=>absurd hk (Nat.not_lt_zero _),HB3.out⟩
 case round =>
  obtain ⟨i,Ls,rfl,hi,hgk,hq⟩:=hrel
  have HQ:=Lib.hid hq;have HGK:=Lib.hid hgk
  clear hq hgk
  by_cases hlt:i<s.size
  ·
   have hiL:i<Ls.length:=by have:=HQ.out.len;omega
   obtain ⟨cs5,hcs5⟩:=ownG_obj HQ.out.own (g:=w.heap.size) rfl
   have hgl:=(Array.getElem?_eq_some_iff.1 hcs5).1
   have hfz:wr.frozen? ⟨w.heap.size,i,none⟩=false:=by simp [World.frozen?,hcs5]
   have hcl:=HQ.out.own.cell rowSlts_ok hiL (j:=0) (by decide)
   have e1:i*rowSlts.k+0=i:=by show i*1+0=i;omega
   rw [e1] at hcl
   have hcl2:wr.cell? ⟨w.heap.size,i,none⟩=some (.slice Ls[i].a Ls[i].n Ls[i].c):=hcl
   have hix:=idx_slts w.heap.size s.size s.size i hlt
   have HPT:=Lib.hid (HQ.out.put (Nat.le_refl _) hlt)
   clear hcl e1 hcs5
   go_wp2_with fail
   go_roundg (s.size - (i+1))
   case measure=>have:=HGK.out;omega
   case rel=>exact ⟨i+1,_,by go_num,by omega,rfl,HPT.out⟩
  ·
   obtain rfl:i=s.size:=by omega
   go_wp2_with fail
   go_ret
   exact ⟨⟨_,_,rfl,HQ.out.done⟩,HQ.out.bl⟩
end Go.Proofs.YthjmdgejnakcmaaGreatDoor
