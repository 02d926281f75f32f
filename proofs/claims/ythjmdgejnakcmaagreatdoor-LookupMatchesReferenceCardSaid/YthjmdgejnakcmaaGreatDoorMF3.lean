/- Texts that the claims share: Base, Made1, Made2. -/
import Derived.Deep.CutBlock
import Derived.Laws.Concat
import Derived.Test.YthjmdgejnakcmaaGreatDoorMF2
import Derived.Test.YthjmdgejnakcmaaGreatDoorMD1
set_option linter.unusedVariables false
set_option linter.unusedSimpArgs false
namespace Go.Proofs.YthjmdgejnakcmaaGreatDoor.Fl
open Go.RowKit
set_option maxHeartbeats 1600000 in
theorem Aw (x y:Int) (s o:ByteArray) (w:World) (hs:s.size≤1000) :
  Calls Tryz.prog 57 #[.agg #[.int .i64 x,.int .i64 y],.string s,.string o] w fun e w'=>e=.returned (.agg #[.int .i64 x,.int .i64 y,.string s,.string o,.int .i64 (s.size:Int)])∧Below w.heap.size w w':=by
 go_enter Tryz.func57,Tryz.ntmps57
 go_wp2_with fail
 refine bodyPost_ret (v:=.agg #[.int .i64 x,.int .i64 y,.string s,.string o,.int .i64 (s.size:Int)]) (by simp [results,Tryz.results57,go_sem]) rfl ⟨rfl,by go_grown⟩
theorem Ak {w:World} {g:Nat} {a b:Value} {t:TypeId} {f:Nat × Nat} (h:w.heap[g]? = some (.cells #[a,b] t f)):w.cell? ⟨g,0,none⟩=some a∧w.cell? ⟨g,1,none⟩=some b :=
 ⟨cell_of_row w g 0 _ _ f h,cell_of_row w g 1 _ _ f h⟩
def Iu (B:Nat) (R:List Rl) (v:Value) (W:World):Prop:=∃ g,v=.slice (some ⟨g,0,none⟩) R.length R.length∧W.heap[g]? = some (.cells (B9 R).toArray 64 (0,0))∧B≤g
theorem C1 (B:Nat) (R:List Rl):Bp (Iu B R):=by
 rintro v w w' ⟨g,hv,hg,hB⟩ hx
 exact ⟨g,hv,(Below.block hx g (A5.1 hg).1).trans hg,hB⟩
theorem Le {B g:Nat} {R:List Rl} {W:World} (hg:W.heap[g]? = some (.cells (B9 R).toArray 64 (0,0))) (hB:B≤g) (hl:R.length≤1000):CX W B (.slice (some ⟨g,0,none⟩) R.length R.length) R:=by
 refine ⟨C0 R,.inr ⟨g,R.length,(B9 R).toArray,rfl,hB,hg,A3 _,by unfold maxLen;omega,by simp [C0],?_⟩⟩
 rw [List.toList_toArray,← C0 R,List.take_length]
def Lf (j:Nat):Sch:=match j with
 | 0=>⟨1,1,[⟨0,0,⟨#[97]⟩,⟨#[97]⟩,1⟩,⟨0,0,⟨#[98]⟩,⟨#[98]⟩,1⟩,⟨0,0,⟨#[99]⟩,⟨#[99]⟩,1⟩]⟩
 | 1=>⟨1,1,[⟨0,0,⟨#[97]⟩,⟨#[65]⟩,1⟩,⟨0,0,⟨#[98,97]⟩,⟨#[66]⟩,2⟩,⟨0,0,⟨#[99,97]⟩,⟨#[67]⟩,2⟩,⟨0,0,⟨#[98]⟩,⟨#[98]⟩,1⟩]⟩
 | 2=>⟨2,1,[⟨0,1,⟨#[99]⟩,⟨#[]⟩,1⟩,⟨1,0,⟨#[97]⟩,⟨#[65]⟩,1⟩,⟨1,0,⟨#[98]⟩,⟨#[66]⟩,1⟩,⟨0,0,⟨#[97]⟩,⟨#[97]⟩,1⟩,⟨0,0,⟨#[98]⟩,⟨#[98]⟩,1⟩]⟩
 | 3=>⟨1,1,[⟨0,0,⟨#[97]⟩,⟨#[97]⟩,1⟩,⟨0,0,⟨#[98]⟩,⟨#[98]⟩,1⟩,⟨0,0,⟨#[97,98]⟩,⟨#[97,98,99,49]⟩,2⟩,⟨0,0,⟨#[99]⟩,⟨#[99]⟩,1⟩]⟩
 | 4=>⟨1,1,[⟨0,0,⟨#[97]⟩,⟨#[97]⟩,1⟩,⟨0,0,⟨#[98]⟩,⟨#[98]⟩,0⟩,⟨0,0,⟨#[99]⟩,⟨#[98]⟩,7⟩,⟨0,0,⟨#[98]⟩,⟨#[99]⟩,9⟩]⟩
 | _=>⟨1,1,[⟨0,0,⟨#[97]⟩,⟨#[97]⟩,1⟩,⟨0,0,⟨#[97]⟩,⟨#[65]⟩,1⟩,⟨0,0,⟨#[97,97]⟩,⟨#[66]⟩,2⟩,⟨0,0,⟨#[98]⟩,⟨#[98]⟩,1⟩,⟨0,0,⟨#[98]⟩,⟨#[]⟩,20⟩]⟩
def Lg (k:Int) (w:World) (e:Ending) (w':World):Prop :=
 ∃ (S:Sch) (b:Option Addr) (n:Nat),e=.returned (.agg #[.int .i64 S.modes,.int .u8 S.acc,.slice b S.rules.length n])∧n=S.rules.length∧1≤S.modes∧S.modes≤2∧S.acc=1∧2≤S.rules.length∧S.rules.length≤5∧CX w' w.heap.size (.slice b S.rules.length n) S.rules∧Below w.heap.size w w'∧∃ j:Nat,j<6∧k % 6=(j:Int)∧S=Lf j
theorem Q0 {w w':World} {B g:Nat} {mo:Int} {R:List Rl} (hg:w'.heap[g]? = some (.cells (B9 R).toArray 64 (0,0))) (hB:B≤g) (hw:w.heap.size≤B) (h1:1≤mo) (h2:mo≤2) (h3:2≤R.length) (h4:R.length≤5) (hb:Below w.heap.size w w') {k:Int} (hj:∃ j:Nat,j<6∧k % 6=(j:Int)∧(⟨mo,1,R⟩:Sch)=Lf j):Lg k w (.returned (.agg #[.int .i64 mo,.int .u8 1,.slice (some ⟨g,0,none⟩) R.length R.length])) w' :=
 ⟨⟨mo,1,R⟩,_,_,rfl,rfl,h1,h2,rfl,h3,h4,(Le hg hB (by omega)).mono hw,hb,hj⟩
set_option maxHeartbeats 6400000 in
set_option maxRecDepth 100000 in
theorem
    base_any (k:Int) (w:World) (hk0:0≤k) (hk1:k≤255) :
  Calls Tryz.prog 29 #[.int .u8 k] w (Lg k w):=by
 go_enter Tryz.func29,Tryz.ntmps29
 go_upto_block 0 with fail
 obtain ⟨wb,hwb⟩:∃ wb,wb=((w.alloc (.cells #[.int .i64 0,.int .u8 0,.slice none 0 0] 32)).alloc (.cells #[.int .i64 1,.int .u8 1,.slice none 0 0] 32)).alloc (.cells #[.int .i64 0,.int .i64 0] 112):=⟨_,rfl⟩
 have hb0:Below (w.heap.size+1) wb wb:=Below.refl _ _
 have hws:wb.heap.size=w.heap.size+3:=by rw [hwb];simp
 have HG1:Hid (wb.heap[w.heap.size+1]? = some (.cells #[.int .i64 1,.int .u8 1,.slice none 0 0] 32 (0,0))):=by
  show _=_
  rw [hwb,Below.heap_alloc _ _ _ (by simp only [A6];omega)]
  have:=heap_alloc_new (w.alloc (.cells #[.int .i64 0,.int .u8 0,.slice none 0 0] 32)) (.cells #[.int .i64 1,.int .u8 1,.slice none 0 0] 32)
  simpa only [A6] using this
 have HG2:Hid (wb.heap[w.heap.size+1+1]? = some (.cells #[.int .i64 0,.int .i64 0] 112 (0,0))):=by
  show _=_
  rw [hwb]
  have:=heap_alloc_new ((w.alloc (.cells #[.int .i64 0,.int .u8 0,.slice none 0 0] 32)).alloc (.cells #[.int .i64 1,.int .u8 1,.slice none 0 0] 32)) (.cells #[.int .i64 0,.int .i64 0] 112)
  simpa only [A6] using this
 have HG0:Hid (wb.heap[w.heap.size]? = some (.cells #[.int .i64 0,.int .u8 0,.slice none 0 0] 32 (0,0))):=by
  show _=_
  rw [hwb,Below.heap_alloc _ _ _ (by simp only [A6];omega),Below.heap_alloc _ _ _ (by simp only [A6];omega)]
  exact heap_alloc_new _ _
 have hbw:Below w.heap.size w wb:=by rw [hwb];exact (((Below.refl _ w).alloc (A3 _) _).alloc (by simp only [A6];omega) _).alloc (by simp only [A6];omega) _
 have HWB:=A0 hwb
 rw [← hwb]
 clear hwb
 go_cut [] (fun wx=>∃ wc:World,wc=wx∧∃ (mo:Int) (R:List Rl) (g:Nat),1≤mo∧mo≤2∧2≤R.length∧R.length≤5∧(∃ j:Nat,j<6∧k % 6=(j:Int)∧(⟨mo,1,R⟩:Sch)=Lf j)∧wb.heap.size≤g∧wc.heap[g]? = some (.cells (B9 R).toArray 64 (0,0))∧wc.heap[w.heap.size+1]? = some (.cells #[.int .i64 mo,.int .u8 1,.slice (some ⟨g,0,none⟩) R.length R.length] 32 (0,0))∧Below (w.heap.size+1) wb wc)
 case first =>
  rcases (show k % 6=0∨k % 6=1∨k % 6=2∨k % 6=3∨k % 6=4∨k % 6=5 by omega) with hq | hq | hq | hq | hq | hq
  ·
   have hq0:((k % 6:Int) == 0)=true:=by rw [hq];rfl
   have hq1:((k % 6:Int) == 1)=false:=by rw [hq];rfl
   have hq2:((k % 6:Int) == 2)=false:=by rw [hq];rfl
   have hq3:((k % 6:Int) == 3)=false:=by rw [hq];rfl
   have hq4:((k % 6:Int) == 4)=false:=by rw [hq];rfl
   have HQ:Hid (k % 6=((0:Nat):Int)):=hq
   clear hq
   go_upto_region 6 with fail
   refine CK (by kernel_rfl) (Vs [fun v _=>v=.agg #[.int .i64 0,.int .i64 0],fun v _=>v=.agg #[.int .i64 0,.int .i64 0,.string ⟨#[97]⟩,.string ⟨#[97]⟩,.int .i64 1],fun v _=>v=.agg #[.int .i64 0,.int .i64 0],fun v _=>v=.agg #[.int .i64 0,.int .i64 0,.string ⟨#[98]⟩,.string ⟨#[98]⟩,.int .i64 1],fun v _=>v=.agg #[.int .i64 0,.int .i64 0],fun v _=>v=.agg #[.int .i64 0,.int .i64 0,.string ⟨#[99]⟩,.string ⟨#[99]⟩,.int .i64 1],Iu wb.heap.size [⟨0,0,⟨#[97]⟩,⟨#[97]⟩,1⟩,⟨0,0,⟨#[98]⟩,⟨#[98]⟩,1⟩,⟨0,0,⟨#[99]⟩,⟨#[99]⟩,1⟩],fun v _=>v=.pointer (some ⟨w.heap.size+1,2,none⟩)]) (fun _ W=>Below wb.heap.size wb W) (fun W W'=>Ext W W') 78 6 8 (by kernel_rfl) rfl (by omega) ?hVx ?hVm ?hSx ?hS ?hop ?hlast
   case hVx=>exact Ac (by simp only [AU,List.not_mem_nil,or_false,forall_eq_or_imp,forall_eq];exact ⟨AY _,AY _,AY _,AY _,AY _,AY _,C1 _ _,AY _⟩)
   case hVm=>exact fun i v w w' _ h hx=>Ac (by simp only [AU,List.not_mem_nil,or_false,forall_eq_or_imp,forall_eq];exact ⟨AY _,AY _,AY _,AY _,AY _,AY _,C1 _ _,AY _⟩) i v w w' h hx
   case hSx=>exact fun bo W W' h hx=>h.trans (Below.mono hx h.size)
   case hS=>exact Below.refl _ _
   case hop =>
    refine ⟨?_,?_,?_,?_,?_,?_,?_,?_,?_,trivial⟩
    all_goals first | rw [if_neg (by decide),if_neg (by decide)] | rw [if_neg (by decide),if_pos (by decide)] | rw [if_pos (by decide)]
    ·
     intro A W bo hsz hS hdep hbase
     have h4:A.tmps.getD 4 undef=.pointer (some ⟨w.heap.size+1+1,0,none⟩):=hbase 4 (by kernel_rfl)
     have h3:A.tmps.getD 3 undef=.pointer (some ⟨w.heap.size+1,0,none⟩):=hbase 3 (by kernel_rfl)
     obtain ⟨z0,z1⟩:=Ak ((hS.block (w.heap.size+1+1) (by omega)).trans HG2.out)
     clear hbase
     simp [Aa,Region.binds,Vs] at hdep
     refine AZ rfl (.inl ⟨_,W,?_,rfl,Ext.refl _⟩);clear hsz hS;simp [go_sem,Act.eval, *]
    ·
     intro A W bo hsz hS hdep hbase
     have h4:A.tmps.getD 4 undef=.pointer (some ⟨w.heap.size+1+1,0,none⟩):=hbase 4 (by kernel_rfl)
     have h3:A.tmps.getD 3 undef=.pointer (some ⟨w.heap.size+1,0,none⟩):=hbase 3 (by kernel_rfl)
     obtain ⟨z0,z1⟩:=Ak ((hS.block (w.heap.size+1+1) (by omega)).trans HG2.out)
     clear hbase
     simp [Aa,Region.binds,Vs] at hdep
     refine AZ rfl (.inr ⟨57,#[.agg #[.int .i64 0,.int .i64 0],.string ⟨#[97]⟩,.string ⟨#[97]⟩],W,by (clear hsz hS;simp [go_sem,Act.eval, *]),?_⟩)
     refine (Aw 0 0 ⟨#[97]⟩ ⟨#[97]⟩ W (by decide)).mono ?_
     rintro e w' ⟨rfl,hb⟩
     exact ⟨_,rfl,rfl,hb⟩
    ·
     intro A W bo hsz hS hdep hbase
     have h4:A.tmps.getD 4 undef=.pointer (some ⟨w.heap.size+1+1,0,none⟩):=hbase 4 (by kernel_rfl)
     have h3:A.tmps.getD 3 undef=.pointer (some ⟨w.heap.size+1,0,none⟩):=hbase 3 (by kernel_rfl)
     obtain ⟨z0,z1⟩:=Ak ((hS.block (w.heap.size+1+1) (by omega)).trans HG2.out)
     clear hbase
     simp [Aa,Region.binds,Vs] at hdep
     refine AZ rfl (.inl ⟨_,W,?_,rfl,Ext.refl _⟩);clear hsz hS;simp [go_sem,Act.eval, *]
    ·
     intro A W bo hsz hS hdep hbase
     have h4:A.tmps.getD 4 undef=.pointer (some ⟨w.heap.size+1+1,0,none⟩):=hbase 4 (by kernel_rfl)
     have h3:A.tmps.getD 3 undef=.pointer (some ⟨w.heap.size+1,0,none⟩):=hbase 3 (by kernel_rfl)
     obtain ⟨z0,z1⟩:=Ak ((hS.block (w.heap.size+1+1) (by omega)).trans HG2.out)
     clear hbase
     simp [Aa,Region.binds,Vs] at hdep
     refine AZ rfl (.inr ⟨57,#[.agg #[.int .i64 0,.int .i64 0],.string ⟨#[98]⟩,.string ⟨#[98]⟩],W,by (clear hsz hS;simp [go_sem,Act.eval, *]),?_⟩)
     refine (Aw 0 0 ⟨#[98]⟩ ⟨#[98]⟩ W (by decide)).mono ?_
     rintro e w' ⟨rfl,hb⟩
     exact ⟨_,rfl,rfl,hb⟩
    ·
     intro A W bo hsz hS hdep hbase
     have h4:A.tmps.getD 4 undef=.pointer (some ⟨w.heap.size+1+1,0,none⟩):=hbase 4 (by kernel_rfl)
     have h3:A.tmps.getD 3 undef=.pointer (some ⟨w.heap.size+1,0,none⟩):=hbase 3 (by kernel_rfl)
     obtain ⟨z0,z1⟩:=Ak ((hS.block (w.heap.size+1+1) (by omega)).trans HG2.out)
     clear hbase
     simp [Aa,Region.binds,Vs] at hdep
     refine AZ rfl (.inl ⟨_,W,?_,rfl,Ext.refl _⟩);clear hsz hS;simp [go_sem,Act.eval, *]
    ·
     intro A W bo hsz hS hdep hbase
     have h4:A.tmps.getD 4 undef=.pointer (some ⟨w.heap.size+1+1,0,none⟩):=hbase 4 (by kernel_rfl)
     have h3:A.tmps.getD 3 undef=.pointer (some ⟨w.heap.size+1,0,none⟩):=hbase 3 (by kernel_rfl)
     obtain ⟨z0,z1⟩:=Ak ((hS.block (w.heap.size+1+1) (by omega)).trans HG2.out)
     clear hbase
     simp [Aa,Region.binds,Vs] at hdep
     refine AZ rfl (.inr ⟨57,#[.agg #[.int .i64 0,.int .i64 0],.string ⟨#[99]⟩,.string ⟨#[99]⟩],W,by (clear hsz hS;simp [go_sem,Act.eval, *]),?_⟩)
     refine (Aw 0 0 ⟨#[99]⟩ ⟨#[99]⟩ W (by decide)).mono ?_
     rintro e w' ⟨rfl,hb⟩
     exact ⟨_,rfl,rfl,hb⟩
    ·
     intro A W hsz hS hdep hbase
     have h4:A.tmps.getD 4 undef=.pointer (some ⟨w.heap.size+1+1,0,none⟩):=hbase 4 (by kernel_rfl)
     have h3:A.tmps.getD 3 undef=.pointer (some ⟨w.heap.size+1,0,none⟩):=hbase 3 (by kernel_rfl)
     obtain ⟨z0,z1⟩:=Ak ((hS.block (w.heap.size+1+1) (by omega)).trans HG2.out)
     clear hbase
     simp [Aa,Region.binds,Vs] at hdep
     refine ⟨rfl,.inl ⟨.slice (some ⟨W.heap.size,0,none⟩) 3 3,W.alloc (.cells #[.int .i64 0,.int .i64 0,.string ⟨#[97]⟩,.string ⟨#[97]⟩,.int .i64 1,.int .i64 0,.int .i64 0,.string ⟨#[98]⟩,.string ⟨#[98]⟩,.int .i64 1,.int .i64 0,.int .i64 0,.string ⟨#[99]⟩,.string ⟨#[99]⟩,.int .i64 1] 64),?_,⟨W.heap.size,rfl,heap_alloc_new _ _,hS.size⟩,(Below.refl _ _).alloc (A3 _) _,hS.trans (((Below.refl _ W).alloc (A3 _) _).mono hS.size)⟩⟩
     clear hsz hS;simp [go_sem,Act.eval, *]
    ·
     intro A W bo hsz hS hdep hbase
     have h4:A.tmps.getD 4 undef=.pointer (some ⟨w.heap.size+1+1,0,none⟩):=hbase 4 (by kernel_rfl)
     have h3:A.tmps.getD 3 undef=.pointer (some ⟨w.heap.size+1,0,none⟩):=hbase 3 (by kernel_rfl)
     obtain ⟨z0,z1⟩:=Ak ((hS.block (w.heap.size+1+1) (by omega)).trans HG2.out)
     clear hbase
     simp [Aa,Region.binds,Vs] at hdep
     refine AZ rfl (.inl ⟨_,W,?_,rfl,Ext.refl _⟩);clear hsz hS;simp [go_sem,Act.eval, *]
    · trivial
   case hlast =>
    intro A1 W hsz hdf hS hv hbase
    have hb9:Iu wb.heap.size [⟨0,0,⟨#[97]⟩,⟨#[97]⟩,1⟩,⟨0,0,⟨#[98]⟩,⟨#[98]⟩,1⟩,⟨0,0,⟨#[99]⟩,⟨#[99]⟩,1⟩] (A1.tmps.getD 28 undef) W:=hv 6 (by decide)
    obtain ⟨g,e9,hg,hgB⟩:=hb9
    have e10:A1.tmps.getD 29 undef=.pointer (some ⟨w.heap.size+1,2,none⟩):=hv 7 (by decide)
    have hrep:=(hS.block (w.heap.size+1) (by omega)).trans HG1.out
    refine BW rfl rfl rfl rfl (Ai e10) (Ai e9) (by simp [World.frozen?,hrep]) (cells3 hrep).2.2 (by kernel_rfl) ?_
    obtain ⟨x,hx,hA⟩:=Af [22,23,24,25,26,27,28,29] (by kernel_rfl) hsz hdf hbase
    rw [hA]
    simp only [List.foldl]
    simp only [Act.put,List.setIfInBounds_toArray,List.set_cons_succ,List.set_cons_zero]
    clear hA hx hv hbase hsz hdf
    go_wp2_with fail
    go_meet
    refine ⟨_,rfl,1,[⟨0,0,⟨#[97]⟩,⟨#[97]⟩,1⟩,⟨0,0,⟨#[98]⟩,⟨#[98]⟩,1⟩,⟨0,0,⟨#[99]⟩,⟨#[99]⟩,1⟩],g,by omega,by omega,by decide,by decide,⟨_,by omega,HQ.out,rfl⟩,hgB,?_,Aq hrep rfl,(hS.mono (by omega)).setCell (by show _≤w.heap.size+1;omega) _⟩
    rw [Below.heap_setCell _ _ _ _ (by show g≠w.heap.size+1;omega)]
    exact hg
  ·
   have hq0:((k % 6:Int) == 0)=false:=by rw [hq];rfl
   have hq1:((k % 6:Int) == 1)=true:=by rw [hq];rfl
   have hq2:((k % 6:Int) == 2)=false:=by rw [hq];rfl
   have hq3:((k % 6:Int) == 3)=false:=by rw [hq];rfl
   have hq4:((k % 6:Int) == 4)=false:=by rw [hq];rfl
   have HQ:Hid (k % 6=((1:Nat):Int)):=hq
   clear hq
   go_upto_region 8 with fail
   refine CK (by kernel_rfl) (Vs [fun v _=>v=.agg #[.int .i64 0,.int .i64 0],fun v _=>v=.agg #[.int .i64 0,.int .i64 0,.string ⟨#[97]⟩,.string ⟨#[65]⟩,.int .i64 1],fun v _=>v=.agg #[.int .i64 0,.int .i64 0],fun v _=>v=.agg #[.int .i64 0,.int .i64 0,.string ⟨#[98,97]⟩,.string ⟨#[66]⟩,.int .i64 2],fun v _=>v=.agg #[.int .i64 0,.int .i64 0],fun v _=>v=.agg #[.int .i64 0,.int .i64 0,.string ⟨#[99,97]⟩,.string ⟨#[67]⟩,.int .i64 2],fun v _=>v=.agg #[.int .i64 0,.int .i64 0],fun v _=>v=.agg #[.int .i64 0,.int .i64 0,.string ⟨#[98]⟩,.string ⟨#[98]⟩,.int .i64 1],Iu wb.heap.size [⟨0,0,⟨#[97]⟩,⟨#[65]⟩,1⟩,⟨0,0,⟨#[98,97]⟩,⟨#[66]⟩,2⟩,⟨0,0,⟨#[99,97]⟩,⟨#[67]⟩,2⟩,⟨0,0,⟨#[98]⟩,⟨#[98]⟩,1⟩],fun v _=>v=.pointer (some ⟨w.heap.size+1,2,none⟩)]) (fun _ W=>Below wb.heap.size wb W) (fun W W'=>Ext W W') 78 8 10 (by kernel_rfl) rfl (by omega) ?hVx ?hVm ?hSx ?hS ?hop ?hlast
   case hVx=>exact Ac (by simp only [AU,List.not_mem_nil,or_false,forall_eq_or_imp,forall_eq];exact ⟨AY _,AY _,AY _,AY _,AY _,AY _,AY _,AY _,C1 _ _,AY _⟩)
   case hVm=>exact fun i v w w' _ h hx=>Ac (by simp only [AU,List.not_mem_nil,or_false,forall_eq_or_imp,forall_eq];exact ⟨AY _,AY _,AY _,AY _,AY _,AY _,AY _,AY _,C1 _ _,AY _⟩) i v w w' h hx
   case hSx=>exact fun bo W W' h hx=>h.trans (Below.mono hx h.size)
   case hS=>exact Below.refl _ _
   case hop =>
    refine ⟨?_,?_,?_,?_,?_,?_,?_,?_,?_,?_,?_,trivial⟩
    all_goals first | rw [if_neg (by decide),if_neg (by decide)] | rw [if_neg (by decide),if_pos (by decide)] | rw [if_pos (by decide)]
    ·
     intro A W bo hsz hS hdep hbase
     have h4:A.tmps.getD 4 undef=.pointer (some ⟨w.heap.size+1+1,0,none⟩):=hbase 4 (by kernel_rfl)
     have h3:A.tmps.getD 3 undef=.pointer (some ⟨w.heap.size+1,0,none⟩):=hbase 3 (by kernel_rfl)
     obtain ⟨z0,z1⟩:=Ak ((hS.block (w.heap.size+1+1) (by omega)).trans HG2.out)
     clear hbase
     simp [Aa,Region.binds,Vs] at hdep
     refine AZ rfl (.inl ⟨_,W,?_,rfl,Ext.refl _⟩);clear hsz hS;simp [go_sem,Act.eval, *]
    ·
     intro A W bo hsz hS hdep hbase
     have h4:A.tmps.getD 4 undef=.pointer (some ⟨w.heap.size+1+1,0,none⟩):=hbase 4 (by kernel_rfl)
     have h3:A.tmps.getD 3 undef=.pointer (some ⟨w.heap.size+1,0,none⟩):=hbase 3 (by kernel_rfl)
     obtain ⟨z0,z1⟩:=Ak ((hS.block (w.heap.size+1+1) (by omega)).trans HG2.out)
     clear hbase
     simp [Aa,Region.binds,Vs] at hdep
     refine AZ rfl (.inr ⟨57,#[.agg #[.int .i64 0,.int .i64 0],.string ⟨#[97]⟩,.string ⟨#[65]⟩],W,by (clear hsz hS;simp [go_sem,Act.eval, *]),?_⟩)
     refine (Aw 0 0 ⟨#[97]⟩ ⟨#[65]⟩ W (by decide)).mono ?_
     rintro e w' ⟨rfl,hb⟩
     exact ⟨_,rfl,rfl,hb⟩
    ·
     intro A W bo hsz hS hdep hbase
     have h4:A.tmps.getD 4 undef=.pointer (some ⟨w.heap.size+1+1,0,none⟩):=hbase 4 (by kernel_rfl)
     have h3:A.tmps.getD 3 undef=.pointer (some ⟨w.heap.size+1,0,none⟩):=hbase 3 (by kernel_rfl)
     obtain ⟨z0,z1⟩:=Ak ((hS.block (w.heap.size+1+1) (by omega)).trans HG2.out)
     clear hbase
     simp [Aa,Region.binds,Vs] at hdep
     refine AZ rfl (.inl ⟨_,W,?_,rfl,Ext.refl _⟩);clear hsz hS;simp [go_sem,Act.eval, *]
    ·
     intro A W bo hsz hS hdep hbase
     have h4:A.tmps.getD 4 undef=.pointer (some ⟨w.heap.size+1+1,0,none⟩):=hbase 4 (by kernel_rfl)
     have h3:A.tmps.getD 3 undef=.pointer (some ⟨w.heap.size+1,0,none⟩):=hbase 3 (by kernel_rfl)
     obtain ⟨z0,z1⟩:=Ak ((hS.block (w.heap.size+1+1) (by omega)).trans HG2.out)
     clear hbase
     simp [Aa,Region.binds,Vs] at hdep
     refine AZ rfl (.inr ⟨57,#[.agg #[.int .i64 0,.int .i64 0],.string ⟨#[98,97]⟩,.string ⟨#[66]⟩],W,by (clear hsz hS;simp [go_sem,Act.eval, *]),?_⟩)
     refine (Aw 0 0 ⟨#[98,97]⟩ ⟨#[66]⟩ W (by decide)).mono ?_
     rintro e w' ⟨rfl,hb⟩
     exact ⟨_,rfl,rfl,hb⟩
    ·
     intro A W bo hsz hS hdep hbase
     have h4:A.tmps.getD 4 undef=.pointer (some ⟨w.heap.size+1+1,0,none⟩):=hbase 4 (by kernel_rfl)
     have h3:A.tmps.getD 3 undef=.pointer (some ⟨w.heap.size+1,0,none⟩):=hbase 3 (by kernel_rfl)
     obtain ⟨z0,z1⟩:=Ak ((hS.block (w.heap.size+1+1) (by omega)).trans HG2.out)
     clear hbase
     simp [Aa,Region.binds,Vs] at hdep
     refine AZ rfl (.inl ⟨_,W,?_,rfl,Ext.refl _⟩);clear hsz hS;simp [go_sem,Act.eval, *]
    ·
     intro A W bo hsz hS hdep hbase
     have h4:A.tmps.getD 4 undef=.pointer (some ⟨w.heap.size+1+1,0,none⟩):=hbase 4 (by kernel_rfl)
     have h3:A.tmps.getD 3 undef=.pointer (some ⟨w.heap.size+1,0,none⟩):=hbase 3 (by kernel_rfl)
     obtain ⟨z0,z1⟩:=Ak ((hS.block (w.heap.size+1+1) (by omega)).trans HG2.out)
     clear hbase
     simp [Aa,Region.binds,Vs] at hdep
     refine AZ rfl (.inr ⟨57,#[.agg #[.int .i64 0,.int .i64 0],.string ⟨#[99,97]⟩,.string ⟨#[67]⟩],W,by (clear hsz hS;simp [go_sem,Act.eval, *]),?_⟩)
     refine (Aw 0 0 ⟨#[99,97]⟩ ⟨#[67]⟩ W (by decide)).mono ?_
     rintro e w' ⟨rfl,hb⟩
     exact ⟨_,rfl,rfl,hb⟩
    ·
     intro A W bo hsz hS hdep hbase
     have h4:A.tmps.getD 4 undef=.pointer (some ⟨w.heap.size+1+1,0,none⟩):=hbase 4 (by kernel_rfl)
     have h3:A.tmps.getD 3 undef=.pointer (some ⟨w.heap.size+1,0,none⟩):=hbase 3 (by kernel_rfl)
     obtain ⟨z0,z1⟩:=Ak ((hS.block (w.heap.size+1+1) (by omega)).trans HG2.out)
     clear hbase
     simp [Aa,Region.binds,Vs] at hdep
     refine AZ rfl (.inl ⟨_,W,?_,rfl,Ext.refl _⟩);clear hsz hS;simp [go_sem,Act.eval, *]
    ·
     intro A W bo hsz hS hdep hbase
     have h4:A.tmps.getD 4 undef=.pointer (some ⟨w.heap.size+1+1,0,none⟩):=hbase 4 (by kernel_rfl)
     have h3:A.tmps.getD 3 undef=.pointer (some ⟨w.heap.size+1,0,none⟩):=hbase 3 (by kernel_rfl)
     obtain ⟨z0,z1⟩:=Ak ((hS.block (w.heap.size+1+1) (by omega)).trans HG2.out)
     clear hbase
     simp [Aa,Region.binds,Vs] at hdep
     refine AZ rfl (.inr ⟨57,#[.agg #[.int .i64 0,.int .i64 0],.string ⟨#[98]⟩,.string ⟨#[98]⟩],W,by (clear hsz hS;simp [go_sem,Act.eval, *]),?_⟩)
     refine (Aw 0 0 ⟨#[98]⟩ ⟨#[98]⟩ W (by decide)).mono ?_
     rintro e w' ⟨rfl,hb⟩
     exact ⟨_,rfl,rfl,hb⟩
    ·
     intro A W hsz hS hdep hbase
     have h4:A.tmps.getD 4 undef=.pointer (some ⟨w.heap.size+1+1,0,none⟩):=hbase 4 (by kernel_rfl)
     have h3:A.tmps.getD 3 undef=.pointer (some ⟨w.heap.size+1,0,none⟩):=hbase 3 (by kernel_rfl)
     obtain ⟨z0,z1⟩:=Ak ((hS.block (w.heap.size+1+1) (by omega)).trans HG2.out)
     clear hbase
     simp [Aa,Region.binds,Vs] at hdep
     refine ⟨rfl,.inl ⟨.slice (some ⟨W.heap.size,0,none⟩) 4 4,W.alloc (.cells #[.int .i64 0,.int .i64 0,.string ⟨#[97]⟩,.string ⟨#[65]⟩,.int .i64 1,.int .i64 0,.int .i64 0,.string ⟨#[98,97]⟩,.string ⟨#[66]⟩,.int .i64 2,.int .i64 0,.int .i64 0,.string ⟨#[99,97]⟩,.string ⟨#[67]⟩,.int .i64 2,.int .i64 0,.int .i64 0,.string ⟨#[98]⟩,.string ⟨#[98]⟩,.int .i64 1] 64),?_,⟨W.heap.size,rfl,heap_alloc_new _ _,hS.size⟩,(Below.refl _ _).alloc (A3 _) _,hS.trans (((Below.refl _ W).alloc (A3 _) _).mono hS.size)⟩⟩
     clear hsz hS;simp [go_sem,Act.eval, *]
    ·
     intro A W bo hsz hS hdep hbase
     have h4:A.tmps.getD 4 undef=.pointer (some ⟨w.heap.size+1+1,0,none⟩):=hbase 4 (by kernel_rfl)
     have h3:A.tmps.getD 3 undef=.pointer (some ⟨w.heap.size+1,0,none⟩):=hbase 3 (by kernel_rfl)
     obtain ⟨z0,z1⟩:=Ak ((hS.block (w.heap.size+1+1) (by omega)).trans HG2.out)
     clear hbase
     simp [Aa,Region.binds,Vs] at hdep
     refine AZ rfl (.inl ⟨_,W,?_,rfl,Ext.refl _⟩);clear hsz hS;simp [go_sem,Act.eval, *]
    · trivial
   case hlast =>
    intro A1 W hsz hdf hS hv hbase
    have hb9:Iu wb.heap.size [⟨0,0,⟨#[97]⟩,⟨#[65]⟩,1⟩,⟨0,0,⟨#[98,97]⟩,⟨#[66]⟩,2⟩,⟨0,0,⟨#[99,97]⟩,⟨#[67]⟩,2⟩,⟨0,0,⟨#[98]⟩,⟨#[98]⟩,1⟩] (A1.tmps.getD 40 undef) W:=hv 8 (by decide)
    obtain ⟨g,e9,hg,hgB⟩:=hb9
    have e10:A1.tmps.getD 41 undef=.pointer (some ⟨w.heap.size+1,2,none⟩):=hv 9 (by decide)
    have hrep:=(hS.block (w.heap.size+1) (by omega)).trans HG1.out
    refine BW rfl rfl rfl rfl (Ai e10) (Ai e9) (by simp [World.frozen?,hrep]) (cells3 hrep).2.2 (by kernel_rfl) ?_
    obtain ⟨x,hx,hA⟩:=Af [32,33,34,35,36,37,38,39,40,41] (by kernel_rfl) hsz hdf hbase
    rw [hA]
    simp only [List.foldl]
    simp only [Act.put,List.setIfInBounds_toArray,List.set_cons_succ,List.set_cons_zero]
    clear hA hx hv hbase hsz hdf
    go_wp2_with fail
    go_meet
    refine ⟨_,rfl,1,[⟨0,0,⟨#[97]⟩,⟨#[65]⟩,1⟩,⟨0,0,⟨#[98,97]⟩,⟨#[66]⟩,2⟩,⟨0,0,⟨#[99,97]⟩,⟨#[67]⟩,2⟩,⟨0,0,⟨#[98]⟩,⟨#[98]⟩,1⟩],g,by omega,by omega,by decide,by decide,⟨_,by omega,HQ.out,rfl⟩,hgB,?_,Aq hrep rfl,(hS.mono (by omega)).setCell (by show _≤w.heap.size+1;omega) _⟩
    rw [Below.heap_setCell _ _ _ _ (by show g≠w.heap.size+1;omega)]
    exact hg
  ·
   have hq0:((k % 6:Int) == 0)=false:=by rw [hq];rfl
   have hq1:((k % 6:Int) == 1)=false:=by rw [hq];rfl
   have hq2:((k % 6:Int) == 2)=true:=by rw [hq];rfl
   have hq3:((k % 6:Int) == 3)=false:=by rw [hq];rfl
   have hq4:((k % 6:Int) == 4)=false:=by rw [hq];rfl
   have HQ:Hid (k % 6=((2:Nat):Int)):=hq
   clear hq
   go_upto_region 10 with fail
   refine CK (by kernel_rfl) (Vs [fun v _=>v=.agg #[.int .i64 0,.int .i64 1],fun v _=>v=.agg #[.int .i64 0,.int .i64 1,.string ⟨#[99]⟩,.string ⟨#[]⟩,.int .i64 1],fun v _=>v=.agg #[.int .i64 1,.int .i64 0],fun v _=>v=.agg #[.int .i64 1,.int .i64 0,.string ⟨#[97]⟩,.string ⟨#[65]⟩,.int .i64 1],fun v _=>v=.agg #[.int .i64 1,.int .i64 0],fun v _=>v=.agg #[.int .i64 1,.int .i64 0,.string ⟨#[98]⟩,.string ⟨#[66]⟩,.int .i64 1],fun v _=>v=.agg #[.int .i64 0,.int .i64 0],fun v _=>v=.agg #[.int .i64 0,.int .i64 0,.string ⟨#[97]⟩,.string ⟨#[97]⟩,.int .i64 1],fun v _=>v=.agg #[.int .i64 0,.int .i64 0],fun v _=>v=.agg #[.int .i64 0,.int .i64 0,.string ⟨#[98]⟩,.string ⟨#[98]⟩,.int .i64 1],Iu wb.heap.size [⟨0,1,⟨#[99]⟩,⟨#[]⟩,1⟩,⟨1,0,⟨#[97]⟩,⟨#[65]⟩,1⟩,⟨1,0,⟨#[98]⟩,⟨#[66]⟩,1⟩,⟨0,0,⟨#[97]⟩,⟨#[97]⟩,1⟩,⟨0,0,⟨#[98]⟩,⟨#[98]⟩,1⟩],fun v W=>∃ g,v=.agg #[.int .i64 2,.int .u8 1,.slice (some ⟨g,0,none⟩) 5 5]∧W.heap[g]? = some (.cells (B9 [⟨0,1,⟨#[99]⟩,⟨#[]⟩,1⟩,⟨1,0,⟨#[97]⟩,⟨#[65]⟩,1⟩,⟨1,0,⟨#[98]⟩,⟨#[66]⟩,1⟩,⟨0,0,⟨#[97]⟩,⟨#[97]⟩,1⟩,⟨0,0,⟨#[98]⟩,⟨#[98]⟩,1⟩]).toArray 64 (0,0))∧wb.heap.size≤g]) (fun _ W=>Below wb.heap.size wb W) (fun W W'=>Ext W W') 78 10 12 (by kernel_rfl) rfl (by omega) ?hVx ?hVm ?hSx ?hS ?hop ?hlast
   case hVx=>exact Ac (by simp only [AU,List.not_mem_nil,or_false,forall_eq_or_imp,forall_eq];exact ⟨AY _,AY _,AY _,AY _,AY _,AY _,AY _,AY _,AY _,AY _,C1 _ _,(fun v w w' h hx=>by obtain ⟨g,h1,h2,h3⟩:=h;exact ⟨g,h1,(Below.block hx g (A5.1 h2).1).trans h2,h3⟩)⟩)
   case hVm=>exact fun i v w w' _ h hx=>Ac (by simp only [AU,List.not_mem_nil,or_false,forall_eq_or_imp,forall_eq];exact ⟨AY _,AY _,AY _,AY _,AY _,AY _,AY _,AY _,AY _,AY _,C1 _ _,(fun v w w' h hx=>by obtain ⟨g,h1,h2,h3⟩:=h;exact ⟨g,h1,(Below.block hx g (A5.1 h2).1).trans h2,h3⟩)⟩) i v w w' h hx
   case hSx=>exact fun bo W W' h hx=>h.trans (Below.mono hx h.size)
   case hS=>exact Below.refl _ _
   case hop =>
    refine ⟨?_,?_,?_,?_,?_,?_,?_,?_,?_,?_,?_,?_,?_,trivial⟩
    all_goals first | rw [if_neg (by decide),if_neg (by decide)] | rw [if_neg (by decide),if_pos (by decide)] | rw [if_pos (by decide)]
    ·
     intro A W bo hsz hS hdep hbase
     have h4:A.tmps.getD 4 undef=.pointer (some ⟨w.heap.size+1+1,0,none⟩):=hbase 4 (by kernel_rfl)
     have h3:A.tmps.getD 3 undef=.pointer (some ⟨w.heap.size+1,0,none⟩):=hbase 3 (by kernel_rfl)
     obtain ⟨z0,z1⟩:=Ak ((hS.block (w.heap.size+1+1) (by omega)).trans HG2.out)
     clear hbase
     simp [Aa,Region.binds,Vs] at hdep
     refine AZ rfl (.inl ⟨_,W,?_,rfl,Ext.refl _⟩);clear hsz hS;simp [go_sem,Act.eval, *]
    ·
     intro A W bo hsz hS hdep hbase
     have h4:A.tmps.getD 4 undef=.pointer (some ⟨w.heap.size+1+1,0,none⟩):=hbase 4 (by kernel_rfl)
     have h3:A.tmps.getD 3 undef=.pointer (some ⟨w.heap.size+1,0,none⟩):=hbase 3 (by kernel_rfl)
     obtain ⟨z0,z1⟩:=Ak ((hS.block (w.heap.size+1+1) (by omega)).trans HG2.out)
     clear hbase
     simp [Aa,Region.binds,Vs] at hdep
     refine AZ rfl (.inr ⟨57,#[.agg #[.int .i64 0,.int .i64 1],.string ⟨#[99]⟩,.string ⟨#[]⟩],W,by (clear hsz hS;simp [go_sem,Act.eval, *]),?_⟩)
     refine (Aw 0 1 ⟨#[99]⟩ ⟨#[]⟩ W (by decide)).mono ?_
     rintro e w' ⟨rfl,hb⟩
     exact ⟨_,rfl,rfl,hb⟩
    ·
     intro A W bo hsz hS hdep hbase
     have h4:A.tmps.getD 4 undef=.pointer (some ⟨w.heap.size+1+1,0,none⟩):=hbase 4 (by kernel_rfl)
     have h3:A.tmps.getD 3 undef=.pointer (some ⟨w.heap.size+1,0,none⟩):=hbase 3 (by kernel_rfl)
     obtain ⟨z0,z1⟩:=Ak ((hS.block (w.heap.size+1+1) (by omega)).trans HG2.out)
     clear hbase
     simp [Aa,Region.binds,Vs] at hdep
     refine AZ rfl (.inl ⟨_,W,?_,rfl,Ext.refl _⟩);clear hsz hS;simp [go_sem,Act.eval, *]
    ·
     intro A W bo hsz hS hdep hbase
     have h4:A.tmps.getD 4 undef=.pointer (some ⟨w.heap.size+1+1,0,none⟩):=hbase 4 (by kernel_rfl)
     have h3:A.tmps.getD 3 undef=.pointer (some ⟨w.heap.size+1,0,none⟩):=hbase 3 (by kernel_rfl)
     obtain ⟨z0,z1⟩:=Ak ((hS.block (w.heap.size+1+1) (by omega)).trans HG2.out)
     clear hbase
     simp [Aa,Region.binds,Vs] at hdep
     refine AZ rfl (.inr ⟨57,#[.agg #[.int .i64 1,.int .i64 0],.string ⟨#[97]⟩,.string ⟨#[65]⟩],W,by (clear hsz hS;simp [go_sem,Act.eval, *]),?_⟩)
     refine (Aw 1 0 ⟨#[97]⟩ ⟨#[65]⟩ W (by decide)).mono ?_
     rintro e w' ⟨rfl,hb⟩
     exact ⟨_,rfl,rfl,hb⟩
    ·
     intro A W bo hsz hS hdep hbase
     have h4:A.tmps.getD 4 undef=.pointer (some ⟨w.heap.size+1+1,0,none⟩):=hbase 4 (by kernel_rfl)
     have h3:A.tmps.getD 3 undef=.pointer (some ⟨w.heap.size+1,0,none⟩):=hbase 3 (by kernel_rfl)
     obtain ⟨z0,z1⟩:=Ak ((hS.block (w.heap.size+1+1) (by omega)).trans HG2.out)
     clear hbase
     simp [Aa,Region.binds,Vs] at hdep
     refine AZ rfl (.inl ⟨_,W,?_,rfl,Ext.refl _⟩);clear hsz hS;simp [go_sem,Act.eval, *]
    ·
     intro A W bo hsz hS hdep hbase
     have h4:A.tmps.getD 4 undef=.pointer (some ⟨w.heap.size+1+1,0,none⟩):=hbase 4 (by kernel_rfl)
     have h3:A.tmps.getD 3 undef=.pointer (some ⟨w.heap.size+1,0,none⟩):=hbase 3 (by kernel_rfl)
     obtain ⟨z0,z1⟩:=Ak ((hS.block (w.heap.size+1+1) (by omega)).trans HG2.out)
     clear hbase
     simp [Aa,Region.binds,Vs] at hdep
     refine AZ rfl (.inr ⟨57,#[.agg #[.int .i64 1,.int .i64 0],.string ⟨#[98]⟩,.string ⟨#[66]⟩],W,by (clear hsz hS;simp [go_sem,Act.eval, *]),?_⟩)
     refine (Aw 1 0 ⟨#[98]⟩ ⟨#[66]⟩ W (by decide)).mono ?_
     rintro e w' ⟨rfl,hb⟩
     exact ⟨_,rfl,rfl,hb⟩
    ·
     intro A W bo hsz hS hdep hbase
     have h4:A.tmps.getD 4 undef=.pointer (some ⟨w.heap.size+1+1,0,none⟩):=hbase 4 (by kernel_rfl)
     have h3:A.tmps.getD 3 undef=.pointer (some ⟨w.heap.size+1,0,none⟩):=hbase 3 (by kernel_rfl)
     obtain ⟨z0,z1⟩:=Ak ((hS.block (w.heap.size+1+1) (by omega)).trans HG2.out)
     clear hbase
     simp [Aa,Region.binds,Vs] at hdep
     refine AZ rfl (.inl ⟨_,W,?_,rfl,Ext.refl _⟩);clear hsz hS;simp [go_sem,Act.eval, *]
    ·
     intro A W bo hsz hS hdep hbase
     have h4:A.tmps.getD 4 undef=.pointer (some ⟨w.heap.size+1+1,0,none⟩):=hbase 4 (by kernel_rfl)
     have h3:A.tmps.getD 3 undef=.pointer (some ⟨w.heap.size+1,0,none⟩):=hbase 3 (by kernel_rfl)
     obtain ⟨z0,z1⟩:=Ak ((hS.block (w.heap.size+1+1) (by omega)).trans HG2.out)
     clear hbase
     simp [Aa,Region.binds,Vs] at hdep
     refine AZ rfl (.inr ⟨57,#[.agg #[.int .i64 0,.int .i64 0],.string ⟨#[97]⟩,.string ⟨#[97]⟩],W,by (clear hsz hS;simp [go_sem,Act.eval, *]),?_⟩)
     refine (Aw 0 0 ⟨#[97]⟩ ⟨#[97]⟩ W (by decide)).mono ?_
     rintro e w' ⟨rfl,hb⟩
     exact ⟨_,rfl,rfl,hb⟩
    ·
     intro A W bo hsz hS hdep hbase
     have h4:A.tmps.getD 4 undef=.pointer (some ⟨w.heap.size+1+1,0,none⟩):=hbase 4 (by kernel_rfl)
     have h3:A.tmps.getD 3 undef=.pointer (some ⟨w.heap.size+1,0,none⟩):=hbase 3 (by kernel_rfl)
     obtain ⟨z0,z1⟩:=Ak ((hS.block (w.heap.size+1+1) (by omega)).trans HG2.out)
     clear hbase
     simp [Aa,Region.binds,Vs] at hdep
     refine AZ rfl (.inl ⟨_,W,?_,rfl,Ext.refl _⟩);clear hsz hS;simp [go_sem,Act.eval, *]
    ·
     intro A W bo hsz hS hdep hbase
     have h4:A.tmps.getD 4 undef=.pointer (some ⟨w.heap.size+1+1,0,none⟩):=hbase 4 (by kernel_rfl)
     have h3:A.tmps.getD 3 undef=.pointer (some ⟨w.heap.size+1,0,none⟩):=hbase 3 (by kernel_rfl)
     obtain ⟨z0,z1⟩:=Ak ((hS.block (w.heap.size+1+1) (by omega)).trans HG2.out)
     clear hbase
     simp [Aa,Region.binds,Vs] at hdep
     refine AZ rfl (.inr ⟨57,#[.agg #[.int .i64 0,.int .i64 0],.string ⟨#[98]⟩,.string ⟨#[98]⟩],W,by (clear hsz hS;simp [go_sem,Act.eval, *]),?_⟩)
     refine (Aw 0 0 ⟨#[98]⟩ ⟨#[98]⟩ W (by decide)).mono ?_
     rintro e w' ⟨rfl,hb⟩
     exact ⟨_,rfl,rfl,hb⟩
    ·
     intro A W hsz hS hdep hbase
     have h4:A.tmps.getD 4 undef=.pointer (some ⟨w.heap.size+1+1,0,none⟩):=hbase 4 (by kernel_rfl)
     have h3:A.tmps.getD 3 undef=.pointer (some ⟨w.heap.size+1,0,none⟩):=hbase 3 (by kernel_rfl)
     obtain ⟨z0,z1⟩:=Ak ((hS.block (w.heap.size+1+1) (by omega)).trans HG2.out)
     clear hbase
     simp [Aa,Region.binds,Vs] at hdep
     refine ⟨rfl,.inl ⟨.slice (some ⟨W.heap.size,0,none⟩) 5 5,W.alloc (.cells #[.int .i64 0,.int .i64 1,.string ⟨#[99]⟩,.string ⟨#[]⟩,.int .i64 1,.int .i64 1,.int .i64 0,.string ⟨#[97]⟩,.string ⟨#[65]⟩,.int .i64 1,.int .i64 1,.int .i64 0,.string ⟨#[98]⟩,.string ⟨#[66]⟩,.int .i64 1,.int .i64 0,.int .i64 0,.string ⟨#[97]⟩,.string ⟨#[97]⟩,.int .i64 1,.int .i64 0,.int .i64 0,.string ⟨#[98]⟩,.string ⟨#[98]⟩,.int .i64 1] 64),?_,⟨W.heap.size,rfl,heap_alloc_new _ _,hS.size⟩,(Below.refl _ _).alloc (A3 _) _,hS.trans (((Below.refl _ W).alloc (A3 _) _).mono hS.size)⟩⟩
     clear hsz hS;simp [go_sem,Act.eval, *]
    ·
     intro A W bo hsz hS hdep hbase
     have h4:A.tmps.getD 4 undef=.pointer (some ⟨w.heap.size+1+1,0,none⟩):=hbase 4 (by kernel_rfl)
     have h3:A.tmps.getD 3 undef=.pointer (some ⟨w.heap.size+1,0,none⟩):=hbase 3 (by kernel_rfl)
     obtain ⟨z0,z1⟩:=Ak ((hS.block (w.heap.size+1+1) (by omega)).trans HG2.out)
     clear hbase
     have hb9:Iu wb.heap.size [⟨0,1,⟨#[99]⟩,⟨#[]⟩,1⟩,⟨1,0,⟨#[97]⟩,⟨#[65]⟩,1⟩,⟨1,0,⟨#[98]⟩,⟨#[66]⟩,1⟩,⟨0,0,⟨#[97]⟩,⟨#[97]⟩,1⟩,⟨0,0,⟨#[98]⟩,⟨#[98]⟩,1⟩] (A.tmps.getD 54 undef) W:=hdep ⟨10,.data⟩ (by simp) rfl
     obtain ⟨g9,e9,hg9,hB9⟩:=hb9
     refine AZ rfl (.inl ⟨.agg #[.int .i64 2,.int .u8 1,.slice (some ⟨g9,0,none⟩) 5 5],W,?_,⟨g9,rfl,hg9,hB9⟩,Ext.refl _⟩)
     rw [A4] at e9
     clear hsz hS hdep hg9;simp [go_sem,Act.eval, *]
    · trivial
   case hlast =>
    intro A1 W hsz hdf hS hv hbase
    have hb9:=hv 11 (by decide)
    obtain ⟨g,e9,hg,hgB⟩:=hb9
    have e10:A1.tmps.getD 55 undef=.agg #[.int .i64 2,.int .u8 1,.slice (some ⟨g,0,none⟩) 5 5]:=e9
    have h3:A1.tmps.getD 3 undef=.pointer (some ⟨w.heap.size+1,0,none⟩):=hbase 3 (by kernel_rfl)
    have hrep:=(hS.block (w.heap.size+1) (by omega)).trans HG1.out
    refine It rfl rfl rfl rfl (Ai h3) (Ai e10) hrep (by kernel_rfl) ?_
    obtain ⟨x,hx,hA⟩:=Af [44,45,46,47,48,49,50,51,52,53,54,55] (by kernel_rfl) hsz hdf hbase
    rw [hA]
    simp only [List.foldl]
    simp only [Act.put,List.setIfInBounds_toArray,List.set_cons_succ,List.set_cons_zero]
    clear hA hx hv hbase hsz hdf
    go_wp2_with fail
    go_meet
    refine ⟨_,rfl,2,[⟨0,1,⟨#[99]⟩,⟨#[]⟩,1⟩,⟨1,0,⟨#[97]⟩,⟨#[65]⟩,1⟩,⟨1,0,⟨#[98]⟩,⟨#[66]⟩,1⟩,⟨0,0,⟨#[97]⟩,⟨#[97]⟩,1⟩,⟨0,0,⟨#[98]⟩,⟨#[98]⟩,1⟩],g,by omega,by omega,by decide,by decide,⟨_,by omega,HQ.out,rfl⟩,hgB,?_,LO hrep,((((hS.mono (by omega)).setCell (by show _≤w.heap.size+1;omega) _).setCell (by show _≤w.heap.size+1;omega) _).setCell (by show _≤w.heap.size+1;omega) _)⟩
    rw [Below.heap_setCell _ _ _ _ (by show g≠w.heap.size+1;omega),Below.heap_setCell _ _ _ _ (by show g≠w.heap.size+1;omega),Below.heap_setCell _ _ _ _ (by show g≠w.heap.size+1;omega)]
    exact hg
  ·
   have hq0:((k % 6:Int) == 0)=false:=by rw [hq];rfl
   have hq1:((k % 6:Int) == 1)=false:=by rw [hq];rfl
   have hq2:((k % 6:Int) == 2)=false:=by rw [hq];rfl
   have hq3:((k % 6:Int) == 3)=true:=by rw [hq];rfl
   have hq4:((k % 6:Int) == 4)=false:=by rw [hq];rfl
   have HQ:Hid (k % 6=((3:Nat):Int)):=hq
   clear hq
   go_upto_region 12 with fail
   refine CK (by kernel_rfl) (Vs [fun v _=>v=.agg #[.int .i64 0,.int .i64 0],fun v _=>v=.agg #[.int .i64 0,.int .i64 0,.string ⟨#[97]⟩,.string ⟨#[97]⟩,.int .i64 1],fun v _=>v=.agg #[.int .i64 0,.int .i64 0],fun v _=>v=.agg #[.int .i64 0,.int .i64 0,.string ⟨#[98]⟩,.string ⟨#[98]⟩,.int .i64 1],fun v _=>v=.agg #[.int .i64 0,.int .i64 0],fun v _=>v=.agg #[.int .i64 0,.int .i64 0,.string ⟨#[97,98]⟩,.string ⟨#[97,98,99,49]⟩,.int .i64 2],fun v _=>v=.agg #[.int .i64 0,.int .i64 0],fun v _=>v=.agg #[.int .i64 0,.int .i64 0,.string ⟨#[99]⟩,.string ⟨#[99]⟩,.int .i64 1],Iu wb.heap.size [⟨0,0,⟨#[97]⟩,⟨#[97]⟩,1⟩,⟨0,0,⟨#[98]⟩,⟨#[98]⟩,1⟩,⟨0,0,⟨#[97,98]⟩,⟨#[97,98,99,49]⟩,2⟩,⟨0,0,⟨#[99]⟩,⟨#[99]⟩,1⟩],fun v _=>v=.pointer (some ⟨w.heap.size+1,2,none⟩)]) (fun _ W=>Below wb.heap.size wb W) (fun W W'=>Ext W W') 78 8 10 (by kernel_rfl) rfl (by omega) ?hVx ?hVm ?hSx ?hS ?hop ?hlast
   case hVx=>exact Ac (by simp only [AU,List.not_mem_nil,or_false,forall_eq_or_imp,forall_eq];exact ⟨AY _,AY _,AY _,AY _,AY _,AY _,AY _,AY _,C1 _ _,AY _⟩)
   case hVm=>exact fun i v w w' _ h hx=>Ac (by simp only [AU,List.not_mem_nil,or_false,forall_eq_or_imp,forall_eq];exact ⟨AY _,AY _,AY _,AY _,AY _,AY _,AY _,AY _,C1 _ _,AY _⟩) i v w w' h hx
   case hSx=>exact fun bo W W' h hx=>h.trans (Below.mono hx h.size)
   case hS=>exact Below.refl _ _
   case hop =>
    refine ⟨?_,?_,?_,?_,?_,?_,?_,?_,?_,?_,?_,trivial⟩
    all_goals first | rw [if_neg (by decide),if_neg (by decide)] | rw [if_neg (by decide),if_pos (by decide)] | rw [if_pos (by decide)]
    ·
     intro A W bo hsz hS hdep hbase
     have h4:A.tmps.getD 4 undef=.pointer (some ⟨w.heap.size+1+1,0,none⟩):=hbase 4 (by kernel_rfl)
     have h3:A.tmps.getD 3 undef=.pointer (some ⟨w.heap.size+1,0,none⟩):=hbase 3 (by kernel_rfl)
     obtain ⟨z0,z1⟩:=Ak ((hS.block (w.heap.size+1+1) (by omega)).trans HG2.out)
     clear hbase
     simp [Aa,Region.binds,Vs] at hdep
     refine AZ rfl (.inl ⟨_,W,?_,rfl,Ext.refl _⟩);clear hsz hS;simp [go_sem,Act.eval, *]
    ·
     intro A W bo hsz hS hdep hbase
     have h4:A.tmps.getD 4 undef=.pointer (some ⟨w.heap.size+1+1,0,none⟩):=hbase 4 (by kernel_rfl)
     have h3:A.tmps.getD 3 undef=.pointer (some ⟨w.heap.size+1,0,none⟩):=hbase 3 (by kernel_rfl)
     obtain ⟨z0,z1⟩:=Ak ((hS.block (w.heap.size+1+1) (by omega)).trans HG2.out)
     clear hbase
     simp [Aa,Region.binds,Vs] at hdep
     refine AZ rfl (.inr ⟨57,#[.agg #[.int .i64 0,.int .i64 0],.string ⟨#[97]⟩,.string ⟨#[97]⟩],W,by (clear hsz hS;simp [go_sem,Act.eval, *]),?_⟩)
     refine (Aw 0 0 ⟨#[97]⟩ ⟨#[97]⟩ W (by decide)).mono ?_
     rintro e w' ⟨rfl,hb⟩
     exact ⟨_,rfl,rfl,hb⟩
    ·
     intro A W bo hsz hS hdep hbase
     have h4:A.tmps.getD 4 undef=.pointer (some ⟨w.heap.size+1+1,0,none⟩):=hbase 4 (by kernel_rfl)
     have h3:A.tmps.getD 3 undef=.pointer (some ⟨w.heap.size+1,0,none⟩):=hbase 3 (by kernel_rfl)
     obtain ⟨z0,z1⟩:=Ak ((hS.block (w.heap.size+1+1) (by omega)).trans HG2.out)
     clear hbase
     simp [Aa,Region.binds,Vs] at hdep
     refine AZ rfl (.inl ⟨_,W,?_,rfl,Ext.refl _⟩);clear hsz hS;simp [go_sem,Act.eval, *]
    ·
     intro A W bo hsz hS hdep hbase
     have h4:A.tmps.getD 4 undef=.pointer (some ⟨w.heap.size+1+1,0,none⟩):=hbase 4 (by kernel_rfl)
     have h3:A.tmps.getD 3 undef=.pointer (some ⟨w.heap.size+1,0,none⟩):=hbase 3 (by kernel_rfl)
     obtain ⟨z0,z1⟩:=Ak ((hS.block (w.heap.size+1+1) (by omega)).trans HG2.out)
     clear hbase
     simp [Aa,Region.binds,Vs] at hdep
     refine AZ rfl (.inr ⟨57,#[.agg #[.int .i64 0,.int .i64 0],.string ⟨#[98]⟩,.string ⟨#[98]⟩],W,by (clear hsz hS;simp [go_sem,Act.eval, *]),?_⟩)
     refine (Aw 0 0 ⟨#[98]⟩ ⟨#[98]⟩ W (by decide)).mono ?_
     rintro e w' ⟨rfl,hb⟩
     exact ⟨_,rfl,rfl,hb⟩
    ·
     intro A W bo hsz hS hdep hbase
     have h4:A.tmps.getD 4 undef=.pointer (some ⟨w.heap.size+1+1,0,none⟩):=hbase 4 (by kernel_rfl)
     have h3:A.tmps.getD 3 undef=.pointer (some ⟨w.heap.size+1,0,none⟩):=hbase 3 (by kernel_rfl)
     obtain ⟨z0,z1⟩:=Ak ((hS.block (w.heap.size+1+1) (by omega)).trans HG2.out)
     clear hbase
     simp [Aa,Region.binds,Vs] at hdep
     refine AZ rfl (.inl ⟨_,W,?_,rfl,Ext.refl _⟩);clear hsz hS;simp [go_sem,Act.eval, *]
    ·
     intro A W bo hsz hS hdep hbase
     have h4:A.tmps.getD 4 undef=.pointer (some ⟨w.heap.size+1+1,0,none⟩):=hbase 4 (by kernel_rfl)
     have h3:A.tmps.getD 3 undef=.pointer (some ⟨w.heap.size+1,0,none⟩):=hbase 3 (by kernel_rfl)
     obtain ⟨z0,z1⟩:=Ak ((hS.block (w.heap.size+1+1) (by omega)).trans HG2.out)
     clear hbase
     simp [Aa,Region.binds,Vs] at hdep
     refine AZ rfl (.inr ⟨57,#[.agg #[.int .i64 0,.int .i64 0],.string ⟨#[97,98]⟩,.string ⟨#[97,98,99,49]⟩],W,by (clear hsz hS;simp [go_sem,Act.eval, *]),?_⟩)
     refine (Aw 0 0 ⟨#[97,98]⟩ ⟨#[97,98,99,49]⟩ W (by decide)).mono ?_
     rintro e w' ⟨rfl,hb⟩
     exact ⟨_,rfl,rfl,hb⟩
    ·
     intro A W bo hsz hS hdep hbase
     have h4:A.tmps.getD 4 undef=.pointer (some ⟨w.heap.size+1+1,0,none⟩):=hbase 4 (by kernel_rfl)
     have h3:A.tmps.getD 3 undef=.pointer (some ⟨w.heap.size+1,0,none⟩):=hbase 3 (by kernel_rfl)
     obtain ⟨z0,z1⟩:=Ak ((hS.block (w.heap.size+1+1) (by omega)).trans HG2.out)
     clear hbase
     simp [Aa,Region.binds,Vs] at hdep
     refine AZ rfl (.inl ⟨_,W,?_,rfl,Ext.refl _⟩);clear hsz hS;simp [go_sem,Act.eval, *]
    ·
     intro A W bo hsz hS hdep hbase
     have h4:A.tmps.getD 4 undef=.pointer (some ⟨w.heap.size+1+1,0,none⟩):=hbase 4 (by kernel_rfl)
     have h3:A.tmps.getD 3 undef=.pointer (some ⟨w.heap.size+1,0,none⟩):=hbase 3 (by kernel_rfl)
     obtain ⟨z0,z1⟩:=Ak ((hS.block (w.heap.size+1+1) (by omega)).trans HG2.out)
     clear hbase
     simp [Aa,Region.binds,Vs] at hdep
     refine AZ rfl (.inr ⟨57,#[.agg #[.int .i64 0,.int .i64 0],.string ⟨#[99]⟩,.string ⟨#[99]⟩],W,by (clear hsz hS;simp [go_sem,Act.eval, *]),?_⟩)
     refine (Aw 0 0 ⟨#[99]⟩ ⟨#[99]⟩ W (by decide)).mono ?_
     rintro e w' ⟨rfl,hb⟩
     exact ⟨_,rfl,rfl,hb⟩
    ·
     intro A W hsz hS hdep hbase
     have h4:A.tmps.getD 4 undef=.pointer (some ⟨w.heap.size+1+1,0,none⟩):=hbase 4 (by kernel_rfl)
     have h3:A.tmps.getD 3 undef=.pointer (some ⟨w.heap.size+1,0,none⟩):=hbase 3 (by kernel_rfl)
     obtain ⟨z0,z1⟩:=Ak ((hS.block (w.heap.size+1+1) (by omega)).trans HG2.out)
     clear hbase
     simp [Aa,Region.binds,Vs] at hdep
     refine ⟨rfl,.inl ⟨.slice (some ⟨W.heap.size,0,none⟩) 4 4,W.alloc (.cells #[.int .i64 0,.int .i64 0,.string ⟨#[97]⟩,.string ⟨#[97]⟩,.int .i64 1,.int .i64 0,.int .i64 0,.string ⟨#[98]⟩,.string ⟨#[98]⟩,.int .i64 1,.int .i64 0,.int .i64 0,.string ⟨#[97,98]⟩,.string ⟨#[97,98,99,49]⟩,.int .i64 2,.int .i64 0,.int .i64 0,.string ⟨#[99]⟩,.string ⟨#[99]⟩,.int .i64 1] 64),?_,⟨W.heap.size,rfl,heap_alloc_new _ _,hS.size⟩,(Below.refl _ _).alloc (A3 _) _,hS.trans (((Below.refl _ W).alloc (A3 _) _).mono hS.size)⟩⟩
     clear hsz hS;simp [go_sem,Act.eval, *]
    ·
     intro A W bo hsz hS hdep hbase
     have h4:A.tmps.getD 4 undef=.pointer (some ⟨w.heap.size+1+1,0,none⟩):=hbase 4 (by kernel_rfl)
     have h3:A.tmps.getD 3 undef=.pointer (some ⟨w.heap.size+1,0,none⟩):=hbase 3 (by kernel_rfl)
     obtain ⟨z0,z1⟩:=Ak ((hS.block (w.heap.size+1+1) (by omega)).trans HG2.out)
     clear hbase
     simp [Aa,Region.binds,Vs] at hdep
     refine AZ rfl (.inl ⟨_,W,?_,rfl,Ext.refl _⟩);clear hsz hS;simp [go_sem,Act.eval, *]
    · trivial
   case hlast =>
    intro A1 W hsz hdf hS hv hbase
    have hb9:Iu wb.heap.size [⟨0,0,⟨#[97]⟩,⟨#[97]⟩,1⟩,⟨0,0,⟨#[98]⟩,⟨#[98]⟩,1⟩,⟨0,0,⟨#[97,98]⟩,⟨#[97,98,99,49]⟩,2⟩,⟨0,0,⟨#[99]⟩,⟨#[99]⟩,1⟩] (A1.tmps.getD 66 undef) W:=hv 8 (by decide)
    obtain ⟨g,e9,hg,hgB⟩:=hb9
    have e10:A1.tmps.getD 67 undef=.pointer (some ⟨w.heap.size+1,2,none⟩):=hv 9 (by decide)
    have hrep:=(hS.block (w.heap.size+1) (by omega)).trans HG1.out
    refine BW rfl rfl rfl rfl (Ai e10) (Ai e9) (by simp [World.frozen?,hrep]) (cells3 hrep).2.2 (by kernel_rfl) ?_
    obtain ⟨x,hx,hA⟩:=Af [58,59,60,61,62,63,64,65,66,67] (by kernel_rfl) hsz hdf hbase
    rw [hA]
    simp only [List.foldl]
    simp only [Act.put,List.setIfInBounds_toArray,List.set_cons_succ,List.set_cons_zero]
    clear hA hx hv hbase hsz hdf
    go_wp2_with fail
    go_meet
    refine ⟨_,rfl,1,[⟨0,0,⟨#[97]⟩,⟨#[97]⟩,1⟩,⟨0,0,⟨#[98]⟩,⟨#[98]⟩,1⟩,⟨0,0,⟨#[97,98]⟩,⟨#[97,98,99,49]⟩,2⟩,⟨0,0,⟨#[99]⟩,⟨#[99]⟩,1⟩],g,by omega,by omega,by decide,by decide,⟨_,by omega,HQ.out,rfl⟩,hgB,?_,Aq hrep rfl,(hS.mono (by omega)).setCell (by show _≤w.heap.size+1;omega) _⟩
    rw [Below.heap_setCell _ _ _ _ (by show g≠w.heap.size+1;omega)]
    exact hg
  ·
   have hq0:((k % 6:Int) == 0)=false:=by rw [hq];rfl
   have hq1:((k % 6:Int) == 1)=false:=by rw [hq];rfl
   have hq2:((k % 6:Int) == 2)=false:=by rw [hq];rfl
   have hq3:((k % 6:Int) == 3)=false:=by rw [hq];rfl
   have hq4:((k % 6:Int) == 4)=true:=by rw [hq];rfl
   have HQ:Hid (k % 6=((4:Nat):Int)):=hq
   clear hq
   obtain ⟨z0,z1⟩:=Ak HG2.out
   go_wp2_with fail
   refine (Aw 0 0 ⟨#[97]⟩ ⟨#[97]⟩ wb (by decide)).mono ?_
   rintro e w1 ⟨rfl,hb1⟩
   clear z0 z1
   have hs1:=hb1.size
   have HR1:=A0 ((hb1.block (w.heap.size+1) (by omega)).trans HG1.out)
   obtain ⟨r0,r1,r2⟩:=cells3 HR1.out
   have rf:∀ i,w1.frozen? ⟨w.heap.size+1,i,none⟩=false:=fun i=>by simp [World.frozen?,HR1.out]
   go_wp2_with fail
   go_meet
   refine ⟨_,rfl,1,[⟨0,0,⟨#[97]⟩,⟨#[97]⟩,1⟩,⟨0,0,⟨#[98]⟩,⟨#[98]⟩,0⟩,⟨0,0,⟨#[99]⟩,⟨#[98]⟩,7⟩,⟨0,0,⟨#[98]⟩,⟨#[99]⟩,9⟩],w1.heap.size,by omega,by omega,by decide,by decide,⟨_,by omega,HQ.out,rfl⟩,hs1,?_,Aq ((Below.heap_alloc _ _ _ (by omega)).trans HR1.out) rfl,((hb1.mono (by omega)).alloc (by omega) _).setCell (by show _≤w.heap.size+1;omega) _⟩
   rw [Below.heap_setCell _ _ _ _ (by show w1.heap.size≠w.heap.size+1;omega)]
   exact heap_alloc_new _ _
  ·
   have hq0:((k % 6:Int) == 0)=false:=by rw [hq];rfl
   have hq1:((k % 6:Int) == 1)=false:=by rw [hq];rfl
   have hq2:((k % 6:Int) == 2)=false:=by rw [hq];rfl
   have hq3:((k % 6:Int) == 3)=false:=by rw [hq];rfl
   have hq4:((k % 6:Int) == 4)=false:=by rw [hq];rfl
   have HQ:Hid (k % 6=((5:Nat):Int)):=hq
   clear hq
   go_upto_region 4 with fail
   refine CK (by kernel_rfl) (Vs [fun v _=>v=.agg #[.int .i64 0,.int .i64 0],fun v _=>v=.agg #[.int .i64 0,.int .i64 0,.string ⟨#[97]⟩,.string ⟨#[97]⟩,.int .i64 1],fun v _=>v=.agg #[.int .i64 0,.int .i64 0],fun v _=>v=.agg #[.int .i64 0,.int .i64 0,.string ⟨#[97]⟩,.string ⟨#[65]⟩,.int .i64 1],fun v _=>v=.agg #[.int .i64 0,.int .i64 0],fun v _=>v=.agg #[.int .i64 0,.int .i64 0,.string ⟨#[97,97]⟩,.string ⟨#[66]⟩,.int .i64 2],fun v _=>v=.agg #[.int .i64 0,.int .i64 0],fun v _=>v=.agg #[.int .i64 0,.int .i64 0,.string ⟨#[98]⟩,.string ⟨#[98]⟩,.int .i64 1],fun v _=>v=.agg #[.int .i64 0,.int .i64 0,.string ⟨#[98]⟩,.string ⟨#[]⟩,.int .i64 20],Iu wb.heap.size [⟨0,0,⟨#[97]⟩,⟨#[97]⟩,1⟩,⟨0,0,⟨#[97]⟩,⟨#[65]⟩,1⟩,⟨0,0,⟨#[97,97]⟩,⟨#[66]⟩,2⟩,⟨0,0,⟨#[98]⟩,⟨#[98]⟩,1⟩,⟨0,0,⟨#[98]⟩,⟨#[]⟩,20⟩],fun v _=>v=.pointer (some ⟨w.heap.size+1,2,none⟩)]) (fun _ W=>Below wb.heap.size wb W) (fun W W'=>Ext W W') 78 9 11 (by kernel_rfl) rfl (by omega) ?hVx ?hVm ?hSx ?hS ?hop ?hlast
   case hVx=>exact Ac (by simp only [AU,List.not_mem_nil,or_false,forall_eq_or_imp,forall_eq];exact ⟨AY _,AY _,AY _,AY _,AY _,AY _,AY _,AY _,AY _,C1 _ _,AY _⟩)
   case hVm=>exact fun i v w w' _ h hx=>Ac (by simp only [AU,List.not_mem_nil,or_false,forall_eq_or_imp,forall_eq];exact ⟨AY _,AY _,AY _,AY _,AY _,AY _,AY _,AY _,AY _,C1 _ _,AY _⟩) i v w w' h hx
   case hSx=>exact fun bo W W' h hx=>h.trans (Below.mono hx h.size)
   case hS=>exact Below.refl _ _
   case hop =>
    refine ⟨?_,?_,?_,?_,?_,?_,?_,?_,?_,?_,?_,?_,trivial⟩
    all_goals first | rw [if_neg (by decide),if_neg (by decide)] | rw [if_neg (by decide),if_pos (by decide)] | rw [if_pos (by decide)]
    ·
     intro A W bo hsz hS hdep hbase
     have h4:A.tmps.getD 4 undef=.pointer (some ⟨w.heap.size+1+1,0,none⟩):=hbase 4 (by kernel_rfl)
     have h3:A.tmps.getD 3 undef=.pointer (some ⟨w.heap.size+1,0,none⟩):=hbase 3 (by kernel_rfl)
     obtain ⟨z0,z1⟩:=Ak ((hS.block (w.heap.size+1+1) (by omega)).trans HG2.out)
     clear hbase
     simp [Aa,Region.binds,Vs] at hdep
     refine AZ rfl (.inl ⟨_,W,?_,rfl,Ext.refl _⟩);clear hsz hS;simp [go_sem,Act.eval, *]
    ·
     intro A W bo hsz hS hdep hbase
     have h4:A.tmps.getD 4 undef=.pointer (some ⟨w.heap.size+1+1,0,none⟩):=hbase 4 (by kernel_rfl)
     have h3:A.tmps.getD 3 undef=.pointer (some ⟨w.heap.size+1,0,none⟩):=hbase 3 (by kernel_rfl)
     obtain ⟨z0,z1⟩:=Ak ((hS.block (w.heap.size+1+1) (by omega)).trans HG2.out)
     clear hbase
     simp [Aa,Region.binds,Vs] at hdep
     refine AZ rfl (.inr ⟨57,#[.agg #[.int .i64 0,.int .i64 0],.string ⟨#[97]⟩,.string ⟨#[97]⟩],W,by (clear hsz hS;simp [go_sem,Act.eval, *]),?_⟩)
     refine (Aw 0 0 ⟨#[97]⟩ ⟨#[97]⟩ W (by decide)).mono ?_
     rintro e w' ⟨rfl,hb⟩
     exact ⟨_,rfl,rfl,hb⟩
    ·
     intro A W bo hsz hS hdep hbase
     have h4:A.tmps.getD 4 undef=.pointer (some ⟨w.heap.size+1+1,0,none⟩):=hbase 4 (by kernel_rfl)
     have h3:A.tmps.getD 3 undef=.pointer (some ⟨w.heap.size+1,0,none⟩):=hbase 3 (by kernel_rfl)
     obtain ⟨z0,z1⟩:=Ak ((hS.block (w.heap.size+1+1) (by omega)).trans HG2.out)
     clear hbase
     simp [Aa,Region.binds,Vs] at hdep
     refine AZ rfl (.inl ⟨_,W,?_,rfl,Ext.refl _⟩);clear hsz hS;simp [go_sem,Act.eval, *]
    ·
     intro A W bo hsz hS hdep hbase
     have h4:A.tmps.getD 4 undef=.pointer (some ⟨w.heap.size+1+1,0,none⟩):=hbase 4 (by kernel_rfl)
     have h3:A.tmps.getD 3 undef=.pointer (some ⟨w.heap.size+1,0,none⟩):=hbase 3 (by kernel_rfl)
     obtain ⟨z0,z1⟩:=Ak ((hS.block (w.heap.size+1+1) (by omega)).trans HG2.out)
     clear hbase
     simp [Aa,Region.binds,Vs] at hdep
     refine AZ rfl (.inr ⟨57,#[.agg #[.int .i64 0,.int .i64 0],.string ⟨#[97]⟩,.string ⟨#[65]⟩],W,by (clear hsz hS;simp [go_sem,Act.eval, *]),?_⟩)
     refine (Aw 0 0 ⟨#[97]⟩ ⟨#[65]⟩ W (by decide)).mono ?_
     rintro e w' ⟨rfl,hb⟩
     exact ⟨_,rfl,rfl,hb⟩
    ·
     intro A W bo hsz hS hdep hbase
     have h4:A.tmps.getD 4 undef=.pointer (some ⟨w.heap.size+1+1,0,none⟩):=hbase 4 (by kernel_rfl)
     have h3:A.tmps.getD 3 undef=.pointer (some ⟨w.heap.size+1,0,none⟩):=hbase 3 (by kernel_rfl)
     obtain ⟨z0,z1⟩:=Ak ((hS.block (w.heap.size+1+1) (by omega)).trans HG2.out)
     clear hbase
     simp [Aa,Region.binds,Vs] at hdep
     refine AZ rfl (.inl ⟨_,W,?_,rfl,Ext.refl _⟩);clear hsz hS;simp [go_sem,Act.eval, *]
    ·
     intro A W bo hsz hS hdep hbase
     have h4:A.tmps.getD 4 undef=.pointer (some ⟨w.heap.size+1+1,0,none⟩):=hbase 4 (by kernel_rfl)
     have h3:A.tmps.getD 3 undef=.pointer (some ⟨w.heap.size+1,0,none⟩):=hbase 3 (by kernel_rfl)
     obtain ⟨z0,z1⟩:=Ak ((hS.block (w.heap.size+1+1) (by omega)).trans HG2.out)
     clear hbase
     simp [Aa,Region.binds,Vs] at hdep
     refine AZ rfl (.inr ⟨57,#[.agg #[.int .i64 0,.int .i64 0],.string ⟨#[97,97]⟩,.string ⟨#[66]⟩],W,by (clear hsz hS;simp [go_sem,Act.eval, *]),?_⟩)
     refine (Aw 0 0 ⟨#[97,97]⟩ ⟨#[66]⟩ W (by decide)).mono ?_
     rintro e w' ⟨rfl,hb⟩
     exact ⟨_,rfl,rfl,hb⟩
    ·
     intro A W bo hsz hS hdep hbase
     have h4:A.tmps.getD 4 undef=.pointer (some ⟨w.heap.size+1+1,0,none⟩):=hbase 4 (by kernel_rfl)
     have h3:A.tmps.getD 3 undef=.pointer (some ⟨w.heap.size+1,0,none⟩):=hbase 3 (by kernel_rfl)
     obtain ⟨z0,z1⟩:=Ak ((hS.block (w.heap.size+1+1) (by omega)).trans HG2.out)
     clear hbase
     simp [Aa,Region.binds,Vs] at hdep
     refine AZ rfl (.inl ⟨_,W,?_,rfl,Ext.refl _⟩);clear hsz hS;simp [go_sem,Act.eval, *]
    ·
     intro A W bo hsz hS hdep hbase
     have h4:A.tmps.getD 4 undef=.pointer (some ⟨w.heap.size+1+1,0,none⟩):=hbase 4 (by kernel_rfl)
     have h3:A.tmps.getD 3 undef=.pointer (some ⟨w.heap.size+1,0,none⟩):=hbase 3 (by kernel_rfl)
     obtain ⟨z0,z1⟩:=Ak ((hS.block (w.heap.size+1+1) (by omega)).trans HG2.out)
     clear hbase
     simp [Aa,Region.binds,Vs] at hdep
     refine AZ rfl (.inr ⟨57,#[.agg #[.int .i64 0,.int .i64 0],.string ⟨#[98]⟩,.string ⟨#[98]⟩],W,by (clear hsz hS;simp [go_sem,Act.eval, *]),?_⟩)
     refine (Aw 0 0 ⟨#[98]⟩ ⟨#[98]⟩ W (by decide)).mono ?_
     rintro e w' ⟨rfl,hb⟩
     exact ⟨_,rfl,rfl,hb⟩
    ·
     intro A W bo hsz hS hdep hbase
     have h4:A.tmps.getD 4 undef=.pointer (some ⟨w.heap.size+1+1,0,none⟩):=hbase 4 (by kernel_rfl)
     have h3:A.tmps.getD 3 undef=.pointer (some ⟨w.heap.size+1,0,none⟩):=hbase 3 (by kernel_rfl)
     obtain ⟨z0,z1⟩:=Ak ((hS.block (w.heap.size+1+1) (by omega)).trans HG2.out)
     clear hbase
     simp [Aa,Region.binds,Vs] at hdep
     refine AZ rfl (.inl ⟨_,W,?_,rfl,Ext.refl _⟩);clear hsz hS;simp [go_sem,Act.eval, *]
    ·
     intro A W hsz hS hdep hbase
     have h4:A.tmps.getD 4 undef=.pointer (some ⟨w.heap.size+1+1,0,none⟩):=hbase 4 (by kernel_rfl)
     have h3:A.tmps.getD 3 undef=.pointer (some ⟨w.heap.size+1,0,none⟩):=hbase 3 (by kernel_rfl)
     obtain ⟨z0,z1⟩:=Ak ((hS.block (w.heap.size+1+1) (by omega)).trans HG2.out)
     clear hbase
     simp [Aa,Region.binds,Vs] at hdep
     refine ⟨rfl,.inl ⟨.slice (some ⟨W.heap.size,0,none⟩) 5 5,W.alloc (.cells #[.int .i64 0,.int .i64 0,.string ⟨#[97]⟩,.string ⟨#[97]⟩,.int .i64 1,.int .i64 0,.int .i64 0,.string ⟨#[97]⟩,.string ⟨#[65]⟩,.int .i64 1,.int .i64 0,.int .i64 0,.string ⟨#[97,97]⟩,.string ⟨#[66]⟩,.int .i64 2,.int .i64 0,.int .i64 0,.string ⟨#[98]⟩,.string ⟨#[98]⟩,.int .i64 1,.int .i64 0,.int .i64 0,.string ⟨#[98]⟩,.string ⟨#[]⟩,.int .i64 20] 64),?_,⟨W.heap.size,rfl,heap_alloc_new _ _,hS.size⟩,(Below.refl _ _).alloc (A3 _) _,hS.trans (((Below.refl _ W).alloc (A3 _) _).mono hS.size)⟩⟩
     clear hsz hS;simp [go_sem,Act.eval, *]
    ·
     intro A W bo hsz hS hdep hbase
     have h4:A.tmps.getD 4 undef=.pointer (some ⟨w.heap.size+1+1,0,none⟩):=hbase 4 (by kernel_rfl)
     have h3:A.tmps.getD 3 undef=.pointer (some ⟨w.heap.size+1,0,none⟩):=hbase 3 (by kernel_rfl)
     obtain ⟨z0,z1⟩:=Ak ((hS.block (w.heap.size+1+1) (by omega)).trans HG2.out)
     clear hbase
     simp [Aa,Region.binds,Vs] at hdep
     refine AZ rfl (.inl ⟨_,W,?_,rfl,Ext.refl _⟩);clear hsz hS;simp [go_sem,Act.eval, *]
    · trivial
   case hlast =>
    intro A1 W hsz hdf hS hv hbase
    have hb9:Iu wb.heap.size [⟨0,0,⟨#[97]⟩,⟨#[97]⟩,1⟩,⟨0,0,⟨#[97]⟩,⟨#[65]⟩,1⟩,⟨0,0,⟨#[97,97]⟩,⟨#[66]⟩,2⟩,⟨0,0,⟨#[98]⟩,⟨#[98]⟩,1⟩,⟨0,0,⟨#[98]⟩,⟨#[]⟩,20⟩] (A1.tmps.getD 18 undef) W:=hv 9 (by decide)
    obtain ⟨g,e9,hg,hgB⟩:=hb9
    have e10:A1.tmps.getD 19 undef=.pointer (some ⟨w.heap.size+1,2,none⟩):=hv 10 (by decide)
    have hrep:=(hS.block (w.heap.size+1) (by omega)).trans HG1.out
    refine BW rfl rfl rfl rfl (Ai e10) (Ai e9) (by simp [World.frozen?,hrep]) (cells3 hrep).2.2 (by kernel_rfl) ?_
    obtain ⟨x,hx,hA⟩:=Af [9,10,11,12,13,14,15,16,17,18,19] (by kernel_rfl) hsz hdf hbase
    rw [hA]
    simp only [List.foldl]
    simp only [Act.put,List.setIfInBounds_toArray,List.set_cons_succ,List.set_cons_zero]
    clear hA hx hv hbase hsz hdf
    go_wp2_with fail
    go_meet
    refine ⟨_,rfl,1,[⟨0,0,⟨#[97]⟩,⟨#[97]⟩,1⟩,⟨0,0,⟨#[97]⟩,⟨#[65]⟩,1⟩,⟨0,0,⟨#[97,97]⟩,⟨#[66]⟩,2⟩,⟨0,0,⟨#[98]⟩,⟨#[98]⟩,1⟩,⟨0,0,⟨#[98]⟩,⟨#[]⟩,20⟩],g,by omega,by omega,by decide,by decide,⟨_,by omega,HQ.out,rfl⟩,hgB,?_,Aq hrep rfl,(hS.mono (by omega)).setCell (by show _≤w.heap.size+1;omega) _⟩
    rw [Below.heap_setCell _ _ _ _ (by show g≠w.heap.size+1;omega)]
    exact hg
 case rest =>
  obtain ⟨wc,rfl,mo,R,g,h1,h2,h3,h4,hjx,hgB,hg,hrep,hbc⟩:=hcut
  have HR:=A0 hg
  have HREP:=A0 hrep
  have hres:=(hbc.block w.heap.size (by omega)).trans HG0.out
  have HRES:=A0 hres
  obtain ⟨c0,c1,c2⟩:=cells3 hrep
  obtain ⟨y0,y1,y2⟩:=cells3 hres
  have yf:∀ i,wc.frozen? ⟨w.heap.size,i,none⟩=false:=fun i=>by simp [World.frozen?,HRES.out]
  have HBC:=A0 hbc
  clear hg hrep hres hbc
  go_wp2_with fail
  obtain ⟨r0,r1,r2⟩:=cells3 (LO (a:=.int .i64 mo) (b:=.int .u8 1) (c:=.slice (some ⟨g,0,none⟩) R.length R.length) HRES.out)
  refine bodyPost_ret (v:=.agg #[.int .i64 mo,.int .u8 1,.slice (some ⟨g,0,none⟩) R.length R.length]) (by simp [results,Tryz.results29,go_sem,r0,r1,r2]) rfl (Q0 (B:=wb.heap.size) ?_ hgB (by omega) h1 h2 h3 h4 ?_ hjx)
  ·
   rw [Below.heap_setCell _ _ _ _ (by show g≠w.heap.size;omega),Below.heap_setCell _ _ _ _ (by show g≠w.heap.size;omega),Below.heap_setCell _ _ _ _ (by show g≠w.heap.size;omega)]
   exact HR.out
  · exact (((hbw.trans (HBC.out.mono (by omega))).setCell (by simp) _).setCell (by simp) _).setCell (by simp) _
theorem cells5 {w:World} {g:Nat} {a b c d e:Value} {t:TypeId} {f:Nat × Nat} (h:w.heap[g]? = some (.cells #[a,b,c,d,e] t f)):w.cell? ⟨g,0,none⟩=some a∧w.cell? ⟨g,1,none⟩=some b∧w.cell? ⟨g,2,none⟩=some c∧w.cell? ⟨g,3,none⟩=some d∧w.cell? ⟨g,4,none⟩=some e :=
 ⟨cell_of_row w g 0 _ _ f h,cell_of_row w g 1 _ _ f h,cell_of_row w g 2 _ _ f h,cell_of_row w g 3 _ _ f h,cell_of_row w g 4 _ _ f h⟩
theorem TD {w:World} {g:Nat} {x0 x1 x2 x3 x4 a b c d e:Value} {t:TypeId} {f:Nat × Nat} (h:w.heap[g]? = some (.cells #[x0,x1,x2,x3,x4] t f)) :
  (((((w.setCell ⟨g,0,none⟩ a).setCell ⟨g,1,none⟩ b).setCell ⟨g,2,none⟩ c).setCell ⟨g,3,none⟩ d).setCell ⟨g,4,none⟩ e).heap[g]? = some (.cells #[a,b,c,d,e] t f) :=
 Aq (Aq (Aq (Aq (Aq h rfl) rfl) rfl) rfl) rfl
theorem Q1 {w w':World} {B g:Nat} {a b c d e:Value} (h:Below B w w') (hg:B≤g):Below B w (((((w'.setCell ⟨g,0,none⟩ a).setCell ⟨g,1,none⟩ b).setCell ⟨g,2,none⟩ c).setCell ⟨g,3,none⟩ d).setCell ⟨g,4,none⟩ e) :=
 ((((h.setCell hg _).setCell hg _).setCell hg _).setCell hg _).setCell hg _
set_option maxHeartbeats 12800000 in
theorem
    made1_any (f d c m:Int) (ai ao:Option Addr) (li ci lo co:Nat) (ZI ZO:Nat→Int) (w:World) (hf0:0≤f) (hf1:f≤255) (hd0:0≤d) (hd1:d≤255) (hc0:0≤c) (hc1:c≤255) (hm0:1≤m) (hm1:m≤2) (hI:Bt w ai li ZI) (hO:Bt w ao lo ZO) :
  Calls Tryz.prog 52 #[.agg #[.slice ai li ci,.slice ao lo co,.int .u8 f,.int .u8 d,.int .u8 c],.int .i64 m] w fun e w'=>∃ r:Rl,e=.returned (.agg #[.int .i64 r.frm,.int .i64 r.dst,.string r.inp,.string r.out,.int .i64 r.cost])∧r.inp.size≤2∧r.out.size≤2∧Below w.heap.size w w':=by
 have HI:=A0 hI;have HO:=A0 hO;clear hI hO
 have hmz:m≠0:=by omega
 go_enter Tryz.func52,Tryz.ntmps52
 go_upto_region 2 with fail
 have hmb:(m == 0)=false:=by simp;omega
 go_region
 go_upto_block 0 with fail
 have HB0:Hid (Below (w.heap.size+2) ((w.alloc (.cells #[.slice ai li ci,.slice ao lo co,.int .u8 f,.int .u8 d,.int .u8 c] 106)).alloc (.cells #[.int .i64 0,.int .i64 0,.string ⟨#[]⟩,.string ⟨#[]⟩,.int .i64 0] 64)) ((((w.alloc (.cells #[.slice ai li ci,.slice ao lo co,.int .u8 f,.int .u8 d,.int .u8 c] 106)).alloc (.cells #[.int .i64 0,.int .i64 0,.string ⟨#[]⟩,.string ⟨#[]⟩,.int .i64 0] 64)).alloc (.cells #[.int .i64 (f % m),.int .i64 (d % m),.string ⟨#[]⟩,.string ⟨#[]⟩,.int .i64 (c*2)] 64))).drew):=(((Below.refl _ _).alloc (by simp) _).trans (below_drewN _ 1))
 have HR0:Hid (((((w.alloc (.cells #[.slice ai li ci,.slice ao lo co,.int .u8 f,.int .u8 d,.int .u8 c] 106)).alloc (.cells #[.int .i64 0,.int .i64 0,.string ⟨#[]⟩,.string ⟨#[]⟩,.int .i64 0] 64)).alloc (.cells #[.int .i64 (f % m),.int .i64 (d % m),.string ⟨#[]⟩,.string ⟨#[]⟩,.int .i64 (c*2)] 64))).drew.heap[w.heap.size+1+1]? = some (.cells #[.int .i64 (f % m),.int .i64 (d % m),.string ⟨#[]⟩,.string ⟨#[]⟩,.int .i64 (c*2)] 64 (0,0))):=by
  have:=heap_alloc_new ((w.alloc (.cells #[.slice ai li ci,.slice ao lo co,.int .u8 f,.int .u8 d,.int .u8 c] 106)).alloc (.cells #[.int .i64 0,.int .i64 0,.string ⟨#[]⟩,.string ⟨#[]⟩,.int .i64 0] 64)) (.cells #[.int .i64 (f % m),.int .i64 (d % m),.string ⟨#[]⟩,.string ⟨#[]⟩,.int .i64 (c*2)] 64)
  simp only [A6] at this
  exact this
 go_cut [] (fun wx=>∃ wz:World,wz=wx∧∃ s:ByteArray,s.size≤2∧wz.heap[w.heap.size+1+1]? = some (.cells #[.int .i64 (f % m),.int .i64 (d % m),.string s,.string ⟨#[]⟩,.int .i64 (c*2)] 64 (0,0))∧Below (w.heap.size+2) ((w.alloc (.cells #[.slice ai li ci,.slice ao lo co,.int .u8 f,.int .u8 d,.int .u8 c] 106)).alloc (.cells #[.int .i64 0,.int .i64 0,.string ⟨#[]⟩,.string ⟨#[]⟩,.int .i64 0] 64)) wz)
 case first =>
  go_wp2_with fail
  go_loopw [6] (fun i wr=>∃ (j:Nat) (s:ByteArray),j≤2∧i=.int .i64 j∧s.size=j∧wr.heap[w.heap.size+1+1]? = some (.cells #[.int .i64 (f % m),.int .i64 (d % m),.string s,.string ⟨#[]⟩,.int .i64 (c*2)] 64 (0,0))∧Below (w.heap.size+2) ((w.alloc (.cells #[.slice ai li ci,.slice ao lo co,.int .u8 f,.int .u8 d,.int .u8 c] 106)).alloc (.cells #[.int .i64 0,.int .i64 0,.string ⟨#[]⟩,.string ⟨#[]⟩,.int .i64 0] 64)) wr) (fun i _=>2 - (intOf i).toNat)
  case atStart=>exact ⟨0,⟨#[]⟩,by omega,rfl,rfl,HR0.out,HB0.out⟩
  case round =>
   obtain ⟨j,s,hj,rfl,hs,hrep,hal⟩:=hrel
   have HREP:=A0 hrep;have HAL:=A0 hal;have HS:=A0 hs
   have hB:Below w.heap.size w wr:=(((Below.refl _ _).alloc (A3 _) _).alloc (by simp) _).trans (hal.mono (by omega))
   have HB:=A0 hB
   obtain ⟨hz,hc,hf⟩:=B7 hal rfl
   simp only [A6] at hz
   have r0:=cell_of_row wr _ 0 _ _ (0,0) hrep
   have r1:=cell_of_row wr _ 1 _ _ (0,0) hrep
   have r2:=cell_of_row wr _ 2 _ _ (0,0) hrep
   have r3:=cell_of_row wr _ 3 _ _ (0,0) hrep
   have r4:=cell_of_row wr _ 4 _ _ (0,0) hrep
   have rf:∀ i,wr.frozen? ⟨w.heap.size+1+1,i,none⟩=false:=fun i=>by simp [World.frozen?,hrep]
   clear hrep hal hB hs
   by_cases hjl:j<li
   ·
    by_cases hj2:j<2
    ·
     have hj2I:(j:Int)<2:=by omega
     obtain ⟨bz,oz,hza,hzb,hzc,hz0',hz1'⟩:=(HI.out.later HB.out (A3 _)).at hjl
     have hidz:=EO ai bz oz li ci j hza hjl
     have HZA:=A0 hza;clear hza
     have hx0:(⟨#[97,98,99]⟩:ByteArray).extract 0 1=⟨#[97]⟩:=by decide
     have hx1:(⟨#[97,98,99]⟩:ByteArray).extract 1 2=⟨#[98]⟩:=by decide
     have hx2:(⟨#[97,98,99]⟩:ByteArray).extract 2 3=⟨#[99]⟩:=by decide
     have hcat:∀ (y:UInt8) (W:World),(Op.stringOp .add s ⟨#[y]⟩).run Tryz.prog W=.ok (.string (s ++ ⟨#[y]⟩)) W:=fun y W=>run_string_add_sum W s ⟨#[y]⟩ (by have:=HS.out;rw [this];show j+1≤_;omega)
     rcases (show ZI j % 3=0∨ZI j % 3=1∨ZI j % 3=2 by omega) with h3 | h3 | h3
     all_goals
      go_upto_region 5 with fail
      go_region
      go_wp2_with fail
      go_roundw
      case rel=>exact ⟨j+1,_,by omega,by go_num,by rw [ByteArray.size_append,HS.out];rfl,Aq HREP.out rfl,(HAL.out.setCell (by show _≤w.heap.size+1+1;omega) _).trans (below_drewN _ 1)⟩
      case measure=>simp [intOf];omega
    ·
     obtain rfl:j=2:=by omega
     go_wp2_with fail
     go_meet
     exact ⟨_,rfl,s,by have:=HS.out;omega,HREP.out,HAL.out⟩
   ·
    have hjI:¬ (j:Int)<(li:Int):=by omega
    go_wp2_with fail
    go_meet
    exact ⟨_,rfl,s,by have:=HS.out;omega,HREP.out,HAL.out⟩
 case rest
      =>
  obtain ⟨wc,rfl,s1,hs1,hrep1,hb1⟩:=hcut
  have HR1:=A0 hrep1;have HB1:=A0 hb1;have HS1:=A0 hs1
  clear hrep1 hb1 hs1
  have HZ0:Hid (((w.alloc (.cells #[.slice ai li ci,.slice ao lo co,.int .u8 f,.int .u8 d,.int .u8 c] 106)).alloc (.cells #[.int .i64 0,.int .i64 0,.string ⟨#[]⟩,.string ⟨#[]⟩,.int .i64 0] 64)).heap[w.heap.size+1]? = some (.cells #[.int .i64 0,.int .i64 0,.string ⟨#[]⟩,.string ⟨#[]⟩,.int .i64 0] 64 (0,0))):=by
   have:=heap_alloc_new (w.alloc (.cells #[.slice ai li ci,.slice ao lo co,.int .u8 f,.int .u8 d,.int .u8 c] 106)) (.cells #[.int .i64 0,.int .i64 0,.string ⟨#[]⟩,.string ⟨#[]⟩,.int .i64 0] 64)
   simp only [A6] at this
   exact this
  go_wp2_with fail
  go_loopw [7] (fun i wr=>∃ (j:Nat) (s:ByteArray),j≤2∧i=.int .i64 j∧s.size=j∧wr.heap[w.heap.size+1+1]? = some (.cells #[.int .i64 (f % m),.int .i64 (d % m),.string s1,.string s,.int .i64 (c*2)] 64 (0,0))∧Below (w.heap.size+2) ((w.alloc (.cells #[.slice ai li ci,.slice ao lo co,.int .u8 f,.int .u8 d,.int .u8 c] 106)).alloc (.cells #[.int .i64 0,.int .i64 0,.string ⟨#[]⟩,.string ⟨#[]⟩,.int .i64 0] 64)) wr) (fun i _=>2 - (intOf i).toNat)
  case atStart=>exact ⟨0,⟨#[]⟩,by omega,rfl,rfl,HR1.out,HB1.out⟩
  case round =>
   obtain ⟨j,s,hj,rfl,hs,hrep,hal⟩:=hrel
   have HREP:=A0 hrep;have HAL:=A0 hal;have HS:=A0 hs
   have hB:Below w.heap.size w wr:=(((Below.refl _ _).alloc (A3 _) _).alloc (by simp) _).trans (hal.mono (by omega))
   have HB:=A0 hB
   obtain ⟨hz,hc,hf⟩:=B7 hal rfl
   simp only [A6] at hz
   have r0:=cell_of_row wr _ 0 _ _ (0,0) hrep
   have r1:=cell_of_row wr _ 1 _ _ (0,0) hrep
   have r2:=cell_of_row wr _ 2 _ _ (0,0) hrep
   have r3:=cell_of_row wr _ 3 _ _ (0,0) hrep
   have r4:=cell_of_row wr _ 4 _ _ (0,0) hrep
   have rf:∀ i,wr.frozen? ⟨w.heap.size+1+1,i,none⟩=false:=fun i=>by simp [World.frozen?,hrep]
   have HZ1:=A0 ((hal.block (w.heap.size+1) (by omega)).trans HZ0.out)
   obtain ⟨y0,y1,y2,y3,y4⟩:=cells5 HZ1.out
   have yf:∀ i,wr.frozen? ⟨w.heap.size+1,i,none⟩=false:=fun i=>by simp [World.frozen?,HZ1.out]
   clear hrep hal hB hs
   by_cases hjl:j<lo
   ·
    by_cases hj2:j<2
    ·
     have hj2I:(j:Int)<2:=by omega
     obtain ⟨bz,oz,hza,hzb,hzc,hz0',hz1'⟩:=(HO.out.later HB.out (A3 _)).at hjl
     have hidz:=EO ao bz oz lo co j hza hjl
     have HZA:=A0 hza;clear hza
     have hx0:(⟨#[97,98,99,65,66,49]⟩:ByteArray).extract 0 1=⟨#[97]⟩:=by decide
     have hx1:(⟨#[97,98,99,65,66,49]⟩:ByteArray).extract 1 2=⟨#[98]⟩:=by decide
     have hx2:(⟨#[97,98,99,65,66,49]⟩:ByteArray).extract 2 3=⟨#[99]⟩:=by decide
     have hx3:(⟨#[97,98,99,65,66,49]⟩:ByteArray).extract 3 4=⟨#[65]⟩:=by decide
     have hx4:(⟨#[97,98,99,65,66,49]⟩:ByteArray).extract 4 5=⟨#[66]⟩:=by decide
     have hx5:(⟨#[97,98,99,65,66,49]⟩:ByteArray).extract 5 6=⟨#[49]⟩:=by decide
     have hcat:∀ (y:UInt8) (W:World),(Op.stringOp .add s ⟨#[y]⟩).run Tryz.prog W=.ok (.string (s ++ ⟨#[y]⟩)) W:=fun y W=>run_string_add_sum W s ⟨#[y]⟩ (by have:=HS.out;rw [this];show j+1≤_;omega)
     rcases (show ZO j % 6=0∨ZO j % 6=1∨ZO j % 6=2∨ZO j % 6=3∨ZO j % 6=4∨ZO j % 6=5 by omega) with h3 | h3 | h3 | h3 | h3 | h3
     all_goals
      go_upto_region 9 with fail
      go_region
      go_wp2_with fail
      go_roundw
      case rel=>exact ⟨j+1,_,by omega,by go_num,by rw [ByteArray.size_append,HS.out];rfl,Aq HREP.out rfl,(HAL.out.setCell (by show _≤w.heap.size+1+1;omega) _).trans (below_drewN _ 1)⟩
      case measure=>simp [intOf];omega
    ·
     obtain rfl:j=2:=by omega
     go_wp2_with fail
     obtain ⟨c0,c1,c2,c3,c4⟩:=cells5 (TD (a:=.int .i64 (f % m)) (b:=.int .i64 (d % m)) (c:=.string s1) (d:=.string s) (e:=.int .i64 (c*2)) HZ1.out)
     refine bodyPost_ret (v:=.agg #[.int .i64 (f % m),.int .i64 (d % m),.string s1,.string s,.int .i64 (c*2)]) (by simp [results,Tryz.results52,go_sem,c0,c1,c2,c3,c4]) rfl ⟨⟨f % m,d % m,s1,s,c*2⟩,rfl,HS1.out,by have:=HS.out;show s.size≤2;omega,Q1 HB.out (by omega)⟩
   ·
    have hjI:¬ (j:Int)<(lo:Int):=by omega
    go_wp2_with fail
    obtain ⟨c0,c1,c2,c3,c4⟩:=cells5 (TD (a:=.int .i64 (f % m)) (b:=.int .i64 (d % m)) (c:=.string s1) (d:=.string s) (e:=.int .i64 (c*2)) HZ1.out)
    refine bodyPost_ret (v:=.agg #[.int .i64 (f % m),.int .i64 (d % m),.string s1,.string s,.int .i64 (c*2)]) (by simp [results,Tryz.results52,go_sem,c0,c1,c2,c3,c4]) rfl ⟨⟨f % m,d % m,s1,s,c*2⟩,rfl,HS1.out,by have:=HS.out;show s.size≤2;omega,Q1 HB.out (by omega)⟩
def Ew (w:World) (B:Nat) (v:Value) (R:List Rl):Prop :=
 CX w B v R∨∃ (g:Nat) (r0:Rl),v=.slice (some ⟨g,5,none⟩) R.length R.length∧B≤g∧w.heap[g]? = some (.cells (B9 (r0 :: R)).toArray 64 (0,0))
section
variable {w w1:World} {B C:Nat} {v:Value} {R:List Rl}
theorem Ew.below (h:Ew w B v R) (hb:Below C w w1) (hv:∀ g,v.ownBlock=some g→g<C):Ew w1 B v R:=by
 refine h.imp (fun h=>h.below hb hv) ?_
 rintro ⟨g,r0,rfl,h1,h2⟩
 exact ⟨g,r0,rfl,h1,(hb.block g (hv g rfl)).trans h2⟩
theorem Ew.ge (h:Ew w B v R):∀ g,v.ownBlock=some g→B≤g:=by
 rcases h with h | ⟨g,r0,rfl,h1,h2⟩
 · exact h.ge
 · intro q hq;cases hq;exact h1
theorem Ew.lt (h:Ew w B v R):∀ g,v.ownBlock=some g→g<w.heap.size:=by
 rcases h with h | ⟨g,r0,rfl,h1,h2⟩
 · exact h.lt
 · intro q hq;cases hq;exact (A5.1 h2).1
theorem Iv {g:Nat} {r0:Rl} (h2:w.heap[g]? = some (.cells (B9 (r0 :: R)).toArray 64 (0,0))):∀ j u,(B9 R)[j]? = some u→w.cell? ((⟨g,5,none⟩:Addr).add j)=some u:=by
 intro j u hj
 rw [Addr.add_lit,cell_of_row w g (5+j) _ _ (0,0) h2,List.getElem?_toArray]
 rw [show B9 (r0 :: R)=r0.cells ++ B9 R by simp [B9],AJ (by simp [Rl.cells])]
 rw [← hj];congr 1;simp [Rl.cells]
theorem
    Ew.rules (h:Ew w B v R):∃ a c,v=.slice a R.length c∧BJ w a R∧R.length≤c:=by
 rcases h with h | ⟨g,r0,rfl,h1,h2⟩
 · exact h.rules
 ·
  refine ⟨_,_,rfl,.inr ⟨g,5,rfl,(A5.1 h2).1,fun i hi=>?_⟩,A3 _⟩
  have hc:∀ j,j<5→w.cell? ⟨g,5+i*5+j,none⟩=R[i].cells[j]?:=fun j hj=>by
   have hg:=GG (R:=R) hi hj
   cases hq:R[i].cells[j]? with
   | none=>simp [Rl.cells] at hq;omega
   | some u =>
    rw [hq] at hg
    have:=Iv h2 (i*5+j) u hg
    rw [Addr.add_lit] at this
    rw [Nat.add_assoc]
    exact this
  exact ⟨hc 0 (by omega),hc 1 (by omega),hc 2 (by omega),hc 3 (by omega),hc 4 (by omega)⟩
theorem Ew.set {g i:Nat} {u:Value} (h:Ew w B v R) (hg:g<B):Ew (w.setCell ⟨g,i,none⟩ u) B v R:=by
 refine h.imp (fun h=>h.set hg) ?_
 rintro ⟨b,r0,rfl,h1,h2⟩
 refine ⟨b,r0,rfl,h1,?_⟩
 rw [Below.heap_setCell _ _ _ _ (by show b≠g;omega)];exact h2
end
theorem
    opres_rowp {A:Act} {W:World} {o:Oper} {s x:Operand} {B:Nat} {v u:Value} {R:List Rl} {r:Rl}
  (ho:o.op=.call { callee:=.builtin .append,args:=#[s,x],argTypes:=#[30,30] }) (hs:A.eval s=v) (hown:Ew W B v R) (hx:A.eval x=u) (hu:Hm v r u W) (hl:R.length<1000) (hB:B≤W.heap.size) :
  Ep Tryz.prog A o W (fun v' w'=>CX w' B v' (R ++ [r])∧W.grownBy w' v.ownBlock):=by
 rcases hown with hown | ⟨g0,r0,hv0,h1,h2⟩
 · exact Ml ho hs hown hx hu hl hB
 ·
  obtain ⟨i0,hi,hz0,hz1,hz2⟩:=info_parts I9
  obtain ⟨g,hv,hg,hne⟩:=hu
  have h63:R.length+1≤maxLen:=by unfold maxLen;omega
  have hr:=run_append_grow (P:=Tryz.prog) W 30 o.type 64 i0 _ Tryz.underlying30 hi hz0 ⟨g0,5,none⟩ R.length R.length (B9 R) (by rw [hz1];exact C0 R) (Iv h2) ⟨g,0,none⟩ 1 1 r.cells (by rw [hz1];rfl) (G1 hg) (by omega) (by omega) (growslice_fits (by omega) (by rw [hz2];omega))
  obtain ⟨v',w',hv',hw',hr⟩:∃ v' w',v'=_∧w'=_∧(Builtin.append_ #[30,30] o.type #[.slice (some ⟨g0,5,none⟩) R.length R.length,.slice (some ⟨g,0,none⟩) 1 1]).run Tryz.prog W=.ok v' w':=⟨_,_,rfl,rfl,hr⟩
  refine .inl ⟨v',w',?_,?_,?_⟩
  ·
   unfold execOp
   simp only [ho,resolve,invoke,builtin,Sem.run_bind,Sem.run_pure,Result.andThen_ok,List.map_toArray,List.map_cons,List.map_nil,hs,hx,hv,hv0,hr]
  ·
   subst hv' hw'
   have e:B9 R ++ r.cells=B9 (R ++ [r]):=by simp [B9]
   have e2:(R ++ [r]).length=R.length+1:=by simp
   have hge:=grownCap_ge W (R.length+1) R.length 64
   refine ⟨by rw [C0],.inr ⟨W.heap.size,_,_,by rw [e2],hB,heap_alloc_new W.drew _,by rw [e2];exact hge,grownCap_le_maxLen W (R.length+1) R.length _ h63,?_,?_⟩⟩
   ·
    simp only [Array.size_append,List.size_toArray,size_zeroCells,C0]
    have:r.cells.length=5:=rfl
    rw [this]
    simp [Value.cells]
    omega
   ·
    simp only [Array.toList_append,List.append_assoc]
    rw [← List.append_assoc,e,← C0]
    exact List.take_left
  ·
   subst hw'
   exact ⟨rfl,rfl,rfl,by simp,fun k hk _=>Below.heap_alloc W.drew _ k hk⟩
end Go.Proofs.YthjmdgejnakcmaaGreatDoor.Fl
