/- Texts that the claims share: Base, Made1, Made2. -/
import Derived.Deep.CutBlock
import Derived.Laws.Concat
import Derived.Test.YtpljngaejaehcaaGreatDoorMF2
import Derived.Test.YtpljngaejaehcaaGreatDoorMD1
set_option maxHeartbeats 12800000
set_option maxRecDepth 100000
set_option linter.unusedVariables false
set_option linter.unusedSimpArgs false
namespace Go.Proofs.YtpljngaejaehcaaGreatDoor.Fl
open Go.RowKit
theorem As (x y:Int) (s o:ByteArray) (w:World) (hs:s.size≤1000) :
  Calls Tryz.prog 50 #[.agg #[.int .i64 x,.int .i64 y],.string s,.string o] w fun e w'=>e=.returned (.agg #[.int .i64 x,.int .i64 y,.string s,.string o,.int .i64 (s.size:Int)])∧Below w.heap.size w w':=by
 go_enter Tryz.func50,Tryz.ntmps50
 go_wp2_with fail
 refine bodyPost_ret (v:=.agg #[.int .i64 x,.int .i64 y,.string s,.string o,.int .i64 (s.size:Int)]) (by simp [results,Tryz.results50,go_sem]) rfl ⟨rfl,by go_grown⟩
theorem Ah {w:World} {g:Nat} {a b:Value} {t:TypeId} {f:Nat × Nat} (h:w.heap[g]? = some (.cells #[a,b] t f)):w.cell? ⟨g,0,none⟩=some a∧w.cell? ⟨g,1,none⟩=some b :=
 ⟨cell_of_row w g 0 _ _ f h,cell_of_row w g 1 _ _ f h⟩
def IX (B:Nat) (R:List Rl) (v:Value) (W:World):Prop:=∃ g,v=.slice (some ⟨g,0,none⟩) R.length R.length∧W.heap[g]? = some (.cells (B3 R).toArray 88 (0,0))∧B≤g
theorem Bi (B:Nat) (R:List Rl):Bb (IX B R):=by
 rintro v w w' ⟨g,hv,hg,hB⟩ hx;exact ⟨g,hv,(Below.block hx g (A5.1 hg).1).trans hg,hB⟩
theorem LX {B g:Nat} {R:List Rl} {W:World} (hg:W.heap[g]? = some (.cells (B3 R).toArray 88 (0,0))) (hB:B≤g) (hl:R.length≤1000):C6 W B (.slice (some ⟨g,0,none⟩) R.length R.length) R:=by
 refine ⟨Bh R,.inr ⟨g,R.length,(B3 R).toArray,rfl,hB,hg,A3 _,by unfold maxLen;omega,by simp [Bh],?_⟩⟩;rw [List.toList_toArray,← Bh R,List.take_length]
def Pm (j:Nat):Sch:=match j with
 | 0=>⟨1,1,[⟨0,0,⟨#[97]⟩,⟨#[97]⟩,1⟩,⟨0,0,⟨#[98]⟩,⟨#[98]⟩,1⟩,⟨0,0,⟨#[99]⟩,⟨#[99]⟩,1⟩]⟩
 | 1=>⟨1,1,[⟨0,0,⟨#[97]⟩,⟨#[65]⟩,1⟩,⟨0,0,⟨#[98,97]⟩,⟨#[66]⟩,2⟩,⟨0,0,⟨#[99,97]⟩,⟨#[67]⟩,2⟩,⟨0,0,⟨#[98]⟩,⟨#[98]⟩,1⟩]⟩
 | 2=>⟨2,1,[⟨0,1,⟨#[99]⟩,⟨#[]⟩,1⟩,⟨1,0,⟨#[97]⟩,⟨#[65]⟩,1⟩,⟨1,0,⟨#[98]⟩,⟨#[66]⟩,1⟩,⟨0,0,⟨#[97]⟩,⟨#[97]⟩,1⟩,⟨0,0,⟨#[98]⟩,⟨#[98]⟩,1⟩]⟩
 | 3=>⟨1,1,[⟨0,0,⟨#[97]⟩,⟨#[97]⟩,1⟩,⟨0,0,⟨#[98]⟩,⟨#[98]⟩,1⟩,⟨0,0,⟨#[97,98]⟩,⟨#[97,98,99,49]⟩,2⟩,⟨0,0,⟨#[99]⟩,⟨#[99]⟩,1⟩]⟩
 | 4=>⟨1,1,[⟨0,0,⟨#[97]⟩,⟨#[97]⟩,1⟩,⟨0,0,⟨#[98]⟩,⟨#[98]⟩,0⟩,⟨0,0,⟨#[99]⟩,⟨#[98]⟩,7⟩,⟨0,0,⟨#[98]⟩,⟨#[99]⟩,9⟩]⟩
 | _=>⟨1,1,[⟨0,0,⟨#[97]⟩,⟨#[97]⟩,1⟩,⟨0,0,⟨#[97]⟩,⟨#[65]⟩,1⟩,⟨0,0,⟨#[97,97]⟩,⟨#[66]⟩,2⟩,⟨0,0,⟨#[98]⟩,⟨#[98]⟩,1⟩,⟨0,0,⟨#[98]⟩,⟨#[]⟩,20⟩]⟩
def LY (k:Int) (w:World) (e:Ending) (w':World):Prop :=
 ∃ (S:Sch) (b:Option Addr) (n:Nat),e=.returned (.agg #[.int .i64 S.modes,.int .u8 S.acc,.slice b S.rules.length n])∧n=S.rules.length∧1≤S.modes∧S.modes≤2∧S.acc=1∧2≤S.rules.length∧S.rules.length≤5∧C6 w' w.heap.size (.slice b S.rules.length n) S.rules∧Below w.heap.size w w'∧∃ j:Nat,j<6∧k % 6=(j:Int)∧S=Pm j
theorem Pn {w w':World} {B g:Nat} {mo:Int} {R:List Rl} (hg:w'.heap[g]? = some (.cells (B3 R).toArray 88 (0,0))) (hB:B≤g) (hw:w.heap.size≤B) (h1:1≤mo) (h2:mo≤2) (h3:2≤R.length) (h4:R.length≤5) (hb:Below w.heap.size w w') {k:Int} (hj:∃ j:Nat,j<6∧k % 6=(j:Int)∧(⟨mo,1,R⟩:Sch)=Pm j):LY k w (.returned (.agg #[.int .i64 mo,.int .u8 1,.slice (some ⟨g,0,none⟩) R.length R.length])) w' :=
 ⟨⟨mo,1,R⟩,_,_,rfl,rfl,h1,h2,rfl,h3,h4,(LX hg hB (by omega)).mono hw,hb,hj⟩
theorem base_any (k:Int) (w:World) (hk0:0≤k) (hk1:k≤255) :
  Calls Tryz.prog 23 #[.int .u8 k] w (LY k w):=by
 go_enter Tryz.func23,Tryz.ntmps23
 go_upto_block 0 with fail
 obtain ⟨wb,ji⟩:∃ wb,wb=((w.alloc (.cells #[.int .i64 0,.int .u8 0,.slice none 0 0] 33)).alloc (.cells #[.int .i64 1,.int .u8 1,.slice none 0 0] 33)).alloc (.cells #[.int .i64 0,.int .i64 0] 114):=⟨_,rfl⟩
 have hb0:Below (w.heap.size+1) wb wb:=Below.refl _ _;have hws:wb.heap.size=w.heap.size+3:=by rw [ji];simp
 have jk:Hid (wb.heap[w.heap.size+1]? = some (.cells #[.int .i64 1,.int .u8 1,.slice none 0 0] 33 (0,0))):=by
  show _=_;rw [ji,Below.heap_alloc _ _ _ (by simp only [A6];omega)];have:=heap_alloc_new (w.alloc (.cells #[.int .i64 0,.int .u8 0,.slice none 0 0] 33)) (.cells #[.int .i64 1,.int .u8 1,.slice none 0 0] 33);simpa only [A6] using this
 have jd:Hid (wb.heap[w.heap.size+1+1]? = some (.cells #[.int .i64 0,.int .i64 0] 114 (0,0))):=by
  show _=_;rw [ji];have:=heap_alloc_new ((w.alloc (.cells #[.int .i64 0,.int .u8 0,.slice none 0 0] 33)).alloc (.cells #[.int .i64 1,.int .u8 1,.slice none 0 0] 33)) (.cells #[.int .i64 0,.int .i64 0] 114);simpa only [A6] using this
 have jw:Hid (wb.heap[w.heap.size]? = some (.cells #[.int .i64 0,.int .u8 0,.slice none 0 0] 33 (0,0))):=by
  show _=_;rw [ji,Below.heap_alloc _ _ _ (by simp only [A6];omega),Below.heap_alloc _ _ _ (by simp only [A6];omega)];exact heap_alloc_new _ _
 have jy:Below w.heap.size w wb:=by rw [ji];exact (((Below.refl _ w).alloc (A3 _) _).alloc (by simp only [A6];omega) _).alloc (by simp only [A6];omega) _
 have HWB:=A0 ji;rw [← ji];clear ji
 go_cut [] (fun wx=>∃ wc:World,wc=wx∧∃ (mo:Int) (R:List Rl) (g:Nat),1≤mo∧mo≤2∧2≤R.length∧R.length≤5∧(∃ j:Nat,j<6∧k % 6=(j:Int)∧(⟨mo,1,R⟩:Sch)=Pm j)∧wb.heap.size≤g∧wc.heap[g]? = some (.cells (B3 R).toArray 88 (0,0))∧wc.heap[w.heap.size+1]? = some (.cells #[.int .i64 mo,.int .u8 1,.slice (some ⟨g,0,none⟩) R.length R.length] 33 (0,0))∧Below (w.heap.size+1) wb wc)
 case first =>
  rcases (show k % 6=0∨k % 6=1∨k % 6=2∨k % 6=3∨k % 6=4∨k % 6=5 by omega) with hq | hq | hq | hq | hq | hq
  ·have jm:((k % 6:Int) == 0)=true:=by rw [hq];rfl
   have jn:((k % 6:Int) == 1)=false:=by rw [hq];rfl
   have jo:((k % 6:Int) == 2)=false:=by rw [hq];rfl
   have jp:((k % 6:Int) == 3)=false:=by rw [hq];rfl
   have jq:((k % 6:Int) == 4)=false:=by rw [hq];rfl
   have HQ:Hid (k % 6=((0:Nat):Int)):=hq;clear hq
   go_upto_region 6 with fail
   refine Bw (by kernel_rfl) (Vs [fun v _=>v=.agg #[.int .i64 0,.int .i64 0],fun v _=>v=.agg #[.int .i64 0,.int .i64 0,.string ⟨#[97]⟩,.string ⟨#[97]⟩,.int .i64 1],fun v _=>v=.agg #[.int .i64 0,.int .i64 0],fun v _=>v=.agg #[.int .i64 0,.int .i64 0,.string ⟨#[98]⟩,.string ⟨#[98]⟩,.int .i64 1],fun v _=>v=.agg #[.int .i64 0,.int .i64 0],fun v _=>v=.agg #[.int .i64 0,.int .i64 0,.string ⟨#[99]⟩,.string ⟨#[99]⟩,.int .i64 1],IX wb.heap.size [⟨0,0,⟨#[97]⟩,⟨#[97]⟩,1⟩,⟨0,0,⟨#[98]⟩,⟨#[98]⟩,1⟩,⟨0,0,⟨#[99]⟩,⟨#[99]⟩,1⟩],fun v _=>v=.pointer (some ⟨w.heap.size+1,2,none⟩)]) (fun _ W=>Below wb.heap.size wb W) (fun W W'=>Ext W W') 78 6 8 (by kernel_rfl) rfl (by omega) ?hVx ?hVm ?hSx ?hS ?hop ?hlast
   case hVx=>exact Af (by simp only [AS,List.not_mem_nil,or_false,forall_eq_or_imp,forall_eq];exact ⟨AW _,AW _,AW _,AW _,AW _,AW _,Bi _ _,AW _⟩)
   case hVm=>exact fun i v w w' _ h hx=>Af (by simp only [AS,List.not_mem_nil,or_false,forall_eq_or_imp,forall_eq];exact ⟨AW _,AW _,AW _,AW _,AW _,AW _,Bi _ _,AW _⟩) i v w w' h hx
   case hSx=>exact fun bo W W' h hx=>h.trans (Below.mono hx h.size)
   case hS=>exact Below.refl _ _
   case hop =>
    refine ⟨?_,?_,?_,?_,?_,?_,?_,?_,?_,trivial⟩
    all_goals first | rw [if_neg (by decide),if_neg (by decide)] | rw [if_neg (by decide),if_pos (by decide)] | rw [if_pos (by decide)]
    ·intro A W bo jc hS jb ja;have h4:A.tmps.getD 4 undef=.pointer (some ⟨w.heap.size+1+1,0,none⟩):=ja 4 (by kernel_rfl);have h3:A.tmps.getD 3 undef=.pointer (some ⟨w.heap.size+1,0,none⟩):=ja 3 (by kernel_rfl);obtain ⟨z0,z1⟩:=Ah ((hS.block (w.heap.size+1+1) (by omega)).trans jd.out);clear ja;simp [AY,Region.binds,Vs] at jb;refine AX rfl (.inl ⟨_,W,?_,rfl,Ext.refl _⟩);clear jc hS;simp [go_sem,Act.eval, *]
    ·intro A W bo jc hS jb ja;have h4:A.tmps.getD 4 undef=.pointer (some ⟨w.heap.size+1+1,0,none⟩):=ja 4 (by kernel_rfl);have h3:A.tmps.getD 3 undef=.pointer (some ⟨w.heap.size+1,0,none⟩):=ja 3 (by kernel_rfl);obtain ⟨z0,z1⟩:=Ah ((hS.block (w.heap.size+1+1) (by omega)).trans jd.out);clear ja;simp [AY,Region.binds,Vs] at jb;refine AX rfl (.inr ⟨50,#[.agg #[.int .i64 0,.int .i64 0],.string ⟨#[97]⟩,.string ⟨#[97]⟩],W,by (clear jc hS;simp [go_sem,Act.eval, *]),?_⟩);refine (As 0 0 ⟨#[97]⟩ ⟨#[97]⟩ W (by decide)).mono ?_;rintro e w' ⟨rfl,hb⟩;exact ⟨_,rfl,rfl,hb⟩
    ·intro A W bo jc hS jb ja;have h4:A.tmps.getD 4 undef=.pointer (some ⟨w.heap.size+1+1,0,none⟩):=ja 4 (by kernel_rfl);have h3:A.tmps.getD 3 undef=.pointer (some ⟨w.heap.size+1,0,none⟩):=ja 3 (by kernel_rfl);obtain ⟨z0,z1⟩:=Ah ((hS.block (w.heap.size+1+1) (by omega)).trans jd.out);clear ja;simp [AY,Region.binds,Vs] at jb;refine AX rfl (.inl ⟨_,W,?_,rfl,Ext.refl _⟩);clear jc hS;simp [go_sem,Act.eval, *]
    ·intro A W bo jc hS jb ja;have h4:A.tmps.getD 4 undef=.pointer (some ⟨w.heap.size+1+1,0,none⟩):=ja 4 (by kernel_rfl);have h3:A.tmps.getD 3 undef=.pointer (some ⟨w.heap.size+1,0,none⟩):=ja 3 (by kernel_rfl);obtain ⟨z0,z1⟩:=Ah ((hS.block (w.heap.size+1+1) (by omega)).trans jd.out);clear ja;simp [AY,Region.binds,Vs] at jb;refine AX rfl (.inr ⟨50,#[.agg #[.int .i64 0,.int .i64 0],.string ⟨#[98]⟩,.string ⟨#[98]⟩],W,by (clear jc hS;simp [go_sem,Act.eval, *]),?_⟩);refine (As 0 0 ⟨#[98]⟩ ⟨#[98]⟩ W (by decide)).mono ?_;rintro e w' ⟨rfl,hb⟩;exact ⟨_,rfl,rfl,hb⟩
    ·intro A W bo jc hS jb ja;have h4:A.tmps.getD 4 undef=.pointer (some ⟨w.heap.size+1+1,0,none⟩):=ja 4 (by kernel_rfl);have h3:A.tmps.getD 3 undef=.pointer (some ⟨w.heap.size+1,0,none⟩):=ja 3 (by kernel_rfl);obtain ⟨z0,z1⟩:=Ah ((hS.block (w.heap.size+1+1) (by omega)).trans jd.out);clear ja;simp [AY,Region.binds,Vs] at jb;refine AX rfl (.inl ⟨_,W,?_,rfl,Ext.refl _⟩);clear jc hS;simp [go_sem,Act.eval, *]
    ·intro A W bo jc hS jb ja;have h4:A.tmps.getD 4 undef=.pointer (some ⟨w.heap.size+1+1,0,none⟩):=ja 4 (by kernel_rfl);have h3:A.tmps.getD 3 undef=.pointer (some ⟨w.heap.size+1,0,none⟩):=ja 3 (by kernel_rfl);obtain ⟨z0,z1⟩:=Ah ((hS.block (w.heap.size+1+1) (by omega)).trans jd.out);clear ja;simp [AY,Region.binds,Vs] at jb;refine AX rfl (.inr ⟨50,#[.agg #[.int .i64 0,.int .i64 0],.string ⟨#[99]⟩,.string ⟨#[99]⟩],W,by (clear jc hS;simp [go_sem,Act.eval, *]),?_⟩);refine (As 0 0 ⟨#[99]⟩ ⟨#[99]⟩ W (by decide)).mono ?_;rintro e w' ⟨rfl,hb⟩;exact ⟨_,rfl,rfl,hb⟩
    ·intro A W jc hS jb ja;have h4:A.tmps.getD 4 undef=.pointer (some ⟨w.heap.size+1+1,0,none⟩):=ja 4 (by kernel_rfl);have h3:A.tmps.getD 3 undef=.pointer (some ⟨w.heap.size+1,0,none⟩):=ja 3 (by kernel_rfl);obtain ⟨z0,z1⟩:=Ah ((hS.block (w.heap.size+1+1) (by omega)).trans jd.out);clear ja;simp [AY,Region.binds,Vs] at jb;refine ⟨rfl,.inl ⟨.slice (some ⟨W.heap.size,0,none⟩) 3 3,W.alloc (.cells #[.int .i64 0,.int .i64 0,.string ⟨#[97]⟩,.string ⟨#[97]⟩,.int .i64 1,.int .i64 0,.int .i64 0,.string ⟨#[98]⟩,.string ⟨#[98]⟩,.int .i64 1,.int .i64 0,.int .i64 0,.string ⟨#[99]⟩,.string ⟨#[99]⟩,.int .i64 1] 88),?_,⟨W.heap.size,rfl,heap_alloc_new _ _,hS.size⟩,(Below.refl _ _).alloc (A3 _) _,hS.trans (((Below.refl _ W).alloc (A3 _) _).mono hS.size)⟩⟩;clear jc hS;simp [go_sem,Act.eval, *]
    ·intro A W bo jc hS jb ja;have h4:A.tmps.getD 4 undef=.pointer (some ⟨w.heap.size+1+1,0,none⟩):=ja 4 (by kernel_rfl);have h3:A.tmps.getD 3 undef=.pointer (some ⟨w.heap.size+1,0,none⟩):=ja 3 (by kernel_rfl);obtain ⟨z0,z1⟩:=Ah ((hS.block (w.heap.size+1+1) (by omega)).trans jd.out);clear ja;simp [AY,Region.binds,Vs] at jb;refine AX rfl (.inl ⟨_,W,?_,rfl,Ext.refl _⟩);clear jc hS;simp [go_sem,Act.eval, *]
    · trivial
   case hlast =>
    intro A1 W jc jf hS hv ja;have jg:IX wb.heap.size [⟨0,0,⟨#[97]⟩,⟨#[97]⟩,1⟩,⟨0,0,⟨#[98]⟩,⟨#[98]⟩,1⟩,⟨0,0,⟨#[99]⟩,⟨#[99]⟩,1⟩] (A1.tmps.getD 28 undef) W:=hv 6 (by decide);obtain ⟨g,e9,hg,jh⟩:=jg;have e10:A1.tmps.getD 29 undef=.pointer (some ⟨w.heap.size+1,2,none⟩):=hv 7 (by decide);have je:=(hS.block (w.heap.size+1) (by omega)).trans jk.out;refine BK rfl rfl rfl rfl (Ad e10) (Ad e9) (by simp [World.frozen?,je]) (cells3 je).2.2 (by kernel_rfl) ?_;obtain ⟨x,hx,hA⟩:=Ag [22,23,24,25,26,27,28,29] (by kernel_rfl) jc jf ja;rw [hA];simp only [List.foldl];simp only [Act.put,List.setIfInBounds_toArray,List.set_cons_succ,List.set_cons_zero];clear hA hx hv ja jc jf
    go_wp2_with fail
    go_meet
    refine ⟨_,rfl,1,[⟨0,0,⟨#[97]⟩,⟨#[97]⟩,1⟩,⟨0,0,⟨#[98]⟩,⟨#[98]⟩,1⟩,⟨0,0,⟨#[99]⟩,⟨#[99]⟩,1⟩],g,by omega,by omega,by decide,by decide,⟨_,by omega,HQ.out,rfl⟩,jh,?_,Ao je rfl,(hS.mono (by omega)).setCell (by show _≤w.heap.size+1;omega) _⟩;rw [Below.heap_setCell _ _ _ _ (by show g≠w.heap.size+1;omega)];exact hg
  ·have jm:((k % 6:Int) == 0)=false:=by rw [hq];rfl
   have jn:((k % 6:Int) == 1)=true:=by rw [hq];rfl
   have jo:((k % 6:Int) == 2)=false:=by rw [hq];rfl
   have jp:((k % 6:Int) == 3)=false:=by rw [hq];rfl
   have jq:((k % 6:Int) == 4)=false:=by rw [hq];rfl
   have HQ:Hid (k % 6=((1:Nat):Int)):=hq;clear hq
   go_upto_region 8 with fail
   refine Bw (by kernel_rfl) (Vs [fun v _=>v=.agg #[.int .i64 0,.int .i64 0],fun v _=>v=.agg #[.int .i64 0,.int .i64 0,.string ⟨#[97]⟩,.string ⟨#[65]⟩,.int .i64 1],fun v _=>v=.agg #[.int .i64 0,.int .i64 0],fun v _=>v=.agg #[.int .i64 0,.int .i64 0,.string ⟨#[98,97]⟩,.string ⟨#[66]⟩,.int .i64 2],fun v _=>v=.agg #[.int .i64 0,.int .i64 0],fun v _=>v=.agg #[.int .i64 0,.int .i64 0,.string ⟨#[99,97]⟩,.string ⟨#[67]⟩,.int .i64 2],fun v _=>v=.agg #[.int .i64 0,.int .i64 0],fun v _=>v=.agg #[.int .i64 0,.int .i64 0,.string ⟨#[98]⟩,.string ⟨#[98]⟩,.int .i64 1],IX wb.heap.size [⟨0,0,⟨#[97]⟩,⟨#[65]⟩,1⟩,⟨0,0,⟨#[98,97]⟩,⟨#[66]⟩,2⟩,⟨0,0,⟨#[99,97]⟩,⟨#[67]⟩,2⟩,⟨0,0,⟨#[98]⟩,⟨#[98]⟩,1⟩],fun v _=>v=.pointer (some ⟨w.heap.size+1,2,none⟩)]) (fun _ W=>Below wb.heap.size wb W) (fun W W'=>Ext W W') 78 8 10 (by kernel_rfl) rfl (by omega) ?hVx ?hVm ?hSx ?hS ?hop ?hlast
   case hVx=>exact Af (by simp only [AS,List.not_mem_nil,or_false,forall_eq_or_imp,forall_eq];exact ⟨AW _,AW _,AW _,AW _,AW _,AW _,AW _,AW _,Bi _ _,AW _⟩)
   case hVm=>exact fun i v w w' _ h hx=>Af (by simp only [AS,List.not_mem_nil,or_false,forall_eq_or_imp,forall_eq];exact ⟨AW _,AW _,AW _,AW _,AW _,AW _,AW _,AW _,Bi _ _,AW _⟩) i v w w' h hx
   case hSx=>exact fun bo W W' h hx=>h.trans (Below.mono hx h.size)
   case hS=>exact Below.refl _ _
   case hop =>
    refine ⟨?_,?_,?_,?_,?_,?_,?_,?_,?_,?_,?_,trivial⟩
    all_goals first | rw [if_neg (by decide),if_neg (by decide)] | rw [if_neg (by decide),if_pos (by decide)] | rw [if_pos (by decide)]
    ·intro A W bo jc hS jb ja;have h4:A.tmps.getD 4 undef=.pointer (some ⟨w.heap.size+1+1,0,none⟩):=ja 4 (by kernel_rfl);have h3:A.tmps.getD 3 undef=.pointer (some ⟨w.heap.size+1,0,none⟩):=ja 3 (by kernel_rfl);obtain ⟨z0,z1⟩:=Ah ((hS.block (w.heap.size+1+1) (by omega)).trans jd.out);clear ja;simp [AY,Region.binds,Vs] at jb;refine AX rfl (.inl ⟨_,W,?_,rfl,Ext.refl _⟩);clear jc hS;simp [go_sem,Act.eval, *]
    ·intro A W bo jc hS jb ja;have h4:A.tmps.getD 4 undef=.pointer (some ⟨w.heap.size+1+1,0,none⟩):=ja 4 (by kernel_rfl);have h3:A.tmps.getD 3 undef=.pointer (some ⟨w.heap.size+1,0,none⟩):=ja 3 (by kernel_rfl);obtain ⟨z0,z1⟩:=Ah ((hS.block (w.heap.size+1+1) (by omega)).trans jd.out);clear ja;simp [AY,Region.binds,Vs] at jb;refine AX rfl (.inr ⟨50,#[.agg #[.int .i64 0,.int .i64 0],.string ⟨#[97]⟩,.string ⟨#[65]⟩],W,by (clear jc hS;simp [go_sem,Act.eval, *]),?_⟩);refine (As 0 0 ⟨#[97]⟩ ⟨#[65]⟩ W (by decide)).mono ?_;rintro e w' ⟨rfl,hb⟩;exact ⟨_,rfl,rfl,hb⟩
    ·intro A W bo jc hS jb ja;have h4:A.tmps.getD 4 undef=.pointer (some ⟨w.heap.size+1+1,0,none⟩):=ja 4 (by kernel_rfl);have h3:A.tmps.getD 3 undef=.pointer (some ⟨w.heap.size+1,0,none⟩):=ja 3 (by kernel_rfl);obtain ⟨z0,z1⟩:=Ah ((hS.block (w.heap.size+1+1) (by omega)).trans jd.out);clear ja;simp [AY,Region.binds,Vs] at jb;refine AX rfl (.inl ⟨_,W,?_,rfl,Ext.refl _⟩);clear jc hS;simp [go_sem,Act.eval, *]
    ·intro A W bo jc hS jb ja;have h4:A.tmps.getD 4 undef=.pointer (some ⟨w.heap.size+1+1,0,none⟩):=ja 4 (by kernel_rfl);have h3:A.tmps.getD 3 undef=.pointer (some ⟨w.heap.size+1,0,none⟩):=ja 3 (by kernel_rfl);obtain ⟨z0,z1⟩:=Ah ((hS.block (w.heap.size+1+1) (by omega)).trans jd.out);clear ja;simp [AY,Region.binds,Vs] at jb;refine AX rfl (.inr ⟨50,#[.agg #[.int .i64 0,.int .i64 0],.string ⟨#[98,97]⟩,.string ⟨#[66]⟩],W,by (clear jc hS;simp [go_sem,Act.eval, *]),?_⟩);refine (As 0 0 ⟨#[98,97]⟩ ⟨#[66]⟩ W (by decide)).mono ?_;rintro e w' ⟨rfl,hb⟩;exact ⟨_,rfl,rfl,hb⟩
    ·intro A W bo jc hS jb ja;have h4:A.tmps.getD 4 undef=.pointer (some ⟨w.heap.size+1+1,0,none⟩):=ja 4 (by kernel_rfl);have h3:A.tmps.getD 3 undef=.pointer (some ⟨w.heap.size+1,0,none⟩):=ja 3 (by kernel_rfl);obtain ⟨z0,z1⟩:=Ah ((hS.block (w.heap.size+1+1) (by omega)).trans jd.out);clear ja;simp [AY,Region.binds,Vs] at jb;refine AX rfl (.inl ⟨_,W,?_,rfl,Ext.refl _⟩);clear jc hS;simp [go_sem,Act.eval, *]
    ·intro A W bo jc hS jb ja;have h4:A.tmps.getD 4 undef=.pointer (some ⟨w.heap.size+1+1,0,none⟩):=ja 4 (by kernel_rfl);have h3:A.tmps.getD 3 undef=.pointer (some ⟨w.heap.size+1,0,none⟩):=ja 3 (by kernel_rfl);obtain ⟨z0,z1⟩:=Ah ((hS.block (w.heap.size+1+1) (by omega)).trans jd.out);clear ja;simp [AY,Region.binds,Vs] at jb;refine AX rfl (.inr ⟨50,#[.agg #[.int .i64 0,.int .i64 0],.string ⟨#[99,97]⟩,.string ⟨#[67]⟩],W,by (clear jc hS;simp [go_sem,Act.eval, *]),?_⟩);refine (As 0 0 ⟨#[99,97]⟩ ⟨#[67]⟩ W (by decide)).mono ?_;rintro e w' ⟨rfl,hb⟩;exact ⟨_,rfl,rfl,hb⟩
    ·intro A W bo jc hS jb ja;have h4:A.tmps.getD 4 undef=.pointer (some ⟨w.heap.size+1+1,0,none⟩):=ja 4 (by kernel_rfl);have h3:A.tmps.getD 3 undef=.pointer (some ⟨w.heap.size+1,0,none⟩):=ja 3 (by kernel_rfl);obtain ⟨z0,z1⟩:=Ah ((hS.block (w.heap.size+1+1) (by omega)).trans jd.out);clear ja;simp [AY,Region.binds,Vs] at jb;refine AX rfl (.inl ⟨_,W,?_,rfl,Ext.refl _⟩);clear jc hS;simp [go_sem,Act.eval, *]
    ·intro A W bo jc hS jb ja;have h4:A.tmps.getD 4 undef=.pointer (some ⟨w.heap.size+1+1,0,none⟩):=ja 4 (by kernel_rfl);have h3:A.tmps.getD 3 undef=.pointer (some ⟨w.heap.size+1,0,none⟩):=ja 3 (by kernel_rfl);obtain ⟨z0,z1⟩:=Ah ((hS.block (w.heap.size+1+1) (by omega)).trans jd.out);clear ja;simp [AY,Region.binds,Vs] at jb;refine AX rfl (.inr ⟨50,#[.agg #[.int .i64 0,.int .i64 0],.string ⟨#[98]⟩,.string ⟨#[98]⟩],W,by (clear jc hS;simp [go_sem,Act.eval, *]),?_⟩);refine (As 0 0 ⟨#[98]⟩ ⟨#[98]⟩ W (by decide)).mono ?_;rintro e w' ⟨rfl,hb⟩;exact ⟨_,rfl,rfl,hb⟩
    ·intro A W jc hS jb ja;have h4:A.tmps.getD 4 undef=.pointer (some ⟨w.heap.size+1+1,0,none⟩):=ja 4 (by kernel_rfl);have h3:A.tmps.getD 3 undef=.pointer (some ⟨w.heap.size+1,0,none⟩):=ja 3 (by kernel_rfl);obtain ⟨z0,z1⟩:=Ah ((hS.block (w.heap.size+1+1) (by omega)).trans jd.out);clear ja;simp [AY,Region.binds,Vs] at jb;refine ⟨rfl,.inl ⟨.slice (some ⟨W.heap.size,0,none⟩) 4 4,W.alloc (.cells #[.int .i64 0,.int .i64 0,.string ⟨#[97]⟩,.string ⟨#[65]⟩,.int .i64 1,.int .i64 0,.int .i64 0,.string ⟨#[98,97]⟩,.string ⟨#[66]⟩,.int .i64 2,.int .i64 0,.int .i64 0,.string ⟨#[99,97]⟩,.string ⟨#[67]⟩,.int .i64 2,.int .i64 0,.int .i64 0,.string ⟨#[98]⟩,.string ⟨#[98]⟩,.int .i64 1] 88),?_,⟨W.heap.size,rfl,heap_alloc_new _ _,hS.size⟩,(Below.refl _ _).alloc (A3 _) _,hS.trans (((Below.refl _ W).alloc (A3 _) _).mono hS.size)⟩⟩;clear jc hS;simp [go_sem,Act.eval, *]
    ·intro A W bo jc hS jb ja;have h4:A.tmps.getD 4 undef=.pointer (some ⟨w.heap.size+1+1,0,none⟩):=ja 4 (by kernel_rfl);have h3:A.tmps.getD 3 undef=.pointer (some ⟨w.heap.size+1,0,none⟩):=ja 3 (by kernel_rfl);obtain ⟨z0,z1⟩:=Ah ((hS.block (w.heap.size+1+1) (by omega)).trans jd.out);clear ja;simp [AY,Region.binds,Vs] at jb;refine AX rfl (.inl ⟨_,W,?_,rfl,Ext.refl _⟩);clear jc hS;simp [go_sem,Act.eval, *]
    · trivial
   case hlast =>
    intro A1 W jc jf hS hv ja;have jg:IX wb.heap.size [⟨0,0,⟨#[97]⟩,⟨#[65]⟩,1⟩,⟨0,0,⟨#[98,97]⟩,⟨#[66]⟩,2⟩,⟨0,0,⟨#[99,97]⟩,⟨#[67]⟩,2⟩,⟨0,0,⟨#[98]⟩,⟨#[98]⟩,1⟩] (A1.tmps.getD 40 undef) W:=hv 8 (by decide);obtain ⟨g,e9,hg,jh⟩:=jg;have e10:A1.tmps.getD 41 undef=.pointer (some ⟨w.heap.size+1,2,none⟩):=hv 9 (by decide);have je:=(hS.block (w.heap.size+1) (by omega)).trans jk.out;refine BK rfl rfl rfl rfl (Ad e10) (Ad e9) (by simp [World.frozen?,je]) (cells3 je).2.2 (by kernel_rfl) ?_;obtain ⟨x,hx,hA⟩:=Ag [32,33,34,35,36,37,38,39,40,41] (by kernel_rfl) jc jf ja;rw [hA];simp only [List.foldl];simp only [Act.put,List.setIfInBounds_toArray,List.set_cons_succ,List.set_cons_zero];clear hA hx hv ja jc jf
    go_wp2_with fail
    go_meet
    refine ⟨_,rfl,1,[⟨0,0,⟨#[97]⟩,⟨#[65]⟩,1⟩,⟨0,0,⟨#[98,97]⟩,⟨#[66]⟩,2⟩,⟨0,0,⟨#[99,97]⟩,⟨#[67]⟩,2⟩,⟨0,0,⟨#[98]⟩,⟨#[98]⟩,1⟩],g,by omega,by omega,by decide,by decide,⟨_,by omega,HQ.out,rfl⟩,jh,?_,Ao je rfl,(hS.mono (by omega)).setCell (by show _≤w.heap.size+1;omega) _⟩;rw [Below.heap_setCell _ _ _ _ (by show g≠w.heap.size+1;omega)];exact hg
  ·have jm:((k % 6:Int) == 0)=false:=by rw [hq];rfl
   have jn:((k % 6:Int) == 1)=false:=by rw [hq];rfl
   have jo:((k % 6:Int) == 2)=true:=by rw [hq];rfl
   have jp:((k % 6:Int) == 3)=false:=by rw [hq];rfl
   have jq:((k % 6:Int) == 4)=false:=by rw [hq];rfl
   have HQ:Hid (k % 6=((2:Nat):Int)):=hq;clear hq
   go_upto_region 10 with fail
   refine Bw (by kernel_rfl) (Vs [fun v _=>v=.agg #[.int .i64 0,.int .i64 1],fun v _=>v=.agg #[.int .i64 0,.int .i64 1,.string ⟨#[99]⟩,.string ⟨#[]⟩,.int .i64 1],fun v _=>v=.agg #[.int .i64 1,.int .i64 0],fun v _=>v=.agg #[.int .i64 1,.int .i64 0,.string ⟨#[97]⟩,.string ⟨#[65]⟩,.int .i64 1],fun v _=>v=.agg #[.int .i64 1,.int .i64 0],fun v _=>v=.agg #[.int .i64 1,.int .i64 0,.string ⟨#[98]⟩,.string ⟨#[66]⟩,.int .i64 1],fun v _=>v=.agg #[.int .i64 0,.int .i64 0],fun v _=>v=.agg #[.int .i64 0,.int .i64 0,.string ⟨#[97]⟩,.string ⟨#[97]⟩,.int .i64 1],fun v _=>v=.agg #[.int .i64 0,.int .i64 0],fun v _=>v=.agg #[.int .i64 0,.int .i64 0,.string ⟨#[98]⟩,.string ⟨#[98]⟩,.int .i64 1],IX wb.heap.size [⟨0,1,⟨#[99]⟩,⟨#[]⟩,1⟩,⟨1,0,⟨#[97]⟩,⟨#[65]⟩,1⟩,⟨1,0,⟨#[98]⟩,⟨#[66]⟩,1⟩,⟨0,0,⟨#[97]⟩,⟨#[97]⟩,1⟩,⟨0,0,⟨#[98]⟩,⟨#[98]⟩,1⟩],fun v W=>∃ g,v=.agg #[.int .i64 2,.int .u8 1,.slice (some ⟨g,0,none⟩) 5 5]∧W.heap[g]? = some (.cells (B3 [⟨0,1,⟨#[99]⟩,⟨#[]⟩,1⟩,⟨1,0,⟨#[97]⟩,⟨#[65]⟩,1⟩,⟨1,0,⟨#[98]⟩,⟨#[66]⟩,1⟩,⟨0,0,⟨#[97]⟩,⟨#[97]⟩,1⟩,⟨0,0,⟨#[98]⟩,⟨#[98]⟩,1⟩]).toArray 88 (0,0))∧wb.heap.size≤g]) (fun _ W=>Below wb.heap.size wb W) (fun W W'=>Ext W W') 78 10 12 (by kernel_rfl) rfl (by omega) ?hVx ?hVm ?hSx ?hS ?hop ?hlast
   case hVx=>exact Af (by simp only [AS,List.not_mem_nil,or_false,forall_eq_or_imp,forall_eq];exact ⟨AW _,AW _,AW _,AW _,AW _,AW _,AW _,AW _,AW _,AW _,Bi _ _,(fun v w w' h hx=>by obtain ⟨g,h1,h2,h3⟩:=h;exact ⟨g,h1,(Below.block hx g (A5.1 h2).1).trans h2,h3⟩)⟩)
   case hVm=>exact fun i v w w' _ h hx=>Af (by simp only [AS,List.not_mem_nil,or_false,forall_eq_or_imp,forall_eq];exact ⟨AW _,AW _,AW _,AW _,AW _,AW _,AW _,AW _,AW _,AW _,Bi _ _,(fun v w w' h hx=>by obtain ⟨g,h1,h2,h3⟩:=h;exact ⟨g,h1,(Below.block hx g (A5.1 h2).1).trans h2,h3⟩)⟩) i v w w' h hx
   case hSx=>exact fun bo W W' h hx=>h.trans (Below.mono hx h.size)
   case hS=>exact Below.refl _ _
   case hop =>
    refine ⟨?_,?_,?_,?_,?_,?_,?_,?_,?_,?_,?_,?_,?_,trivial⟩
    all_goals first | rw [if_neg (by decide),if_neg (by decide)] | rw [if_neg (by decide),if_pos (by decide)] | rw [if_pos (by decide)]
    ·intro A W bo jc hS jb ja;have h4:A.tmps.getD 4 undef=.pointer (some ⟨w.heap.size+1+1,0,none⟩):=ja 4 (by kernel_rfl);have h3:A.tmps.getD 3 undef=.pointer (some ⟨w.heap.size+1,0,none⟩):=ja 3 (by kernel_rfl);obtain ⟨z0,z1⟩:=Ah ((hS.block (w.heap.size+1+1) (by omega)).trans jd.out);clear ja;simp [AY,Region.binds,Vs] at jb;refine AX rfl (.inl ⟨_,W,?_,rfl,Ext.refl _⟩);clear jc hS;simp [go_sem,Act.eval, *]
    ·intro A W bo jc hS jb ja;have h4:A.tmps.getD 4 undef=.pointer (some ⟨w.heap.size+1+1,0,none⟩):=ja 4 (by kernel_rfl);have h3:A.tmps.getD 3 undef=.pointer (some ⟨w.heap.size+1,0,none⟩):=ja 3 (by kernel_rfl);obtain ⟨z0,z1⟩:=Ah ((hS.block (w.heap.size+1+1) (by omega)).trans jd.out);clear ja;simp [AY,Region.binds,Vs] at jb;refine AX rfl (.inr ⟨50,#[.agg #[.int .i64 0,.int .i64 1],.string ⟨#[99]⟩,.string ⟨#[]⟩],W,by (clear jc hS;simp [go_sem,Act.eval, *]),?_⟩);refine (As 0 1 ⟨#[99]⟩ ⟨#[]⟩ W (by decide)).mono ?_;rintro e w' ⟨rfl,hb⟩;exact ⟨_,rfl,rfl,hb⟩
    ·intro A W bo jc hS jb ja;have h4:A.tmps.getD 4 undef=.pointer (some ⟨w.heap.size+1+1,0,none⟩):=ja 4 (by kernel_rfl);have h3:A.tmps.getD 3 undef=.pointer (some ⟨w.heap.size+1,0,none⟩):=ja 3 (by kernel_rfl);obtain ⟨z0,z1⟩:=Ah ((hS.block (w.heap.size+1+1) (by omega)).trans jd.out);clear ja;simp [AY,Region.binds,Vs] at jb;refine AX rfl (.inl ⟨_,W,?_,rfl,Ext.refl _⟩);clear jc hS;simp [go_sem,Act.eval, *]
    ·intro A W bo jc hS jb ja;have h4:A.tmps.getD 4 undef=.pointer (some ⟨w.heap.size+1+1,0,none⟩):=ja 4 (by kernel_rfl);have h3:A.tmps.getD 3 undef=.pointer (some ⟨w.heap.size+1,0,none⟩):=ja 3 (by kernel_rfl);obtain ⟨z0,z1⟩:=Ah ((hS.block (w.heap.size+1+1) (by omega)).trans jd.out);clear ja;simp [AY,Region.binds,Vs] at jb;refine AX rfl (.inr ⟨50,#[.agg #[.int .i64 1,.int .i64 0],.string ⟨#[97]⟩,.string ⟨#[65]⟩],W,by (clear jc hS;simp [go_sem,Act.eval, *]),?_⟩);refine (As 1 0 ⟨#[97]⟩ ⟨#[65]⟩ W (by decide)).mono ?_;rintro e w' ⟨rfl,hb⟩;exact ⟨_,rfl,rfl,hb⟩
    ·intro A W bo jc hS jb ja;have h4:A.tmps.getD 4 undef=.pointer (some ⟨w.heap.size+1+1,0,none⟩):=ja 4 (by kernel_rfl);have h3:A.tmps.getD 3 undef=.pointer (some ⟨w.heap.size+1,0,none⟩):=ja 3 (by kernel_rfl);obtain ⟨z0,z1⟩:=Ah ((hS.block (w.heap.size+1+1) (by omega)).trans jd.out);clear ja;simp [AY,Region.binds,Vs] at jb;refine AX rfl (.inl ⟨_,W,?_,rfl,Ext.refl _⟩);clear jc hS;simp [go_sem,Act.eval, *]
    ·intro A W bo jc hS jb ja;have h4:A.tmps.getD 4 undef=.pointer (some ⟨w.heap.size+1+1,0,none⟩):=ja 4 (by kernel_rfl);have h3:A.tmps.getD 3 undef=.pointer (some ⟨w.heap.size+1,0,none⟩):=ja 3 (by kernel_rfl);obtain ⟨z0,z1⟩:=Ah ((hS.block (w.heap.size+1+1) (by omega)).trans jd.out);clear ja;simp [AY,Region.binds,Vs] at jb;refine AX rfl (.inr ⟨50,#[.agg #[.int .i64 1,.int .i64 0],.string ⟨#[98]⟩,.string ⟨#[66]⟩],W,by (clear jc hS;simp [go_sem,Act.eval, *]),?_⟩);refine (As 1 0 ⟨#[98]⟩ ⟨#[66]⟩ W (by decide)).mono ?_;rintro e w' ⟨rfl,hb⟩;exact ⟨_,rfl,rfl,hb⟩
    ·intro A W bo jc hS jb ja;have h4:A.tmps.getD 4 undef=.pointer (some ⟨w.heap.size+1+1,0,none⟩):=ja 4 (by kernel_rfl);have h3:A.tmps.getD 3 undef=.pointer (some ⟨w.heap.size+1,0,none⟩):=ja 3 (by kernel_rfl);obtain ⟨z0,z1⟩:=Ah ((hS.block (w.heap.size+1+1) (by omega)).trans jd.out);clear ja;simp [AY,Region.binds,Vs] at jb;refine AX rfl (.inl ⟨_,W,?_,rfl,Ext.refl _⟩);clear jc hS;simp [go_sem,Act.eval, *]
    ·intro A W bo jc hS jb ja;have h4:A.tmps.getD 4 undef=.pointer (some ⟨w.heap.size+1+1,0,none⟩):=ja 4 (by kernel_rfl);have h3:A.tmps.getD 3 undef=.pointer (some ⟨w.heap.size+1,0,none⟩):=ja 3 (by kernel_rfl);obtain ⟨z0,z1⟩:=Ah ((hS.block (w.heap.size+1+1) (by omega)).trans jd.out);clear ja;simp [AY,Region.binds,Vs] at jb;refine AX rfl (.inr ⟨50,#[.agg #[.int .i64 0,.int .i64 0],.string ⟨#[97]⟩,.string ⟨#[97]⟩],W,by (clear jc hS;simp [go_sem,Act.eval, *]),?_⟩);refine (As 0 0 ⟨#[97]⟩ ⟨#[97]⟩ W (by decide)).mono ?_;rintro e w' ⟨rfl,hb⟩;exact ⟨_,rfl,rfl,hb⟩
    ·intro A W bo jc hS jb ja;have h4:A.tmps.getD 4 undef=.pointer (some ⟨w.heap.size+1+1,0,none⟩):=ja 4 (by kernel_rfl);have h3:A.tmps.getD 3 undef=.pointer (some ⟨w.heap.size+1,0,none⟩):=ja 3 (by kernel_rfl);obtain ⟨z0,z1⟩:=Ah ((hS.block (w.heap.size+1+1) (by omega)).trans jd.out);clear ja;simp [AY,Region.binds,Vs] at jb;refine AX rfl (.inl ⟨_,W,?_,rfl,Ext.refl _⟩);clear jc hS;simp [go_sem,Act.eval, *]
    ·intro A W bo jc hS jb ja;have h4:A.tmps.getD 4 undef=.pointer (some ⟨w.heap.size+1+1,0,none⟩):=ja 4 (by kernel_rfl);have h3:A.tmps.getD 3 undef=.pointer (some ⟨w.heap.size+1,0,none⟩):=ja 3 (by kernel_rfl);obtain ⟨z0,z1⟩:=Ah ((hS.block (w.heap.size+1+1) (by omega)).trans jd.out);clear ja;simp [AY,Region.binds,Vs] at jb;refine AX rfl (.inr ⟨50,#[.agg #[.int .i64 0,.int .i64 0],.string ⟨#[98]⟩,.string ⟨#[98]⟩],W,by (clear jc hS;simp [go_sem,Act.eval, *]),?_⟩);refine (As 0 0 ⟨#[98]⟩ ⟨#[98]⟩ W (by decide)).mono ?_;rintro e w' ⟨rfl,hb⟩;exact ⟨_,rfl,rfl,hb⟩
    ·intro A W jc hS jb ja;have h4:A.tmps.getD 4 undef=.pointer (some ⟨w.heap.size+1+1,0,none⟩):=ja 4 (by kernel_rfl);have h3:A.tmps.getD 3 undef=.pointer (some ⟨w.heap.size+1,0,none⟩):=ja 3 (by kernel_rfl);obtain ⟨z0,z1⟩:=Ah ((hS.block (w.heap.size+1+1) (by omega)).trans jd.out);clear ja;simp [AY,Region.binds,Vs] at jb;refine ⟨rfl,.inl ⟨.slice (some ⟨W.heap.size,0,none⟩) 5 5,W.alloc (.cells #[.int .i64 0,.int .i64 1,.string ⟨#[99]⟩,.string ⟨#[]⟩,.int .i64 1,.int .i64 1,.int .i64 0,.string ⟨#[97]⟩,.string ⟨#[65]⟩,.int .i64 1,.int .i64 1,.int .i64 0,.string ⟨#[98]⟩,.string ⟨#[66]⟩,.int .i64 1,.int .i64 0,.int .i64 0,.string ⟨#[97]⟩,.string ⟨#[97]⟩,.int .i64 1,.int .i64 0,.int .i64 0,.string ⟨#[98]⟩,.string ⟨#[98]⟩,.int .i64 1] 88),?_,⟨W.heap.size,rfl,heap_alloc_new _ _,hS.size⟩,(Below.refl _ _).alloc (A3 _) _,hS.trans (((Below.refl _ W).alloc (A3 _) _).mono hS.size)⟩⟩;clear jc hS;simp [go_sem,Act.eval, *]
    ·intro A W bo jc hS jb ja;have h4:A.tmps.getD 4 undef=.pointer (some ⟨w.heap.size+1+1,0,none⟩):=ja 4 (by kernel_rfl);have h3:A.tmps.getD 3 undef=.pointer (some ⟨w.heap.size+1,0,none⟩):=ja 3 (by kernel_rfl);obtain ⟨z0,z1⟩:=Ah ((hS.block (w.heap.size+1+1) (by omega)).trans jd.out);clear ja;have jg:IX wb.heap.size [⟨0,1,⟨#[99]⟩,⟨#[]⟩,1⟩,⟨1,0,⟨#[97]⟩,⟨#[65]⟩,1⟩,⟨1,0,⟨#[98]⟩,⟨#[66]⟩,1⟩,⟨0,0,⟨#[97]⟩,⟨#[97]⟩,1⟩,⟨0,0,⟨#[98]⟩,⟨#[98]⟩,1⟩] (A.tmps.getD 54 undef) W:=jb ⟨10,.data⟩ (by simp) rfl;obtain ⟨g9,e9,ju,jx⟩:=jg;refine AX rfl (.inl ⟨.agg #[.int .i64 2,.int .u8 1,.slice (some ⟨g9,0,none⟩) 5 5],W,?_,⟨g9,rfl,ju,jx⟩,Ext.refl _⟩);rw [A4] at e9;clear jc hS jb ju;simp [go_sem,Act.eval, *]
    · trivial
   case hlast =>
    intro A1 W jc jf hS hv ja;have jg:=hv 11 (by decide);obtain ⟨g,e9,hg,jh⟩:=jg;have e10:A1.tmps.getD 55 undef=.agg #[.int .i64 2,.int .u8 1,.slice (some ⟨g,0,none⟩) 5 5]:=e9;have h3:A1.tmps.getD 3 undef=.pointer (some ⟨w.heap.size+1,0,none⟩):=ja 3 (by kernel_rfl);have je:=(hS.block (w.heap.size+1) (by omega)).trans jk.out;refine IW rfl rfl rfl rfl (Ad h3) (Ad e10) je (by kernel_rfl) ?_;obtain ⟨x,hx,hA⟩:=Ag [44,45,46,47,48,49,50,51,52,53,54,55] (by kernel_rfl) jc jf ja;rw [hA];simp only [List.foldl];simp only [Act.put,List.setIfInBounds_toArray,List.set_cons_succ,List.set_cons_zero];clear hA hx hv ja jc jf
    go_wp2_with fail
    go_meet
    refine ⟨_,rfl,2,[⟨0,1,⟨#[99]⟩,⟨#[]⟩,1⟩,⟨1,0,⟨#[97]⟩,⟨#[65]⟩,1⟩,⟨1,0,⟨#[98]⟩,⟨#[66]⟩,1⟩,⟨0,0,⟨#[97]⟩,⟨#[97]⟩,1⟩,⟨0,0,⟨#[98]⟩,⟨#[98]⟩,1⟩],g,by omega,by omega,by decide,by decide,⟨_,by omega,HQ.out,rfl⟩,jh,?_,RB je,((((hS.mono (by omega)).setCell (by show _≤w.heap.size+1;omega) _).setCell (by show _≤w.heap.size+1;omega) _).setCell (by show _≤w.heap.size+1;omega) _)⟩;rw [Below.heap_setCell _ _ _ _ (by show g≠w.heap.size+1;omega),Below.heap_setCell _ _ _ _ (by show g≠w.heap.size+1;omega),Below.heap_setCell _ _ _ _ (by show g≠w.heap.size+1;omega)];exact hg
  ·have jm:((k % 6:Int) == 0)=false:=by rw [hq];rfl
   have jn:((k % 6:Int) == 1)=false:=by rw [hq];rfl
   have jo:((k % 6:Int) == 2)=false:=by rw [hq];rfl
   have jp:((k % 6:Int) == 3)=true:=by rw [hq];rfl
   have jq:((k % 6:Int) == 4)=false:=by rw [hq];rfl
   have HQ:Hid (k % 6=((3:Nat):Int)):=hq;clear hq
   go_upto_region 12 with fail
   refine Bw (by kernel_rfl) (Vs [fun v _=>v=.agg #[.int .i64 0,.int .i64 0],fun v _=>v=.agg #[.int .i64 0,.int .i64 0,.string ⟨#[97]⟩,.string ⟨#[97]⟩,.int .i64 1],fun v _=>v=.agg #[.int .i64 0,.int .i64 0],fun v _=>v=.agg #[.int .i64 0,.int .i64 0,.string ⟨#[98]⟩,.string ⟨#[98]⟩,.int .i64 1],fun v _=>v=.agg #[.int .i64 0,.int .i64 0],fun v _=>v=.agg #[.int .i64 0,.int .i64 0,.string ⟨#[97,98]⟩,.string ⟨#[97,98,99,49]⟩,.int .i64 2],fun v _=>v=.agg #[.int .i64 0,.int .i64 0],fun v _=>v=.agg #[.int .i64 0,.int .i64 0,.string ⟨#[99]⟩,.string ⟨#[99]⟩,.int .i64 1],IX wb.heap.size [⟨0,0,⟨#[97]⟩,⟨#[97]⟩,1⟩,⟨0,0,⟨#[98]⟩,⟨#[98]⟩,1⟩,⟨0,0,⟨#[97,98]⟩,⟨#[97,98,99,49]⟩,2⟩,⟨0,0,⟨#[99]⟩,⟨#[99]⟩,1⟩],fun v _=>v=.pointer (some ⟨w.heap.size+1,2,none⟩)]) (fun _ W=>Below wb.heap.size wb W) (fun W W'=>Ext W W') 78 8 10 (by kernel_rfl) rfl (by omega) ?hVx ?hVm ?hSx ?hS ?hop ?hlast
   case hVx=>exact Af (by simp only [AS,List.not_mem_nil,or_false,forall_eq_or_imp,forall_eq];exact ⟨AW _,AW _,AW _,AW _,AW _,AW _,AW _,AW _,Bi _ _,AW _⟩)
   case hVm=>exact fun i v w w' _ h hx=>Af (by simp only [AS,List.not_mem_nil,or_false,forall_eq_or_imp,forall_eq];exact ⟨AW _,AW _,AW _,AW _,AW _,AW _,AW _,AW _,Bi _ _,AW _⟩) i v w w' h hx
   case hSx=>exact fun bo W W' h hx=>h.trans (Below.mono hx h.size)
   case hS=>exact Below.refl _ _
   case hop =>
    refine ⟨?_,?_,?_,?_,?_,?_,?_,?_,?_,?_,?_,trivial⟩
    all_goals first | rw [if_neg (by decide),if_neg (by decide)] | rw [if_neg (by decide),if_pos (by decide)] | rw [if_pos (by decide)]
    ·intro A W bo jc hS jb ja;have h4:A.tmps.getD 4 undef=.pointer (some ⟨w.heap.size+1+1,0,none⟩):=ja 4 (by kernel_rfl);have h3:A.tmps.getD 3 undef=.pointer (some ⟨w.heap.size+1,0,none⟩):=ja 3 (by kernel_rfl);obtain ⟨z0,z1⟩:=Ah ((hS.block (w.heap.size+1+1) (by omega)).trans jd.out);clear ja;simp [AY,Region.binds,Vs] at jb;refine AX rfl (.inl ⟨_,W,?_,rfl,Ext.refl _⟩);clear jc hS;simp [go_sem,Act.eval, *]
    ·intro A W bo jc hS jb ja;have h4:A.tmps.getD 4 undef=.pointer (some ⟨w.heap.size+1+1,0,none⟩):=ja 4 (by kernel_rfl);have h3:A.tmps.getD 3 undef=.pointer (some ⟨w.heap.size+1,0,none⟩):=ja 3 (by kernel_rfl);obtain ⟨z0,z1⟩:=Ah ((hS.block (w.heap.size+1+1) (by omega)).trans jd.out);clear ja;simp [AY,Region.binds,Vs] at jb;refine AX rfl (.inr ⟨50,#[.agg #[.int .i64 0,.int .i64 0],.string ⟨#[97]⟩,.string ⟨#[97]⟩],W,by (clear jc hS;simp [go_sem,Act.eval, *]),?_⟩);refine (As 0 0 ⟨#[97]⟩ ⟨#[97]⟩ W (by decide)).mono ?_;rintro e w' ⟨rfl,hb⟩;exact ⟨_,rfl,rfl,hb⟩
    ·intro A W bo jc hS jb ja;have h4:A.tmps.getD 4 undef=.pointer (some ⟨w.heap.size+1+1,0,none⟩):=ja 4 (by kernel_rfl);have h3:A.tmps.getD 3 undef=.pointer (some ⟨w.heap.size+1,0,none⟩):=ja 3 (by kernel_rfl);obtain ⟨z0,z1⟩:=Ah ((hS.block (w.heap.size+1+1) (by omega)).trans jd.out);clear ja;simp [AY,Region.binds,Vs] at jb;refine AX rfl (.inl ⟨_,W,?_,rfl,Ext.refl _⟩);clear jc hS;simp [go_sem,Act.eval, *]
    ·intro A W bo jc hS jb ja;have h4:A.tmps.getD 4 undef=.pointer (some ⟨w.heap.size+1+1,0,none⟩):=ja 4 (by kernel_rfl);have h3:A.tmps.getD 3 undef=.pointer (some ⟨w.heap.size+1,0,none⟩):=ja 3 (by kernel_rfl);obtain ⟨z0,z1⟩:=Ah ((hS.block (w.heap.size+1+1) (by omega)).trans jd.out);clear ja;simp [AY,Region.binds,Vs] at jb;refine AX rfl (.inr ⟨50,#[.agg #[.int .i64 0,.int .i64 0],.string ⟨#[98]⟩,.string ⟨#[98]⟩],W,by (clear jc hS;simp [go_sem,Act.eval, *]),?_⟩);refine (As 0 0 ⟨#[98]⟩ ⟨#[98]⟩ W (by decide)).mono ?_;rintro e w' ⟨rfl,hb⟩;exact ⟨_,rfl,rfl,hb⟩
    ·intro A W bo jc hS jb ja;have h4:A.tmps.getD 4 undef=.pointer (some ⟨w.heap.size+1+1,0,none⟩):=ja 4 (by kernel_rfl);have h3:A.tmps.getD 3 undef=.pointer (some ⟨w.heap.size+1,0,none⟩):=ja 3 (by kernel_rfl);obtain ⟨z0,z1⟩:=Ah ((hS.block (w.heap.size+1+1) (by omega)).trans jd.out);clear ja;simp [AY,Region.binds,Vs] at jb;refine AX rfl (.inl ⟨_,W,?_,rfl,Ext.refl _⟩);clear jc hS;simp [go_sem,Act.eval, *]
    ·intro A W bo jc hS jb ja;have h4:A.tmps.getD 4 undef=.pointer (some ⟨w.heap.size+1+1,0,none⟩):=ja 4 (by kernel_rfl);have h3:A.tmps.getD 3 undef=.pointer (some ⟨w.heap.size+1,0,none⟩):=ja 3 (by kernel_rfl);obtain ⟨z0,z1⟩:=Ah ((hS.block (w.heap.size+1+1) (by omega)).trans jd.out);clear ja;simp [AY,Region.binds,Vs] at jb;refine AX rfl (.inr ⟨50,#[.agg #[.int .i64 0,.int .i64 0],.string ⟨#[97,98]⟩,.string ⟨#[97,98,99,49]⟩],W,by (clear jc hS;simp [go_sem,Act.eval, *]),?_⟩);refine (As 0 0 ⟨#[97,98]⟩ ⟨#[97,98,99,49]⟩ W (by decide)).mono ?_;rintro e w' ⟨rfl,hb⟩;exact ⟨_,rfl,rfl,hb⟩
    ·intro A W bo jc hS jb ja;have h4:A.tmps.getD 4 undef=.pointer (some ⟨w.heap.size+1+1,0,none⟩):=ja 4 (by kernel_rfl);have h3:A.tmps.getD 3 undef=.pointer (some ⟨w.heap.size+1,0,none⟩):=ja 3 (by kernel_rfl);obtain ⟨z0,z1⟩:=Ah ((hS.block (w.heap.size+1+1) (by omega)).trans jd.out);clear ja;simp [AY,Region.binds,Vs] at jb;refine AX rfl (.inl ⟨_,W,?_,rfl,Ext.refl _⟩);clear jc hS;simp [go_sem,Act.eval, *]
    ·intro A W bo jc hS jb ja;have h4:A.tmps.getD 4 undef=.pointer (some ⟨w.heap.size+1+1,0,none⟩):=ja 4 (by kernel_rfl);have h3:A.tmps.getD 3 undef=.pointer (some ⟨w.heap.size+1,0,none⟩):=ja 3 (by kernel_rfl);obtain ⟨z0,z1⟩:=Ah ((hS.block (w.heap.size+1+1) (by omega)).trans jd.out);clear ja;simp [AY,Region.binds,Vs] at jb;refine AX rfl (.inr ⟨50,#[.agg #[.int .i64 0,.int .i64 0],.string ⟨#[99]⟩,.string ⟨#[99]⟩],W,by (clear jc hS;simp [go_sem,Act.eval, *]),?_⟩);refine (As 0 0 ⟨#[99]⟩ ⟨#[99]⟩ W (by decide)).mono ?_;rintro e w' ⟨rfl,hb⟩;exact ⟨_,rfl,rfl,hb⟩
    ·intro A W jc hS jb ja;have h4:A.tmps.getD 4 undef=.pointer (some ⟨w.heap.size+1+1,0,none⟩):=ja 4 (by kernel_rfl);have h3:A.tmps.getD 3 undef=.pointer (some ⟨w.heap.size+1,0,none⟩):=ja 3 (by kernel_rfl);obtain ⟨z0,z1⟩:=Ah ((hS.block (w.heap.size+1+1) (by omega)).trans jd.out);clear ja;simp [AY,Region.binds,Vs] at jb;refine ⟨rfl,.inl ⟨.slice (some ⟨W.heap.size,0,none⟩) 4 4,W.alloc (.cells #[.int .i64 0,.int .i64 0,.string ⟨#[97]⟩,.string ⟨#[97]⟩,.int .i64 1,.int .i64 0,.int .i64 0,.string ⟨#[98]⟩,.string ⟨#[98]⟩,.int .i64 1,.int .i64 0,.int .i64 0,.string ⟨#[97,98]⟩,.string ⟨#[97,98,99,49]⟩,.int .i64 2,.int .i64 0,.int .i64 0,.string ⟨#[99]⟩,.string ⟨#[99]⟩,.int .i64 1] 88),?_,⟨W.heap.size,rfl,heap_alloc_new _ _,hS.size⟩,(Below.refl _ _).alloc (A3 _) _,hS.trans (((Below.refl _ W).alloc (A3 _) _).mono hS.size)⟩⟩;clear jc hS;simp [go_sem,Act.eval, *]
    ·intro A W bo jc hS jb ja;have h4:A.tmps.getD 4 undef=.pointer (some ⟨w.heap.size+1+1,0,none⟩):=ja 4 (by kernel_rfl);have h3:A.tmps.getD 3 undef=.pointer (some ⟨w.heap.size+1,0,none⟩):=ja 3 (by kernel_rfl);obtain ⟨z0,z1⟩:=Ah ((hS.block (w.heap.size+1+1) (by omega)).trans jd.out);clear ja;simp [AY,Region.binds,Vs] at jb;refine AX rfl (.inl ⟨_,W,?_,rfl,Ext.refl _⟩);clear jc hS;simp [go_sem,Act.eval, *]
    · trivial
   case hlast =>
    intro A1 W jc jf hS hv ja;have jg:IX wb.heap.size [⟨0,0,⟨#[97]⟩,⟨#[97]⟩,1⟩,⟨0,0,⟨#[98]⟩,⟨#[98]⟩,1⟩,⟨0,0,⟨#[97,98]⟩,⟨#[97,98,99,49]⟩,2⟩,⟨0,0,⟨#[99]⟩,⟨#[99]⟩,1⟩] (A1.tmps.getD 66 undef) W:=hv 8 (by decide);obtain ⟨g,e9,hg,jh⟩:=jg;have e10:A1.tmps.getD 67 undef=.pointer (some ⟨w.heap.size+1,2,none⟩):=hv 9 (by decide);have je:=(hS.block (w.heap.size+1) (by omega)).trans jk.out;refine BK rfl rfl rfl rfl (Ad e10) (Ad e9) (by simp [World.frozen?,je]) (cells3 je).2.2 (by kernel_rfl) ?_;obtain ⟨x,hx,hA⟩:=Ag [58,59,60,61,62,63,64,65,66,67] (by kernel_rfl) jc jf ja;rw [hA];simp only [List.foldl];simp only [Act.put,List.setIfInBounds_toArray,List.set_cons_succ,List.set_cons_zero];clear hA hx hv ja jc jf
    go_wp2_with fail
    go_meet
    refine ⟨_,rfl,1,[⟨0,0,⟨#[97]⟩,⟨#[97]⟩,1⟩,⟨0,0,⟨#[98]⟩,⟨#[98]⟩,1⟩,⟨0,0,⟨#[97,98]⟩,⟨#[97,98,99,49]⟩,2⟩,⟨0,0,⟨#[99]⟩,⟨#[99]⟩,1⟩],g,by omega,by omega,by decide,by decide,⟨_,by omega,HQ.out,rfl⟩,jh,?_,Ao je rfl,(hS.mono (by omega)).setCell (by show _≤w.heap.size+1;omega) _⟩;rw [Below.heap_setCell _ _ _ _ (by show g≠w.heap.size+1;omega)];exact hg
  ·have jm:((k % 6:Int) == 0)=false:=by rw [hq];rfl
   have jn:((k % 6:Int) == 1)=false:=by rw [hq];rfl
   have jo:((k % 6:Int) == 2)=false:=by rw [hq];rfl
   have jp:((k % 6:Int) == 3)=false:=by rw [hq];rfl
   have jq:((k % 6:Int) == 4)=true:=by rw [hq];rfl
   have HQ:Hid (k % 6=((4:Nat):Int)):=hq;clear hq;obtain ⟨z0,z1⟩:=Ah jd.out
   go_wp2_with fail
   refine (As 0 0 ⟨#[97]⟩ ⟨#[97]⟩ wb (by decide)).mono ?_;rintro e w1 ⟨rfl,js⟩;clear z0 z1;have jA:=js.size;have jr:=A0 ((js.block (w.heap.size+1) (by omega)).trans jk.out);obtain ⟨r0,r1,r2⟩:=cells3 jr.out;have rf:∀ i,w1.frozen? ⟨w.heap.size+1,i,none⟩=false:=fun i=>by simp [World.frozen?,jr.out]
   go_wp2_with fail
   go_meet
   refine ⟨_,rfl,1,[⟨0,0,⟨#[97]⟩,⟨#[97]⟩,1⟩,⟨0,0,⟨#[98]⟩,⟨#[98]⟩,0⟩,⟨0,0,⟨#[99]⟩,⟨#[98]⟩,7⟩,⟨0,0,⟨#[98]⟩,⟨#[99]⟩,9⟩],w1.heap.size,by omega,by omega,by decide,by decide,⟨_,by omega,HQ.out,rfl⟩,jA,?_,Ao ((Below.heap_alloc _ _ _ (by omega)).trans jr.out) rfl,((js.mono (by omega)).alloc (by omega) _).setCell (by show _≤w.heap.size+1;omega) _⟩;rw [Below.heap_setCell _ _ _ _ (by show w1.heap.size≠w.heap.size+1;omega)];exact heap_alloc_new _ _
  ·have jm:((k % 6:Int) == 0)=false:=by rw [hq];rfl
   have jn:((k % 6:Int) == 1)=false:=by rw [hq];rfl
   have jo:((k % 6:Int) == 2)=false:=by rw [hq];rfl
   have jp:((k % 6:Int) == 3)=false:=by rw [hq];rfl
   have jq:((k % 6:Int) == 4)=false:=by rw [hq];rfl
   have HQ:Hid (k % 6=((5:Nat):Int)):=hq;clear hq
   go_upto_region 4 with fail
   refine Bw (by kernel_rfl) (Vs [fun v _=>v=.agg #[.int .i64 0,.int .i64 0],fun v _=>v=.agg #[.int .i64 0,.int .i64 0,.string ⟨#[97]⟩,.string ⟨#[97]⟩,.int .i64 1],fun v _=>v=.agg #[.int .i64 0,.int .i64 0],fun v _=>v=.agg #[.int .i64 0,.int .i64 0,.string ⟨#[97]⟩,.string ⟨#[65]⟩,.int .i64 1],fun v _=>v=.agg #[.int .i64 0,.int .i64 0],fun v _=>v=.agg #[.int .i64 0,.int .i64 0,.string ⟨#[97,97]⟩,.string ⟨#[66]⟩,.int .i64 2],fun v _=>v=.agg #[.int .i64 0,.int .i64 0],fun v _=>v=.agg #[.int .i64 0,.int .i64 0,.string ⟨#[98]⟩,.string ⟨#[98]⟩,.int .i64 1],fun v _=>v=.agg #[.int .i64 0,.int .i64 0,.string ⟨#[98]⟩,.string ⟨#[]⟩,.int .i64 20],IX wb.heap.size [⟨0,0,⟨#[97]⟩,⟨#[97]⟩,1⟩,⟨0,0,⟨#[97]⟩,⟨#[65]⟩,1⟩,⟨0,0,⟨#[97,97]⟩,⟨#[66]⟩,2⟩,⟨0,0,⟨#[98]⟩,⟨#[98]⟩,1⟩,⟨0,0,⟨#[98]⟩,⟨#[]⟩,20⟩],fun v _=>v=.pointer (some ⟨w.heap.size+1,2,none⟩)]) (fun _ W=>Below wb.heap.size wb W) (fun W W'=>Ext W W') 78 9 11 (by kernel_rfl) rfl (by omega) ?hVx ?hVm ?hSx ?hS ?hop ?hlast
   case hVx=>exact Af (by simp only [AS,List.not_mem_nil,or_false,forall_eq_or_imp,forall_eq];exact ⟨AW _,AW _,AW _,AW _,AW _,AW _,AW _,AW _,AW _,Bi _ _,AW _⟩)
   case hVm=>exact fun i v w w' _ h hx=>Af (by simp only [AS,List.not_mem_nil,or_false,forall_eq_or_imp,forall_eq];exact ⟨AW _,AW _,AW _,AW _,AW _,AW _,AW _,AW _,AW _,Bi _ _,AW _⟩) i v w w' h hx
   case hSx=>exact fun bo W W' h hx=>h.trans (Below.mono hx h.size)
   case hS=>exact Below.refl _ _
   case hop =>
    refine ⟨?_,?_,?_,?_,?_,?_,?_,?_,?_,?_,?_,?_,trivial⟩
    all_goals first | rw [if_neg (by decide),if_neg (by decide)] | rw [if_neg (by decide),if_pos (by decide)] | rw [if_pos (by decide)]
    ·intro A W bo jc hS jb ja;have h4:A.tmps.getD 4 undef=.pointer (some ⟨w.heap.size+1+1,0,none⟩):=ja 4 (by kernel_rfl);have h3:A.tmps.getD 3 undef=.pointer (some ⟨w.heap.size+1,0,none⟩):=ja 3 (by kernel_rfl);obtain ⟨z0,z1⟩:=Ah ((hS.block (w.heap.size+1+1) (by omega)).trans jd.out);clear ja;simp [AY,Region.binds,Vs] at jb;refine AX rfl (.inl ⟨_,W,?_,rfl,Ext.refl _⟩);clear jc hS;simp [go_sem,Act.eval, *]
    ·intro A W bo jc hS jb ja;have h4:A.tmps.getD 4 undef=.pointer (some ⟨w.heap.size+1+1,0,none⟩):=ja 4 (by kernel_rfl);have h3:A.tmps.getD 3 undef=.pointer (some ⟨w.heap.size+1,0,none⟩):=ja 3 (by kernel_rfl);obtain ⟨z0,z1⟩:=Ah ((hS.block (w.heap.size+1+1) (by omega)).trans jd.out);clear ja;simp [AY,Region.binds,Vs] at jb;refine AX rfl (.inr ⟨50,#[.agg #[.int .i64 0,.int .i64 0],.string ⟨#[97]⟩,.string ⟨#[97]⟩],W,by (clear jc hS;simp [go_sem,Act.eval, *]),?_⟩);refine (As 0 0 ⟨#[97]⟩ ⟨#[97]⟩ W (by decide)).mono ?_;rintro e w' ⟨rfl,hb⟩;exact ⟨_,rfl,rfl,hb⟩
    ·intro A W bo jc hS jb ja;have h4:A.tmps.getD 4 undef=.pointer (some ⟨w.heap.size+1+1,0,none⟩):=ja 4 (by kernel_rfl);have h3:A.tmps.getD 3 undef=.pointer (some ⟨w.heap.size+1,0,none⟩):=ja 3 (by kernel_rfl);obtain ⟨z0,z1⟩:=Ah ((hS.block (w.heap.size+1+1) (by omega)).trans jd.out);clear ja;simp [AY,Region.binds,Vs] at jb;refine AX rfl (.inl ⟨_,W,?_,rfl,Ext.refl _⟩);clear jc hS;simp [go_sem,Act.eval, *]
    ·intro A W bo jc hS jb ja;have h4:A.tmps.getD 4 undef=.pointer (some ⟨w.heap.size+1+1,0,none⟩):=ja 4 (by kernel_rfl);have h3:A.tmps.getD 3 undef=.pointer (some ⟨w.heap.size+1,0,none⟩):=ja 3 (by kernel_rfl);obtain ⟨z0,z1⟩:=Ah ((hS.block (w.heap.size+1+1) (by omega)).trans jd.out);clear ja;simp [AY,Region.binds,Vs] at jb;refine AX rfl (.inr ⟨50,#[.agg #[.int .i64 0,.int .i64 0],.string ⟨#[97]⟩,.string ⟨#[65]⟩],W,by (clear jc hS;simp [go_sem,Act.eval, *]),?_⟩);refine (As 0 0 ⟨#[97]⟩ ⟨#[65]⟩ W (by decide)).mono ?_;rintro e w' ⟨rfl,hb⟩;exact ⟨_,rfl,rfl,hb⟩
    ·intro A W bo jc hS jb ja;have h4:A.tmps.getD 4 undef=.pointer (some ⟨w.heap.size+1+1,0,none⟩):=ja 4 (by kernel_rfl);have h3:A.tmps.getD 3 undef=.pointer (some ⟨w.heap.size+1,0,none⟩):=ja 3 (by kernel_rfl);obtain ⟨z0,z1⟩:=Ah ((hS.block (w.heap.size+1+1) (by omega)).trans jd.out);clear ja;simp [AY,Region.binds,Vs] at jb;refine AX rfl (.inl ⟨_,W,?_,rfl,Ext.refl _⟩);clear jc hS;simp [go_sem,Act.eval, *]
    ·intro A W bo jc hS jb ja;have h4:A.tmps.getD 4 undef=.pointer (some ⟨w.heap.size+1+1,0,none⟩):=ja 4 (by kernel_rfl);have h3:A.tmps.getD 3 undef=.pointer (some ⟨w.heap.size+1,0,none⟩):=ja 3 (by kernel_rfl);obtain ⟨z0,z1⟩:=Ah ((hS.block (w.heap.size+1+1) (by omega)).trans jd.out);clear ja;simp [AY,Region.binds,Vs] at jb;refine AX rfl (.inr ⟨50,#[.agg #[.int .i64 0,.int .i64 0],.string ⟨#[97,97]⟩,.string ⟨#[66]⟩],W,by (clear jc hS;simp [go_sem,Act.eval, *]),?_⟩);refine (As 0 0 ⟨#[97,97]⟩ ⟨#[66]⟩ W (by decide)).mono ?_;rintro e w' ⟨rfl,hb⟩;exact ⟨_,rfl,rfl,hb⟩
    ·intro A W bo jc hS jb ja;have h4:A.tmps.getD 4 undef=.pointer (some ⟨w.heap.size+1+1,0,none⟩):=ja 4 (by kernel_rfl);have h3:A.tmps.getD 3 undef=.pointer (some ⟨w.heap.size+1,0,none⟩):=ja 3 (by kernel_rfl);obtain ⟨z0,z1⟩:=Ah ((hS.block (w.heap.size+1+1) (by omega)).trans jd.out);clear ja;simp [AY,Region.binds,Vs] at jb;refine AX rfl (.inl ⟨_,W,?_,rfl,Ext.refl _⟩);clear jc hS;simp [go_sem,Act.eval, *]
    ·intro A W bo jc hS jb ja;have h4:A.tmps.getD 4 undef=.pointer (some ⟨w.heap.size+1+1,0,none⟩):=ja 4 (by kernel_rfl);have h3:A.tmps.getD 3 undef=.pointer (some ⟨w.heap.size+1,0,none⟩):=ja 3 (by kernel_rfl);obtain ⟨z0,z1⟩:=Ah ((hS.block (w.heap.size+1+1) (by omega)).trans jd.out);clear ja;simp [AY,Region.binds,Vs] at jb;refine AX rfl (.inr ⟨50,#[.agg #[.int .i64 0,.int .i64 0],.string ⟨#[98]⟩,.string ⟨#[98]⟩],W,by (clear jc hS;simp [go_sem,Act.eval, *]),?_⟩);refine (As 0 0 ⟨#[98]⟩ ⟨#[98]⟩ W (by decide)).mono ?_;rintro e w' ⟨rfl,hb⟩;exact ⟨_,rfl,rfl,hb⟩
    ·intro A W bo jc hS jb ja;have h4:A.tmps.getD 4 undef=.pointer (some ⟨w.heap.size+1+1,0,none⟩):=ja 4 (by kernel_rfl);have h3:A.tmps.getD 3 undef=.pointer (some ⟨w.heap.size+1,0,none⟩):=ja 3 (by kernel_rfl);obtain ⟨z0,z1⟩:=Ah ((hS.block (w.heap.size+1+1) (by omega)).trans jd.out);clear ja;simp [AY,Region.binds,Vs] at jb;refine AX rfl (.inl ⟨_,W,?_,rfl,Ext.refl _⟩);clear jc hS;simp [go_sem,Act.eval, *]
    ·intro A W jc hS jb ja;have h4:A.tmps.getD 4 undef=.pointer (some ⟨w.heap.size+1+1,0,none⟩):=ja 4 (by kernel_rfl);have h3:A.tmps.getD 3 undef=.pointer (some ⟨w.heap.size+1,0,none⟩):=ja 3 (by kernel_rfl);obtain ⟨z0,z1⟩:=Ah ((hS.block (w.heap.size+1+1) (by omega)).trans jd.out);clear ja;simp [AY,Region.binds,Vs] at jb;refine ⟨rfl,.inl ⟨.slice (some ⟨W.heap.size,0,none⟩) 5 5,W.alloc (.cells #[.int .i64 0,.int .i64 0,.string ⟨#[97]⟩,.string ⟨#[97]⟩,.int .i64 1,.int .i64 0,.int .i64 0,.string ⟨#[97]⟩,.string ⟨#[65]⟩,.int .i64 1,.int .i64 0,.int .i64 0,.string ⟨#[97,97]⟩,.string ⟨#[66]⟩,.int .i64 2,.int .i64 0,.int .i64 0,.string ⟨#[98]⟩,.string ⟨#[98]⟩,.int .i64 1,.int .i64 0,.int .i64 0,.string ⟨#[98]⟩,.string ⟨#[]⟩,.int .i64 20] 88),?_,⟨W.heap.size,rfl,heap_alloc_new _ _,hS.size⟩,(Below.refl _ _).alloc (A3 _) _,hS.trans (((Below.refl _ W).alloc (A3 _) _).mono hS.size)⟩⟩;clear jc hS;simp [go_sem,Act.eval, *]
    ·intro A W bo jc hS jb ja;have h4:A.tmps.getD 4 undef=.pointer (some ⟨w.heap.size+1+1,0,none⟩):=ja 4 (by kernel_rfl);have h3:A.tmps.getD 3 undef=.pointer (some ⟨w.heap.size+1,0,none⟩):=ja 3 (by kernel_rfl);obtain ⟨z0,z1⟩:=Ah ((hS.block (w.heap.size+1+1) (by omega)).trans jd.out);clear ja;simp [AY,Region.binds,Vs] at jb;refine AX rfl (.inl ⟨_,W,?_,rfl,Ext.refl _⟩);clear jc hS;simp [go_sem,Act.eval, *]
    · trivial
   case hlast =>
    intro A1 W jc jf hS hv ja;have jg:IX wb.heap.size [⟨0,0,⟨#[97]⟩,⟨#[97]⟩,1⟩,⟨0,0,⟨#[97]⟩,⟨#[65]⟩,1⟩,⟨0,0,⟨#[97,97]⟩,⟨#[66]⟩,2⟩,⟨0,0,⟨#[98]⟩,⟨#[98]⟩,1⟩,⟨0,0,⟨#[98]⟩,⟨#[]⟩,20⟩] (A1.tmps.getD 18 undef) W:=hv 9 (by decide);obtain ⟨g,e9,hg,jh⟩:=jg;have e10:A1.tmps.getD 19 undef=.pointer (some ⟨w.heap.size+1,2,none⟩):=hv 10 (by decide);have je:=(hS.block (w.heap.size+1) (by omega)).trans jk.out;refine BK rfl rfl rfl rfl (Ad e10) (Ad e9) (by simp [World.frozen?,je]) (cells3 je).2.2 (by kernel_rfl) ?_;obtain ⟨x,hx,hA⟩:=Ag [9,10,11,12,13,14,15,16,17,18,19] (by kernel_rfl) jc jf ja;rw [hA];simp only [List.foldl];simp only [Act.put,List.setIfInBounds_toArray,List.set_cons_succ,List.set_cons_zero];clear hA hx hv ja jc jf
    go_wp2_with fail
    go_meet
    refine ⟨_,rfl,1,[⟨0,0,⟨#[97]⟩,⟨#[97]⟩,1⟩,⟨0,0,⟨#[97]⟩,⟨#[65]⟩,1⟩,⟨0,0,⟨#[97,97]⟩,⟨#[66]⟩,2⟩,⟨0,0,⟨#[98]⟩,⟨#[98]⟩,1⟩,⟨0,0,⟨#[98]⟩,⟨#[]⟩,20⟩],g,by omega,by omega,by decide,by decide,⟨_,by omega,HQ.out,rfl⟩,jh,?_,Ao je rfl,(hS.mono (by omega)).setCell (by show _≤w.heap.size+1;omega) _⟩;rw [Below.heap_setCell _ _ _ _ (by show g≠w.heap.size+1;omega)];exact hg
 case rest =>
  obtain ⟨wc,rfl,mo,R,g,h1,h2,h3,h4,jz,jh,hg,je,jt⟩:=hcut;have HR:=A0 hg;have HREP:=A0 je;have jj:=(jt.block w.heap.size (by omega)).trans jw.out;have jl:=A0 jj;obtain ⟨c0,c1,c2⟩:=cells3 je;obtain ⟨y0,y1,y2⟩:=cells3 jj;have yf:∀ i,wc.frozen? ⟨w.heap.size,i,none⟩=false:=fun i=>by simp [World.frozen?,jl.out]
  have jv:=A0 jt;clear hg je jj jt
  go_wp2_with fail
  obtain ⟨r0,r1,r2⟩:=cells3 (RB (a:=.int .i64 mo) (b:=.int .u8 1) (c:=.slice (some ⟨g,0,none⟩) R.length R.length) jl.out);refine bodyPost_ret (v:=.agg #[.int .i64 mo,.int .u8 1,.slice (some ⟨g,0,none⟩) R.length R.length]) (by simp [results,Tryz.results23,go_sem,r0,r1,r2]) rfl (Pn (B:=wb.heap.size) ?_ jh (by omega) h1 h2 h3 h4 ?_ jz)
  ·rw [Below.heap_setCell _ _ _ _ (by show g≠w.heap.size;omega),Below.heap_setCell _ _ _ _ (by show g≠w.heap.size;omega),Below.heap_setCell _ _ _ _ (by show g≠w.heap.size;omega)];exact HR.out
  · exact (((jy.trans (jv.out.mono (by omega))).setCell (by simp) _).setCell (by simp) _).setCell (by simp) _
theorem cells5 {w:World} {g:Nat} {a b c d e:Value} {t:TypeId} {f:Nat × Nat} (h:w.heap[g]? = some (.cells #[a,b,c,d,e] t f)):w.cell? ⟨g,0,none⟩=some a∧w.cell? ⟨g,1,none⟩=some b∧w.cell? ⟨g,2,none⟩=some c∧w.cell? ⟨g,3,none⟩=some d∧w.cell? ⟨g,4,none⟩=some e :=
 ⟨cell_of_row w g 0 _ _ f h,cell_of_row w g 1 _ _ f h,cell_of_row w g 2 _ _ f h,cell_of_row w g 3 _ _ f h,cell_of_row w g 4 _ _ f h⟩
theorem T1 {w:World} {g:Nat} {x0 x1 x2 x3 x4 a b c d e:Value} {t:TypeId} {f:Nat × Nat} (h:w.heap[g]? = some (.cells #[x0,x1,x2,x3,x4] t f)) :
  (((((w.setCell ⟨g,0,none⟩ a).setCell ⟨g,1,none⟩ b).setCell ⟨g,2,none⟩ c).setCell ⟨g,3,none⟩ d).setCell ⟨g,4,none⟩ e).heap[g]? = some (.cells #[a,b,c,d,e] t f) :=
 Ao (Ao (Ao (Ao (Ao h rfl) rfl) rfl) rfl) rfl
theorem Po {w w':World} {B g:Nat} {a b c d e:Value} (h:Below B w w') (hg:B≤g):Below B w (((((w'.setCell ⟨g,0,none⟩ a).setCell ⟨g,1,none⟩ b).setCell ⟨g,2,none⟩ c).setCell ⟨g,3,none⟩ d).setCell ⟨g,4,none⟩ e) :=
 ((((h.setCell hg _).setCell hg _).setCell hg _).setCell hg _).setCell hg _
theorem made1_any (f d c m:Int) (ai ao:Option Addr) (li ci lo co:Nat) (ZI ZO:Nat→Int) (w:World) (hf0:0≤f) (hf1:f≤255) (hd0:0≤d) (hd1:d≤255) (hc0:0≤c) (hc1:c≤255) (hm0:1≤m) (hm1:m≤2) (hI:BX w ai li ZI) (hO:BX w ao lo ZO) :
  Calls Tryz.prog 33 #[.agg #[.slice ai li ci,.slice ao lo co,.int .u8 f,.int .u8 d,.int .u8 c],.int .i64 m] w fun e w'=>∃ r:Rl,e=.returned (.agg #[.int .i64 r.frm,.int .i64 r.dst,.string r.inp,.string r.out,.int .i64 r.cost])∧r.inp.size≤2∧r.out.size≤2∧Below w.heap.size w w':=by
 have HI:=A0 hI;have HO:=A0 hO;clear hI hO;have hmz:m≠0:=by omega
 go_enter Tryz.func33,Tryz.ntmps33
 go_upto_region 2 with fail
 have hmb:(m == 0)=false:=by simp;omega
 go_region
 go_upto_block 0 with fail
 have jq:Hid (Below (w.heap.size+2) ((w.alloc (.cells #[.slice ai li ci,.slice ao lo co,.int .u8 f,.int .u8 d,.int .u8 c] 91)).alloc (.cells #[.int .i64 0,.int .i64 0,.string ⟨#[]⟩,.string ⟨#[]⟩,.int .i64 0] 88)) ((((w.alloc (.cells #[.slice ai li ci,.slice ao lo co,.int .u8 f,.int .u8 d,.int .u8 c] 91)).alloc (.cells #[.int .i64 0,.int .i64 0,.string ⟨#[]⟩,.string ⟨#[]⟩,.int .i64 0] 88)).alloc (.cells #[.int .i64 (f % m),.int .i64 (d % m),.string ⟨#[]⟩,.string ⟨#[]⟩,.int .i64 (c*2)] 88))).drew):=(((Below.refl _ _).alloc (by simp) _).trans (below_drewN _ 1))
 have js:Hid (((((w.alloc (.cells #[.slice ai li ci,.slice ao lo co,.int .u8 f,.int .u8 d,.int .u8 c] 91)).alloc (.cells #[.int .i64 0,.int .i64 0,.string ⟨#[]⟩,.string ⟨#[]⟩,.int .i64 0] 88)).alloc (.cells #[.int .i64 (f % m),.int .i64 (d % m),.string ⟨#[]⟩,.string ⟨#[]⟩,.int .i64 (c*2)] 88))).drew.heap[w.heap.size+1+1]? = some (.cells #[.int .i64 (f % m),.int .i64 (d % m),.string ⟨#[]⟩,.string ⟨#[]⟩,.int .i64 (c*2)] 88 (0,0))):=by
  have:=heap_alloc_new ((w.alloc (.cells #[.slice ai li ci,.slice ao lo co,.int .u8 f,.int .u8 d,.int .u8 c] 91)).alloc (.cells #[.int .i64 0,.int .i64 0,.string ⟨#[]⟩,.string ⟨#[]⟩,.int .i64 0] 88)) (.cells #[.int .i64 (f % m),.int .i64 (d % m),.string ⟨#[]⟩,.string ⟨#[]⟩,.int .i64 (c*2)] 88);simp only [A6] at this;exact this
 go_cut [] (fun wx=>∃ wz:World,wz=wx∧∃ s:ByteArray,s.size≤2∧wz.heap[w.heap.size+1+1]? = some (.cells #[.int .i64 (f % m),.int .i64 (d % m),.string s,.string ⟨#[]⟩,.int .i64 (c*2)] 88 (0,0))∧Below (w.heap.size+2) ((w.alloc (.cells #[.slice ai li ci,.slice ao lo co,.int .u8 f,.int .u8 d,.int .u8 c] 91)).alloc (.cells #[.int .i64 0,.int .i64 0,.string ⟨#[]⟩,.string ⟨#[]⟩,.int .i64 0] 88)) wz)
 case first =>
  go_wp2_with fail
  go_loopw [6] (fun i wr=>∃ (j:Nat) (s:ByteArray),j≤2∧i=.int .i64 j∧s.size=j∧wr.heap[w.heap.size+1+1]? = some (.cells #[.int .i64 (f % m),.int .i64 (d % m),.string s,.string ⟨#[]⟩,.int .i64 (c*2)] 88 (0,0))∧Below (w.heap.size+2) ((w.alloc (.cells #[.slice ai li ci,.slice ao lo co,.int .u8 f,.int .u8 d,.int .u8 c] 91)).alloc (.cells #[.int .i64 0,.int .i64 0,.string ⟨#[]⟩,.string ⟨#[]⟩,.int .i64 0] 88)) wr) (fun i _=>2 - (intOf i).toNat)
  case atStart=>exact ⟨0,⟨#[]⟩,by omega,rfl,rfl,js.out,jq.out⟩
  case round =>
   obtain ⟨j,s,hj,rfl,hs,ja,jc⟩:=hrel;have jb:=A0 ja;have jf:=A0 jc;have HS:=A0 hs;have hB:Below w.heap.size w wr:=(((Below.refl _ _).alloc (A3 _) _).alloc (by simp) _).trans (jc.mono (by omega));have HB:=A0 hB;obtain ⟨hz,hc,hf⟩:=BD jc rfl;simp only [A6] at hz;have r0:=cell_of_row wr _ 0 _ _ (0,0) ja;have r1:=cell_of_row wr _ 1 _ _ (0,0) ja;have r2:=cell_of_row wr _ 2 _ _ (0,0) ja;have r3:=cell_of_row wr _ 3 _ _ (0,0) ja;have r4:=cell_of_row wr _ 4 _ _ (0,0) ja;have rf:∀ i,wr.frozen? ⟨w.heap.size+1+1,i,none⟩=false:=fun i=>by simp [World.frozen?,ja]
   clear ja jc hB hs;by_cases jg:j<li
   ·by_cases jw:j<2
    ·have jk:(j:Int)<2:=by omega
     obtain ⟨bz,oz,je,jB,jC,jl,jm⟩:=(HI.out.later HB.out (A3 _)).at jg;have jj:=F9 ai bz oz li ci j je jg;have jv:=A0 je;clear je;have jy:(⟨#[97,98,99]⟩:ByteArray).extract 0 1=⟨#[97]⟩:=by decide
     have jz:(⟨#[97,98,99]⟩:ByteArray).extract 1 2=⟨#[98]⟩:=by decide
     have jA:(⟨#[97,98,99]⟩:ByteArray).extract 2 3=⟨#[99]⟩:=by decide
     have ji:∀ (y:UInt8) (W:World),(Op.stringOp .add s ⟨#[y]⟩).run Tryz.prog W=.ok (.string (s ++ ⟨#[y]⟩)) W:=fun y W=>run_string_add_sum W s ⟨#[y]⟩ (by have:=HS.out;rw [this];show j+1≤_;omega);rcases (show ZI j % 3=0∨ZI j % 3=1∨ZI j % 3=2 by omega) with h3 | h3 | h3
     all_goals
      go_upto_region 5 with fail
      go_region
      go_wp2_with fail
      go_roundw
      case rel=>exact ⟨j+1,_,by omega,by go_num,by rw [ByteArray.size_append,HS.out];rfl,Ao jb.out rfl,(jf.out.setCell (by show _≤w.heap.size+1+1;omega) _).trans (below_drewN _ 1)⟩
      case measure=>simp [intOf];omega
    ·obtain rfl:j=2:=by omega
     go_wp2_with fail
     go_meet
     exact ⟨_,rfl,s,by have:=HS.out;omega,jb.out,jf.out⟩
   ·have jx:¬ (j:Int)<(li:Int):=by omega
    go_wp2_with fail
    go_meet
    exact ⟨_,rfl,s,by have:=HS.out;omega,jb.out,jf.out⟩
 case rest
      =>
  obtain ⟨wc,rfl,s1,jp,jd,jo⟩:=hcut;have jt:=A0 jd;have jr:=A0 jo;have jn:=A0 jp;clear jd jo jp;have ju:Hid (((w.alloc (.cells #[.slice ai li ci,.slice ao lo co,.int .u8 f,.int .u8 d,.int .u8 c] 91)).alloc (.cells #[.int .i64 0,.int .i64 0,.string ⟨#[]⟩,.string ⟨#[]⟩,.int .i64 0] 88)).heap[w.heap.size+1]? = some (.cells #[.int .i64 0,.int .i64 0,.string ⟨#[]⟩,.string ⟨#[]⟩,.int .i64 0] 88 (0,0))):=by
   have:=heap_alloc_new (w.alloc (.cells #[.slice ai li ci,.slice ao lo co,.int .u8 f,.int .u8 d,.int .u8 c] 91)) (.cells #[.int .i64 0,.int .i64 0,.string ⟨#[]⟩,.string ⟨#[]⟩,.int .i64 0] 88);simp only [A6] at this;exact this
  go_wp2_with fail
  go_loopw [7] (fun i wr=>∃ (j:Nat) (s:ByteArray),j≤2∧i=.int .i64 j∧s.size=j∧wr.heap[w.heap.size+1+1]? = some (.cells #[.int .i64 (f % m),.int .i64 (d % m),.string s1,.string s,.int .i64 (c*2)] 88 (0,0))∧Below (w.heap.size+2) ((w.alloc (.cells #[.slice ai li ci,.slice ao lo co,.int .u8 f,.int .u8 d,.int .u8 c] 91)).alloc (.cells #[.int .i64 0,.int .i64 0,.string ⟨#[]⟩,.string ⟨#[]⟩,.int .i64 0] 88)) wr) (fun i _=>2 - (intOf i).toNat)
  case atStart=>exact ⟨0,⟨#[]⟩,by omega,rfl,rfl,jt.out,jr.out⟩
  case round =>
   obtain ⟨j,s,hj,rfl,hs,ja,jc⟩:=hrel;have jb:=A0 ja;have jf:=A0 jc;have HS:=A0 hs;have hB:Below w.heap.size w wr:=(((Below.refl _ _).alloc (A3 _) _).alloc (by simp) _).trans (jc.mono (by omega));have HB:=A0 hB;obtain ⟨hz,hc,hf⟩:=BD jc rfl;simp only [A6] at hz;have r0:=cell_of_row wr _ 0 _ _ (0,0) ja;have r1:=cell_of_row wr _ 1 _ _ (0,0) ja;have r2:=cell_of_row wr _ 2 _ _ (0,0) ja;have r3:=cell_of_row wr _ 3 _ _ (0,0) ja;have r4:=cell_of_row wr _ 4 _ _ (0,0) ja;have rf:∀ i,wr.frozen? ⟨w.heap.size+1+1,i,none⟩=false:=fun i=>by simp [World.frozen?,ja]
   have jh:=A0 ((jc.block (w.heap.size+1) (by omega)).trans ju.out);obtain ⟨y0,y1,y2,y3,y4⟩:=cells5 jh.out;have yf:∀ i,wr.frozen? ⟨w.heap.size+1,i,none⟩=false:=fun i=>by simp [World.frozen?,jh.out]
   clear ja jc hB hs;by_cases jg:j<lo
   ·by_cases jw:j<2
    ·have jk:(j:Int)<2:=by omega
     obtain ⟨bz,oz,je,jB,jC,jl,jm⟩:=(HO.out.later HB.out (A3 _)).at jg;have jj:=F9 ao bz oz lo co j je jg;have jv:=A0 je;clear je;have jy:(⟨#[97,98,99,65,66,49]⟩:ByteArray).extract 0 1=⟨#[97]⟩:=by decide
     have jz:(⟨#[97,98,99,65,66,49]⟩:ByteArray).extract 1 2=⟨#[98]⟩:=by decide
     have jA:(⟨#[97,98,99,65,66,49]⟩:ByteArray).extract 2 3=⟨#[99]⟩:=by decide
     have hx3:(⟨#[97,98,99,65,66,49]⟩:ByteArray).extract 3 4=⟨#[65]⟩:=by decide
     have hx4:(⟨#[97,98,99,65,66,49]⟩:ByteArray).extract 4 5=⟨#[66]⟩:=by decide
     have hx5:(⟨#[97,98,99,65,66,49]⟩:ByteArray).extract 5 6=⟨#[49]⟩:=by decide
     have ji:∀ (y:UInt8) (W:World),(Op.stringOp .add s ⟨#[y]⟩).run Tryz.prog W=.ok (.string (s ++ ⟨#[y]⟩)) W:=fun y W=>run_string_add_sum W s ⟨#[y]⟩ (by have:=HS.out;rw [this];show j+1≤_;omega);rcases (show ZO j % 6=0∨ZO j % 6=1∨ZO j % 6=2∨ZO j % 6=3∨ZO j % 6=4∨ZO j % 6=5 by omega) with h3 | h3 | h3 | h3 | h3 | h3
     all_goals
      go_upto_region 9 with fail
      go_region
      go_wp2_with fail
      go_roundw
      case rel=>exact ⟨j+1,_,by omega,by go_num,by rw [ByteArray.size_append,HS.out];rfl,Ao jb.out rfl,(jf.out.setCell (by show _≤w.heap.size+1+1;omega) _).trans (below_drewN _ 1)⟩
      case measure=>simp [intOf];omega
    ·obtain rfl:j=2:=by omega
     go_wp2_with fail
     obtain ⟨c0,c1,c2,c3,c4⟩:=cells5 (T1 (a:=.int .i64 (f % m)) (b:=.int .i64 (d % m)) (c:=.string s1) (d:=.string s) (e:=.int .i64 (c*2)) jh.out);refine bodyPost_ret (v:=.agg #[.int .i64 (f % m),.int .i64 (d % m),.string s1,.string s,.int .i64 (c*2)]) (by simp [results,Tryz.results33,go_sem,c0,c1,c2,c3,c4]) rfl ⟨⟨f % m,d % m,s1,s,c*2⟩,rfl,jn.out,by have:=HS.out;show s.size≤2;omega,Po HB.out (by omega)⟩
   ·have jx:¬ (j:Int)<(lo:Int):=by omega
    go_wp2_with fail
    obtain ⟨c0,c1,c2,c3,c4⟩:=cells5 (T1 (a:=.int .i64 (f % m)) (b:=.int .i64 (d % m)) (c:=.string s1) (d:=.string s) (e:=.int .i64 (c*2)) jh.out);refine bodyPost_ret (v:=.agg #[.int .i64 (f % m),.int .i64 (d % m),.string s1,.string s,.int .i64 (c*2)]) (by simp [results,Tryz.results33,go_sem,c0,c1,c2,c3,c4]) rfl ⟨⟨f % m,d % m,s1,s,c*2⟩,rfl,jn.out,by have:=HS.out;show s.size≤2;omega,Po HB.out (by omega)⟩
def Ei (w:World) (B:Nat) (v:Value) (R:List Rl):Prop :=
 C6 w B v R∨∃ (g:Nat) (r0:Rl),v=.slice (some ⟨g,5,none⟩) R.length R.length∧B≤g∧w.heap[g]? = some (.cells (B3 (r0 :: R)).toArray 88 (0,0))
section
variable {w w1:World} {B C:Nat} {v:Value} {R:List Rl}
theorem Ei.below (h:Ei w B v R) (hb:Below C w w1) (hv:∀ g,v.ownBlock=some g→g<C):Ei w1 B v R:=by
 refine h.imp (fun h=>h.below hb hv) ?_;rintro ⟨g,r0,rfl,h1,h2⟩;exact ⟨g,r0,rfl,h1,(hb.block g (hv g rfl)).trans h2⟩
theorem Ei.ge (h:Ei w B v R):∀ g,v.ownBlock=some g→B≤g:=by
 rcases h with h | ⟨g,r0,rfl,h1,h2⟩
 · exact h.ge
 · intro q hq;cases hq;exact h1
theorem Ei.lt (h:Ei w B v R):∀ g,v.ownBlock=some g→g<w.heap.size:=by
 rcases h with h | ⟨g,r0,rfl,h1,h2⟩
 · exact h.lt
 · intro q hq;cases hq;exact (A5.1 h2).1
theorem IY {g:Nat} {r0:Rl} (h2:w.heap[g]? = some (.cells (B3 (r0 :: R)).toArray 88 (0,0))):∀ j u,(B3 R)[j]? = some u→w.cell? ((⟨g,5,none⟩:Addr).add j)=some u:=by
 intro j u hj;rw [Addr.add_lit,cell_of_row w g (5+j) _ _ (0,0) h2,List.getElem?_toArray];rw [show B3 (r0 :: R)=r0.cells ++ B3 R by simp [B3],List.getElem?_append_right (by simp [Rl.cells])];rw [← hj];congr 1;simp [Rl.cells]
theorem Ei.rules (h:Ei w B v R):∃ a c,v=.slice a R.length c∧BG w a R∧R.length≤c:=by
 rcases h with h | ⟨g,r0,rfl,h1,h2⟩
 · exact h.rules
 ·refine ⟨_,_,rfl,.inr ⟨g,5,rfl,(A5.1 h2).1,fun i hi=>?_⟩,A3 _⟩;have hc:∀ j,j<5→w.cell? ⟨g,5+i*5+j,none⟩=R[i].cells[j]?:=fun j hj=>by
   have hg:=Fw (R:=R) hi hj;cases hq:R[i].cells[j]? with
   | none=>simp [Rl.cells] at hq;omega
   | some u =>
    rw [hq] at hg;have:=IY h2 (i*5+j) u hg;rw [Addr.add_lit] at this;rw [Nat.add_assoc];exact this
  exact ⟨hc 0 (by omega),hc 1 (by omega),hc 2 (by omega),hc 3 (by omega),hc 4 (by omega)⟩
theorem Ei.set {g i:Nat} {u:Value} (h:Ei w B v R) (hg:g<B):Ei (w.setCell ⟨g,i,none⟩ u) B v R:=by
 refine h.imp (fun h=>h.set hg) ?_;rintro ⟨b,r0,rfl,h1,h2⟩;refine ⟨b,r0,rfl,h1,?_⟩;rw [Below.heap_setCell _ _ _ _ (by show b≠g;omega)];exact h2
end
theorem opres_rowp {A:Act} {W:World} {o:Oper} {s x:Operand} {B:Nat} {v u:Value} {R:List Rl} {r:Rl}
  (ho:o.op=.call { callee:=.builtin .append,args:=#[s,x],argTypes:=#[31,31] }) (hs:A.eval s=v) (ja:Ei W B v R) (hx:A.eval x=u) (hu:Gp v r u W) (hl:R.length<1000) (hB:B≤W.heap.size) :
  Ee Tryz.prog A o W (fun v' w'=>C6 w' B v' (R ++ [r])∧W.grownBy w' v.ownBlock):=by
 rcases ja with ja | ⟨g0,r0,jg,h1,h2⟩
 · exact MP ho hs ja hx hu hl hB
 ·obtain ⟨i0,hi,jh,jc,ji⟩:=info_parts Hb;obtain ⟨g,hv,hg,hne⟩:=hu;have jd:R.length+1≤maxLen:=by unfold maxLen;omega
  have hr:=run_append_grow (P:=Tryz.prog) W 31 o.type 88 i0 _ Tryz.underlying31 hi jh ⟨g0,5,none⟩ R.length R.length (B3 R) (by rw [jc];exact Bh R) (IY h2) ⟨g,0,none⟩ 1 1 r.cells (by rw [jc];rfl) (FX hg) (by omega) (by omega) (growslice_fits (by omega) (by rw [ji];omega));obtain ⟨v',w',jf,jb,hr⟩:∃ v' w',v'=_∧w'=_∧(Builtin.append_ #[31,31] o.type #[.slice (some ⟨g0,5,none⟩) R.length R.length,.slice (some ⟨g,0,none⟩) 1 1]).run Tryz.prog W=.ok v' w':=⟨_,_,rfl,rfl,hr⟩
  refine .inl ⟨v',w',?_,?_,?_⟩
  ·unfold execOp;simp only [ho,resolve,invoke,builtin,Sem.run_bind,Sem.run_pure,Result.andThen_ok,List.map_toArray,List.map_cons,List.map_nil,hs,hx,hv,jg,hr]
  ·subst jf jb;have e:B3 R ++ r.cells=B3 (R ++ [r]):=by simp [B3]
   have e2:(R ++ [r]).length=R.length+1:=by simp
   have je:=grownCap_ge W (R.length+1) R.length 88;refine ⟨by rw [Bh],.inr ⟨W.heap.size,_,_,by rw [e2],hB,heap_alloc_new W.drew _,by rw [e2];exact je,grownCap_le_maxLen W (R.length+1) R.length _ jd,?_,?_⟩⟩
   ·simp only [Array.size_append,List.size_toArray,size_zeroCells,Bh];have:r.cells.length=5:=rfl;rw [this];simp [Value.cells];omega
   ·simp only [Array.toList_append,List.append_assoc];rw [← List.append_assoc,e,← Bh];exact List.take_left
  ·subst jb;exact ⟨rfl,rfl,rfl,by simp,fun k hk _=>Below.heap_alloc W.drew _ k hk⟩
end Go.Proofs.YtpljngaejaehcaaGreatDoor.Fl
