/- Texts that the claims share: First, Flaw2, Bfs, Flaw3, Flaw4, Mask, RefA, RefB, RefC, Flaw5, Flaw6, RefD, Next, Next2, Ref2, Made, AppE. -/
import Derived.Deep.QuietTactic
import Derived.Laws.AppendOwnNone
import Derived.Test.YtpljngaejaehcaaGreatDoorMF1
import Derived.Test.YtpljngaejaehcaaGreatDoorMA1
import Derived.Test.YtpljngaejaehcaaGreatDoorMA2
set_option maxHeartbeats 3200000
set_option maxRecDepth 100000
set_option linter.unusedVariables false
set_option linter.unusedSimpArgs false
namespace Go.Proofs.YtpljngaejaehcaaGreatDoor.Fl
open Go.RowKit Go.Conc
theorem first_any
         (fid:Nat) (use:Rl→Bool) (jL:∀ (r:Rl) (w:World),Calls Tryz.prog fid #[.agg #[.int .i64 r.frm,.int .i64 r.dst,.string r.inp,.string r.out,.int .i64 r.cost]] w fun e w'=>e=.returned (.bool (use r))∧Below w.heap.size w w')
  (hcf:∀ (args:Array Value) (w:World),(callFunc fid args).run Tryz.prog w=.ok (.enter fid args) w)
  (S:Sch) (a:Option Addr) (cap start goal:Nat) (w:World) (hR:BG w a S.rules) (hS:Fit S) (hs:start<8) (jj:goal<256) :
  Calls Tryz.prog 96 #[.agg #[.int .i64 S.modes,.int .u8 S.acc,.slice a S.rules.length cap],.int .i64 (start:Int),.int .u8 (goal:Int),.func (.func fid) #[] #[]] w fun e w'=>∃ v,e=.returned v∧ChN w' w.heap.size v (bfs use goal S.rules start)∧Below w.heap.size w w':=by
 have HU:=A0 jL;have HR:=A0 hR;have HS:=A0 hS;clear jL hR hS;obtain ⟨i0,hi,kp,kq,ka⟩:=info_parts Kq;have km:∀ W:World,(Instr.makeChan 210 (.int .i64 8)).run Tryz.prog W=.ok (.chan (some W.heap.size)) (W.alloc (.chan 8 #[] false 0 0 false)):=fun W=>by
  have:=run_makeChan (P:=Tryz.prog) (w:=W) Tryz.underlying210 hi .i64 8 (by omega) (by rw [ka];omega);simpa using this
 have kn:∀ W:World,(Instr.makeSlice 205 (.int .i64 8) (.int .i64 8)).run Tryz.prog W=.ok (.slice (some ⟨W.heap.size,0,none⟩) 8 8) (W.alloc (.cells (Array.replicate 8 (.slice none 0 0)) 36)):=fun W=>by
  have:=run_make_row' (P:=Tryz.prog) 205 36 (.slice none 0 0) 24 Tryz.underlying205 Nk rfl .i64 .i64 8 (by omega) (by omega) W;rw [show madeCells #[Value.slice none 0 0] 8=Array.replicate 8 (.slice none 0 0) from Array.ext (by simp [madeCells]) (fun i h1 h2=>by simp [madeCells,Nat.mod_one])] at this;exact this
 obtain ⟨P,hP⟩:∃ P:Nat,P=2 ^ start:=⟨_,rfl⟩
 have h1:Hid (∀ W:World,Calls Tryz.prog 95 #[.int .i64 (start:Int)] W fun e w'=>e=.returned (.int .u8 (P:Int))∧W=w'):=fun W=>by
  have:=Dp (start:Int) W (by omega) (by omega);rw [hP];exact this
 have HP:=A0 hP;clear hP;refine Jw Tryz.func96 rfl ?_;simp only [Tryz.ntmps96,List.size_toArray,List.length_cons,List.length_nil,Nat.reduceAdd,Nat.reduceSub,Array.replicate_succ,
   Array.replicate_zero,List.push_toArray,List.append_toArray,List.nil_append,List.cons_append]
 refine BC (fun K hK=>?_);go_wp2;refine BC (fun K hK=>?_);go_wp2;clear km;refine BC (fun K hK=>?_);go_wp2;clear kn;refine BC (fun K hK=>?_)
 go_wp2_with (go_at_call 95;refine (h1.out _).mono ?_;rintro e w' ⟨rfl,rfl⟩)
 refine CG (Fe ?_);show wpS _ _ [0,1,2] _ _ _;refine Ck rfl rfl rfl (Ck rfl rfl rfl ?_);refine Kn (c:=w.heap.size+1) (cap:=8) (buf:=#[]) (s:=0) (r:=0) (tm:=false) (v:=.int .i64 (start:Int)) (z':=.tuple #[]) rfl rfl rfl (M4 _ _ _) (by decide) (Jv ?_);refine CG (F5 ?_);refine wpK_loopG (InvO w fid use S a cap start goal) 8 ?_ ?_
 ·refine Mu ⟨[start],fun _=>[],P⟩ rfl rfl rfl ?_ ?_ ?_ ?_
  · show 8=1+CA P;rw [HP.out,Fg hs]
  · rw [HP.out];exact Nh w _ start hs
  · rw [HP.out];rfl
  · exact Ks w _ _ _ _ _ _
 ·rintro n A wr
         ⟨s,x,hn,rfl,jx,hout,jq⟩
  obtain ⟨sn,rc,jw⟩:=jx.chan;have jg:=run_len_chan (P:=Tryz.prog) 210 3 Tryz.underlying210 jw;have j8:((s.q.map fun (t:Nat)=>Value.int .i64 (t:Int)).toArray).size=s.q.length:=by simp
  rw [j8] at jg;have jM:=A0 jw;have jb:=A0 jx;have HO:=A0 hout;have HN:=A0 hn;have je:=A0 jq;have hB:Below w.heap.size w wr:=((Below.refl _ _).alloc (A3 _) _).trans (jq.mono (by omega));have HB:=A0 hB;clear jw jx hout hn jq hB j8;refine CG ?_;refine BC (fun K hK=>?_);rcases hq:s.q with _ | ⟨m,q⟩
  ·rw [hq] at jg;go_wp2;refine EH rfl (G3 ?_);simp only [Exit.then,Exit.inBlock,if_true];refine EO ?_;have HE:Hid (bfs use goal S.rules start=[]):=HO.out.symm.trans (JH hq);go_wp2;go_ret;exact ⟨_,rfl,⟨by rw [HE.out];exact Ch.nil _ _,fun _=>rfl⟩,HB.out⟩
  ·rw [hq]
       at jg
   have ko:(((m :: q).length:Nat):Int) > 0:=by simp
   go_wp2;refine DN rfl (Em ?_);refine F5 ?_;refine CG (Fe ?_);show wpS _ _ [0,1,2] _ _ _;refine Ck rfl rfl rfl ?_;have j6:((s.q.map fun (t:Nat)=>Value.int .i64 (t:Int)).toArray).getD 0 undef=.int .i64 (m:Int):=by rw [hq];rfl
   have jF:((s.q.map fun (t:Nat)=>Value.int .i64 (t:Int)).toArray).extract 1 ((s.q.map fun (t:Nat)=>Value.int .i64 (t:Int)).toArray).size=(q.map fun (t:Nat)=>Value.int .i64 (t:Int)).toArray:=by rw [hq];exact P2 m q
   refine Oy (c:=w.heap.size+1) (z:=.int .i64 0) rfl rfl (by simp [go_sem,rcase]) jM.out (by rw [hq];simp) ?_;rw [j6,jF];refine Ck rfl rfl rfl (Jv ?_);simp only [Exit.then];refine Sk (by rfl) (by rfl) (by rfl) (fun y=>?_);have ju:w.heap.size+1<wr.heap.size:=(A5.1 jM.out).1;have jv:=QV (sn:=sn) (rc:=rc) jb.out hq ju ⟨_,_,_,jM.out⟩;have jf:=below_setChan je.out (c:=w.heap.size+1) (A3 _) 8 ((q.map fun (t:Nat)=>Value.int .i64 (t:Int)).toArray) false sn (rc+1) false;generalize wr.setChan (w.heap.size+1) 8 ((q.map fun (t:Nat)=>Value.int .i64 (t:Int)).toArray) false sn (rc+1) false=wo at jv jf ⊢;have jX:m<8:=jb.out.modes m (by rw [hq];simp);obtain ⟨N,j3⟩:∃ N,N=q.length+CA s.seen:=⟨_,rfl⟩
   have jh:=A0 j3;have j0:Hid (n=N+1):=by have:=HN.out;rw [hq] at this;show n=_;simp only [List.length_cons] at this;omega
   have HC:Hid ((match inner use goal m S.rules 0 { s with q:=q } with | .inl c=>c | .inr s'=>outer use goal S.rules N s')=bfs use goal S.rules start):=by
    have:=HO.out;rw [j0.out,outer,hq] at this;exact this
   have HQ:=A0 hq;clear j6 jF jg ko hq jM jb HO HN je HB ju j3;obtain ⟨hz,hc,hf⟩:=BD jf rfl;have jC:=A0 jv;have jy:=A0 jf;clear jv jf;refine BC (fun K hK=>?_);go_wp2;clear hz hc hf;refine F5 ?_;refine wpK_loopG (InvI w fid use S a cap start goal m N) S.rules.length ?_ ?_
   · exact G5 0 { s with q:=q } rfl rfl rfl rfl (Nat.zero_le _) (by simp) jC.out HC.out jh.out jy.out
   ·clear
       HC jh jC jy HQ
    clear s x y wo wr q;rintro n' A wr ⟨k,s,x,hk,hn',rfl,jx,ji,hN,jq⟩;have hB:Below w.heap.size w wr:=((Below.refl _ _).alloc (A3 _) _).trans (jq.mono (by omega));have jb:=A0 jx;have HC:=A0 ji;have jh:=A0 hN;have je:=A0 jq;have HB:=A0 hB;clear jx ji hN jq hB;refine BC (fun K hK=>?_);by_cases ju:k<S.rules.length
    ·go_wp2;refine CG (DN rfl (Em ?_));refine CG (F5 ?_);obtain ⟨hz,hc,hf⟩:=BD je.out rfl;obtain ⟨b,o,ha,hb,q0,q1,q2,q3,q4⟩:=(HR.out.later HB.out (A3 _)).at ju;have hidx:=Bx a b o S.rules.length cap k ha ju;have HA:=A0 ha;clear ha;refine BC (fun K hK=>?_);go_wp2;have HD:=A0 (Kt (use:=use) (goal:=goal) (m:=m) s ju);obtain ⟨f0,f1,t0,t1⟩:=HS.out.at0 k ju;have m1:=HS.out.m1;have hw:Value.int .i64 (wrap64 ((k:Int)+1))=.int .i64 ((k+1:Nat):Int):=by
      have h64:=HS.out.len;have kc:wrap64 ((k:Int)+1)=((k+1:Nat):Int):=by unfold wrap64;omega
      rw [kc]
     by_cases jW:S.rules[k].frm=(m:Int)
     ·have HFM:=A0 jW;have hbne:(S.rules[k].frm != (m:Int))=false:=by simp [jW]
      have jt:Hid (decide (S.rules[k].frm.toNat=m)=true):=by show _=_;simp;omega
      clear jW;by_cases hu:use S.rules[k]=true
      ·have jp:=A0 hu;have hshort:=jb.out.short m jX;obtain ⟨cs,jN,ki,jV⟩:=jb.out.chains;obtain ⟨v,hv,jw⟩:=jV m jX;have hcell:wr.cell? ⟨w.heap.size+2,m,none⟩=some v:=by rw [cell_of_row wr _ m cs _ (0,0) jN];exact hv
       have hlt2:w.heap.size+2<wr.heap.size:=(A5.1 jN).1;have hmi:(m:Int)<8:=by omega
       have hm0:(0:Int)≤m:=by omega
       have jz:=A0 jw;have HCV:=A0 jV;have HCB:=A0 jN;clear hu jw jV jN hv ki;refine CG ?_;refine BC (fun K hK=>?_)
       go_wp2_with (refine (HU.out S.rules[k] _).mono ?_;rintro e w1 ⟨he,hb⟩;rw [jp.out] at he;subst he;have j4:Below (wr.heap.size+1) (wr.alloc (.cells #[.int .i64 S.rules[k].frm,.int .i64 S.rules[k].dst,.string S.rules[k].inp,.string S.rules[k].out,.int .i64 S.rules[k].cost] 88)) w1:=hb.mono (by simp);obtain ⟨jZ,kg,kj⟩:=BZ hb (by first | (simp only [A6,World.size_setCell,World.size_drew];rfl) | rfl);have kd:=Ab (B:=wr.heap.size) (w:=wr) (by go_grown) hb (A3 _);clear hb)
       refine EH rfl (Em ?_);simp only [Exit.then];refine BC (fun K hK=>?_)
       go_wp2_with (first | (go_at_call 124;refine (Nf v (s.ch m) w.heap.size _ (jz.out.below (by go_grown) (fun g hg=>jz.out.lt g hg)) (by omega)).mono ?_;rintro e w2 ⟨v',rfl,jG,hb⟩;have ja:Ch w2 (wr.heap.size+1) v' (s.ch m):=jG.mono jZ;have jE:=j4.trans (hb.mono jZ);obtain ⟨kr,kh,kk⟩:=BZ hb (by first | (simp only [A6,World.size_setCell,World.size_drew];rfl) | rfl);have ke:=Ab (B:=wr.heap.size) (w:=wr) (by go_grown) hb (A3 _);clear hb jG) | (at_builtin;refine wpList_append_own _ rfl _ _ 36 rfl (wr.heap.size+1) 3 i0 (.int .i64 0) 1 8 Tryz.underlying36 hi kp kq ka rfl (by decide) v' (s.ch m).length (G4 (s.ch m)) rfl (World.ownsRow.alloc ja _) ⟨w2.heap.size,0,none⟩ 1 1 [.int .i64 (k:Int)] rfl rfl (cell_one_new _ _ _) (by simp [Value.oneCell']) (by unfold maxLen;omega) (by omega) (by have:=jE.size;simp only [A6] at this ⊢;omega) ?_;intro v3 w3 jl jk _;have j5:Below (wr.heap.size+1) (wr.alloc (.cells #[.int .i64 S.rules[k].frm,.int .i64 S.rules[k].dst,.string S.rules[k].inp,.string S.rules[k].out,.int .i64 S.rules[k].cost] 88)) w3:=(jE.alloc (by have:=jE.size;simp only [A6] at this;omega) _).grown jk (by have:=jE.size;simp only [A6] at this ⊢;omega) (fun g hg=>ja.ge g hg);have j2:=QW jl;clear jl jk) | fail)
       have jD:Below wr.heap.size wr w3:=((Below.refl _ wr).alloc (A3 _) _).trans (j5.mono (by omega));have j7:w3.cell? ⟨wr.heap.size,1,none⟩=some (.int .i64 S.rules[k].dst):=(j5.cell (p:=⟨wr.heap.size,1,none⟩) (by show wr.heap.size<_;omega)).trans (by rw [cell_of_row _ _ 1 _ _ (0,0) (heap_alloc_new wr _)];rfl);have jQ:=A0 j2;clear j2;clear kg kj kh kk kd ke j4 jE ja hc hf kr jZ hz;have jJ:S.rules[k].dst<8:=by omega
       refine CG ?_;refine BC (fun K hK=>?_);by_cases hg:goal.testBit S.rules[k].dst.toNat=true
       ·have HG:=A0 hg;have HE:Hid (s.ch m ++ [k]=bfs use goal S.rules start):=by
         have:=HC.out;rw [HD.out,jt.out,jp.out,Bool.and_true,if_pos rfl,if_pos hg] at this;exact this
        clear hg
        go_wp2_with (go_at_call 65;refine (Cx goal _ _ jj t0 jJ).mono ?_;rintro e w4 ⟨he,rfl⟩;rw [HG.out] at he;subst he)
        refine DN rfl ?_;refine EO ?_;go_wp2;go_ret;exact ⟨_,rfl,⟨by rw [← HE.out];exact jQ.out.mono (by have:=HB.out.size;omega),fun h=>by rw [← HE.out] at h;simp at h⟩,HB.out.trans (jD.mono HB.out.size)⟩
       ·have HG:Hid (goal.testBit S.rules[k].dst.toNat=false):=by show _=_;simpa using hg
        clear hg
        go_wp2_with (go_at_call 65;refine (Cx goal _ _ jj t0 jJ).mono ?_;rintro e w4 ⟨he,rfl⟩;rw [HG.out] at he;subst he)
        refine EH rfl (Em ?_);simp only [Exit.then];refine BC (fun K hK=>?_);have jc:=jb.out.seen;by_cases jK:s.seen.testBit S.rules[k].dst.toNat=true
        ·have jB:=A0 jK;have jn:Hid ((match inner use goal m (S.rules.drop (k+1)) (k+1) s with | .inl c=>c | .inr s''=>outer use goal S.rules N s'')=bfs use goal S.rules start):=by
          have:=HC.out;rw [HD.out,jt.out,jp.out,Bool.and_true,if_pos rfl,HG.out,if_neg (by simp),if_pos jK] at this;exact this
         clear jK
         go_wp2_with (go_at_call 65;refine (Cx s.seen _ _ jc t0 jJ).mono ?_;rintro e w4 ⟨he,rfl⟩;rw [jB.out] at he;subst he)
         refine EH rfl (Em ?_);simp only [Exit.then,Exit.inBlock];refine EO ?_;go_wp2;exact ⟨S.rules.length - (k+1),by omega,G5 (k+1) s rfl rfl rfl (by show [_,_,Value.int .i64 (wrap64 ((k:Int)+1))]=_;rw [hw]) (by omega) rfl (F7 jb.out jD) jn.out jh.out (Ab je.out jD (by simp))⟩
        ·have jB:Hid (s.seen.testBit S.rules[k].dst.toNat=false):=by show _=_;simpa using jK
         obtain ⟨d,hd⟩:=Int.eq_ofNat_of_zero_le t0;have jR:Hid (S.rules[k].dst.toNat=d):=by show _=_;omega
         have js:d<8:=by omega
         have jo:Hid (s.seen.testBit d=false):=by show _=_;rw [← jR.out];exact jB.out
         have kb:=A0 hd;clear hd;have jn:Hid ((match inner use goal m (S.rules.drop (k+1)) (k+1) ⟨s.q ++ [d],fun t=>if t=d then s.ch m ++ [k] else s.ch t,s.seen ||| 2 ^ d⟩ with | .inl c=>c | .inr s''=>outer use goal S.rules N s'')=bfs use goal S.rules start):=by
          have:=HC.out;rw [HD.out,jt.out,jp.out,Bool.and_true,if_pos rfl,HG.out,if_neg (by simp),jB.out,if_neg (by simp)] at this;simp only [jR.out] at this;exact this
         clear jK
         go_wp2_with (go_at_call 65;refine (Cx s.seen _ _ jc t0 jJ).mono ?_;rintro e w4 ⟨he,rfl⟩;rw [jB.out] at he;subst he)
         refine DN rfl ?_;have jY:=Dp S.rules[k].dst;refine BC (fun K hK=>?_);obtain ⟨PP,jS⟩:∃ PP:Nat,PP=2 ^ S.rules[k].dst.toNat:=⟨_,rfl⟩
         have jT:PP<256:=by rw [jS];exact EM _ (by omega)
         have hor:bits .or .u8 (s.seen:Int) (PP:Int)=((s.seen ||| PP:Nat):Int):=u8_or_nat _ _ jc jT;have j1:=A0 jS;clear jS
         go_wp2_with (go_at_call 95;refine (jY _ t0 jJ).mono ?_;rintro e w4 ⟨he,rfl⟩;rw [← j1.out] at he;subst he)
         obtain ⟨a3,c3,Jx, -, -⟩:=jQ.out.sl;rw [show (s.ch m ++ [k]).length=(s.ch m).length+1 by simp] at Jx;subst Jx;have jd:=F7 jb.out jD;obtain ⟨sn3,rc3,ja⟩:=jd.chan;obtain ⟨cs3,jr,jU,jI⟩:=jd.chains;obtain ⟨v0,j9, -⟩:=jI S.rules[k].dst.toNat (by omega);have hcd:w3.cell? ⟨w.heap.size+2,S.rules[k].dst.toNat,none⟩=some v0:=by rw [cell_of_row w3 _ _ cs3 _ (0,0) jr];exact j9
         have hfz:w3.frozen? ⟨w.heap.size+2,S.rules[k].dst.toNat,none⟩=false:=by simp [World.frozen?,jr]
         have hne:w.heap.size+2≠wr.heap.size:=by omega
         have kf:(w3.setCell ⟨w.heap.size+2,S.rules[k].dst.toNat,none⟩ (.slice a3 ((s.ch m).length+1) c3)).cell? ⟨wr.heap.size,1,none⟩=some (.int .i64 S.rules[k].dst):=by
          exact (World.cell?_setCell_other w3 ⟨w.heap.size+2,S.rules[k].dst.toNat,none⟩ ⟨wr.heap.size,1,none⟩ _ (by simp only [ne_eq,Addr.mk.injEq];omega)).trans j7
         have jH:(w3.setCell ⟨w.heap.size+2,S.rules[k].dst.toNat,none⟩ (.slice a3 ((s.ch m).length+1) c3)).heap[w.heap.size+1]? = some (.chan 8 ((s.q.map fun (t:Nat)=>Value.int .i64 (t:Int)).toArray) false sn3 rc3 false):=by
          rw [Below.heap_setCell _ _ _ _ (by show w.heap.size+1≠w.heap.size+2;omega)];exact ja
         have jm:((s.q.map fun (t:Nat)=>Value.int .i64 (t:Int)).toArray).size<8:=by
          have h1:=jd.room;have h2:=Ff js jo.out;simp;omega
         have jO:=A0 (Ni (v3:=(.slice a3 ((s.ch m).length+1) c3)) kb.out jd js jX jo.out (jQ.out.mono (by have:=HB.out.size;omega)) ja);have jP:=A0 jH;have jA:=A0 jm;clear ja jr jU jI j9 jd jH jm;refine BC (fun K hK=>?_);go_wp2;refine Fe ?_;show wpS _ _ [0,1,2,3] _ _ _;refine Ck rfl rfl rfl (Ck rfl rfl rfl (Ck rfl rfl (v:=.int .i64 S.rules[k].dst) (w':=w3.setCell ⟨w.heap.size+2,S.rules[k].dst.toNat,none⟩ (.slice a3 ((s.ch m).length+1) c3)) (by simp [go_sem,j7,kf]) ?_));refine Kn (c:=w.heap.size+1) (cap:=8) (v:=.int .i64 S.rules[k].dst) (z':=.tuple #[]) rfl rfl rfl jP.out jA.out (Jv ?_);simp only [Exit.then,Exit.inBlock];obtain rfl:PP=2 ^ d:=by rw [← jR.out];exact j1.out
         refine EO ?_;go_wp2;exact ⟨S.rules.length - (k+1),by omega,G5 (k+1) ⟨s.q ++ [d],fun t=>if t=d then s.ch m ++ [k] else s.ch t,s.seen ||| 2 ^ d⟩ rfl rfl rfl (by show [_,_,Value.int .i64 (wrap64 ((k:Int)+1))]=_;rw [hw]) (by omega) rfl (by have:=jO.out;rwa [List.push_toArray] at this) jn.out (by have:=Ff js jo.out;have:=jh.out;simp only [AB,List.length_cons,List.length_nil];omega) (below_setChan ((Ab je.out jD (by simp)).setCell (by show _≤w.heap.size+2;omega) _) (A3 _) _ _ _ _ _ _)⟩
      ·have jp:Hid (use S.rules[k]=false):=by show _=_;simpa using hu
       have jn:Hid ((match inner use goal m (S.rules.drop (k+1)) (k+1) s with | .inl c=>c | .inr s''=>outer use goal S.rules N s'')=bfs use goal S.rules start):=by
        have:=HC.out;rw [HD.out,jp.out,Bool.and_false,if_neg (by simp)] at this;exact this
       refine CG ?_;refine BC (fun K hK=>?_)
       go_wp2_with (refine (HU.out S.rules[k] _).mono ?_;rintro e w1 ⟨he,hb⟩;rw [jp.out] at he;subst he;obtain ⟨hz,hc,hf⟩:=BZ hb (by first | (simp only [A6,World.size_setCell,World.size_drew];rfl) | rfl);have hB:=Ab (B:=wr.heap.size) (w:=wr) (by go_grown) hb (A3 _);clear hb)
       refine DN (c:=.tmp 44) ?_ (G3 ?_)
       · rfl
       simp only [Exit.then,Exit.inBlock,if_true];refine EO ?_;go_wp2;exact ⟨S.rules.length - (k+1),by omega,G5 (k+1) s rfl rfl rfl (by show [_,_,Value.int .i64 (wrap64 ((k:Int)+1))]=_;rw [hw]) (by omega) rfl (F7 jb.out (by go_grown)) jn.out jh.out (Ab je.out (by go_grown) (by simp))⟩
     ·have jn:Hid ((match inner use goal m (S.rules.drop (k+1)) (k+1) s with | .inl c=>c | .inr s''=>outer use goal S.rules N s'')=bfs use goal S.rules start):=by
       have:=HC.out;have hd:decide (S.rules[k].frm.toNat=m)=false:=by simp;omega
       rw [HD.out,hd,Bool.false_and,if_neg (by simp)] at this;exact this
      refine CG ?_;refine BC (fun K hK=>?_);go_wp2;refine DN rfl (G3 ?_);simp only [Exit.then,Exit.inBlock,if_true];refine EO ?_;go_wp2;exact ⟨S.rules.length - (k+1),by omega,G5 (k+1) s rfl rfl rfl (by show [_,_,Value.int .i64 (wrap64 ((k:Int)+1))]=_;rw [hw]) (by omega) rfl (F7 jb.out (by go_grown)) jn.out jh.out (Ab je.out (by go_grown) (by simp))⟩
    ·have kl:k=S.rules.length:=by omega
     subst kl;have HE:Hid (outer use goal S.rules N s=bfs use goal S.rules start):=by
      have:=HC.out;rw [List.drop_length,inner] at this;exact this
     go_wp2;refine CG (EH rfl (G3 ?_));simp only [Exit.then,Exit.inBlock,if_true];exact ⟨N,by have:=j0.out;omega,Mu s rfl rfl rfl jh.out jb.out HE.out je.out⟩
open Go.RowKit
theorem LQ {S:Sch} (hS:Fit S):El S.eds S.modes.toNat S.acc.toNat<256:=by
 have:∀ n,Hr (fun L=>S.eds.foldl Do L) n S.acc.toNat<256:=by
  intro n
  induction n with
  | zero=>show S.acc.toNat<256;have:=hS.a0;have:=hS.a1;omega
  | succ n ih=>exact Kl _ _ hS.within ih
 exact this _
theorem H9 {S:Sch} (hS:Fit S):DR S.eds S.modes.toNat<256:=by
 have:∀ n,Hr (fun L=>S.eds.foldl Dm L) n 1<256:=by
  intro n
  induction n with
  | zero=>show 1<256;omega
  | succ n ih=>exact Kk _ _ hS.within ih
 exact this _
theorem Pf (fid:Nat) (use:Rl→Bool) (jb:∀ (r:Rl) (w:World),Calls Tryz.prog fid #[.agg #[.int .i64 r.frm,.int .i64 r.dst,.string r.inp,.string r.out,.int .i64 r.cost]] w fun e w'=>e=.returned (.bool (use r))∧Below w.heap.size w w')
  (jc:∀ (args:Array Value) (w:World),(callFunc fid args).run Tryz.prog w=.ok (.enter fid args) w)
  (S:Sch) (a:Option Addr) (cap start goal:Nat) (st gl:Int) (je:st=(start:Int)) (jd:gl=(goal:Int)) (w:World) (hR:BG w a S.rules) (hS:Fit S) (hs:start<8) (ja:goal<256) :
  Calls Tryz.prog 96 #[.agg #[.int .i64 S.modes,.int .u8 S.acc,.slice a S.rules.length cap],.int .i64 st,.int .u8 gl,.func (.func fid) #[] #[]] w fun e w'=>∃ v,e=.returned v∧ChN w' w.heap.size v (bfs use goal S.rules start)∧Below w.heap.size w w':=by
 subst je jd;exact first_any fid use jb jc S a cap start goal w hR hS hs ja
def LR (S:Sch):Nat:=El S.eds S.modes.toNat S.acc.toNat
def KF (S:Sch):Nat:=DR S.eds S.modes.toNat
def Fv (r:Rl):Bool:=decide (r.inp.size=0)
def GO:List Nat→List Nat→Prop
 | a :: xs,b :: ys=>a<b∨(a=b∧GO xs ys)
 | _,_=>False
def sl (a b:List Nat):Prop:=a.length<b.length∨(a.length=b.length∧GO a b)
def sle (a b:List Nat):Prop:=a=b∨sl a b
theorem Ha:∀ {a b c:List Nat},GO a b→GO b c→GO a c
 | a
   :: xs,b :: ys,c :: zs,h,h2=>by
  rcases h with h | ⟨rfl,h⟩
  ·rcases h2 with h2 | ⟨rfl,h2⟩
   · exact .inl (Nat.lt_trans h h2)
   · exact .inl h
  ·rcases h2 with h2 | ⟨rfl,h2⟩
   · exact .inl h2
   · exact .inr ⟨rfl,Ha h h2⟩
 | [],_,_,h,_=>h.elim
 | _ :: _,[],_,h,_=>h.elim
 | _ :: _,_ :: _,[],_,h=>h.elim
theorem GP:∀ {a b:List Nat} (x y:List Nat),GO a b→GO (a ++ x) (b ++ y)
 | a :: xs,b :: ys,x,y,h=>h.elim (fun h=>.inl h) fun h=>.inr ⟨h.1,GP x y h.2⟩
 | [],_,_,_,h=>h.elim
 | _ :: _,[],_,_,h=>h.elim
theorem IT:∀ (a:List Nat) {x y:List Nat},GO x y→GO (a ++ x) (a ++ y)
 | [],_,_,h=>h
 | _ :: xs,_,_,h=>.inr ⟨rfl,IT xs h⟩
theorem Ex {a b c:List Nat} (h:sl a b) (h2:sl b c):sl a c:=by
 rcases h with h | ⟨h,hl⟩ <;> rcases h2 with h2 | ⟨h2,ja⟩
 · exact .inl (by omega)
 · exact .inl (by omega)
 · exact .inl (by omega)
 · exact .inr ⟨by omega,Ha hl ja⟩
theorem KG {a b:List Nat} (h:sl a b) (x y:Nat):sl (a ++ [x]) (b ++ [y]):=by
 rcases h with h | ⟨h,hl⟩
 · exact .inl (by simp;omega)
 · exact .inr ⟨by simp;omega,GP _ _ hl⟩
theorem GQ (a:List Nat) {x y:Nat} (h:x<y):sl (a ++ [x]) (a ++ [y]):=.inr ⟨by simp,IT a (x:=[x]) (y:=[y]) (show x<y∨_ from .inl h)⟩
theorem NG (a:List Nat) (x:Nat):sl a (a ++ [x]):=.inl (by simp)
theorem GR (a:List Nat):sle a a:=.inl rfl
theorem EK {a b c:List Nat} (h:sle a b) (h2:sle b c):sle a c:=by
 rcases h with rfl | h
 · exact h2
 ·rcases h2 with rfl | h2
  · exact .inr h
  · exact .inr (Ex h h2)
theorem GS {a b:List Nat} (h:sle a b) (x:Nat):sle (a ++ [x]) (b ++ [x]):=by
 rcases h with rfl | h
 · exact GR _
 · exact .inr (KG h x x)
def leads (use:Rl→Bool) (R:List Rl):Nat→List Nat→Option Nat
 | m,[]=>some m
 | m,i :: c=>if h:i<R.length then (if R[i].frm.toNat=m∧use R[i]=true then leads use R R[i].dst.toNat c else none) else none
def Stp (use:Rl→Bool) (R:List Rl) (u i t:Nat):Prop:=∃ h:i<R.length,R[i].frm.toNat=u∧use R[i]=true∧R[i].dst.toNat=t
theorem De {use:Rl→Bool} {R:List Rl} {m i t:Nat} {c:List Nat}:leads use R m (i :: c)=some t↔∃ u,Stp use R m i u∧leads use R u c=some t:=by
 rw [leads];constructor
 ·intro h;split at h
  ·rename_i hi;split at h
   · rename_i h2;exact ⟨_,⟨hi,h2.1,h2.2,rfl⟩,h⟩
   · cases h
  · cases h
 ·rintro ⟨u,⟨hi,h1,h2,rfl⟩,h⟩;rw [dif_pos hi,if_pos ⟨h1,h2⟩];exact h
theorem EX {use:Rl→Bool} {R:List Rl}:∀ {m t:Nat} {c d:List Nat},leads use R m (c ++ d)=some t↔∃ u,leads use R m c=some u∧leads use R u d=some t
 | m,t,[],d=>by simp [leads]
 | m,t,i :: c,d=>by
  rw [List.cons_append,De];constructor
  ·rintro ⟨u,h1,h2⟩;obtain ⟨v,h3,h4⟩:=EX.1 h2;exact ⟨v,De.2 ⟨u,h1,h3⟩,h4⟩
  ·rintro ⟨v,h1,h2⟩;obtain ⟨u,h3,h4⟩:=De.1 h1;exact ⟨u,h3,EX.2 ⟨v,h4,h2⟩⟩
theorem EY {use:Rl→Bool} {R:List Rl} {m t i:Nat} {c:List Nat}:leads use R m (c ++ [i])=some t↔∃ u,leads use R m c=some u∧Stp use R u i t:=by
 rw [EX];constructor
 ·rintro ⟨u,h1,h2⟩;obtain ⟨v,h3,h4⟩:=De.1 h2;cases h4;exact ⟨u,h1,h3⟩
 ·rintro ⟨u,h1,h2⟩;exact ⟨u,h1,De.2 ⟨t,h2,rfl⟩⟩
theorem IU {α:Type} (c:List α):c=[]∨∃ d x,c=d ++ [x]:=by
 rcases List.eq_nil_or_concat c with h | ⟨d,x,h⟩
 · exact .inl h
 · exact .inr ⟨d,x,by rw [h];try simp⟩
structure SF (use:Rl→Bool) (R:List Rl) (start goal:Nat) (c:List Nat):Prop where
 ne:c≠[]
 is:∃ g,leads use R start c=some g∧goal.testBit g=true
 least:∀ d g,d≠[]→leads use R start d=some g→goal.testBit g=true→sle c d
def KH (use:Rl→Bool) (R:List Rl) (start goal:Nat):Prop:=∀ d g,d≠[]→leads use R start d=some g→goal.testBit g=false
structure BI (use:Rl→Bool) (R:List Rl) (start goal:Nat) (D:List Nat) (s:BS):Prop where
 chain:∀ t∈D ++ s.q,leads use R start (s.ch t)=some t
 seenL:∀ t,s.seen.testBit t=true↔t∈D ++ s.q
 base:start∈D ++ s.q∧s.ch start=[]
 sorted:(D ++ s.q).Pairwise (fun a b=>sl (s.ch a) (s.ch b))
def J4 (use:Rl→Bool) (R:List Rl) (goal:Nat) (D:List Nat) (s:BS) (u i:Nat):Prop :=
 ∀ t,Stp use R u i t→t∈D ++ s.q∧sle (s.ch t) (s.ch u ++ [i])∧goal.testBit t=false
theorem frontier {use:Rl→Bool} {R:List Rl} {start goal:Nat} {D:List Nat} {m k:Nat} {s:BS} (hI:BI use R start goal (D ++ [m]) s)
  (hd:∀ u∈D,∀ i,J4 use R goal (D ++ [m]) s u i) (hm:∀ i,i<k→J4 use R goal (D ++ [m]) s m i) :
  ∀ (N:Nat) (c:List Nat) (n:Nat),c.length=N→leads use R start c=some n→(n∈(D ++ [m]) ++ s.q∧sle (s.ch n) c∧(c=[]∨goal.testBit n=false))∨sle (s.ch m ++ [k]) c:=by
 intro N
 induction N with
 | zero =>
  intro c n hc hn;obtain rfl:=List.eq_nil_of_length_eq_zero hc;cases hn;exact .inl ⟨hI.base.1,by rw [hI.base.2];exact GR _,.inl rfl⟩
 | succ N ih =>
  intro c n hc hn;rcases IU c with rfl | ⟨c,i,rfl⟩
  · simp at hc
  obtain ⟨u,h1,h2⟩:=EY.1 hn;rcases ih c u (by simpa using hc) h1 with ⟨hu,ja, -⟩ | h
  ·rw [List.append_assoc] at hu;rcases AT.1 hu with hu | hu
   ·obtain ⟨q1,q2,q3⟩:=hd u hu i n h2;exact .inl ⟨q1,EK q2 (GS ja i),.inr q3⟩
   ·rw [List.singleton_append] at hu;rcases AS.1 hu with rfl | hu
    ·by_cases jb:i<k
     ·obtain ⟨q1,q2,q3⟩:=hm i jb n h2;exact .inl ⟨q1,EK q2 (GS ja i),.inr q3⟩
     ·refine .inr (EK ?_ (GS ja i));by_cases e:i=k
      · subst e;exact GR _
      · exact .inr (GQ _ (by omega))
    ·have hs:sl (s.ch m) (s.ch u):=by
      have:=hI.sorted;rw [List.append_assoc,List.pairwise_append] at this;have:=this.2.1;rw [List.singleton_append,AQ] at this;exact this.1 u hu
     exact .inr (EK (.inr (KG hs k i)) (GS ja i))
  · exact .inr (EK h (.inr (NG c i)))
theorem LS {use:Rl→Bool} {R:List Rl} {start goal:Nat} {D:List Nat} {s:BS} (hI:BI use R start goal D s) (hd:∀ u∈D,∀ i,J4 use R goal D s u i) (hq:s.q=[]):KH use R start goal:=by
 have key:∀ (N:Nat) (c:List Nat) (n:Nat),c.length=N→leads use R start c=some n→n∈D∧(c=[]∨goal.testBit n=false):=by
  intro N
  induction N with
  | zero =>
   intro c n hc hn;obtain rfl:=List.eq_nil_of_length_eq_zero hc;cases hn;have:=hI.base.1;rw [hq,List.append_nil] at this;exact ⟨this,.inl rfl⟩
  | succ N ih =>
   intro c n hc hn;rcases IU c with rfl | ⟨c,i,rfl⟩
   · simp at hc
   obtain ⟨u,h1,h2⟩:=EY.1 hn;obtain ⟨hu, -⟩:=ih c u (by simpa using hc) h1;obtain ⟨q1,q2,q3⟩:=hd u hu i n h2;rw [hq,List.append_nil] at q1;exact ⟨q1,.inr q3⟩
 intro d g ja jb;rcases (key d.length d g rfl jb).2 with h | h
 · exact absurd h ja
 · exact h
theorem inner_spec {use:Rl→Bool} {R:List Rl} {start goal:Nat} {D:List Nat} {m:Nat}:∀ (N k:Nat) (s:BS),R.length - k=N→k≤R.length→BI use R start goal (D ++ [m]) s →
  (∀ u∈D,∀ i,J4 use R goal (D ++ [m]) s u i)→(∀ i,i<k→J4 use R goal (D ++ [m]) s m i)→(∀ t∈(D ++ [m]) ++ s.q,sl (s.ch t) (s.ch m ++ [k])) →
  match inner use goal m (R.drop k) k s with
  | .inl c=>SF use R start goal c
  | .inr s'=>BI use R start goal (D ++ [m]) s'∧(∀ u∈D ++ [m],∀ i,J4 use R goal (D ++ [m]) s' u i)∧(∀ t∈(D ++ [m]) ++ s'.q,sl (s'.ch t) (s'.ch m ++ [R.length])):=by
 intro N
 induction N with
 | zero =>
  intro k s hN hk hI hd hm hb;obtain rfl:k=R.length:=by omega
  rw [List.drop_length,inner];refine ⟨hI,fun u hu i=>?_,hb⟩;rcases AT.1 hu with hu | hu
  · exact hd u hu i
  ·simp at hu;subst hu;rintro t ⟨hi,h⟩;exact hm i hi t ⟨hi,h⟩
 | succ N ih
       =>
  intro k s hN hk hI hd hm hb;have ji:k<R.length:=by omega
  have jg:m∈(D ++ [m]) ++ s.q:=by simp
  rw [Kt s ji];by_cases hc:(decide (R[k].frm.toNat=m) && use R[k])=true
  ·rw [if_pos hc];simp only [Bool.and_eq_true,decide_eq_true_eq] at hc;have jk:Stp use R m k R[k].dst.toNat:=⟨ji,hc.1,hc.2,rfl⟩
   by_cases hg:goal.testBit R[k].dst.toNat=true
   ·rw [if_pos hg];refine ⟨by simp,⟨_,EY.2 ⟨m,hI.chain m jg,jk⟩,hg⟩,fun d g jd jn jm=>?_⟩;rcases frontier hI hd hm d.length d g rfl jn with ⟨_,_,h | h⟩ | h
    · exact absurd h jd
    · rw [jm] at h;cases h
    · exact h
   ·have jh:goal.testBit R[k].dst.toNat=false:=by simpa using hg
    rw [if_neg hg];by_cases hs:s.seen.testBit R[k].dst.toNat=true
    ·rw [if_pos hs];refine ih (k+1) s (by omega) (by omega) hI hd (fun i hi=>?_) (fun t ht=>Ex (hb t ht) (GQ _ (by omega)));by_cases e:i=k
     ·subst e;rintro t ⟨h1,h2,h3,rfl⟩;exact ⟨(hI.seenL _).1 hs,.inr (hb _ ((hI.seenL _).1 hs)),jh⟩
     · exact hm i (by omega)
    ·rw [if_neg hs];have je:R[k].dst.toNat ∉ (D ++ [m]) ++ s.q:=fun h=>hs ((hI.seenL _).2 h);generalize jd:R[k].dst.toNat=d at *;have jj:m≠d:=fun e:m=d=>je (e ▸ jg);have jc:∀ t∈(D ++ [m]) ++ s.q,(if t=d then s.ch m ++ [k] else s.ch t)=s.ch t:=fun t ht=>if_neg (fun e:t=d=>je (e ▸ ht));have ja:∀ t,t∈(D ++ [m]) ++ (s.q ++ [d])↔(t∈(D ++ [m]) ++ s.q∨t=d):=fun t=>by
      rw [← List.append_assoc];simp only [AT (t:=[d]),AD]
     have jb:∀ u i,u∈(D ++ [m]) ++ s.q→J4 use R goal (D ++ [m]) s u i→J4 use R goal (D ++ [m]) ⟨s.q ++ [d],fun t=>if t=d then s.ch m ++ [k] else s.ch t,s.seen ||| 2 ^ d⟩ u i:=by
      intro u i hu h t ht;obtain ⟨q1,q2,q3⟩:=h t ht;refine ⟨(ja t).2 (.inl q1),?_,q3⟩;show sle (if t=d then s.ch m ++ [k] else s.ch t) ((if u=d then s.ch m ++ [k] else s.ch u) ++ [i]);rw [jc t q1,jc u hu];exact q2
     have jl:∀ u,u∈D→u∈(D ++ [m]) ++ s.q:=fun u hu=>by simp [hu]
     refine ih (k+1) ⟨s.q ++ [d],fun t=>if t=d then s.ch m ++ [k] else s.ch t,s.seen ||| 2 ^ d⟩ (by omega) (by omega) ⟨fun t ht=>?_,fun t=>?_,⟨(ja _).2 (.inl hI.base.1),?_⟩,?_⟩ (fun u hu i=>jb u i (jl u hu) (hd u hu i)) (fun i hi=>?_) (fun t ht=>?_)
     ·show leads use R start (if t=d then s.ch m ++ [k] else s.ch t)=some t;rcases (ja t).1 ht with h | rfl
      · rw [jc t h];exact hI.chain t h
      · rw [if_pos rfl];exact EY.2 ⟨m,hI.chain m jg,jk⟩
     ·rw [ja,← hI.seenL,Nat.testBit_or,Nat.testBit_two_pow];simp only [Bool.or_eq_true,decide_eq_true_eq];exact or_congr Iff.rfl eq_comm
     ·show (if start=d then s.ch m ++ [k] else s.ch start)=[];rw [jc _ hI.base.1];exact hI.base.2
     ·show ((D ++ [m]) ++ (s.q ++ [d])).Pairwise (fun a b=>sl (if a=d then s.ch m ++ [k] else s.ch a) (if b=d then s.ch m ++ [k] else s.ch b));rw [← List.append_assoc,List.pairwise_append];refine ⟨?_,by simp,fun a ha b jf=>?_⟩
      ·refine List.Pairwise.imp_of_mem (fun {a b} ha jf h=>?_) hI.sorted;rw [jc a ha,jc b jf];exact h
      ·simp at jf;subst jf;rw [if_pos rfl,jc a ha];exact hb a ha
     ·by_cases e:i=k
      ·subst e;rintro t ⟨h1,h2,h3,rfl⟩;rw [jd];refine ⟨(ja _).2 (.inr rfl),?_,by rw [← jd];first | exact jh | (rw [jd];exact jh)⟩;show sle (if d=d then s.ch m ++ [i] else s.ch d) ((if m=d then s.ch m ++ [i] else s.ch m) ++ [i]);rw [if_pos rfl,if_neg jj];exact GR _
      · exact jb m i jg (hm i (by omega))
     ·show sl (if t=d then s.ch m ++ [k] else s.ch t) ((if m=d then s.ch m ++ [k] else s.ch m) ++ [k+1]);rw [if_neg jj];rcases (ja t).1 ht with h | rfl
      · rw [jc t h];exact Ex (hb t h) (GQ _ (by omega))
      · rw [if_pos rfl];exact GQ _ (by omega)
  ·rw [if_neg hc];refine ih (k+1) s (by omega) (by omega) hI hd (fun i hi=>?_) (fun t ht=>Ex (hb t ht) (GQ _ (by omega)));by_cases e:i=k
   ·subst e;rintro t ⟨h1,h2,h3,rfl⟩;exact absurd (by simp [h2,h3]) hc
   · exact hm i (by omega)
theorem R8 {N L t:Nat} (ht:t<N) (h:L.testBit t=false):cntF N (L ||| 2 ^ t).testBit+1=cntF N L.testBit:=by
 have:=cntF_add (f:=L.testBit) (g:=(L ||| 2 ^ t).testBit) (t:=t) (fun i=>by rw [Nat.testBit_or,Nat.testBit_two_pow]) h N
 rwa [if_pos ht] at this
theorem LT:∀ N,cntF N (fun _=>false)=N
 | 0=>rfl
 | N+1=>by simp [cntF,LT N]
theorem R9 {N t:Nat} (ht:t<N):cntF N (2 ^ t).testBit+1=N:=by
 have:=cntF_add (f:=fun _=>false) (g:=(2 ^ t).testBit) (t:=t) (fun i=>by rw [Nat.testBit_two_pow];simp) rfl N
 rwa [if_pos ht,LT] at this
structure Sm (N:Nat) (s:BS):Prop where
 short:∀ t,t<N→(s.ch t).length+cntF N s.seen.testBit<N
 modes:∀ t∈s.q,t<N
def Small (N:Nat) (R:List Rl):Prop:=∀ r∈R,r.frm.toNat<N∧r.dst.toNat<N
def TK (N:Nat) (s:BS):List Nat ⊕ BS→Prop
 | .inl c=>c.length≤N
 | .inr s'=>Sm N s'∧s'.q.length+cntF N s'.seen.testBit=s.q.length+cntF N s.seen.testBit
theorem inner_small {use:Rl→Bool} {goal N m:Nat} (hm:m<N):∀ (R:List Rl) (k:Nat) (s:BS),Small N R→Sm N s→TK N s (inner use goal m R k s)
 | [],k,s,_,h=>⟨h,rfl⟩
 | r
   :: R,
      k,s,hR,h=>by
  have ja:Small N R:=fun x hx=>hR x (by simp [hx]);have hd:=(hR r (by simp)).2;rw [inner];split
  ·split
   ·show (s.ch m ++ [k]).length≤N;have:=h.short m hm;rw [AB];simp only [List.length_cons,List.length_nil];omega
   ·split
    · exact inner_small hm R (k+1) s ja h
    ·rename_i hs;have jb:s.seen.testBit r.dst.toNat=false:=by simpa using hs
     generalize r.dst.toNat=d at *;have hc:=R8 hd jb;have:=inner_small (use:=use) (goal:=goal) hm R (k+1) ⟨s.q ++ [d],fun t=>if t=d then s.ch m ++ [k] else s.ch t,s.seen ||| 2 ^ d⟩ ja ⟨fun t ht=>?_,fun t ht=>?_⟩
     ·revert this;generalize inner use goal m R (k+1) ⟨s.q ++ [d],fun t=>if t=d then s.ch m ++ [k] else s.ch t,s.seen ||| 2 ^ d⟩=r';cases r' with
      | inl c=>exact id
      | inr s' =>
       rintro ⟨h1,h2⟩;refine ⟨h1,h2.trans ?_⟩;show (s.q ++ [d]).length+cntF N (s.seen ||| 2 ^ d).testBit=_;rw [AB];simp only [List.length_cons,List.length_nil];omega
     ·show (if t=d then s.ch m ++ [k] else s.ch t).length+cntF N (s.seen ||| 2 ^ d).testBit<N;have h1:=h.short m hm;have h2:=h.short t ht;split
      · rw [AB];simp only [List.length_cons,List.length_nil];omega
      · omega
     ·rcases AT.1 ht with h1 | h1
      · exact h.modes t h1
      · simp at h1;omega
  · exact inner_small hm R (k+1) s ja h
theorem outer_spec {use:Rl→Bool} {R:List Rl} {start goal N:Nat} (hR:Small N R):∀ (n:Nat) (D:List Nat) (s:BS),BI use R start goal D s→(∀ u∈D,∀ i,J4 use R goal D s u i) →
  (∀ x∈s.q,∀ t∈D ++ s.q,sl (s.ch t) (s.ch x ++ [0]))→Sm N s→s.q.length+cntF N s.seen.testBit≤n →
  (outer use goal R n s=[]∧KH use R start goal)∨(SF use R start goal (outer use goal R n s)∧(outer use goal R n s).length≤N):=by
 intro n
 induction n with
 | zero =>
  intro D s hI hd hb hS hn;have hq:s.q=[]:=List.eq_nil_of_length_eq_zero (by omega);exact .inl ⟨rfl,LS hI hd hq⟩
 | succ n ih =>
  intro D s hI hd hb hS hn;rcases hq:s.q with _ | ⟨m,q⟩
  · exact .inl ⟨JH hq,LS hI hd hq⟩
  ·have hL:D ++ s.q=(D ++ [m]) ++ q:=by rw [hq];simp
   have jg:m<N:=hS.modes m (by rw [hq];simp);have jb:BI use R start goal (D ++ [m]) { s with q:=q }:=⟨by rw [← hL];exact hI.chain,by rw [← hL];exact hI.seenL,by rw [← hL];exact hI.base,by rw [← hL];exact hI.sorted⟩
   have je:∀ u∈D,∀ i,J4 use R goal (D ++ [m]) { s with q:=q } u i:=fun u hu i t ht=>by
    have:=hd u hu i t ht;rw [hL] at this;exact this
   have h1:=inner_spec (R.length - 0) 0 { s with q:=q } rfl (Nat.zero_le _) jb je (fun i hi=>absurd hi (by omega)) (fun t ht=>hb m (by rw [hq];simp) t (by rw [hL];exact ht));have h2:=inner_small (use:=use) (goal:=goal) jg R 0 { s with q:=q } hR ⟨hS.short,fun t ht=>hS.modes t (by rw [hq];simp [ht])⟩;rw [List.drop_zero] at h1;have he:outer use goal R (n+1) s=match inner use goal m R 0 { s with q:=q } with | .inl c=>c | .inr s'=>outer use goal R n s':=by rw [outer,hq] <;> rfl
   rw [he];revert h1 h2;generalize inner use goal m R 0 { s with q:=q }=r';cases r' with
   | inl c=>exact fun h1 h2=>.inr ⟨h1,h2⟩
   | inr
      s' =>
    rintro ⟨ja,jf,jd⟩ ⟨jc,jh⟩;refine ih (D ++ [m]) s' ja jf (fun x hx t ht=>?_) jc ?_
    ·have hs:sl (s'.ch m) (s'.ch x):=by
      have:=ja.sorted;rw [List.append_assoc,List.pairwise_append] at this;have:=this.2.1;rw [List.singleton_append,AQ] at this;exact this.1 x hx
     exact Ex (jd t ht) (KG hs _ _)
    ·rw [hq] at hn;simp only [List.length_cons] at hn;have:s'.q.length+cntF N s'.seen.testBit=q.length+cntF N s.seen.testBit:=jh;omega
theorem Pg {use:Rl→Bool} {R:List Rl} {start goal N:Nat} (hR:Small N R) (hN:N≤8) (hs:start<N) :
  (bfs use goal R start=[]∧KH use R start goal)∨(SF use R start goal (bfs use goal R start)∧(bfs use goal R start).length≤N):=by
 have hc:=R9 hs;refine outer_spec hR 8 [] ⟨[start],fun _=>[],2 ^ start⟩ ⟨fun t ht=>?_,fun t=>?_,⟨by simp,rfl⟩,by simp⟩ (by simp) (fun x hx t ht=>?_) ⟨fun t ht=>?_,fun t ht=>?_⟩ ?_
 · simp at ht;subst ht;rfl
 · rw [Nat.testBit_two_pow];simp [eq_comm]
 · exact NG [] 0
 · show 0+cntF N (2 ^ start).testBit<N;omega
 · simp at ht;omega
 · show 1+cntF N (2 ^ start).testBit≤8;omega
theorem RA {use:Rl→Bool} {R:List Rl} {start goal N:Nat} (hR:Small N R) (hN:N≤8) (hs:start<N):(bfs use goal R start).length≤N:=by
 rcases Pg (use:=use) (goal:=goal) hR hN hs with ⟨h,_⟩ | ⟨_,h⟩
 · rw [h];simp
 · exact h
theorem Fit.small {S:Sch} (h:Fit S):Small S.modes.toNat S.rules:=fun r hr=>by
 obtain ⟨i,hi,rfl⟩:=List.mem_iff_getElem.1 hr;have:=h.at0 i hi;omega
def ints (l:List Nat):List Int:=l.map fun (n:Nat)=>(n:Int)
def Ph (S:Sch) (m:Nat):Bool:=(KF S).testBit m && (LR S).testBit m
def
  endStep (S:Sch) (least:List Nat) (m:Nat):List Nat :=
 if
   Ph S m then
  (
   if bfs Fv (2 ^ m) S.rules m=[] then least
   else if least=[] then bfs Fv (2 ^ m) S.rules m
   else if P1 (ints (bfs Fv (2 ^ m) S.rules m)) (ints least)<0 then bfs Fv (2 ^ m) S.rules m else least)
 else least
def MO (S:Sch):List Nat:=(List.range S.modes.toNat).foldl (endStep S) []
theorem GT (l:List Nat):(ints l).length=l.length:=by simp [ints]
theorem Ch.sls {w:World} {B:Nat} {a:Option Addr} {n c:Nat} {xs:List Nat} (h:Ch w B (.slice a n c) xs):SlS w a (ints xs)∧n=xs.length:=by
 obtain ⟨a',c',he, -,hs⟩:=h.sl;cases he;exact ⟨hs,rfl⟩
theorem IV (a a':Option Addr) (c c' n n':Nat) (xs ys:List Int) (w:World) (hn:n=xs.length) (ja:n'=ys.length) (h1:SlS w a xs) (h2:SlS w a' ys) (l1:xs.length≤100000) (l2:ys.length≤100000) :
  Calls Tryz.prog 98 #[.slice a n c,.slice a' n' c'] w fun e w'=>e=.returned (.int .i64 (P1 xs ys))∧Below w.heap.size w w':=by
 subst hn ja;exact Kr a a' c c' xs ys w h1 h2 l1 l2
theorem Pi {A B:Nat} (hA:A<256) (hB:B<256):bits .and .u8 (A:Int) (B:Int)=((A &&& B:Nat):Int):=u8_and_nat _ _ hA hB
theorem SG {A B:Nat} (hA:A<256):A &&& B<256:=Nat.lt_of_le_of_lt Nat.and_le_left hA
theorem endless_any (S:Sch) (a:Option Addr) (cap:Nat) (w:World) (hR:BG w a S.rules) (hS:Fit S) :
  Calls Tryz.prog 67 #[.agg #[.int .i64 S.modes,.int .u8 S.acc,.slice a S.rules.length cap]] w fun e w'=>∃ v,e=.returned v∧ChN w' w.heap.size v (MO S)∧Below w.heap.size w w':=by
 obtain ⟨A,hA⟩:∃ A,KF S=A:=⟨_,rfl⟩
 obtain ⟨B,jv⟩:∃ B,LR S=B:=⟨_,rfl⟩
 have jG:A<256:=by rw [← hA];exact H9 hS
 have jS:B<256:=by rw [← jv];exact LQ hS
 have jn:=Pi jG jS;have jw:A &&& B<256:=SG jG;obtain ⟨L,hL⟩:∃ L,A &&& B=L:=⟨_,rfl⟩
 rw [hL] at jn jw;have HA:=A0 hA;have jA:=A0 jv;have HL:=A0 hL;have HR:=A0 hR;have HS:=A0 hS;clear hA jv hL hR;obtain ⟨m0,m1, -, -, -, -⟩:=hS;obtain ⟨mm,jL⟩:=Int.eq_ofNat_of_zero_le (show 0≤S.modes by omega);have jm:=A0 jL;have jp:Hid (∀ m,Ph S m=L.testBit m):=fun m=>by unfold Ph;rw [HA.out,jA.out,← HL.out,Nat.testBit_and]
 have hmm8:mm≤8:=by omega
 clear jL
 go_enter Tryz.func67,Tryz.ntmps67
 go_wp2
 go_region_held3 (fun w'=>w'.cell? ⟨w.heap.size,0,none⟩=some (.int .i64 S.modes)∧w'.cell? ⟨w.heap.size,1,none⟩=some (.int .u8 S.acc)∧w'.cell? ⟨w.heap.size,2,none⟩=some (.slice a S.rules.length cap)) (first | (simp [go_sem, *];done) | go_keep) (first | (go_at_call 66;refine (reached_any S a cap _ (HR.out.later (by first | exact hB | go_grown) (A3 _)) HS.out).mono ?_;rintro e w1 ⟨he,hb⟩;rw [show DR S.eds S.modes.toNat=A from HA.out] at he;subst he;obtain ⟨hz,hc,hf⟩:=BZ hb (by first | (simp only [A6,World.size_setCell,World.size_drew];rfl) | rfl);have hB:=Ab (B:=w.heap.size) (w:=w) (by go_grown) hb (A3 _);have jb:=Ab (B:=w.heap.size+1) (w:=w.alloc (.cells #[.int .i64 S.modes,.int .u8 S.acc,.slice a S.rules.length cap] 33)) (by go_grown) hb (by simp);clear hb) | (go_at_call 64;refine (live_any S a cap _ (HR.out.later (by first | exact hB | go_grown) (A3 _)) HS.out).mono ?_;rintro e w1 ⟨he,hb⟩;rw [show El S.eds S.modes.toNat S.acc.toNat=B from jA.out] at he;subst he;obtain ⟨hz,hc,hf⟩:=BZ hb (by first | (simp only [A6,World.size_setCell,World.size_drew];rfl) | rfl);have hB:=Ab (B:=w.heap.size) (w:=w) (by go_grown) hb (A3 _);have jb:=Ab (B:=w.heap.size+1) (w:=w.alloc (.cells #[.int .i64 S.modes,.int .u8 S.acc,.slice a S.rules.length cap] 33)) (by go_grown) hb (by simp);clear hb))
 go_wp2;clear jn hz hc hf
 go_loopw [4,14] (fun lv i wr=>∃ (k:Nat) (a1:Option Addr) (n1 c1:Nat) (xs:List Nat),k≤mm∧i=.int .i64 k∧lv=.slice a1 n1 c1∧n1=xs.length∧xs=(List.range k).foldl (endStep S) []∧xs.length≤100∧ChN wr w.heap.size (.slice a1 n1 c1) xs∧Below (w.heap.size+1) (w.alloc (.cells #[.int .i64 S.modes,.int .u8 S.acc,.slice a S.rules.length cap] 33)) wr) (fun _ i _=>mm - (intOf i).toNat)
 case atStart=>exact ⟨0,none,0,0,[],by omega,rfl,rfl,rfl,rfl,by simp,⟨Ch.nil _ _,fun _=>rfl⟩,jb⟩
 case round =>
  clear hB jb;obtain ⟨k,a1,n1,c1,xs,hk,rfl,rfl,jM,jR,jz,⟨jk,jq⟩,jb⟩:=hrel;have hB:Below w.heap.size w wr:=((Below.refl _ _).alloc (A3 _) _).trans (jb.mono (by omega));obtain ⟨hz,hc,hf⟩:=BD jb rfl;simp only [A6] at hz;have ju:=A0 jM;have jF:=A0 jR;have jh:=A0 jk;have jd:=A0 jq;clear jM jR jk jq;by_cases hlt:k<mm
  ·have hs
       := Cx L (k:Int)
   have jy:(k:Int)<S.modes:=by have:=jm.out;omega
   have ja:Hid ((List.range (k+1)).foldl (endStep S) []=endStep S xs k):=by show _=_;rw [List.range_succ,List.foldl_append,← jF.out];rfl
   by_cases hb:L.testBit k=true
   ·have jr:Hid (L.testBit k=true):=hb;have jj:Hid (Ph S k=true):=(jp.out k).trans hb;clear hb;obtain ⟨c,jI⟩:∃ c,bfs Fv (2 ^ k) S.rules k=c:=⟨_,rfl⟩
    have ji:=A0 jI;clear jI;have jV:2 ^ k<256:=EM k (by omega);have jU:Hid (c.length≤100):=by rw [← ji.out];have h9:=RA (use:=Fv) (goal:=2 ^ k) (start:=k) HS.out.small (by have:=jm.out;omega) (by have:=jm.out;omega);exact A8 h9 (by omega)
    have jo:=jU.out
    go_wp2_with (first
     | (go_at_call 65;refine (hs _ jw (by omega) (by omega)).mono ?_;rintro e w' ⟨he,rfl⟩;rw [show L.testBit ((k:Int)).toNat=true from jr.out] at he;subst he;clear hs))
    go_region_held3 (fun w'=>w'.cell? ⟨w.heap.size,0,none⟩=some (.int .i64 S.modes)∧w'.cell? ⟨w.heap.size,1,none⟩=some (.int .u8 S.acc)∧w'.cell? ⟨w.heap.size,2,none⟩=some (.slice a S.rules.length cap)) (first | (simp [go_sem, *];done) | go_keep) (first | (go_at_call 95;refine (Dp (k:Int) _ (by omega) (by omega)).mono ?_;rintro e w' ⟨rfl,rfl⟩) | (go_at_call 96;refine (Pf 97 Fv Nj (fun _ _=>rfl) S a cap k (2 ^ k) _ _ rfl rfl _ (HR.out.later (by first | exact hB | go_grown) (A3 _)) HS.out (by omega) jV).mono ?_;rintro e w1 ⟨v,rfl,jk,hb⟩;rw [ji.out] at jk;have jf:=A0 jk;clear jk;have jT:=hB;have jH:=Ab (B:=wr.heap.size) (w:=wr) (by go_grown) hb (A3 _);obtain ⟨hz,hc,hf⟩:=BZ hb (by first | (simp only [A6,World.size_setCell,World.size_drew];rfl) | rfl);have hB:=Ab (B:=w.heap.size) (w:=w) (by go_grown) hb (A3 _);have jb:=Ab (B:=w.heap.size+1) (w:=w.alloc (.cells #[.int .i64 S.modes,.int .u8 S.acc,.slice a S.rules.length cap] 33)) (by go_grown) hb (by simp);clear hb))
    have hq:=fun W=>run_neq_slice_nil_any (P:=Tryz.prog) W 36 3 a1 n1 c1 0 0 Tryz.underlying36;have jX:=fun W=>run_eql_slice_nil (P:=Tryz.prog) W 36 3 a1 n1 c1 Tryz.underlying36;by_cases je:c=[]
    ·have hv:=jf.out.2 je;subst hv;have HE:Hid (endStep S xs k=xs):=by show _=_;rw [endStep,jj.out,ji.out,if_pos rfl,if_pos je]
     have jc:Hid (ChN w1 w.heap.size (.slice a1 n1 c1) xs):=⟨jh.out.below jH (jh.out.lt),jd.out⟩
     have jW:=fun W=>run_neq_slice_nil_any (P:=Tryz.prog) W 36 3 none 0 0 0 0 Tryz.underlying36;clear je hq jX;go_wp2
     go_roundw
     case rel=>exact ⟨k+1,a1,n1,c1,xs,by omega,by go_num,rfl,ju.out,by rw [ja.out,HE.out],jz,jc.out,jb⟩
     case measure=>simp [intOf];omega
    ·obtain ⟨g,cp,hv⟩:=jf.out.1.slv je;subst hv;have jW:=fun W=>run_neq_slice_nil_any (P:=Tryz.prog) W 36 3 (some ⟨g,0,none⟩) c.length cp 0 0 Tryz.underlying36;have jl:Hid (ChN w1 w.heap.size (.slice (some ⟨g,0,none⟩) c.length cp) c):=⟨jf.out.1.mono (by have:=jT.size;first | omega | (simp only [World.size_drew];omega)),jf.out.2⟩
     have hcl3:∀ f:List Nat→List Nat,f=f:=fun _=>rfl;by_cases jg:xs=[]
     ·have hv:=jd.out jg;have HE:Hid (endStep S xs k=c):=by show _=_;rw [endStep,jj.out,ji.out,if_pos rfl,if_neg je,if_pos jg]
      obtain ⟨rfl,rfl,rfl⟩:a1=none∧n1=0∧c1=0:=by injection hv with e1 e2 e3;exact ⟨e1,e2,e3⟩
      clear hv jg je;go_wp2
      go_roundw
      case rel=>exact ⟨k+1,some ⟨g,0,none⟩,c.length,cp,c,by omega,by go_num,rfl,rfl,by rw [ja.out,HE.out],jo,jl.out,jb⟩
      case measure=>simp [intOf];omega
     ·obtain ⟨g1,cp1,jQ⟩:=jh.out.slv jg;obtain ⟨rfl,rfl⟩:a1=some ⟨g1,0,none⟩∧c1=cp1:=by injection jQ with e1 e2 e3;exact ⟨e1,e3⟩
      have jc:Hid (ChN w1 w.heap.size (.slice (some ⟨g1,0,none⟩) n1 c1) xs):=⟨jh.out.below jH (jh.out.lt),jd.out⟩
      have jJ:(ints c).length≤100000:=by rw [GT];omega
      have jK:(ints xs).length≤100000:=by rw [GT];omega
      have jB:Hid (c.length=(ints c).length):=(GT c).symm;obtain ⟨jO, -⟩:=jl.out.1.sls;obtain ⟨jP,jN⟩:=jc.out.1.sls;have jC:Hid (n1=(ints xs).length):=by show _=_;rw [GT];exact jN
      have jD:=A0 jO;have jE:=A0 jP;obtain ⟨o,ho⟩:∃ o,P1 (ints c) (ints xs)=o:=⟨_,rfl⟩
      have HO:=A0 ho;clear jO jP jN jQ ho;by_cases ho:o<0
      ·have HE:Hid (endStep S xs k=c):=by show _=_;rw [endStep,jj.out,ji.out,if_pos rfl,if_neg je,if_neg jg,HO.out,if_pos ho]
       clear jg je
       go_wp2_with (go_at_call 98;refine (IV _ _ _ _ _ _ (ints c) (ints xs) _ jB.out jC.out jD.out jE.out jJ jK).mono ?_;rintro e w2 ⟨he,hb⟩;rw [HO.out] at he;subst he;have jt:Hid (ChN w2 w.heap.size (.slice (some ⟨g,0,none⟩) c.length cp) c):=⟨jl.out.1.below hb jl.out.1.lt,jl.out.2⟩;obtain ⟨hz,hc,hf⟩:=BZ hb (by first | (simp only [A6,World.size_setCell,World.size_drew];rfl) | rfl);have hB:=Ab (B:=w.heap.size) (w:=w) (by go_grown) hb (A3 _);have jb:=Ab (B:=w.heap.size+1) (w:=w.alloc (.cells #[.int .i64 S.modes,.int .u8 S.acc,.slice a S.rules.length cap] 33)) (by go_grown) hb (by simp);clear hb)
       go_roundw
       case rel=>exact ⟨k+1,some ⟨g,0,none⟩,c.length,cp,c,by omega,by go_num,rfl,rfl,by rw [ja.out,HE.out],jo,jt.out,jb⟩
       case measure=>simp [intOf];omega
      ·have HE:Hid (endStep S xs k=xs):=by show _=_;rw [endStep,jj.out,ji.out,if_pos rfl,if_neg je,if_neg jg,HO.out,if_neg ho]
       clear jg je
       go_wp2_with (go_at_call 98;refine (IV _ _ _ _ _ _ (ints c) (ints xs) _ jB.out jC.out jD.out jE.out jJ jK).mono ?_;rintro e w2 ⟨he,hb⟩;rw [HO.out] at he;subst he;have js:Hid (ChN w2 w.heap.size (.slice (some ⟨g1,0,none⟩) n1 c1) xs):=⟨jc.out.1.below hb jc.out.1.lt,jc.out.2⟩;obtain ⟨hz,hc,hf⟩:=BZ hb (by first | (simp only [A6,World.size_setCell,World.size_drew];rfl) | rfl);have hB:=Ab (B:=w.heap.size) (w:=w) (by go_grown) hb (A3 _);have jb:=Ab (B:=w.heap.size+1) (w:=w.alloc (.cells #[.int .i64 S.modes,.int .u8 S.acc,.slice a S.rules.length cap] 33)) (by go_grown) hb (by simp);clear hb)
       go_roundw
       case rel=>exact ⟨k+1,some ⟨g1,0,none⟩,n1,c1,xs,by omega,by go_num,rfl,ju.out,by rw [ja.out,HE.out],jz,js.out,jb⟩
       case measure=>simp [intOf];omega
   ·have jx:L.testBit k=false:=by simpa using hb
    have jr:Hid (L.testBit k=false):=jx;have jj:Hid (Ph S k=false):=(jp.out k).trans jx;clear hb jx
    go_wp2_with (first
     | (go_at_call 65;refine (hs _ jw (by omega) (by omega)).mono ?_;rintro e w' ⟨he,rfl⟩;rw [show L.testBit ((k:Int)).toNat=false from jr.out] at he;subst he;clear hs))
    go_roundw
    case rel=>exact ⟨k+1,a1,n1,c1,xs,by omega,by go_num,rfl,ju.out,by rw [ja.out,endStep,jj.out];rfl,jz,⟨jh.out,jd.out⟩,jb⟩
    case measure=>simp [intOf];omega
  ·obtain rfl:k=mm:=by omega
   have jy:¬ (k:Int)<S.modes:=by have:=jm.out;omega
   go_wp2;go_ret;exact ⟨_,rfl,by have:=jF.out;rw [MO,jm.out];show ChN _ _ _ ((List.range k).foldl (endStep S) []);rw [← this];exact ⟨jh.out,jd.out⟩,hB⟩
theorem RB {w:World} {g:Nat} {x0 x1 x2 a b c:Value} {t:TypeId} {f:Nat × Nat} (h:w.heap[g]? = some (.cells #[x0,x1,x2] t f)) :
  (((w.setCell ⟨g,0,none⟩ a).setCell ⟨g,1,none⟩ b).setCell ⟨g,2,none⟩ c).heap[g]? = some (.cells #[a,b,c] t f):=by
 simp only [World.setCell];rw [Array.getElem?_modify,if_pos rfl,Array.getElem?_modify,if_pos rfl,Array.getElem?_modify,if_pos rfl,h];rfl
theorem cells3 {w:World} {g:Nat} {a b c:Value} {t:TypeId} {f:Nat × Nat} (h:w.heap[g]? = some (.cells #[a,b,c] t f)) :
  w.cell? ⟨g,0,none⟩=some a∧w.cell? ⟨g,1,none⟩=some b∧w.cell? ⟨g,2,none⟩=some c:=by
 refine ⟨?_,?_,?_⟩
 · rw [cell_of_row w g 0 _ _ f h];rfl
 · rw [cell_of_row w g 1 _ _ f h];rfl
 · rw [cell_of_row w g 2 _ _ f h];rfl
def RC (A B:Nat):Bool:=(List.range 8).any fun m=>A.testBit m && !B.testBit m
theorem Pj {A B:Nat} (hA:A<256) (hB:B<256):bits BinOp.andNot IntKind.u8 (A:Int) (B:Int)=((A &&& (255 - B):Nat):Int):=by
 have hx:A &&& (255 - B)<2 ^ 8:=Nat.and_lt_two_pow _ (by omega);show IntKind.u8.wrap ((BitVec.ofInt 8 (A:Int) &&& ~~~ BitVec.ofInt 8 (B:Int)).toNat:Int)=_;rw [BitVec.toNat_and,BitVec.toNat_not,ofInt_u8 A hA,ofInt_u8 B hB,IntKind.wrap_u8'];have e:2 ^ 8 - 1 - B=255 - B:=by omega
 rw [e];omega
theorem LU {A B:Nat} (hB:B<256) (m:Nat):(A &&& (255 - B)).testBit m=(A.testBit m && (decide (m<8) && !B.testBit m)):=by
 rw [Nat.testBit_and,show 255 - B=2 ^ 8 - (B+1) by omega,Nat.testBit_two_pow_sub_succ (by omega)]
theorem ON {A B:Nat} (hA:A<256) (hB:B<256):(bits BinOp.andNot IntKind.u8 (A:Int) (B:Int) != 0)=RC A B:=by
 rw [Pj hA hB,Bool.eq_iff_iff,bne_iff_ne,RC,List.any_eq_true];constructor
 ·intro h;have h':(A &&& (255 - B))≠0:=by omega
  obtain ⟨m,hm⟩:=Nat.exists_testBit_of_ne_zero h';rw [LU hB] at hm;simp only [Bool.and_eq_true,decide_eq_true_eq] at hm;exact ⟨m,by simp [hm.2.1],by simp [hm.1,hm.2.2]⟩
 ·rintro ⟨m,hm,h⟩ h0;have h1:(A &&& (255 - B))=0:=by omega
  have:=LU (A:=A) hB m;rw [h1,Nat.zero_testBit] at this;simp at hm;simp only [Bool.and_eq_true] at h;rw [h.1,h.2] at this;simp [hm] at this
open Classical in
noncomputable def BU (S:Sch):Int :=
 if validB S=true then (if (LR S).testBit 0=true then (if RC (KF S) (LR S)=true then 40 else if MO S=[] then 0 else 41) else 50) else 20
theorem sound_any (S:Sch) (a:Option Addr) (cap:Nat) (w:World) (hR:BG w a S.rules) (h0:0≤S.acc) (h1:S.acc≤255) (hl:S.rules.length≤9223372036854775807) (jc:S.rules.length≤cap) (hS:validB S=true→Fit S) :
  Calls Tryz.prog 39 #[.agg #[.int .i64 S.modes,.int .u8 S.acc,.slice a S.rules.length cap]] w fun e w'=>e=.returned (.int .i64 (BU S))∧Below w.heap.size w w':=by
 have HR:=A0 hR;have HS:=A0 hS;clear hR hS;by_cases hv:validB S=true
 ·have ja:=A0 (HS.out hv);have HV:=A0 hv;obtain ⟨A,hA⟩:∃ A,KF S=A:=⟨_,rfl⟩
  obtain ⟨B,jm⟩:∃ B,LR S=B:=⟨_,rfl⟩
  have jp:A<256:=by rw [← hA];exact H9 ja.out
  have jf:B<256:=by rw [← jm];exact LQ ja.out
  have HA:=A0 hA;have jb:=A0 jm;clear hA jm;have jk:=Cx B 0;have hd:=ON jp jf;obtain ⟨o,ho⟩:∃ o,RC A B=o:=⟨_,rfl⟩
  rw [ho] at hd;have HO:=A0 ho;clear ho;by_cases jg:B.testBit 0=true
  ·have jd:=A0 jg;clear jg;by_cases jj:o=true
   ·subst jj;have HE:Hid (40=BU S):=by show _=_;rw [BU,if_pos hv,HA.out,jb.out,if_pos jd.out,if_pos HO.out]
    clear hv
    go_enter Tryz.func39,Tryz.ntmps39
    go_wp2_with (first | (go_at_call 63;refine (EG S a cap _ (HR.out.later (by first | exact hB | go_grown) (A3 _)) h0 h1 hl jc).mono ?_;rintro e w1 ⟨he,hb⟩;rw [HV.out] at he;subst he;obtain ⟨hz,hc,hf⟩:=BZ hb (by first | (simp only [A6,World.size_setCell,World.size_drew];rfl) | rfl);have hB:=Ab (B:=w.heap.size) (w:=w) (by go_grown) hb (A3 _);clear hb) | (go_at_call 64;refine (live_any S a cap _ (HR.out.later (by first | exact hB | go_grown) (A3 _)) ja.out).mono ?_;rintro e w2 ⟨he,hb⟩;rw [show El S.eds S.modes.toNat S.acc.toNat=B from jb.out] at he;subst he;obtain ⟨hz,hc,hf⟩:=BZ hb (by first | (simp only [A6,World.size_setCell,World.size_drew];rfl) | rfl);have hB:=Ab (B:=w.heap.size) (w:=w) (by go_grown) hb (A3 _);clear hb) | (go_at_call 65;refine (jk _ jf (by omega) (by omega)).mono ?_;rintro e w4 ⟨he,rfl⟩;rw [show B.testBit (0:Int).toNat=_ from jd.out] at he;subst he))
    go_region_held3 (fun w'=>w'.cell? ⟨w.heap.size,0,none⟩=some (.int .i64 S.modes)∧w'.cell? ⟨w.heap.size,1,none⟩=some (.int .u8 S.acc)∧w'.cell? ⟨w.heap.size,2,none⟩=some (.slice a S.rules.length cap)) (first | (simp [go_sem, *];done) | go_keep) (first | (go_at_call 66;refine (reached_any S a cap _ (HR.out.later (by first | exact hB | go_grown) (A3 _)) ja.out).mono ?_;rintro e w3 ⟨he,hb⟩;rw [show DR S.eds S.modes.toNat=A from HA.out] at he;subst he;obtain ⟨hz,hc,hf⟩:=BZ hb (by first | (simp only [A6,World.size_setCell,World.size_drew];rfl) | rfl);have hB:=Ab (B:=w.heap.size) (w:=w) (by go_grown) hb (A3 _);clear hb) | (go_at_call 64;refine (live_any S a cap _ (HR.out.later (by first | exact hB | go_grown) (A3 _)) ja.out).mono ?_;rintro e w2 ⟨he,hb⟩;rw [show El S.eds S.modes.toNat S.acc.toNat=B from jb.out] at he;subst he;obtain ⟨hz,hc,hf⟩:=BZ hb (by first | (simp only [A6,World.size_setCell,World.size_drew];rfl) | rfl);have hB:=Ab (B:=w.heap.size) (w:=w) (by go_grown) hb (A3 _);clear hb))
    go_wp2;go_ret;exact ⟨BW HE.out,hB⟩
   ·obtain rfl:o=false:=by simpa using jj
    by_cases je:MO S=[]
    ·have jl:=A0 je;have HE:Hid (0=BU S):=by show _=_;rw [BU,if_pos hv,HA.out,jb.out,if_pos jd.out,if_neg (by rw [HO.out];simp),if_pos je]
     clear hv jj je
     go_enter Tryz.func39,Tryz.ntmps39
     go_wp2_with (first | (go_at_call 63;refine (EG S a cap _ (HR.out.later (by first | exact hB | go_grown) (A3 _)) h0 h1 hl jc).mono ?_;rintro e w1 ⟨he,hb⟩;rw [HV.out] at he;subst he;obtain ⟨hz,hc,hf⟩:=BZ hb (by first | (simp only [A6,World.size_setCell,World.size_drew];rfl) | rfl);have hB:=Ab (B:=w.heap.size) (w:=w) (by go_grown) hb (A3 _);clear hb) | (go_at_call 64;refine (live_any S a cap _ (HR.out.later (by first | exact hB | go_grown) (A3 _)) ja.out).mono ?_;rintro e w2 ⟨he,hb⟩;rw [show El S.eds S.modes.toNat S.acc.toNat=B from jb.out] at he;subst he;obtain ⟨hz,hc,hf⟩:=BZ hb (by first | (simp only [A6,World.size_setCell,World.size_drew];rfl) | rfl);have hB:=Ab (B:=w.heap.size) (w:=w) (by go_grown) hb (A3 _);clear hb) | (go_at_call 65;refine (jk _ jf (by omega) (by omega)).mono ?_;rintro e w4 ⟨he,rfl⟩;rw [show B.testBit (0:Int).toNat=_ from jd.out] at he;subst he))
     go_region_held3 (fun w'=>w'.cell? ⟨w.heap.size,0,none⟩=some (.int .i64 S.modes)∧w'.cell? ⟨w.heap.size,1,none⟩=some (.int .u8 S.acc)∧w'.cell? ⟨w.heap.size,2,none⟩=some (.slice a S.rules.length cap)) (first | (simp [go_sem, *];done) | go_keep) (first | (go_at_call 66;refine (reached_any S a cap _ (HR.out.later (by first | exact hB | go_grown) (A3 _)) ja.out).mono ?_;rintro e w3 ⟨he,hb⟩;rw [show DR S.eds S.modes.toNat=A from HA.out] at he;subst he;obtain ⟨hz,hc,hf⟩:=BZ hb (by first | (simp only [A6,World.size_setCell,World.size_drew];rfl) | rfl);have hB:=Ab (B:=w.heap.size) (w:=w) (by go_grown) hb (A3 _);clear hb) | (go_at_call 64;refine (live_any S a cap _ (HR.out.later (by first | exact hB | go_grown) (A3 _)) ja.out).mono ?_;rintro e w2 ⟨he,hb⟩;rw [show El S.eds S.modes.toNat S.acc.toNat=B from jb.out] at he;subst he;obtain ⟨hz,hc,hf⟩:=BZ hb (by first | (simp only [A6,World.size_setCell,World.size_drew];rfl) | rfl);have hB:=Ab (B:=w.heap.size) (w:=w) (by go_grown) hb (A3 _);clear hb))
     go_wp2_with (first | (go_at_call 67;refine (endless_any S a cap _ (HR.out.later (by first | exact hB | go_grown) (A3 _)) ja.out).mono ?_;rintro e w5 ⟨v,rfl,ji,hb⟩;have hv:=ji.2 jl.out;subst hv;clear ji;obtain ⟨hz,hc,hf⟩:=BZ hb (by first | (simp only [A6,World.size_setCell,World.size_drew];rfl) | rfl);have hB:=Ab (B:=w.heap.size) (w:=w) (by go_grown) hb (A3 _);clear hb))
     go_ret;exact ⟨BW HE.out,hB⟩
    ·have jl:=A0 je;have HE:Hid (41=BU S):=by show _=_;rw [BU,if_pos hv,HA.out,jb.out,if_pos jd.out,if_neg (by rw [HO.out];simp),if_neg je]
     have jn:0<(MO S).length:=by rcases h:MO S with _ | ⟨x,l⟩;exact absurd h je;simp
     obtain ⟨n,hn⟩:∃ n,(MO S).length=n:=⟨_,rfl⟩
     rw [hn] at jn;have HN:=A0 hn;clear hv jj je hn
     go_enter Tryz.func39,Tryz.ntmps39
     go_wp2_with (first | (go_at_call 63;refine (EG S a cap _ (HR.out.later (by first | exact hB | go_grown) (A3 _)) h0 h1 hl jc).mono ?_;rintro e w1 ⟨he,hb⟩;rw [HV.out] at he;subst he;obtain ⟨hz,hc,hf⟩:=BZ hb (by first | (simp only [A6,World.size_setCell,World.size_drew];rfl) | rfl);have hB:=Ab (B:=w.heap.size) (w:=w) (by go_grown) hb (A3 _);clear hb) | (go_at_call 64;refine (live_any S a cap _ (HR.out.later (by first | exact hB | go_grown) (A3 _)) ja.out).mono ?_;rintro e w2 ⟨he,hb⟩;rw [show El S.eds S.modes.toNat S.acc.toNat=B from jb.out] at he;subst he;obtain ⟨hz,hc,hf⟩:=BZ hb (by first | (simp only [A6,World.size_setCell,World.size_drew];rfl) | rfl);have hB:=Ab (B:=w.heap.size) (w:=w) (by go_grown) hb (A3 _);clear hb) | (go_at_call 65;refine (jk _ jf (by omega) (by omega)).mono ?_;rintro e w4 ⟨he,rfl⟩;rw [show B.testBit (0:Int).toNat=_ from jd.out] at he;subst he))
     go_region_held3 (fun w'=>w'.cell? ⟨w.heap.size,0,none⟩=some (.int .i64 S.modes)∧w'.cell? ⟨w.heap.size,1,none⟩=some (.int .u8 S.acc)∧w'.cell? ⟨w.heap.size,2,none⟩=some (.slice a S.rules.length cap)) (first | (simp [go_sem, *];done) | go_keep) (first | (go_at_call 66;refine (reached_any S a cap _ (HR.out.later (by first | exact hB | go_grown) (A3 _)) ja.out).mono ?_;rintro e w3 ⟨he,hb⟩;rw [show DR S.eds S.modes.toNat=A from HA.out] at he;subst he;obtain ⟨hz,hc,hf⟩:=BZ hb (by first | (simp only [A6,World.size_setCell,World.size_drew];rfl) | rfl);have hB:=Ab (B:=w.heap.size) (w:=w) (by go_grown) hb (A3 _);clear hb) | (go_at_call 64;refine (live_any S a cap _ (HR.out.later (by first | exact hB | go_grown) (A3 _)) ja.out).mono ?_;rintro e w2 ⟨he,hb⟩;rw [show El S.eds S.modes.toNat S.acc.toNat=B from jb.out] at he;subst he;obtain ⟨hz,hc,hf⟩:=BZ hb (by first | (simp only [A6,World.size_setCell,World.size_drew];rfl) | rfl);have hB:=Ab (B:=w.heap.size) (w:=w) (by go_grown) hb (A3 _);clear hb))
     go_wp2_with (first | (go_at_call 67;refine (endless_any S a cap _ (HR.out.later (by first | exact hB | go_grown) (A3 _)) ja.out).mono ?_;rintro e w5 ⟨v,rfl,ji,hb⟩;obtain ⟨g,cp,hv⟩:=ji.1.slv jl.out;rw [HN.out] at hv;subst hv;clear ji;obtain ⟨hz,hc,hf⟩:=BZ hb (by first | (simp only [A6,World.size_setCell,World.size_drew];rfl) | rfl);have hB:=Ab (B:=w.heap.size) (w:=w) (by go_grown) hb (A3 _);clear hb))
     go_ret;exact ⟨BW HE.out,hB⟩
  ·have jh:B.testBit 0=false:=by simpa using jg
   have jd:=A0 jh;have HE:Hid (50=BU S):=by show _=_;rw [BU,if_pos hv,jb.out,if_neg jg]
   clear hv jg jh hd
   go_enter Tryz.func39,Tryz.ntmps39
   go_wp2_with (first | (go_at_call 63;refine (EG S a cap _ (HR.out.later (by first | exact hB | go_grown) (A3 _)) h0 h1 hl jc).mono ?_;rintro e w1 ⟨he,hb⟩;rw [HV.out] at he;subst he;obtain ⟨hz,hc,hf⟩:=BZ hb (by first | (simp only [A6,World.size_setCell,World.size_drew];rfl) | rfl);have hB:=Ab (B:=w.heap.size) (w:=w) (by go_grown) hb (A3 _);clear hb) | (go_at_call 64;refine (live_any S a cap _ (HR.out.later (by first | exact hB | go_grown) (A3 _)) ja.out).mono ?_;rintro e w2 ⟨he,hb⟩;rw [show El S.eds S.modes.toNat S.acc.toNat=B from jb.out] at he;subst he;obtain ⟨hz,hc,hf⟩:=BZ hb (by first | (simp only [A6,World.size_setCell,World.size_drew];rfl) | rfl);have hB:=Ab (B:=w.heap.size) (w:=w) (by go_grown) hb (A3 _);clear hb) | (go_at_call 65;refine (jk _ jf (by omega) (by omega)).mono ?_;rintro e w4 ⟨he,rfl⟩;rw [show B.testBit (0:Int).toNat=_ from jd.out] at he;subst he))
   go_ret;exact ⟨BW HE.out,hB⟩
 ·have jo:validB S=false:=by simpa using hv
  have HV:=A0 jo;have HE:Hid (20=BU S):=by show _=_;rw [BU,if_neg hv]
  clear hv jo
  go_enter Tryz.func39,Tryz.ntmps39
  go_wp2_with (first | (go_at_call 63;refine (EG S a cap _ (HR.out.later (by first | exact hB | go_grown) (A3 _)) h0 h1 hl jc).mono ?_;rintro e w1 ⟨he,hb⟩;rw [HV.out] at he;subst he;obtain ⟨hz,hc,hf⟩:=BZ hb (by first | (simp only [A6,World.size_setCell,World.size_drew];rfl) | rfl);have hB:=Ab (B:=w.heap.size) (w:=w) (by go_grown) hb (A3 _);clear hb))
  go_ret;exact ⟨BW HE.out,hB⟩
theorem Ao {w:World} {g i:Nat} {y:Value} {cs cs':Array Value} {t:TypeId} {f:Nat × Nat} (h:w.heap[g]? = some (.cells cs t f)) (hc:cs.setIfInBounds i y=cs'):(w.setCell ⟨g,i,none⟩ y).heap[g]? = some (.cells cs' t f):=by
 simp only [World.setCell];rw [Array.getElem?_modify,if_pos rfl,h,← hc];rfl
def inB (a b c:Int):Bool:=decide (b≤a) && decide (a≤c)
theorem RD {a b c:Int} (h:b≤a) (h2:a≤c):inB a b c=true:=by simp [inB,h,h2]
theorem Pk {a b c:Int} (h:¬ (b≤a∧a≤c)):inB a b c=false:=by
 unfold inB;rw [Bool.and_eq_false_iff];simp;omega
theorem SH (a b c:Int) (w:World):Calls Tryz.prog 51 #[.int .i64 a,.int .i64 b,.int .i64 c] w fun e w'=>e=.returned (.bool (inB a b c))∧w'=w:=by
 by_cases h:b≤a
 ·by_cases h2:a≤c
  ·have H:=A0 (RD h h2)
   go_enter Tryz.func51,Tryz.ntmps51
   go_wp2;go_ret;exact ⟨Aa (by rw [H.out];try (simp [h2])),rfl⟩
  ·have H:=A0 (Pk (a:=a) (b:=b) (c:=c) (by omega))
   go_enter Tryz.func51,Tryz.ntmps51
   go_wp2;go_ret;exact ⟨Aa (by rw [H.out];try (simp;omega)),rfl⟩
 ·have H:=A0 (Pk (a:=a) (b:=b) (c:=c) (by omega))
  go_enter Tryz.func51,Tryz.ntmps51
  go_wp2;go_ret;exact ⟨Aa (by rw [H.out];try (simp;omega)),rfl⟩
theorem LV {c:Int}:(B1 c == 1)=(decide (97≤c) && decide (c≤122)):=by
 unfold B1;by_cases h:97≤c∧c≤122
 · simp [h]
 ·rw [if_neg h];have:(decide (97≤c) && decide (c≤122))=false:=by rw [Bool.and_eq_false_iff];simp;omega
  rw [this];split
  · rfl
  · split <;> rfl
theorem small_any (s:ByteArray) (w:World) (hs:s.size≤9223372036854775807) :
  Calls Tryz.prog 60 #[.string s] w fun e w'=>e=.returned (.bool (GY s))∧w=w':=by
 go_enter Tryz.func60,Tryz.ntmps60
 go_wp2
 go_loop [3] (fun i=>∃ k:Nat,k≤s.size∧i=.int .i64 k∧Ly (s.data.toList.take k)=true) (fun i=>s.size - (intOf i).toNat)
 case atStart=>exact ⟨0,Nat.zero_le _,rfl,rfl⟩
 case round =>
  obtain ⟨k,hk,rfl,ht⟩:=hrel;have HT:=A0 ht;clear ht;by_cases ja:k<s.size
  ·have b0:(0:Int)≤(s[k].toNat:Int):=by omega
   have b1:(s[k].toNat:Int)≤255:=by have:=s[k].toNat_lt;omega
   by_cases hc:(97:Int)≤(s[k].toNat:Int)∧(s[k].toNat:Int)≤122
   ·have HC:Hid ((B1 (s[k].toNat:Int) == 1)=true):=by show _=true;rw [LV];simp;omega
    obtain ⟨q1,q2⟩:=hc;go_wp2
    go_round
    case rel=>exact ⟨k+1,by omega,by go_num,EF s k ja HT.out HC.out⟩
    case measure=>simp [intOf];omega
   ·have HC:Hid ((B1 (s[k].toNat:Int) == 1)=false):=by show _=false;rw [LV,Bool.and_eq_false_iff];simp;omega
    by_cases q1:(97:Int)≤(s[k].toNat:Int)
    ·have q2:(122:Int)<(s[k].toNat:Int):=by omega
     clear hc;go_wp2;go_ret;exact ⟨Aa (Ci s k ja HC.out).symm,rfl⟩
    ·clear hc;go_wp2;go_ret;exact ⟨Aa (Ci s k ja HC.out).symm,rfl⟩
  ·have HA:=A0 (ED s k ja);go_wp2;go_ret;exact ⟨Aa (by rw [GY,← HA.out];exact HT.out.symm),rfl⟩
theorem LW {c:Int}:(B1 c == 0)=(!(decide (97≤c) && decide (c≤122)) && (!(decide (65≤c) && decide (c≤90)) && !(decide (48≤c) && decide (c≤57)))):=by
 unfold B1;by_cases h:97≤c∧c≤122
 · simp [h]
 ·by_cases h2:65≤c∧c≤90
  · rw [if_neg h,if_pos h2];simp [h2]
  ·by_cases h3:48≤c∧c≤57
   · rw [if_neg h,if_neg h2,if_pos h3];simp [h3]
   · rw [if_neg h,if_neg h2,if_neg h3];simp;omega
theorem plain_any (s:ByteArray) (w:World) (hs:s.size≤9223372036854775807) :
  Calls Tryz.prog 61 #[.string s] w fun e w'=>e=.returned (.bool (DC s))∧w=w':=by
 go_enter Tryz.func61,Tryz.ntmps61
 go_wp2
 go_loop [3] (fun i=>∃ k:Nat,k≤s.size∧i=.int .i64 k∧Fd (s.data.toList.take k)=true) (fun i=>s.size - (intOf i).toNat)
 case atStart=>exact ⟨0,Nat.zero_le _,rfl,rfl⟩
 case round
       =>
  obtain ⟨k,hk,rfl,ht⟩:=hrel;have HT:=A0 ht;clear ht;by_cases ja:k<s.size
  ·have
      b0:(0:Int)≤(s[k].toNat:Int):=by omega
   have b1:(s[k].toNat:Int)≤255:=by have:=s[k].toNat_lt;omega
   rcases (show ((97:Int)≤(s[k].toNat:Int)∧(s[k].toNat:Int)≤122)∨((65:Int)≤(s[k].toNat:Int)∧(s[k].toNat:Int)≤90)∨((48:Int)≤(s[k].toNat:Int)∧(s[k].toNat:Int)≤57)∨((122:Int)<(s[k].toNat:Int))∨((90:Int)<(s[k].toNat:Int)∧(s[k].toNat:Int)<97)∨((57:Int)<(s[k].toNat:Int)∧(s[k].toNat:Int)<65)∨((s[k].toNat:Int)<48) by omega) with h | h | h | h | h | h | h
   all_goals first
    | (
      have HC:Hid ((!(B1 (s[k].toNat:Int) == 0))=true):=by
       show _=true;rw [LW];simp;omega
      go_wp2
      go_round
      case rel=>exact ⟨k+1,by omega,by go_num,EF s k ja HT.out HC.out⟩
      case measure=>simp [intOf];omega)
    | (
      have HC:Hid ((!(B1 (s[k].toNat:Int) == 0))=false):=by
       show _=false;rw [LW];simp;omega
      go_wp2;go_ret;exact ⟨Aa (Ci s k ja HC.out).symm,rfl⟩)
  ·have HA:=A0 (ED s k ja);go_wp2;go_ret;exact ⟨Aa (by rw [DC,← HA.out];exact HT.out.symm),rfl⟩
theorem OO (m:Int) (r:Rl):CW m r=(inB r.frm 0 (m - 1) && (inB r.dst 0 (m - 1) && (decide ((r.inp.size:Int)≤4) && (GY r.inp && (decide ((r.out.size:Int)≤4) && (DC r.out && inB r.cost 0 1000)))))):=by
 unfold CW inB;rw [show decide (r.frm≤m - 1)=decide (r.frm<m) from by rw [decide_eq_decide];omega,show decide (r.dst≤m - 1)=decide (r.dst<m) from by rw [decide_eq_decide];omega];simp only [Bool.and_assoc]
theorem Jc (r q:Rl):Di r q=Di q r:=by
 unfold Di;rw [show decide (r.frm=q.frm)=decide (q.frm=r.frm) from by rw [decide_eq_decide];exact eq_comm,show decide (r.dst=q.dst)=decide (q.dst=r.dst) from by rw [decide_eq_decide];exact eq_comm,
  show decide (r.inp.toList=q.inp.toList)=decide (q.inp.toList=r.inp.toList) from by rw [decide_eq_decide];exact eq_comm,show decide (r.out.toList=q.out.toList)=decide (q.out.toList=r.out.toList) from by rw [decide_eq_decide];exact eq_comm,
  show decide (r.cost=q.cost)=decide (q.cost=r.cost) from by rw [decide_eq_decide];exact eq_comm]
theorem rright_any (S:Sch) (a:Option Addr) (cap i:Nat) (w:World) (hR:BG w a S.rules) (hl:S.rules.length≤9223372036854775807) (hi:i<S.rules.length) (hm:1≤S.modes) (hm2:S.modes≤8) :
  Calls Tryz.prog 34 #[.agg #[.int .i64 S.modes,.int .u8 S.acc,.slice a S.rules.length cap],.int .i64 (i:Int)] w fun e w'=>e=.returned (.bool (CI S S.rules[i] (S.rules.take i)))∧Below w.heap.size w w':=by
 have HR:=A0 hR;clear hR;obtain ⟨b,o,ha,hbw,p0,p1,p2,p3,p4⟩:=HR.out.at hi;have jb:=Bx a b o S.rules.length cap i ha hi;have HA:=A0 ha;clear ha;generalize hr:S.rules[i]=r at *;have HRI:=A0 hr;clear hr
 go_enter Tryz.func34,Tryz.ntmps34
 go_wp2
 go_loopg [6] i (fun g j wr=>∃ k:Nat,k≤i∧g=i - k∧j=.int .i64 k∧(S.rules.take k).any (Di r)=false∧Below (w.heap.size+2) ((w.alloc (.cells #[.int .i64 S.modes,.int .u8 S.acc,.slice a S.rules.length cap] 33)).alloc (.cells #[.int .i64 r.frm,.int .i64 r.dst,.string r.inp,.string r.out,.int .i64 r.cost] 88)) wr)
 case atStart=>exact ⟨0,Nat.zero_le _,rfl,rfl,rfl,Below.refl _ _⟩
 case round =>
  obtain ⟨k,hk,rfl,rfl,jf,je⟩:=hrel;have HN:=A0 jf;clear jf;have hB:Below w.heap.size w wr:=(((Below.refl _ _).alloc (A3 _) _).alloc (by simp) _).trans (je.mono (by omega));obtain ⟨hz,hc,hf⟩:=BD je rfl;by_cases jg:k<i
  ·have ja:k<S.rules.length:=by omega
   obtain ⟨b',o',jc,hb',q0,q1,q2,q3,q4⟩:=HR.out.at ja;have hidx:=Bx a b' o' S.rules.length cap k jc ja;have HA':=A0 jc;clear jc jb;have hcmp:=JF S.rules[k] r;by_cases hq:Di r S.rules[k]=true
   ·have jh:Di S.rules[k] r=true:=by rw [Jc];exact hq
    have HQ:Hid (CI S r (S.rules.take i)=false):=by
     have:=Ou (R:=S.rules.take i) (p:=Di r) (k:=k) (by rw [AK];omega) (by rw [List.getElem_take];exact hq);show _=false;simp [CI,this]
    clear hq;go_wp2
    go_region
    go_wp2;go_ret;exact ⟨Aa HQ.out.symm,by go_grown⟩
   ·have jd:Di r S.rules[k]=false:=by simpa using hq
    have jh:Di S.rules[k] r=false:=by rw [Jc];exact jd
    have HQ:=A0 jd;clear hq jd;go_wp2
    go_region
    go_wp2
    go_roundg (i - (k+1))
    case rel=>exact ⟨k+1,by omega,rfl,by go_num,Kh ja HN.out HQ.out,by go_grown⟩
    case measure=>omega
  ·obtain rfl:k=i:=by omega
   clear jg;have HG:Hid (CI S r (S.rules.take k)=CW S.modes r):=by show _=_;simp [CI,HN.out]
   have HI:=A0 (OO S.modes r)
   go_wp2_with (first
    | (go_at_call 51;refine (SH _ _ _ _).mono ?_;rintro e w' ⟨rfl,rfl⟩)
    | (go_at_call 60;refine (small_any _ _ (by omega)).mono ?_;rintro e w' ⟨rfl,rfl⟩)
    | (go_at_call 61;refine (plain_any _ _ (by omega)).mono ?_;rintro e w' ⟨rfl,rfl⟩))
   all_goals go_ret
   all_goals exact ⟨Aa (by rw [HG.out,HI.out];first | (simp [*];done) | (simp [*];omega)),by go_grown⟩
def Rl.cells (r:Rl):List Value:=[.int .i64 r.frm,.int .i64 r.dst,.string r.inp,.string r.out,.int .i64 r.cost]
def B3 (R:List Rl):List Value:=R.flatMap Rl.cells
theorem Bh (R:List Rl):(B3 R).length=R.length*5:=by
 induction R with
 | nil=>rfl
 | cons r R ih=>rw [B3,List.flatMap_cons,AB];have:(R.flatMap Rl.cells).length=R.length*5:=ih;rw [this];simp [Rl.cells];omega
theorem Fw:∀ {R:List Rl} {i j:Nat} (hi:i<R.length) (hj:j<5),(B3 R)[i*5+j]? = R[i].cells[j]?
 | r :: R,0,j,_,hj=>by
  rw [B3,List.flatMap_cons,Nat.zero_mul,Nat.zero_add,AI (by simp [Rl.cells];omega)];rfl
 | r :: R,i+1,j,hi,hj=>by
  rw [B3,List.flatMap_cons,List.getElem?_append_right (by simp [Rl.cells];omega)];have:(i+1)*5+j - r.cells.length=i*5+j:=by simp [Rl.cells];omega
  rw [this];exact Fw (R:=R) (by simpa using hi) hj
def C6 (w:World) (B:Nat) (v:Value) (R:List Rl):Prop:=w.ownsRow B 88 5 v R.length (B3 R)
theorem C6.rules {w:World} {B:Nat} {v:Value} {R:List Rl} (h:C6 w B v R):∃ a c,v=.slice a R.length c∧BG w a R∧R.length≤c:=by
 rcases id h.2 with ⟨rfl,h0⟩ | ⟨g,cap,cur,rfl,h1,h2,h3,h4⟩
 ·obtain rfl:R=[]:=List.eq_nil_of_length_eq_zero h0;exact ⟨none,0,rfl,.inl rfl,A3 _⟩
 ·refine ⟨some ⟨g,0,none⟩,cap,rfl,.inr ⟨g,0,rfl,(A5.1 h2).1,fun i hi=>?_⟩,h3⟩;have hc:∀ j,j<5→w.cell? ⟨g,0+i*5+j,none⟩=R[i].cells[j]?:=fun j hj=>by
   have hg:=Fw (R:=R) hi hj;cases hq:R[i].cells[j]? with
   | none=>simp [Rl.cells] at hq;omega
   | some u =>
    rw [hq] at hg;have:=World.ownsRow.cells (g:=g) h rfl (i*5+j) u hg;rw [Addr.add_lit] at this;rw [Nat.zero_add] at this ⊢;exact this
  exact ⟨hc 0 (by omega),hc 1 (by omega),hc 2 (by omega),hc 3 (by omega),hc 4 (by omega)⟩
theorem C6.below {w w1:World} {B C:Nat} {v:Value} {R:List Rl} (h:C6 w B v R) (hb:Below C w w1) (hv:∀ g,v.ownBlock=some g→g<C):C6 w1 B v R:=by
 refine ⟨h.1,h.2.imp id ?_⟩;rintro ⟨g,cap,cur,rfl,h1,h2,h3⟩;exact ⟨g,cap,cur,rfl,h1,(hb.block g (hv g rfl)).trans h2,h3⟩
theorem C6.ge {w:World} {B:Nat} {v:Value} {R:List Rl} (h:C6 w B v R):∀ g,v.ownBlock=some g→B≤g:=by
 intro g hg;rcases h.2 with ⟨rfl,_⟩ | ⟨g',cap,cur,rfl,h1,h2,h3⟩
 · cases hg
 · cases hg;exact h1
theorem C6.lt {w:World} {B:Nat} {v:Value} {R:List Rl} (h:C6 w B v R):∀ g,v.ownBlock=some g→g<w.heap.size:=by
 intro g hg;rcases h.2 with ⟨rfl,_⟩ | ⟨g',cap,cur,rfl,h1,h2,h3⟩
 · cases hg
 · cases hg;exact (A5.1 h2).1
theorem C6.drop {w:World} {B:Nat} {a:Option Addr} {n c:Nat} {R:List Rl} {r:Rl} (h:C6 w B (.slice a n c) (R ++ [r])):C6 w B (.slice a R.length c) R:=by
 refine ⟨by rw [Bh],.inr ?_⟩;rcases h.2 with ⟨he,h0⟩ | ⟨g,cap,cur,he,h1,h2,h3,h4,h5,h6⟩
 · simp at h0
 ·injection he with e1 e2 e3;subst e1 e3;refine ⟨g,c,cur,rfl,h1,h2,by simp at h3;omega,h4,h5,?_⟩;have:B3 (R ++ [r])=B3 R ++ r.cells:=by simp [B3]
  rw [this] at h6;have h7:=congrArg (List.take (R.length*5)) h6;have e7:List.take (R.length*5) (B3 R)=B3 R:=AF (by rw [Bh];omega);rw [List.take_take,List.take_append_of_le_length (by rw [Bh];omega),e7,show min (R.length*5) ((R ++ [r]).length*5)=R.length*5 by rw [AB];omega] at h7;exact h7
def Gp (v0:Value) (r:Rl) (v:Value) (W:World):Prop:=∃ g,v=.slice (some ⟨g,0,none⟩) 1 1∧W.heap[g]? = some (.cells #[.int .i64 r.frm,.int .i64 r.dst,.string r.inp,.string r.out,.int .i64 r.cost] 88 (0,0))∧v0.ownBlock≠some g
theorem KI (v0:Value) (r:Rl):Bb (Gp v0 r):=by
 rintro v w w' ⟨g,hv,hg,ja⟩ hx;exact ⟨g,hv,(Below.block hx g (A5.1 hg).1).trans hg,ja⟩
theorem KJ (v0:Value) (r:Rl):∀ v w w',Gp v0 r v w→World.grownBy w w' v0.ownBlock→Gp v0 r v w':=by
 rintro v w w' ⟨g,hv,hg,ja⟩ hx;exact ⟨g,hv,(hx.block g (A5.1 hg).1 (fun e=>ja e.symm)).trans hg,ja⟩
theorem Hb:(Tryz.prog.info? 88).map (fun i=>(i.zero,i.size,i.bytes))=some (some (.agg #[.int .i64 0,.int .i64 0,.string ⟨#[]⟩,.string ⟨#[]⟩,.int .i64 0]),5,56):=by kernel_rfl
section
variable {w M0:World} {g ga:Nat} {T6 T4:Array Value} {mo ac:Int} {v:Value} {R:List Rl} {wr w1:World}
theorem C6.set {g i:Nat} {u:Value} {B:Nat} (h:C6 wr B v R) (hg:g<B):C6 (wr.setCell ⟨g,i,none⟩ u) B v R:=by
 refine ⟨h.1,h.2.imp id ?_⟩;rintro ⟨b,cap,cur,rfl,h1,h2,h3⟩;refine ⟨b,cap,cur,rfl,h1,?_,h3⟩;rw [Below.heap_setCell _ _ _ _ (by show b≠g;omega)];exact h2
end
theorem FX {W:World} {g:Nat} {r:Rl} {t:TypeId} (h:W.heap[g]? = some (.cells #[.int .i64 r.frm,.int .i64 r.dst,.string r.inp,.string r.out,.int .i64 r.cost] t (0,0))):∀ j u,r.cells[j]? = some u→W.cell? ((⟨g,0,none⟩:Addr).add j)=some u:=by
 intro j u hj;have hc:=cell_of_row W g j _ _ (0,0) h;have e:(⟨g,0,none⟩:Addr).add j=⟨g,j,none⟩:=by rw [Addr.add_lit,Nat.zero_add]
 rw [e,hc];simpa [Rl.cells] using hj
theorem SI (r:Rl):∀ u∈r.cells,u.oneCell'=true:=by
 intro u hu;simp only [Rl.cells,AS,List.not_mem_nil,or_false] at hu;rcases hu with rfl | rfl | rfl | rfl | rfl <;> rfl
theorem MP {A:Act} {W:World} {o:Oper} {s x:Operand} {B:Nat} {v u:Value} {R:List Rl} {r:Rl}
  (ho:o.op=.call { callee:=.builtin .append,args:=#[s,x],argTypes:=#[31,31] }) (hs:A.eval s=v) (ja:C6 W B v R) (hx:A.eval x=u) (hu:Gp v r u W) (hl:R.length<1000) (hB:B≤W.heap.size) :
  Ee Tryz.prog A o W (fun v' w'=>C6 w' B v' (R ++ [r])∧W.grownBy w' v.ownBlock):=by
 obtain ⟨i0,hi,jb,jc,jd⟩:=info_parts Hb;obtain ⟨g,hv,hg,hne⟩:=hu;obtain ⟨v',w',hr,h1,h2,h3⟩:=run_append_own (P:=Tryz.prog) (w:=W) B 31 o.type 88 i0 _ 5 56 Tryz.underlying31 hi jb jc jd rfl (by decide) v R.length (B3 R) ja ⟨g,0,none⟩ 1 1 r.cells rfl (FX hg) (SI r) (by unfold maxLen;omega) (by omega) hB;refine .inl ⟨v',w',?_,?_,h2⟩
 ·unfold execOp;simp only [ho,resolve,invoke,builtin,Sem.run_bind,Sem.run_pure,Result.andThen_ok,List.map_toArray,List.map_cons,List.map_nil,hs,hx,hv,hr]
 ·have e:B3 R ++ r.cells=B3 (R ++ [r]):=by simp [B3]
  have e2:(R ++ [r]).length=R.length+1:=by simp
  unfold C6;rw [e2,← e];exact h1
theorem C6.ruls {w:World} {B:Nat} {b:Option Addr} {n c:Nat} {R:List Rl} (h:C6 w B (.slice b n c) R):BG w b R∧n=R.length∧R.length≤c:=by
 obtain ⟨a,c',he,h1,h2⟩:=h.rules;injection he with e1 e2 e3;subst e1 e3;exact ⟨h1,e2,h2⟩
theorem C6.mono {w:World} {B C:Nat} {v:Value} {R:List Rl} (h:C6 w B v R) (hC:C≤B):C6 w C v R :=
 ⟨h.1,h.2.imp id fun ⟨g,cap,cur,hv,hg,h2⟩=>⟨g,cap,cur,hv,A8 hC hg,h2⟩⟩
theorem IW {P:Program} {ops:Array Oper} {Q:Exit→Act→World→Prop} {L:Nat} {K:Act→World→Prop} {o:Oper} {A:Act} {W:World} {ty t:TypeId} {p v:Operand} {g:Nat} {x' y' z':Value} {n m:Int} {a:Option Addr} {k c:Nat}
  (ho:ops[L]? = some o) (hg:o.guard=none) (ja:o.op=.store ty p v) (hd:o.dst=none) (hp:A.eval p=.pointer (some ⟨g,0,none⟩)) (hv:A.eval v=.agg #[.int .i64 n,.int .u8 m,.slice a k c]) (hr:W.heap[g]? = some (.cells #[x',y',z'] t (0,0))) (jb:(sizeOf ty).run P W=.ok 3 W)
  (hK:K A (((W.setCell ⟨g,0,none⟩ (.int .i64 n)).setCell ⟨g,1,none⟩ (.int .u8 m)).setCell ⟨g,2,none⟩ (.slice a k c))):wpOp P ops Q L K A W:=by
 unfold wpOp;rw [ho];have hw:Region.wanted o (yielded ops A.tmps)=true:=by unfold Region.wanted;rw [hg]
 simp only [hw,if_pos];refine .inl ?_;unfold Oper.wp execOp;obtain ⟨c0,c1,c2⟩:=cells3 hr;have hf:∀ i,W.frozen? ⟨g,i,none⟩=false:=fun i=>by simp [World.frozen?,hr]
 simp only [ja,hp,hv];simp [go_sem,hf,c0,c1,c2,jb];rw [hd];exact hK
structure TX0 (wl:World) (B0 gt:Nat) (mo ac:Int) (v:Value) (wr:World):Prop where
 bl:Below B0 wl wr
 rep:wr.heap[gt]? = some (.cells #[.int .i64 mo,.int .u8 ac,v] 33 (0,0))
 ge:B0≤gt
structure TX (wl:World) (B0 gt:Nat) (mo ac:Int) (v:Value) (T:List Rl) (wr:World):Prop extends TX0 wl B0 gt mo ac v wr where
 own:C6 wr B0 v T
section
variable {wl:World} {B0 gt:Nat} {mo ac:Int} {v v':Value} {T T':List Rl} {wr w1:World} {row:Option Nat}
theorem TX0.gs (h:TX0 wl B0 gt mo ac v wr):gt<wr.heap.size:=(A5.1 h.rep).1
theorem TX0.below (h:TX0 wl B0 gt mo ac v wr) (hb:Below wr.heap.size wr w1):TX0 wl B0 gt mo ac v w1 :=
 ⟨h.bl.trans (hb.mono (A8 h.ge (Nat.le_of_lt h.gs))),(hb.block gt h.gs).trans h.rep,h.ge⟩
theorem TX.below (h:TX wl B0 gt mo ac v T wr) (hb:Below wr.heap.size wr w1):TX wl B0 gt mo ac v T w1:=⟨h.toTX0.below hb,h.own.below hb h.own.lt⟩
theorem TX0.cells (h:TX0 wl B0 gt mo ac v wr):wr.cell? ⟨gt,0,none⟩=some (.int .i64 mo)∧wr.cell? ⟨gt,1,none⟩=some (.int .u8 ac)∧wr.cell? ⟨gt,2,none⟩=some v:=cells3 h.rep
theorem TX0.free (h:TX0 wl B0 gt mo ac v wr) (i:Nat):wr.frozen? ⟨gt,i,none⟩=false:=by simp [World.frozen?,h.rep]
theorem C6.ne_of {B:Nat} {cs:Array Value} (h:C6 wr B v T) (hr:wr.heap[gt]? = some (.cells cs 33 (0,0))):∀ q,v.ownBlock=some q→q≠gt:=by
 intro q hq e;subst e;rcases h.2 with ⟨rfl,_⟩ | ⟨g',cap,cur,rfl,h1,h2,h3⟩
 · cases hq
 ·cases hq;rw [hr] at h2;injection h2 with h2;injection h2 with _ h2 _;exact absurd h2 (by decide)
theorem TX0.grown (h:TX0 wl B0 gt mo ac v wr) (hg:wr.grownBy w1 row) (hr:∀ k,row=some k→B0≤k) (hn:∀ k,row=some k→k≠gt):TX0 wl B0 gt mo ac v w1 :=
 ⟨h.bl.grown hg (A8 h.ge (Nat.le_of_lt h.gs)) hr,(hg.block gt h.gs (fun e=>hn gt e.symm rfl)).trans h.rep,h.ge⟩
theorem TX0.put (h:TX0 wl B0 gt mo ac v wr) (ho:C6 wr B0 v' T'):TX wl B0 gt mo ac v' T' (wr.setCell ⟨gt,2,none⟩ v'):=by
 refine ⟨⟨h.bl.setCell h.ge _,Ao h.rep rfl,h.ge⟩,?_⟩;have ja:=ho.ne_of h.rep;refine ⟨ho.1,ho.2.imp id ?_⟩;rintro ⟨b,cap,cur,rfl,h1,h2,h3⟩;refine ⟨b,cap,cur,rfl,h1,?_,h3⟩;rw [Below.heap_setCell _ _ _ _ (ja b rfl)];exact h2
end
end Go.Proofs.YtpljngaejaehcaaGreatDoor.Fl
