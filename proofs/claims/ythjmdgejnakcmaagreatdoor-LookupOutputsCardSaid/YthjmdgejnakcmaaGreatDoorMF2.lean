/- Texts that the claims share: First, Flaw2, Bfs, Flaw3, Flaw4, Mask, RefA, RefB. -/
import Derived.Deep.QuietTactic
import Derived.Test.YthjmdgejnakcmaaGreatDoorMF1
set_option maxHeartbeats 3200000
set_option maxRecDepth 100000
set_option linter.unusedVariables false
set_option linter.unusedSimpArgs false
namespace Go.Proofs.YthjmdgejnakcmaaGreatDoor.Fl
open Go.RowKit Go.Conc
theorem first_any
         (fid:Nat) (use:Rl→Bool) (jL:∀ (r:Rl) (w:World),Calls Tryz.prog fid #[.agg #[.int .i64 r.frm,.int .i64 r.dst,.string r.inp,.string r.out,.int .i64 r.cost]] w fun e w'=>e=.returned (.bool (use r))∧Below w.heap.size w w')
  (hcf:∀ (args:Array Value) (w:World),(callFunc fid args).run Tryz.prog w=.ok (.enter fid args) w)
  (S:Sch) (a:Option Addr) (cap start goal:Nat) (w:World) (hR:BL w a S.rules) (hS:Fit S) (hs:start<8) (jj:goal<256) :
  Calls Tryz.prog 121 #[.agg #[.int .i64 S.modes,.int .u8 S.acc,.slice a S.rules.length cap],.int .i64 (start:Int),.int .u8 (goal:Int),.func (.func fid) #[] #[]] w fun e w'=>∃ v,e=.returned v∧ChN w' w.heap.size v (bfs use goal S.rules start)∧Below w.heap.size w w':=by
 have HU:=A6 jL;have HR:=A6 hR;have HS:=A6 hS;clear jL hR hS;obtain ⟨i0,hi,kn,ko,Js⟩:=info_parts Fd;have kk:∀ W:World,(Instr.makeChan 224 (.int .i64 8)).run Tryz.prog W=.ok (.chan (some W.heap.size)) (W.alloc (.chan 8 #[] false 0 0 false)):=fun W=>by
  have:=run_makeChan (P:=Tryz.prog) (w:=W) Tryz.underlying224 hi .i64 8 (by omega) (by rw [Js];omega);simpa using this
 have kl:∀ W:World,(Instr.makeSlice 146 (.int .i64 8) (.int .i64 8)).run Tryz.prog W=.ok (.slice (some ⟨W.heap.size,0,none⟩) 8 8) (W.alloc (.cells (Array.replicate 8 (.slice none 0 0)) 79)):=fun W=>by
  have:=run_make_row' (P:=Tryz.prog) 146 79 (.slice none 0 0) 24 Tryz.underlying146 Pe rfl .i64 .i64 8 (by omega) (by omega) W;rw [show madeCells #[Value.slice none 0 0] 8=Array.replicate 8 (.slice none 0 0) from Array.ext (by simp [madeCells]) (fun i h1 h2=>by simp [madeCells,Nat.mod_one])] at this;exact this
 obtain ⟨P,hP⟩:∃ P:Nat,P=2 ^ start:=⟨_,rfl⟩
 have h1:Hid (∀ W:World,Calls Tryz.prog 120 #[.int .i64 (start:Int)] W fun e w'=>e=.returned (.int .u8 (P:Int))∧W=w'):=fun W=>by
  have:=Em (start:Int) W (by omega) (by omega);rw [hP];exact this
 have HP:=A6 hP;clear hP;refine Le Tryz.func121 rfl ?_;simp only [Tryz.ntmps121,List.size_toArray,List.length_cons,List.length_nil,Nat.reduceAdd,Nat.reduceSub,Array.replicate_succ,
   Array.replicate_zero,List.push_toArray,List.append_toArray,List.nil_append,List.cons_append]
 refine Bl (fun K hK=>?_);go_wp2;refine Bl (fun K hK=>?_);go_wp2;clear kk;refine Bl (fun K hK=>?_);go_wp2;clear kl;refine Bl (fun K hK=>?_)
 go_wp2_with (go_at_call 120;refine (h1.out _).mono ?_;rintro e w' ⟨rfl,rfl⟩)
 refine DM (Gg ?_);show wpS _ _ [0,1,2] _ _ _;refine Dk rfl rfl rfl (Dk rfl rfl rfl ?_);refine MZ (c:=w.heap.size+1) (cap:=8) (buf:=#[]) (s:=0) (r:=0) (tm:=false) (v:=.int .i64 (start:Int)) (z':=.tuple #[]) rfl rfl rfl (Nw _ _ _) (by decide) (Ld ?_);refine DM (G7 ?_);refine wpK_loopG (InvO w fid use S a cap start goal) 8 ?_ ?_
 ·refine Oz ⟨[start],fun _=>[],P⟩ rfl rfl rfl ?_ ?_ ?_ ?_
  · show 8=1+DE P;rw [HP.out,Gi hs]
  · rw [HP.out];exact Pb w _ start hs
  · rw [HP.out];rfl
  · exact Mb w _ _ _ _ _ _
 ·rintro n A wr
         ⟨s,x,hn,rfl,jx,hout,jq⟩
  obtain ⟨sn,rc,jw⟩:=jx.chan;have jg:=run_len_chan (P:=Tryz.prog) 224 3 Tryz.underlying224 jw;have j8:((s.q.map fun (t:Nat)=>Value.int .i64 (t:Int)).toArray).size=s.q.length:=by simp
  rw [j8] at jg;have jM:=A6 jw;have jb:=A6 jx;have HO:=A6 hout;have HN:=A6 hn;have je:=A6 jq;have hB:Below w.heap.size w wr:=((Below.refl _ _).alloc (A7 _) _).trans (jq.mono (by omega));have HB:=A6 hB;clear jw jx hout hn jq hB j8;refine DM ?_;refine Bl (fun K hK=>?_);rcases hq:s.q with _ | ⟨m,q⟩
  ·rw [hq] at jg;go_wp2;refine F2 rfl (Hh ?_);simp only [Exit.then,Exit.inBlock,if_true];refine FD ?_;have HE:Hid (bfs use goal S.rules start=[]):=HO.out.symm.trans (Kx hq);go_wp2;go_ret;exact ⟨_,rfl,⟨by rw [HE.out];exact Ch.nil _ _,fun _=>rfl⟩,HB.out⟩
  ·rw [hq]
       at jg
   have km:(((m :: q).length:Nat):Int) > 0:=by simp
   go_wp2;refine EN rfl (Fc ?_);refine G7 ?_;refine DM (Gg ?_);show wpS _ _ [0,1,2] _ _ _;refine Dk rfl rfl rfl ?_;have j6:((s.q.map fun (t:Nat)=>Value.int .i64 (t:Int)).toArray).getD 0 undef=.int .i64 (m:Int):=by rw [hq];rfl
   have jF:((s.q.map fun (t:Nat)=>Value.int .i64 (t:Int)).toArray).extract 1 ((s.q.map fun (t:Nat)=>Value.int .i64 (t:Int)).toArray).size=(q.map fun (t:Nat)=>Value.int .i64 (t:Int)).toArray:=by rw [hq];exact Qx m q
   refine Qu (c:=w.heap.size+1) (z:=.int .i64 0) rfl rfl (by simp [go_sem,rcase]) jM.out (by rw [hq];simp) ?_;rw [j6,jF];refine Dk rfl rfl rfl (Ld ?_);simp only [Exit.then];refine UZ (by rfl) (by rfl) (by rfl) (fun y=>?_);have ju:w.heap.size+1<wr.heap.size:=(A9.1 jM.out).1;have jv:=Sp (sn:=sn) (rc:=rc) jb.out hq ju ⟨_,_,_,jM.out⟩;have jf:=below_setChan je.out (c:=w.heap.size+1) (A7 _) 8 ((q.map fun (t:Nat)=>Value.int .i64 (t:Int)).toArray) false sn (rc+1) false;generalize wr.setChan (w.heap.size+1) 8 ((q.map fun (t:Nat)=>Value.int .i64 (t:Int)).toArray) false sn (rc+1) false=wo at jv jf ⊢;have jX:m<8:=jb.out.modes m (by rw [hq];simp);obtain ⟨N,j3⟩:∃ N,N=q.length+DE s.seen:=⟨_,rfl⟩
   have jh:=A6 j3;have j0:Hid (n=N+1):=by have:=HN.out;rw [hq] at this;show n=_;simp only [List.length_cons] at this;omega
   have HC:Hid ((match inner use goal m S.rules 0 { s with q:=q } with | .inl c=>c | .inr s'=>outer use goal S.rules N s')=bfs use goal S.rules start):=by
    have:=HO.out;rw [j0.out,outer,hq] at this;exact this
   have HQ:=A6 hq;clear j6 jF jg km hq jM jb HO HN je HB ju j3;obtain ⟨hz,hc,hf⟩:=BE jf rfl;have jC:=A6 jv;have jy:=A6 jf;clear jv jf;refine Bl (fun K hK=>?_);go_wp2;clear hz hc hf;refine G7 ?_;refine wpK_loopG (InvI w fid use S a cap start goal m N) S.rules.length ?_ ?_
   · exact Hi 0 { s with q:=q } rfl rfl rfl rfl (Nat.zero_le _) (by simp) jC.out HC.out jh.out jy.out
   ·clear
       HC jh jC jy HQ
    clear s x y wo wr q;rintro n' A wr ⟨k,s,x,hk,hn',rfl,jx,ji,hN,jq⟩;have hB:Below w.heap.size w wr:=((Below.refl _ _).alloc (A7 _) _).trans (jq.mono (by omega));have jb:=A6 jx;have HC:=A6 ji;have jh:=A6 hN;have je:=A6 jq;have HB:=A6 hB;clear jx ji hN jq hB;refine Bl (fun K hK=>?_);by_cases ju:k<S.rules.length
    ·go_wp2;refine DM (EN rfl (Fc ?_));refine DM (G7 ?_);obtain ⟨hz,hc,hf⟩:=BE je.out rfl;obtain ⟨b,o,ha,hb,q0,q1,q2,q3,q4⟩:=(HR.out.later HB.out (A7 _)).at ju;have hidx:=Bp a b o S.rules.length cap k ha ju;have HA:=A6 ha;clear ha;refine Bl (fun K hK=>?_);go_wp2;have HD:=A6 (Mc (use:=use) (goal:=goal) (m:=m) s ju);obtain ⟨f0,f1,t0,t1⟩:=HS.out.at0 k ju;have m1:=HS.out.m1;have hw:Value.int .i64 (wrap64 ((k:Int)+1))=.int .i64 ((k+1:Nat):Int):=by
      have h64:=HS.out.len;have ka:wrap64 ((k:Int)+1)=((k+1:Nat):Int):=by unfold wrap64;omega
      rw [ka]
     by_cases jW:S.rules[k].frm=(m:Int)
     ·have HFM:=A6 jW;have hbne:(S.rules[k].frm != (m:Int))=false:=by simp [jW]
      have jt:Hid (decide (S.rules[k].frm.toNat=m)=true):=by show _=_;simp;omega
      clear jW;by_cases hu:use S.rules[k]=true
      ·have jp:=A6 hu;have hshort:=jb.out.short m jX;obtain ⟨cs,jN,kg,jV⟩:=jb.out.chains;obtain ⟨v,hv,jw⟩:=jV m jX;have hcell:wr.cell? ⟨w.heap.size+2,m,none⟩=some v:=by rw [cell_of_row wr _ m cs _ (0,0) jN];exact hv
       have hlt2:w.heap.size+2<wr.heap.size:=(A9.1 jN).1;have hmi:(m:Int)<8:=by omega
       have hm0:(0:Int)≤m:=by omega
       have jz:=A6 jw;have HCV:=A6 jV;have HCB:=A6 jN;clear hu jw jV jN hv kg;refine DM ?_;refine Bl (fun K hK=>?_)
       go_wp2_with (refine (HU.out S.rules[k] _).mono ?_;rintro e w1 ⟨he,hb⟩;rw [jp.out] at he;subst he;have j4:Below (wr.heap.size+1) (wr.alloc (.cells #[.int .i64 S.rules[k].frm,.int .i64 S.rules[k].dst,.string S.rules[k].inp,.string S.rules[k].out,.int .i64 S.rules[k].cost] 64)) w1:=hb.mono (by simp);obtain ⟨jZ,ke,kh⟩:=BB hb (by first | (simp only [AA,World.size_setCell,World.size_drew];rfl) | rfl);have kb:=Ap (B:=wr.heap.size) (w:=wr) (by go_grown) hb (A7 _);clear hb)
       refine F2 rfl (Fc ?_);simp only [Exit.then];refine Bl (fun K hK=>?_)
       go_wp2_with (first | (go_at_call 142;refine (PZ v (s.ch m) w.heap.size _ (jz.out.below (by go_grown) (fun g hg=>jz.out.lt g hg)) (by omega)).mono ?_;rintro e w2 ⟨v',rfl,jG,hb⟩;have ja:Ch w2 (wr.heap.size+1) v' (s.ch m):=jG.mono jZ;have jE:=j4.trans (hb.mono jZ);obtain ⟨kp,kf,ki⟩:=BB hb (by first | (simp only [AA,World.size_setCell,World.size_drew];rfl) | rfl);have kc:=Ap (B:=wr.heap.size) (w:=wr) (by go_grown) hb (A7 _);clear hb jG) | (at_builtin;refine wpList_append_own _ rfl _ _ 79 rfl (wr.heap.size+1) 3 i0 (.int .i64 0) 1 8 Tryz.underlying79 hi kn ko Js rfl (by decide) v' (s.ch m).length (F3 (s.ch m)) rfl (World.ownsRow.alloc ja _) ⟨w2.heap.size,0,none⟩ 1 1 [.int .i64 (k:Int)] rfl rfl (cell_one_new _ _ _) (by simp [Value.oneCell']) (by unfold maxLen;omega) (by omega) (by have:=jE.size;simp only [AA] at this ⊢;omega) ?_;intro v3 w3 jl jk _;have j5:Below (wr.heap.size+1) (wr.alloc (.cells #[.int .i64 S.rules[k].frm,.int .i64 S.rules[k].dst,.string S.rules[k].inp,.string S.rules[k].out,.int .i64 S.rules[k].cost] 64)) w3:=(jE.alloc (by have:=jE.size;simp only [AA] at this;omega) _).grown jk (by have:=jE.size;simp only [AA] at this ⊢;omega) (fun g hg=>ja.ge g hg);have j2:=Lf jl;clear jl jk) | fail)
       have jD:Below wr.heap.size wr w3:=((Below.refl _ wr).alloc (A7 _) _).trans (j5.mono (by omega));have j7:w3.cell? ⟨wr.heap.size,1,none⟩=some (.int .i64 S.rules[k].dst):=(j5.cell (p:=⟨wr.heap.size,1,none⟩) (by show wr.heap.size<_;omega)).trans (by rw [cell_of_row _ _ 1 _ _ (0,0) (heap_alloc_new wr _)];rfl);have jQ:=A6 j2;clear j2;clear ke kh kf ki kb kc j4 jE ja hc hf kp jZ hz;have jJ:S.rules[k].dst<8:=by omega
       refine DM ?_;refine Bl (fun K hK=>?_);by_cases hg:goal.testBit S.rules[k].dst.toNat=true
       ·have HG:=A6 hg;have HE:Hid (s.ch m ++ [k]=bfs use goal S.rules start):=by
         have:=HC.out;rw [HD.out,jt.out,jp.out,Bool.and_true,if_pos rfl,if_pos hg] at this;exact this
        clear hg
        go_wp2_with (go_at_call 100;refine (Dr goal _ _ jj t0 jJ).mono ?_;rintro e w4 ⟨he,rfl⟩;rw [HG.out] at he;subst he)
        refine EN rfl ?_;refine FD ?_;go_wp2;go_ret;exact ⟨_,rfl,⟨by rw [← HE.out];exact jQ.out.mono (by have:=HB.out.size;omega),fun h=>by rw [← HE.out] at h;simp at h⟩,HB.out.trans (jD.mono HB.out.size)⟩
       ·have HG:Hid (goal.testBit S.rules[k].dst.toNat=false):=by show _=_;simpa using hg
        clear hg
        go_wp2_with (go_at_call 100;refine (Dr goal _ _ jj t0 jJ).mono ?_;rintro e w4 ⟨he,rfl⟩;rw [HG.out] at he;subst he)
        refine F2 rfl (Fc ?_);simp only [Exit.then];refine Bl (fun K hK=>?_);have jc:=jb.out.seen;by_cases jK:s.seen.testBit S.rules[k].dst.toNat=true
        ·have jB:=A6 jK;have jn:Hid ((match inner use goal m (S.rules.drop (k+1)) (k+1) s with | .inl c=>c | .inr s''=>outer use goal S.rules N s'')=bfs use goal S.rules start):=by
          have:=HC.out;rw [HD.out,jt.out,jp.out,Bool.and_true,if_pos rfl,HG.out,if_neg (by simp),if_pos jK] at this;exact this
         clear jK
         go_wp2_with (go_at_call 100;refine (Dr s.seen _ _ jc t0 jJ).mono ?_;rintro e w4 ⟨he,rfl⟩;rw [jB.out] at he;subst he)
         refine F2 rfl (Fc ?_);simp only [Exit.then,Exit.inBlock];refine FD ?_;go_wp2;exact ⟨S.rules.length - (k+1),by omega,Hi (k+1) s rfl rfl rfl (by show [_,_,Value.int .i64 (wrap64 ((k:Int)+1))]=_;rw [hw]) (by omega) rfl (G8 jb.out jD) jn.out jh.out (Ap je.out jD (by simp))⟩
        ·have jB:Hid (s.seen.testBit S.rules[k].dst.toNat=false):=by show _=_;simpa using jK
         obtain ⟨d,hd⟩:=Int.eq_ofNat_of_zero_le t0;have jR:Hid (S.rules[k].dst.toNat=d):=by show _=_;omega
         have js:d<8:=by omega
         have jo:Hid (s.seen.testBit d=false):=by show _=_;rw [← jR.out];exact jB.out
         have Jx:=A6 hd;clear hd;have jn:Hid ((match inner use goal m (S.rules.drop (k+1)) (k+1) ⟨s.q ++ [d],fun t=>if t=d then s.ch m ++ [k] else s.ch t,s.seen ||| 2 ^ d⟩ with | .inl c=>c | .inr s''=>outer use goal S.rules N s'')=bfs use goal S.rules start):=by
          have:=HC.out;rw [HD.out,jt.out,jp.out,Bool.and_true,if_pos rfl,HG.out,if_neg (by simp),jB.out,if_neg (by simp)] at this;simp only [jR.out] at this;exact this
         clear jK
         go_wp2_with (go_at_call 100;refine (Dr s.seen _ _ jc t0 jJ).mono ?_;rintro e w4 ⟨he,rfl⟩;rw [jB.out] at he;subst he)
         refine EN rfl ?_;have jY:=Em S.rules[k].dst;refine Bl (fun K hK=>?_);obtain ⟨PP,jS⟩:∃ PP:Nat,PP=2 ^ S.rules[k].dst.toNat:=⟨_,rfl⟩
         have jT:PP<256:=by rw [jS];exact FC _ (by omega)
         have hor:bits .or .u8 (s.seen:Int) (PP:Int)=((s.seen ||| PP:Nat):Int):=u8_or_nat _ _ jc jT;have j1:=A6 jS;clear jS
         go_wp2_with (go_at_call 120;refine (jY _ t0 jJ).mono ?_;rintro e w4 ⟨he,rfl⟩;rw [← j1.out] at he;subst he)
         obtain ⟨a3,c3,Ji, -, -⟩:=jQ.out.sl;rw [show (s.ch m ++ [k]).length=(s.ch m).length+1 by simp] at Ji;subst Ji;have jd:=G8 jb.out jD;obtain ⟨sn3,rc3,ja⟩:=jd.chan;obtain ⟨cs3,jr,jU,jI⟩:=jd.chains;obtain ⟨v0,j9, -⟩:=jI S.rules[k].dst.toNat (by omega);have hcd:w3.cell? ⟨w.heap.size+2,S.rules[k].dst.toNat,none⟩=some v0:=by rw [cell_of_row w3 _ _ cs3 _ (0,0) jr];exact j9
         have hfz:w3.frozen? ⟨w.heap.size+2,S.rules[k].dst.toNat,none⟩=false:=by simp [World.frozen?,jr]
         have hne:w.heap.size+2≠wr.heap.size:=by omega
         have kd:(w3.setCell ⟨w.heap.size+2,S.rules[k].dst.toNat,none⟩ (.slice a3 ((s.ch m).length+1) c3)).cell? ⟨wr.heap.size,1,none⟩=some (.int .i64 S.rules[k].dst):=by
          exact (World.cell?_setCell_other w3 ⟨w.heap.size+2,S.rules[k].dst.toNat,none⟩ ⟨wr.heap.size,1,none⟩ _ (by simp only [ne_eq,Addr.mk.injEq];omega)).trans j7
         have jH:(w3.setCell ⟨w.heap.size+2,S.rules[k].dst.toNat,none⟩ (.slice a3 ((s.ch m).length+1) c3)).heap[w.heap.size+1]? = some (.chan 8 ((s.q.map fun (t:Nat)=>Value.int .i64 (t:Int)).toArray) false sn3 rc3 false):=by
          rw [Below.heap_setCell _ _ _ _ (by show w.heap.size+1≠w.heap.size+2;omega)];exact ja
         have jm:((s.q.map fun (t:Nat)=>Value.int .i64 (t:Int)).toArray).size<8:=by
          have h1:=jd.room;have h2:=Gh js jo.out;simp;omega
         have jO:=A6 (Pc (v3:=(.slice a3 ((s.ch m).length+1) c3)) Jx.out jd js jX jo.out (jQ.out.mono (by have:=HB.out.size;omega)) ja);have jP:=A6 jH;have jA:=A6 jm;clear ja jr jU jI j9 jd jH jm;refine Bl (fun K hK=>?_);go_wp2;refine Gg ?_;show wpS _ _ [0,1,2,3] _ _ _;refine Dk rfl rfl rfl (Dk rfl rfl rfl (Dk rfl rfl (v:=.int .i64 S.rules[k].dst) (w':=w3.setCell ⟨w.heap.size+2,S.rules[k].dst.toNat,none⟩ (.slice a3 ((s.ch m).length+1) c3)) (by simp [go_sem,j7,kd]) ?_));refine MZ (c:=w.heap.size+1) (cap:=8) (v:=.int .i64 S.rules[k].dst) (z':=.tuple #[]) rfl rfl rfl jP.out jA.out (Ld ?_);simp only [Exit.then,Exit.inBlock];obtain rfl:PP=2 ^ d:=by rw [← jR.out];exact j1.out
         refine FD ?_;go_wp2;exact ⟨S.rules.length - (k+1),by omega,Hi (k+1) ⟨s.q ++ [d],fun t=>if t=d then s.ch m ++ [k] else s.ch t,s.seen ||| 2 ^ d⟩ rfl rfl rfl (by show [_,_,Value.int .i64 (wrap64 ((k:Int)+1))]=_;rw [hw]) (by omega) rfl (by have:=jO.out;rwa [List.push_toArray] at this) jn.out (by have:=Gh js jo.out;have:=jh.out;simp only [AF,List.length_cons,List.length_nil];omega) (below_setChan ((Ap je.out jD (by simp)).setCell (by show _≤w.heap.size+2;omega) _) (A7 _) _ _ _ _ _ _)⟩
      ·have jp:Hid (use S.rules[k]=false):=by show _=_;simpa using hu
       have jn:Hid ((match inner use goal m (S.rules.drop (k+1)) (k+1) s with | .inl c=>c | .inr s''=>outer use goal S.rules N s'')=bfs use goal S.rules start):=by
        have:=HC.out;rw [HD.out,jp.out,Bool.and_false,if_neg (by simp)] at this;exact this
       refine DM ?_;refine Bl (fun K hK=>?_)
       go_wp2_with (refine (HU.out S.rules[k] _).mono ?_;rintro e w1 ⟨he,hb⟩;rw [jp.out] at he;subst he;obtain ⟨hz,hc,hf⟩:=BB hb (by first | (simp only [AA,World.size_setCell,World.size_drew];rfl) | rfl);have hB:=Ap (B:=wr.heap.size) (w:=wr) (by go_grown) hb (A7 _);clear hb)
       refine EN (c:=.tmp 44) ?_ (Hh ?_)
       · rfl
       simp only [Exit.then,Exit.inBlock,if_true];refine FD ?_;go_wp2;exact ⟨S.rules.length - (k+1),by omega,Hi (k+1) s rfl rfl rfl (by show [_,_,Value.int .i64 (wrap64 ((k:Int)+1))]=_;rw [hw]) (by omega) rfl (G8 jb.out (by go_grown)) jn.out jh.out (Ap je.out (by go_grown) (by simp))⟩
     ·have jn:Hid ((match inner use goal m (S.rules.drop (k+1)) (k+1) s with | .inl c=>c | .inr s''=>outer use goal S.rules N s'')=bfs use goal S.rules start):=by
       have:=HC.out;have hd:decide (S.rules[k].frm.toNat=m)=false:=by simp;omega
       rw [HD.out,hd,Bool.false_and,if_neg (by simp)] at this;exact this
      refine DM ?_;refine Bl (fun K hK=>?_);go_wp2;refine EN rfl (Hh ?_);simp only [Exit.then,Exit.inBlock,if_true];refine FD ?_;go_wp2;exact ⟨S.rules.length - (k+1),by omega,Hi (k+1) s rfl rfl rfl (by show [_,_,Value.int .i64 (wrap64 ((k:Int)+1))]=_;rw [hw]) (by omega) rfl (G8 jb.out (by go_grown)) jn.out jh.out (Ap je.out (by go_grown) (by simp))⟩
    ·have kj:k=S.rules.length:=by omega
     subst kj;have HE:Hid (outer use goal S.rules N s=bfs use goal S.rules start):=by
      have:=HC.out;rw [List.drop_length,inner] at this;exact this
     go_wp2;refine DM (F2 rfl (Hh ?_));simp only [Exit.then,Exit.inBlock,if_true];exact ⟨N,by have:=j0.out;omega,Oz s rfl rfl rfl jh.out jb.out HE.out je.out⟩
open Go.RowKit
def Ja (A B:Nat) (r:Rl):Bool:=!A.testBit r.frm.toNat || !B.testBit r.dst.toNat
theorem Jb {S:Sch} (hS:Fit S):Fa S.eds S.modes.toNat S.acc.toNat<256:=by
 have:∀ n,Bu (fun L=>S.eds.foldl CS L) n S.acc.toNat<256:=by
  intro n
  induction n with
  | zero=>show S.acc.toNat<256;have:=hS.a0;have:=hS.a1;omega
  | succ n ih=>exact MW _ _ hS.within ih
 exact this _
theorem Ip {S:Sch} (hS:Fit S):EV S.eds S.modes.toNat<256:=by
 have:∀ n,Bu (fun L=>S.eds.foldl Bc L) n 1<256:=by
  intro n
  induction n with
  | zero=>show 1<256;omega
  | succ n ih=>exact MV _ _ hS.within ih
 exact this _
theorem RJ (fid:Nat) (use:Rl→Bool) (jb:∀ (r:Rl) (w:World),Calls Tryz.prog fid #[.agg #[.int .i64 r.frm,.int .i64 r.dst,.string r.inp,.string r.out,.int .i64 r.cost]] w fun e w'=>e=.returned (.bool (use r))∧Below w.heap.size w w')
  (jc:∀ (args:Array Value) (w:World),(callFunc fid args).run Tryz.prog w=.ok (.enter fid args) w)
  (S:Sch) (a:Option Addr) (cap start goal:Nat) (st gl:Int) (je:st=(start:Int)) (jd:gl=(goal:Int)) (w:World) (hR:BL w a S.rules) (hS:Fit S) (hs:start<8) (ja:goal<256) :
  Calls Tryz.prog 121 #[.agg #[.int .i64 S.modes,.int .u8 S.acc,.slice a S.rules.length cap],.int .i64 st,.int .u8 gl,.func (.func fid) #[] #[]] w fun e w'=>∃ v,e=.returned v∧ChN w' w.heap.size v (bfs use goal S.rules start)∧Below w.heap.size w w':=by
 subst je jd;exact first_any fid use jb jc S a cap start goal w hR hS hs ja
def BX (S:Sch):Nat:=Fa S.eds S.modes.toNat S.acc.toNat
def Cr (S:Sch):Nat:=EV S.eds S.modes.toNat
def Jc (S:Sch):List Nat:=if (BX S).testBit 0 then bfs (fun _=>true) (255 - BX S) S.rules 0 else []
def CI (r:Rl):Bool:=decide (r.inp.size=0)
def Dg:List Nat→List Nat→Prop
 | a :: xs,b :: ys=>a<b∨(a=b∧Dg xs ys)
 | _,_=>False
def sl (a b:List Nat):Prop:=a.length<b.length∨(a.length=b.length∧Dg a b)
def sle (a b:List Nat):Prop:=a=b∨sl a b
theorem Hq:∀ a,¬ Dg a a
 | []=>id
 | a :: xs=>fun h=>h.elim (Nat.lt_irrefl _) fun h=>Hq xs h.2
theorem Iq:∀ {a b c:List Nat},Dg a b→Dg b c→Dg a c
 | a
   :: xs,b :: ys,c :: zs,h,h2=>by
  rcases h with h | ⟨rfl,h⟩
  ·rcases h2 with h2 | ⟨rfl,h2⟩
   · exact .inl (Nat.lt_trans h h2)
   · exact .inl h
  ·rcases h2 with h2 | ⟨rfl,h2⟩
   · exact .inl h2
   · exact .inr ⟨rfl,Iq h h2⟩
 | [],_,_,h,_=>h.elim
 | _ :: _,[],_,h,_=>h.elim
 | _ :: _,_ :: _,[],_,h=>h.elim
theorem Ir:∀ {a b:List Nat},a.length=b.length→a=b∨Dg a b∨Dg b a
 | [],[],_=>.inl rfl
 | [],_ :: _,h=>by simp at h
 | _ :: _,[],h=>by simp at h
 | a
   :: xs,b :: ys,h=>by
  rcases Nat.lt_trichotomy a b with h1 | h1 | h1
  · exact .inr (.inl (.inl h1))
  ·subst h1;rcases Ir (a:=xs) (b:=ys) (by simpa using h) with h2 | h2 | h2
   · exact .inl (by rw [h2])
   · exact .inr (.inl (.inr ⟨rfl,h2⟩))
   · exact .inr (.inr (.inr ⟨rfl,h2⟩))
  · exact .inr (.inr (.inl h1))
theorem Hr:∀ {a b:List Nat} (x y:List Nat),Dg a b→Dg (a ++ x) (b ++ y)
 | a :: xs,b :: ys,x,y,h=>h.elim (fun h=>.inl h) fun h=>.inr ⟨h.1,Hr x y h.2⟩
 | [],_,_,_,h=>h.elim
 | _ :: _,[],_,_,h=>h.elim
theorem Jd:∀ (a:List Nat) {x y:List Nat},Dg x y→Dg (a ++ x) (a ++ y)
 | [],_,_,h=>h
 | _ :: xs,_,_,h=>.inr ⟨rfl,Jd xs h⟩
theorem Pk (a:List Nat):¬ sl a a:=fun h=>h.elim (Nat.lt_irrefl _) fun h=>Hq a h.2
theorem EX {a b c:List Nat} (h:sl a b) (h2:sl b c):sl a c:=by
 rcases h with h | ⟨h,hl⟩ <;> rcases h2 with h2 | ⟨h2,ja⟩
 · exact .inl (by omega)
 · exact .inl (by omega)
 · exact .inl (by omega)
 · exact .inr ⟨by omega,Iq hl ja⟩
theorem RK (a b:List Nat):a=b∨sl a b∨sl b a:=by
 rcases Nat.lt_trichotomy a.length b.length with h | h | h
 · exact .inr (.inl (.inl h))
 ·rcases Ir h with h2 | h2 | h2
  · exact .inl h2
  · exact .inr (.inl (.inr ⟨h,h2⟩))
  · exact .inr (.inr (.inr ⟨h.symm,h2⟩))
 · exact .inr (.inr (.inl h))
theorem Lj {a b:List Nat} (h:sl a b) (x y:Nat):sl (a ++ [x]) (b ++ [y]):=by
 rcases h with h | ⟨h,hl⟩
 · exact .inl (by simp;omega)
 · exact .inr ⟨by simp;omega,Hr _ _ hl⟩
theorem Hs (a:List Nat) {x y:Nat} (h:x<y):sl (a ++ [x]) (a ++ [y]):=.inr ⟨by simp,Jd a (x:=[x]) (y:=[y]) (show x<y∨_ from .inl h)⟩
theorem P6 (a:List Nat) (x:Nat):sl a (a ++ [x]):=.inl (by simp)
theorem EY (a:List Nat):sle a a:=.inl rfl
theorem CZ {a b c:List Nat} (h:sle a b) (h2:sle b c):sle a c:=by
 rcases h with rfl | h
 · exact h2
 ·rcases h2 with rfl | h2
  · exact .inr h
  · exact .inr (EX h h2)
theorem Fj {a b:List Nat} (h:sle a b) (x:Nat):sle (a ++ [x]) (b ++ [x]):=by
 rcases h with rfl | h
 · exact EY _
 · exact .inr (Lj h x x)
theorem Ht {a b:List Nat} (h:sle a b) (h2:sle b a):a=b:=by
 rcases h with h | h
 · exact h
 ·rcases h2 with h2 | h2
  · exact h2.symm
  · exact absurd (EX h h2) (Pk _)
theorem Ll {a b c:List Nat} (h:sl a b) (h2:sle b c):sl a c:=by
 rcases h2 with rfl | h2
 · exact h
 · exact EX h h2
theorem IM (a b:List Nat):sl a b∨sle b a:=by
 rcases RK a b with h | h | h
 · exact .inr (.inl h.symm)
 · exact .inl h
 · exact .inr (.inr h)
def leads (use:Rl→Bool) (R:List Rl):Nat→List Nat→Option Nat
 | m,[]=>some m
 | m,i :: c=>if h:i<R.length then (if R[i].frm.toNat=m∧use R[i]=true then leads use R R[i].dst.toNat c else none) else none
def Stp (use:Rl→Bool) (R:List Rl) (u i t:Nat):Prop:=∃ h:i<R.length,R[i].frm.toNat=u∧use R[i]=true∧R[i].dst.toNat=t
theorem D4 {use:Rl→Bool} {R:List Rl} {m i t:Nat} {c:List Nat}:leads use R m (i :: c)=some t↔∃ u,Stp use R m i u∧leads use R u c=some t:=by
 rw [leads];constructor
 ·intro h;split at h
  ·rename_i hi;split at h
   · rename_i h2;exact ⟨_,⟨hi,h2.1,h2.2,rfl⟩,h⟩
   · cases h
  · cases h
 ·rintro ⟨u,⟨hi,h1,h2,rfl⟩,h⟩;rw [dif_pos hi,if_pos ⟨h1,h2⟩];exact h
theorem FG {use:Rl→Bool} {R:List Rl}:∀ {m t:Nat} {c d:List Nat},leads use R m (c ++ d)=some t↔∃ u,leads use R m c=some u∧leads use R u d=some t
 | m,t,[],d=>by simp [leads]
 | m,t,i :: c,d=>by
  rw [List.cons_append,D4];constructor
  ·rintro ⟨u,h1,h2⟩;obtain ⟨v,h3,h4⟩:=FG.1 h2;exact ⟨v,D4.2 ⟨u,h1,h3⟩,h4⟩
  ·rintro ⟨v,h1,h2⟩;obtain ⟨u,h3,h4⟩:=D4.1 h1;exact ⟨u,h3,FG.2 ⟨v,h4,h2⟩⟩
theorem CJ {use:Rl→Bool} {R:List Rl} {m t i:Nat} {c:List Nat}:leads use R m (c ++ [i])=some t↔∃ u,leads use R m c=some u∧Stp use R u i t:=by
 rw [FG];constructor
 ·rintro ⟨u,h1,h2⟩;obtain ⟨v,h3,h4⟩:=D4.1 h2;cases h4;exact ⟨u,h1,h3⟩
 ·rintro ⟨u,h1,h2⟩;exact ⟨u,h1,D4.2 ⟨t,h2,rfl⟩⟩
theorem FH {α:Type} (c:List α):c=[]∨∃ d x,c=d ++ [x]:=by
 rcases List.eq_nil_or_concat c with h | ⟨d,x,h⟩
 · exact .inl h
 · exact .inr ⟨d,x,by rw [h];try simp⟩
structure RM (use:Rl→Bool) (R:List Rl) (start goal:Nat) (c:List Nat):Prop where
 ne:c≠[]
 is:∃ g,leads use R start c=some g∧goal.testBit g=true
 least:∀ d g,d≠[]→leads use R start d=some g→goal.testBit g=true→sle c d
def Lm (use:Rl→Bool) (R:List Rl) (start goal:Nat):Prop:=∀ d g,d≠[]→leads use R start d=some g→goal.testBit g=false
theorem Mj {use:Rl→Bool} {R:List Rl} {start goal:Nat} {c d:List Nat} (h:RM use R start goal c) (h2:RM use R start goal d):c=d:=by
 obtain ⟨g,hg,hb⟩:=h.is;obtain ⟨g2,jb,ja⟩:=h2.is;exact Ht (h.least d g2 h2.ne jb ja) (h2.least c g h.ne hg hb)
structure BI (use:Rl→Bool) (R:List Rl) (start goal:Nat) (D:List Nat) (s:BS):Prop where
 chain:∀ t∈D ++ s.q,leads use R start (s.ch t)=some t
 seenL:∀ t,s.seen.testBit t=true↔t∈D ++ s.q
 base:start∈D ++ s.q∧s.ch start=[]
 sorted:(D ++ s.q).Pairwise (fun a b=>sl (s.ch a) (s.ch b))
def KW (use:Rl→Bool) (R:List Rl) (goal:Nat) (D:List Nat) (s:BS) (u i:Nat):Prop :=
 ∀ t,Stp use R u i t→t∈D ++ s.q∧sle (s.ch t) (s.ch u ++ [i])∧goal.testBit t=false
theorem frontier {use:Rl→Bool} {R:List Rl} {start goal:Nat} {D:List Nat} {m k:Nat} {s:BS} (hI:BI use R start goal (D ++ [m]) s)
  (hd:∀ u∈D,∀ i,KW use R goal (D ++ [m]) s u i) (hm:∀ i,i<k→KW use R goal (D ++ [m]) s m i) :
  ∀ (N:Nat) (c:List Nat) (n:Nat),c.length=N→leads use R start c=some n→(n∈(D ++ [m]) ++ s.q∧sle (s.ch n) c∧(c=[]∨goal.testBit n=false))∨sle (s.ch m ++ [k]) c:=by
 intro N
 induction N with
 | zero =>
  intro c n hc hn;obtain rfl:=List.eq_nil_of_length_eq_zero hc;cases hn;exact .inl ⟨hI.base.1,by rw [hI.base.2];exact EY _,.inl rfl⟩
 | succ N ih =>
  intro c n hc hn;rcases FH c with rfl | ⟨c,i,rfl⟩
  · simp at hc
  obtain ⟨u,h1,h2⟩:=CJ.1 hn;rcases ih c u (by simpa using hc) h1 with ⟨hu,ja, -⟩ | h
  ·rw [List.append_assoc] at hu;rcases Ak.1 hu with hu | hu
   ·obtain ⟨q1,q2,q3⟩:=hd u hu i n h2;exact .inl ⟨q1,CZ q2 (Fj ja i),.inr q3⟩
   ·rw [List.singleton_append] at hu;rcases Aj.1 hu with rfl | hu
    ·by_cases jb:i<k
     ·obtain ⟨q1,q2,q3⟩:=hm i jb n h2;exact .inl ⟨q1,CZ q2 (Fj ja i),.inr q3⟩
     ·refine .inr (CZ ?_ (Fj ja i));by_cases e:i=k
      · subst e;exact EY _
      · exact .inr (Hs _ (by omega))
    ·have hs:sl (s.ch m) (s.ch u):=by
      have:=hI.sorted;rw [List.append_assoc,List.pairwise_append] at this;have:=this.2.1;rw [List.singleton_append,Ah] at this;exact this.1 u hu
     exact .inr (CZ (.inr (Lj hs k i)) (Fj ja i))
  · exact .inr (CZ h (.inr (P6 c i)))
theorem Mk {use:Rl→Bool} {R:List Rl} {start goal:Nat} {D:List Nat} {s:BS} (hI:BI use R start goal D s) (hd:∀ u∈D,∀ i,KW use R goal D s u i) (hq:s.q=[]):Lm use R start goal:=by
 have key:∀ (N:Nat) (c:List Nat) (n:Nat),c.length=N→leads use R start c=some n→n∈D∧(c=[]∨goal.testBit n=false):=by
  intro N
  induction N with
  | zero =>
   intro c n hc hn;obtain rfl:=List.eq_nil_of_length_eq_zero hc;cases hn;have:=hI.base.1;rw [hq,List.append_nil] at this;exact ⟨this,.inl rfl⟩
  | succ N ih =>
   intro c n hc hn;rcases FH c with rfl | ⟨c,i,rfl⟩
   · simp at hc
   obtain ⟨u,h1,h2⟩:=CJ.1 hn;obtain ⟨hu, -⟩:=ih c u (by simpa using hc) h1;obtain ⟨q1,q2,q3⟩:=hd u hu i n h2;rw [hq,List.append_nil] at q1;exact ⟨q1,.inr q3⟩
 intro d g ja jb;rcases (key d.length d g rfl jb).2 with h | h
 · exact absurd h ja
 · exact h
theorem inner_spec {use:Rl→Bool} {R:List Rl} {start goal:Nat} {D:List Nat} {m:Nat}:∀ (N k:Nat) (s:BS),R.length - k=N→k≤R.length→BI use R start goal (D ++ [m]) s →
  (∀ u∈D,∀ i,KW use R goal (D ++ [m]) s u i)→(∀ i,i<k→KW use R goal (D ++ [m]) s m i)→(∀ t∈(D ++ [m]) ++ s.q,sl (s.ch t) (s.ch m ++ [k])) →
  match inner use goal m (R.drop k) k s with
  | .inl c=>RM use R start goal c
  | .inr s'=>BI use R start goal (D ++ [m]) s'∧(∀ u∈D ++ [m],∀ i,KW use R goal (D ++ [m]) s' u i)∧(∀ t∈(D ++ [m]) ++ s'.q,sl (s'.ch t) (s'.ch m ++ [R.length])):=by
 intro N
 induction N with
 | zero =>
  intro k s hN hk hI hd hm hb;obtain rfl:k=R.length:=by omega
  rw [List.drop_length,inner];refine ⟨hI,fun u hu i=>?_,hb⟩;rcases Ak.1 hu with hu | hu
  · exact hd u hu i
  ·simp at hu;subst hu;rintro t ⟨hi,h⟩;exact hm i hi t ⟨hi,h⟩
 | succ N ih
       =>
  intro k s hN hk hI hd hm hb;have ji:k<R.length:=by omega
  have jg:m∈(D ++ [m]) ++ s.q:=by simp
  rw [Mc s ji];by_cases hc:(decide (R[k].frm.toNat=m) && use R[k])=true
  ·rw [if_pos hc];simp only [Bool.and_eq_true,decide_eq_true_eq] at hc;have jk:Stp use R m k R[k].dst.toNat:=⟨ji,hc.1,hc.2,rfl⟩
   by_cases hg:goal.testBit R[k].dst.toNat=true
   ·rw [if_pos hg];refine ⟨by simp,⟨_,CJ.2 ⟨m,hI.chain m jg,jk⟩,hg⟩,fun d g jd jn jm=>?_⟩;rcases frontier hI hd hm d.length d g rfl jn with ⟨_,_,h | h⟩ | h
    · exact absurd h jd
    · rw [jm] at h;cases h
    · exact h
   ·have jh:goal.testBit R[k].dst.toNat=false:=by simpa using hg
    rw [if_neg hg];by_cases hs:s.seen.testBit R[k].dst.toNat=true
    ·rw [if_pos hs];refine ih (k+1) s (by omega) (by omega) hI hd (fun i hi=>?_) (fun t ht=>EX (hb t ht) (Hs _ (by omega)));by_cases e:i=k
     ·subst e;rintro t ⟨h1,h2,h3,rfl⟩;exact ⟨(hI.seenL _).1 hs,.inr (hb _ ((hI.seenL _).1 hs)),jh⟩
     · exact hm i (by omega)
    ·rw [if_neg hs];have je:R[k].dst.toNat ∉ (D ++ [m]) ++ s.q:=fun h=>hs ((hI.seenL _).2 h);generalize jd:R[k].dst.toNat=d at *;have jj:m≠d:=fun e:m=d=>je (e ▸ jg);have jc:∀ t∈(D ++ [m]) ++ s.q,(if t=d then s.ch m ++ [k] else s.ch t)=s.ch t:=fun t ht=>if_neg (fun e:t=d=>je (e ▸ ht));have ja:∀ t,t∈(D ++ [m]) ++ (s.q ++ [d])↔(t∈(D ++ [m]) ++ s.q∨t=d):=fun t=>by
      rw [← List.append_assoc];simp only [Ak (t:=[d]),AJ]
     have jb:∀ u i,u∈(D ++ [m]) ++ s.q→KW use R goal (D ++ [m]) s u i→KW use R goal (D ++ [m]) ⟨s.q ++ [d],fun t=>if t=d then s.ch m ++ [k] else s.ch t,s.seen ||| 2 ^ d⟩ u i:=by
      intro u i hu h t ht;obtain ⟨q1,q2,q3⟩:=h t ht;refine ⟨(ja t).2 (.inl q1),?_,q3⟩;show sle (if t=d then s.ch m ++ [k] else s.ch t) ((if u=d then s.ch m ++ [k] else s.ch u) ++ [i]);rw [jc t q1,jc u hu];exact q2
     have jl:∀ u,u∈D→u∈(D ++ [m]) ++ s.q:=fun u hu=>by simp [hu]
     refine ih (k+1) ⟨s.q ++ [d],fun t=>if t=d then s.ch m ++ [k] else s.ch t,s.seen ||| 2 ^ d⟩ (by omega) (by omega) ⟨fun t ht=>?_,fun t=>?_,⟨(ja _).2 (.inl hI.base.1),?_⟩,?_⟩ (fun u hu i=>jb u i (jl u hu) (hd u hu i)) (fun i hi=>?_) (fun t ht=>?_)
     ·show leads use R start (if t=d then s.ch m ++ [k] else s.ch t)=some t;rcases (ja t).1 ht with h | rfl
      · rw [jc t h];exact hI.chain t h
      · rw [if_pos rfl];exact CJ.2 ⟨m,hI.chain m jg,jk⟩
     ·rw [ja,← hI.seenL,Nat.testBit_or,Nat.testBit_two_pow];simp only [Bool.or_eq_true,decide_eq_true_eq];exact or_congr Iff.rfl eq_comm
     ·show (if start=d then s.ch m ++ [k] else s.ch start)=[];rw [jc _ hI.base.1];exact hI.base.2
     ·show ((D ++ [m]) ++ (s.q ++ [d])).Pairwise (fun a b=>sl (if a=d then s.ch m ++ [k] else s.ch a) (if b=d then s.ch m ++ [k] else s.ch b));rw [← List.append_assoc,List.pairwise_append];refine ⟨?_,by simp,fun a ha b jf=>?_⟩
      ·refine List.Pairwise.imp_of_mem (fun {a b} ha jf h=>?_) hI.sorted;rw [jc a ha,jc b jf];exact h
      ·simp at jf;subst jf;rw [if_pos rfl,jc a ha];exact hb a ha
     ·by_cases e:i=k
      ·subst e;rintro t ⟨h1,h2,h3,rfl⟩;rw [jd];refine ⟨(ja _).2 (.inr rfl),?_,by rw [← jd];first | exact jh | (rw [jd];exact jh)⟩;show sle (if d=d then s.ch m ++ [i] else s.ch d) ((if m=d then s.ch m ++ [i] else s.ch m) ++ [i]);rw [if_pos rfl,if_neg jj];exact EY _
      · exact jb m i jg (hm i (by omega))
     ·show sl (if t=d then s.ch m ++ [k] else s.ch t) ((if m=d then s.ch m ++ [k] else s.ch m) ++ [k+1]);rw [if_neg jj];rcases (ja t).1 ht with h | rfl
      · rw [jc t h];exact EX (hb t h) (Hs _ (by omega))
      · rw [if_pos rfl];exact Hs _ (by omega)
  ·rw [if_neg hc];refine ih (k+1) s (by omega) (by omega) hI hd (fun i hi=>?_) (fun t ht=>EX (hb t ht) (Hs _ (by omega)));by_cases e:i=k
   ·subst e;rintro t ⟨h1,h2,h3,rfl⟩;exact absurd (by simp [h2,h3]) hc
   · exact hm i (by omega)
theorem Sy {N L t:Nat} (ht:t<N) (h:L.testBit t=false):cntF N (L ||| 2 ^ t).testBit+1=cntF N L.testBit:=by
 have:=cntF_add (f:=L.testBit) (g:=(L ||| 2 ^ t).testBit) (t:=t) (fun i=>by rw [Nat.testBit_or,Nat.testBit_two_pow]) h N
 rwa [if_pos ht] at this
theorem Ml:∀ N,cntF N (fun _=>false)=N
 | 0=>rfl
 | N+1=>by simp [cntF,Ml N]
theorem Sz {N t:Nat} (ht:t<N):cntF N (2 ^ t).testBit+1=N:=by
 have:=cntF_add (f:=fun _=>false) (g:=(2 ^ t).testBit) (t:=t) (fun i=>by rw [Nat.testBit_two_pow];simp) rfl N
 rwa [if_pos ht,Ml] at this
structure Sm (N:Nat) (s:BS):Prop where
 short:∀ t,t<N→(s.ch t).length+cntF N s.seen.testBit<N
 modes:∀ t∈s.q,t<N
def Small (N:Nat) (R:List Rl):Prop:=∀ r∈R,r.frm.toNat<N∧r.dst.toNat<N
def V5 (N:Nat) (s:BS):List Nat ⊕ BS→Prop
 | .inl c=>c.length≤N
 | .inr s'=>Sm N s'∧s'.q.length+cntF N s'.seen.testBit=s.q.length+cntF N s.seen.testBit
theorem inner_small {use:Rl→Bool} {goal N m:Nat} (hm:m<N):∀ (R:List Rl) (k:Nat) (s:BS),Small N R→Sm N s→V5 N s (inner use goal m R k s)
 | [],k,s,_,h=>⟨h,rfl⟩
 | r
   :: R,
      k,s,hR,h=>by
  have ja:Small N R:=fun x hx=>hR x (by simp [hx]);have hd:=(hR r (by simp)).2;rw [inner];split
  ·split
   ·show (s.ch m ++ [k]).length≤N;have:=h.short m hm;rw [AF];simp only [List.length_cons,List.length_nil];omega
   ·split
    · exact inner_small hm R (k+1) s ja h
    ·rename_i hs;have jb:s.seen.testBit r.dst.toNat=false:=by simpa using hs
     generalize r.dst.toNat=d at *;have hc:=Sy hd jb;have:=inner_small (use:=use) (goal:=goal) hm R (k+1) ⟨s.q ++ [d],fun t=>if t=d then s.ch m ++ [k] else s.ch t,s.seen ||| 2 ^ d⟩ ja ⟨fun t ht=>?_,fun t ht=>?_⟩
     ·revert this;generalize inner use goal m R (k+1) ⟨s.q ++ [d],fun t=>if t=d then s.ch m ++ [k] else s.ch t,s.seen ||| 2 ^ d⟩=r';cases r' with
      | inl c=>exact id
      | inr s' =>
       rintro ⟨h1,h2⟩;refine ⟨h1,h2.trans ?_⟩;show (s.q ++ [d]).length+cntF N (s.seen ||| 2 ^ d).testBit=_;rw [AF];simp only [List.length_cons,List.length_nil];omega
     ·show (if t=d then s.ch m ++ [k] else s.ch t).length+cntF N (s.seen ||| 2 ^ d).testBit<N;have h1:=h.short m hm;have h2:=h.short t ht;split
      · rw [AF];simp only [List.length_cons,List.length_nil];omega
      · omega
     ·rcases Ak.1 ht with h1 | h1
      · exact h.modes t h1
      · simp at h1;omega
  · exact inner_small hm R (k+1) s ja h
theorem outer_spec {use:Rl→Bool} {R:List Rl} {start goal N:Nat} (hR:Small N R):∀ (n:Nat) (D:List Nat) (s:BS),BI use R start goal D s→(∀ u∈D,∀ i,KW use R goal D s u i) →
  (∀ x∈s.q,∀ t∈D ++ s.q,sl (s.ch t) (s.ch x ++ [0]))→Sm N s→s.q.length+cntF N s.seen.testBit≤n →
  (outer use goal R n s=[]∧Lm use R start goal)∨(RM use R start goal (outer use goal R n s)∧(outer use goal R n s).length≤N):=by
 intro n
 induction n with
 | zero =>
  intro D s hI hd hb hS hn;have hq:s.q=[]:=List.eq_nil_of_length_eq_zero (by omega);exact .inl ⟨rfl,Mk hI hd hq⟩
 | succ n ih =>
  intro D s hI hd hb hS hn;rcases hq:s.q with _ | ⟨m,q⟩
  · exact .inl ⟨Kx hq,Mk hI hd hq⟩
  ·have hL:D ++ s.q=(D ++ [m]) ++ q:=by rw [hq];simp
   have jg:m<N:=hS.modes m (by rw [hq];simp);have jb:BI use R start goal (D ++ [m]) { s with q:=q }:=⟨by rw [← hL];exact hI.chain,by rw [← hL];exact hI.seenL,by rw [← hL];exact hI.base,by rw [← hL];exact hI.sorted⟩
   have je:∀ u∈D,∀ i,KW use R goal (D ++ [m]) { s with q:=q } u i:=fun u hu i t ht=>by
    have:=hd u hu i t ht;rw [hL] at this;exact this
   have h1:=inner_spec (R.length - 0) 0 { s with q:=q } rfl (Nat.zero_le _) jb je (fun i hi=>absurd hi (by omega)) (fun t ht=>hb m (by rw [hq];simp) t (by rw [hL];exact ht));have h2:=inner_small (use:=use) (goal:=goal) jg R 0 { s with q:=q } hR ⟨hS.short,fun t ht=>hS.modes t (by rw [hq];simp [ht])⟩;rw [List.drop_zero] at h1;have he:outer use goal R (n+1) s=match inner use goal m R 0 { s with q:=q } with | .inl c=>c | .inr s'=>outer use goal R n s':=by rw [outer,hq] <;> rfl
   rw [he];revert h1 h2;generalize inner use goal m R 0 { s with q:=q }=r';cases r' with
   | inl c=>exact fun h1 h2=>.inr ⟨h1,h2⟩
   | inr
      s' =>
    rintro ⟨ja,jf,jd⟩ ⟨jc,jh⟩;refine ih (D ++ [m]) s' ja jf (fun x hx t ht=>?_) jc ?_
    ·have hs:sl (s'.ch m) (s'.ch x):=by
      have:=ja.sorted;rw [List.append_assoc,List.pairwise_append] at this;have:=this.2.1;rw [List.singleton_append,Ah] at this;exact this.1 x hx
     exact EX (jd t ht) (Lj hs _ _)
    ·rw [hq] at hn;simp only [List.length_cons] at hn;have:s'.q.length+cntF N s'.seen.testBit=q.length+cntF N s.seen.testBit:=jh;omega
theorem Fk {use:Rl→Bool} {R:List Rl} {start goal N:Nat} (hR:Small N R) (hN:N≤8) (hs:start<N) :
  (bfs use goal R start=[]∧Lm use R start goal)∨(RM use R start goal (bfs use goal R start)∧(bfs use goal R start).length≤N):=by
 have hc:=Sz hs;refine outer_spec hR 8 [] ⟨[start],fun _=>[],2 ^ start⟩ ⟨fun t ht=>?_,fun t=>?_,⟨by simp,rfl⟩,by simp⟩ (by simp) (fun x hx t ht=>?_) ⟨fun t ht=>?_,fun t ht=>?_⟩ ?_
 · simp at ht;subst ht;rfl
 · rw [Nat.testBit_two_pow];simp [eq_comm]
 · exact P6 [] 0
 · show 0+cntF N (2 ^ start).testBit<N;omega
 · simp at ht;omega
 · show 1+cntF N (2 ^ start).testBit≤8;omega
theorem Ln {use:Rl→Bool} {R:List Rl} {start goal N:Nat} (hR:Small N R) (hN:N≤8) (hs:start<N):(bfs use goal R start).length≤N:=by
 rcases Fk (use:=use) (goal:=goal) hR hN hs with ⟨h,_⟩ | ⟨_,h⟩
 · rw [h];simp
 · exact h
theorem Fit.small {S:Sch} (h:Fit S):Small S.modes.toNat S.rules:=fun r hr=>by
 obtain ⟨i,hi,rfl⟩:=List.mem_iff_getElem.1 hr;have:=h.at0 i hi;omega
def ints (l:List Nat):List Int:=l.map fun (n:Nat)=>(n:Int)
def FU (S:Sch) (m:Nat):Bool:=(Cr S).testBit m && (BX S).testBit m
def
  endStep (S:Sch) (least:List Nat) (m:Nat):List Nat :=
 if
   FU S m then
  (
   if bfs CI (2 ^ m) S.rules m=[] then least
   else if least=[] then bfs CI (2 ^ m) S.rules m
   else if Nv (ints (bfs CI (2 ^ m) S.rules m)) (ints least)<0 then bfs CI (2 ^ m) S.rules m else least)
 else least
def Mm (S:Sch):List Nat:=(List.range S.modes.toNat).foldl (endStep S) []
theorem BH (l:List Nat):(ints l).length=l.length:=by simp [ints]
theorem Ch.sls {w:World} {B:Nat} {a:Option Addr} {n c:Nat} {xs:List Nat} (h:Ch w B (.slice a n c) xs):SlS w a (ints xs)∧n=xs.length:=by
 obtain ⟨a',c',he, -,hs⟩:=h.sl;cases he;exact ⟨hs,rfl⟩
theorem Je (a a':Option Addr) (c c' n n':Nat) (xs ys:List Int) (w:World) (hn:n=xs.length) (ja:n'=ys.length) (h1:SlS w a xs) (h2:SlS w a' ys) (l1:xs.length≤100000) (l2:ys.length≤100000) :
  Calls Tryz.prog 123 #[.slice a n c,.slice a' n' c'] w fun e w'=>e=.returned (.int .i64 (Nv xs ys))∧Below w.heap.size w w':=by
 subst hn ja;exact Ma a a' c c' xs ys w h1 h2 l1 l2
theorem RN {A B:Nat} (hA:A<256) (hB:B<256):bits .and .u8 (A:Int) (B:Int)=((A &&& B:Nat):Int):=u8_and_nat _ _ hA hB
theorem Tz {A B:Nat} (hA:A<256):A &&& B<256:=Nat.lt_of_le_of_lt Nat.and_le_left hA
theorem endless_any (S:Sch) (a:Option Addr) (cap:Nat) (w:World) (hR:BL w a S.rules) (hS:Fit S) :
  Calls Tryz.prog 102 #[.agg #[.int .i64 S.modes,.int .u8 S.acc,.slice a S.rules.length cap]] w fun e w'=>∃ v,e=.returned v∧ChN w' w.heap.size v (Mm S)∧Below w.heap.size w w':=by
 obtain ⟨A,hA⟩:∃ A,Cr S=A:=⟨_,rfl⟩
 obtain ⟨B,jv⟩:∃ B,BX S=B:=⟨_,rfl⟩
 have jG:A<256:=by rw [← hA];exact Ip hS
 have jS:B<256:=by rw [← jv];exact Jb hS
 have jn:=RN jG jS;have jw:A &&& B<256:=Tz jG;obtain ⟨L,hL⟩:∃ L,A &&& B=L:=⟨_,rfl⟩
 rw [hL] at jn jw;have HA:=A6 hA;have jA:=A6 jv;have HL:=A6 hL;have HR:=A6 hR;have HS:=A6 hS;clear hA jv hL hR;obtain ⟨m0,m1, -, -, -, -⟩:=hS;obtain ⟨mm,jL⟩:=Int.eq_ofNat_of_zero_le (show 0≤S.modes by omega);have jm:=A6 jL;have jp:Hid (∀ m,FU S m=L.testBit m):=fun m=>by unfold FU;rw [HA.out,jA.out,← HL.out,Nat.testBit_and]
 have hmm8:mm≤8:=by omega
 clear jL
 go_enter Tryz.func102,Tryz.ntmps102
 go_wp2
 go_region_held3 (fun w'=>w'.cell? ⟨w.heap.size,0,none⟩=some (.int .i64 S.modes)∧w'.cell? ⟨w.heap.size,1,none⟩=some (.int .u8 S.acc)∧w'.cell? ⟨w.heap.size,2,none⟩=some (.slice a S.rules.length cap)) (first | (simp [go_sem, *];done) | go_keep) (first | (go_at_call 101;refine (reached_any S a cap _ (HR.out.later (by first | exact hB | go_grown) (A7 _)) HS.out).mono ?_;rintro e w1 ⟨he,hb⟩;rw [show EV S.eds S.modes.toNat=A from HA.out] at he;subst he;obtain ⟨hz,hc,hf⟩:=BB hb (by first | (simp only [AA,World.size_setCell,World.size_drew];rfl) | rfl);have hB:=Ap (B:=w.heap.size) (w:=w) (by go_grown) hb (A7 _);have jb:=Ap (B:=w.heap.size+1) (w:=w.alloc (.cells #[.int .i64 S.modes,.int .u8 S.acc,.slice a S.rules.length cap] 32)) (by go_grown) hb (by simp);clear hb) | (go_at_call 99;refine (live_any S a cap _ (HR.out.later (by first | exact hB | go_grown) (A7 _)) HS.out).mono ?_;rintro e w1 ⟨he,hb⟩;rw [show Fa S.eds S.modes.toNat S.acc.toNat=B from jA.out] at he;subst he;obtain ⟨hz,hc,hf⟩:=BB hb (by first | (simp only [AA,World.size_setCell,World.size_drew];rfl) | rfl);have hB:=Ap (B:=w.heap.size) (w:=w) (by go_grown) hb (A7 _);have jb:=Ap (B:=w.heap.size+1) (w:=w.alloc (.cells #[.int .i64 S.modes,.int .u8 S.acc,.slice a S.rules.length cap] 32)) (by go_grown) hb (by simp);clear hb))
 go_wp2;clear jn hz hc hf
 go_loopw [4,14] (fun lv i wr=>∃ (k:Nat) (a1:Option Addr) (n1 c1:Nat) (xs:List Nat),k≤mm∧i=.int .i64 k∧lv=.slice a1 n1 c1∧n1=xs.length∧xs=(List.range k).foldl (endStep S) []∧xs.length≤100∧ChN wr w.heap.size (.slice a1 n1 c1) xs∧Below (w.heap.size+1) (w.alloc (.cells #[.int .i64 S.modes,.int .u8 S.acc,.slice a S.rules.length cap] 32)) wr) (fun _ i _=>mm - (intOf i).toNat)
 case atStart=>exact ⟨0,none,0,0,[],by omega,rfl,rfl,rfl,rfl,by simp,⟨Ch.nil _ _,fun _=>rfl⟩,jb⟩
 case round =>
  clear hB jb;obtain ⟨k,a1,n1,c1,xs,hk,rfl,rfl,jM,jR,jz,⟨jk,jq⟩,jb⟩:=hrel;have hB:Below w.heap.size w wr:=((Below.refl _ _).alloc (A7 _) _).trans (jb.mono (by omega));obtain ⟨hz,hc,hf⟩:=BE jb rfl;simp only [AA] at hz;have ju:=A6 jM;have jF:=A6 jR;have jh:=A6 jk;have jd:=A6 jq;clear jM jR jk jq;by_cases hlt:k<mm
  ·have hs
       := Dr L (k:Int)
   have jy:(k:Int)<S.modes:=by have:=jm.out;omega
   have ja:Hid ((List.range (k+1)).foldl (endStep S) []=endStep S xs k):=by show _=_;rw [List.range_succ,List.foldl_append,← jF.out];rfl
   by_cases hb:L.testBit k=true
   ·have jr:Hid (L.testBit k=true):=hb;have jj:Hid (FU S k=true):=(jp.out k).trans hb;clear hb;obtain ⟨c,jI⟩:∃ c,bfs CI (2 ^ k) S.rules k=c:=⟨_,rfl⟩
    have ji:=A6 jI;clear jI;have jV:2 ^ k<256:=FC k (by omega);have jU:Hid (c.length≤100):=by rw [← ji.out];have h9:=Ln (use:=CI) (goal:=2 ^ k) (start:=k) HS.out.small (by have:=jm.out;omega) (by have:=jm.out;omega);exact AC h9 (by omega)
    have jo:=jU.out
    go_wp2_with (first
     | (go_at_call 100;refine (hs _ jw (by omega) (by omega)).mono ?_;rintro e w' ⟨he,rfl⟩;rw [show L.testBit ((k:Int)).toNat=true from jr.out] at he;subst he;clear hs))
    go_region_held3 (fun w'=>w'.cell? ⟨w.heap.size,0,none⟩=some (.int .i64 S.modes)∧w'.cell? ⟨w.heap.size,1,none⟩=some (.int .u8 S.acc)∧w'.cell? ⟨w.heap.size,2,none⟩=some (.slice a S.rules.length cap)) (first | (simp [go_sem, *];done) | go_keep) (first | (go_at_call 120;refine (Em (k:Int) _ (by omega) (by omega)).mono ?_;rintro e w' ⟨rfl,rfl⟩) | (go_at_call 121;refine (RJ 122 CI Pd (fun _ _=>rfl) S a cap k (2 ^ k) _ _ rfl rfl _ (HR.out.later (by first | exact hB | go_grown) (A7 _)) HS.out (by omega) jV).mono ?_;rintro e w1 ⟨v,rfl,jk,hb⟩;rw [ji.out] at jk;have jf:=A6 jk;clear jk;have jT:=hB;have jH:=Ap (B:=wr.heap.size) (w:=wr) (by go_grown) hb (A7 _);obtain ⟨hz,hc,hf⟩:=BB hb (by first | (simp only [AA,World.size_setCell,World.size_drew];rfl) | rfl);have hB:=Ap (B:=w.heap.size) (w:=w) (by go_grown) hb (A7 _);have jb:=Ap (B:=w.heap.size+1) (w:=w.alloc (.cells #[.int .i64 S.modes,.int .u8 S.acc,.slice a S.rules.length cap] 32)) (by go_grown) hb (by simp);clear hb))
    have hq:=fun W=>run_neq_slice_nil_any (P:=Tryz.prog) W 79 3 a1 n1 c1 0 0 Tryz.underlying79;have jX:=fun W=>run_eql_slice_nil (P:=Tryz.prog) W 79 3 a1 n1 c1 Tryz.underlying79;by_cases je:c=[]
    ·have hv:=jf.out.2 je;subst hv;have HE:Hid (endStep S xs k=xs):=by show _=_;rw [endStep,jj.out,ji.out,if_pos rfl,if_pos je]
     have jc:Hid (ChN w1 w.heap.size (.slice a1 n1 c1) xs):=⟨jh.out.below jH (jh.out.lt),jd.out⟩
     have jW:=fun W=>run_neq_slice_nil_any (P:=Tryz.prog) W 79 3 none 0 0 0 0 Tryz.underlying79;clear je hq jX;go_wp2
     go_roundw
     case rel=>exact ⟨k+1,a1,n1,c1,xs,by omega,by go_num,rfl,ju.out,by rw [ja.out,HE.out],jz,jc.out,jb⟩
     case measure=>simp [intOf];omega
    ·obtain ⟨g,cp,hv⟩:=jf.out.1.slv je;subst hv;have jW:=fun W=>run_neq_slice_nil_any (P:=Tryz.prog) W 79 3 (some ⟨g,0,none⟩) c.length cp 0 0 Tryz.underlying79;have jl:Hid (ChN w1 w.heap.size (.slice (some ⟨g,0,none⟩) c.length cp) c):=⟨jf.out.1.mono (by have:=jT.size;first | omega | (simp only [World.size_drew];omega)),jf.out.2⟩
     have hcl3:∀ f:List Nat→List Nat,f=f:=fun _=>rfl;by_cases jg:xs=[]
     ·have hv:=jd.out jg;have HE:Hid (endStep S xs k=c):=by show _=_;rw [endStep,jj.out,ji.out,if_pos rfl,if_neg je,if_pos jg]
      obtain ⟨rfl,rfl,rfl⟩:a1=none∧n1=0∧c1=0:=by injection hv with e1 e2 e3;exact ⟨e1,e2,e3⟩
      clear hv jg je;go_wp2
      go_roundw
      case rel=>exact ⟨k+1,some ⟨g,0,none⟩,c.length,cp,c,by omega,by go_num,rfl,rfl,by rw [ja.out,HE.out],jo,jl.out,jb⟩
      case measure=>simp [intOf];omega
     ·obtain ⟨g1,cp1,jQ⟩:=jh.out.slv jg;obtain ⟨rfl,rfl⟩:a1=some ⟨g1,0,none⟩∧c1=cp1:=by injection jQ with e1 e2 e3;exact ⟨e1,e3⟩
      have jc:Hid (ChN w1 w.heap.size (.slice (some ⟨g1,0,none⟩) n1 c1) xs):=⟨jh.out.below jH (jh.out.lt),jd.out⟩
      have jJ:(ints c).length≤100000:=by rw [BH];omega
      have jK:(ints xs).length≤100000:=by rw [BH];omega
      have jB:Hid (c.length=(ints c).length):=(BH c).symm;obtain ⟨jO, -⟩:=jl.out.1.sls;obtain ⟨jP,jN⟩:=jc.out.1.sls;have jC:Hid (n1=(ints xs).length):=by show _=_;rw [BH];exact jN
      have jD:=A6 jO;have jE:=A6 jP;obtain ⟨o,ho⟩:∃ o,Nv (ints c) (ints xs)=o:=⟨_,rfl⟩
      have HO:=A6 ho;clear jO jP jN jQ ho;by_cases ho:o<0
      ·have HE:Hid (endStep S xs k=c):=by show _=_;rw [endStep,jj.out,ji.out,if_pos rfl,if_neg je,if_neg jg,HO.out,if_pos ho]
       clear jg je
       go_wp2_with (go_at_call 123;refine (Je _ _ _ _ _ _ (ints c) (ints xs) _ jB.out jC.out jD.out jE.out jJ jK).mono ?_;rintro e w2 ⟨he,hb⟩;rw [HO.out] at he;subst he;have jt:Hid (ChN w2 w.heap.size (.slice (some ⟨g,0,none⟩) c.length cp) c):=⟨jl.out.1.below hb jl.out.1.lt,jl.out.2⟩;obtain ⟨hz,hc,hf⟩:=BB hb (by first | (simp only [AA,World.size_setCell,World.size_drew];rfl) | rfl);have hB:=Ap (B:=w.heap.size) (w:=w) (by go_grown) hb (A7 _);have jb:=Ap (B:=w.heap.size+1) (w:=w.alloc (.cells #[.int .i64 S.modes,.int .u8 S.acc,.slice a S.rules.length cap] 32)) (by go_grown) hb (by simp);clear hb)
       go_roundw
       case rel=>exact ⟨k+1,some ⟨g,0,none⟩,c.length,cp,c,by omega,by go_num,rfl,rfl,by rw [ja.out,HE.out],jo,jt.out,jb⟩
       case measure=>simp [intOf];omega
      ·have HE:Hid (endStep S xs k=xs):=by show _=_;rw [endStep,jj.out,ji.out,if_pos rfl,if_neg je,if_neg jg,HO.out,if_neg ho]
       clear jg je
       go_wp2_with (go_at_call 123;refine (Je _ _ _ _ _ _ (ints c) (ints xs) _ jB.out jC.out jD.out jE.out jJ jK).mono ?_;rintro e w2 ⟨he,hb⟩;rw [HO.out] at he;subst he;have js:Hid (ChN w2 w.heap.size (.slice (some ⟨g1,0,none⟩) n1 c1) xs):=⟨jc.out.1.below hb jc.out.1.lt,jc.out.2⟩;obtain ⟨hz,hc,hf⟩:=BB hb (by first | (simp only [AA,World.size_setCell,World.size_drew];rfl) | rfl);have hB:=Ap (B:=w.heap.size) (w:=w) (by go_grown) hb (A7 _);have jb:=Ap (B:=w.heap.size+1) (w:=w.alloc (.cells #[.int .i64 S.modes,.int .u8 S.acc,.slice a S.rules.length cap] 32)) (by go_grown) hb (by simp);clear hb)
       go_roundw
       case rel=>exact ⟨k+1,some ⟨g1,0,none⟩,n1,c1,xs,by omega,by go_num,rfl,ju.out,by rw [ja.out,HE.out],jz,js.out,jb⟩
       case measure=>simp [intOf];omega
   ·have jx:L.testBit k=false:=by simpa using hb
    have jr:Hid (L.testBit k=false):=jx;have jj:Hid (FU S k=false):=(jp.out k).trans jx;clear hb jx
    go_wp2_with (first
     | (go_at_call 100;refine (hs _ jw (by omega) (by omega)).mono ?_;rintro e w' ⟨he,rfl⟩;rw [show L.testBit ((k:Int)).toNat=false from jr.out] at he;subst he;clear hs))
    go_roundw
    case rel=>exact ⟨k+1,a1,n1,c1,xs,by omega,by go_num,rfl,ju.out,by rw [ja.out,endStep,jj.out];rfl,jz,⟨jh.out,jd.out⟩,jb⟩
    case measure=>simp [intOf];omega
  ·obtain rfl:k=mm:=by omega
   have jy:¬ (k:Int)<S.modes:=by have:=jm.out;omega
   go_wp2;go_ret;exact ⟨_,rfl,by have:=jF.out;rw [Mm,jm.out];show ChN _ _ _ ((List.range k).foldl (endStep S) []);rw [← this];exact ⟨jh.out,jd.out⟩,hB⟩
def EA (S:Sch) (k:Nat):List Nat:=(List.range k).filter fun i=>if h:i<S.rules.length then Ja (Cr S) (BX S) S.rules[i] else false
theorem Ch.form {w:World} {B:Nat} {v:Value} {xs:List Nat} (h:Ch w B v xs):∃ a n c,v=.slice a n c:=by
 obtain ⟨a,c,he, -⟩:=h.sl;exact ⟨a,_,c,he⟩
structure Rp where
 dead:List Nat
 stuck:List Nat
 endl:List Nat
theorem Mn {w:World} {g:Nat} {x0 x1 x2 a b c:Value} {t:TypeId} {f:Nat × Nat} (h:w.heap[g]? = some (.cells #[x0,x1,x2] t f)) :
  (((w.setCell ⟨g,0,none⟩ a).setCell ⟨g,1,none⟩ b).setCell ⟨g,2,none⟩ c).heap[g]? = some (.cells #[a,b,c] t f):=by
 simp only [World.setCell];rw [Array.getElem?_modify,if_pos rfl,Array.getElem?_modify,if_pos rfl,Array.getElem?_modify,if_pos rfl,h];rfl
theorem E7 {w:World} {B g i:Nat} {v u:Value} {xs:List Nat} {cs:Array Value} {f:Nat × Nat} (h:Ch w B v xs) (hg:w.heap[g]? = some (.cells cs 108 f)):Ch (w.setCell ⟨g,i,none⟩ u) B v xs:=by
 refine h.same fun b hb=>Below.heap_setCell _ _ _ _ fun e=>?_;obtain ⟨cs',h2⟩:=h.own hb;simp only at e;rw [e,hg] at h2;cases h2
theorem L6 {w:World} {g i:Nat} {u:Value} {cs:Array Value} {t:TypeId} {f:Nat × Nat} (hg:w.heap[g]? = some (.cells cs t f)):∃ cs',(w.setCell ⟨g,i,none⟩ u).heap[g]? = some (.cells cs' t f):=by
 refine ⟨cs.setIfInBounds i u,?_⟩;simp only [World.setCell];rw [Array.getElem?_modify,if_pos rfl,hg];rfl
theorem Lo {w:World} {B g:Nat} {v a b c:Value} {xs:List Nat} {cs:Array Value} {f:Nat × Nat} (h:Ch w B v xs) (hg:w.heap[g]? = some (.cells cs 108 f)):Ch (((w.setCell ⟨g,0,none⟩ a).setCell ⟨g,1,none⟩ b).setCell ⟨g,2,none⟩ c) B v xs:=by
 obtain ⟨c1,h1⟩:=L6 (i:=0) (u:=a) hg;obtain ⟨c2,h2⟩:=L6 (i:=1) (u:=b) h1;exact E7 (E7 (E7 h hg) h1) h2
structure LS (w M:World) (g B1:Nat) (v1 v2 v3:Value) (x1 x2 x3:List Nat) (wr:World):Prop where
 rep:wr.heap[g]? = some (.cells #[v1,v2,v3] 108 (0,0))
 d1:Ch wr B1 v1 x1
 d2:Ch wr w.heap.size v2 x2
 d3:Ch wr w.heap.size v3 x3
 l2:∀ b,v2.ownBlock=some b→b<B1
 l3:∀ b,v3.ownBlock=some b→b<B1
 gB:g<B1
 gm:w.heap.size+2≤g
 bB:B1≤wr.heap.size
 bl:Below (w.heap.size+2) M wr
section
variable {w M:World} {g B1:Nat} {v1 v2 v3:Value} {x1 x2 x3:List Nat} {wr:World}
theorem LS.below {w1:World} (h:LS w M g B1 v1 v2 v3 x1 x2 x3 wr) (hb:Below wr.heap.size wr w1):LS w M g B1 v1 v2 v3 x1 x2 x3 w1 :=
 ⟨(
  hb.block g (by have:=h.gB;have:=h.bB;omega)).trans h.rep,h.d1.below hb h.d1.lt,h.d2.below hb h.d2.lt,h.d3.below hb h.d3.lt,h.l2,h.l3,h.gB,h.gm,by have:=h.bB;have:=hb.size;omega,
  h.bl.trans (hb.mono (by have:=h.gB;have:=h.gm;have:=h.bB;omega))⟩
theorem LS.g0 (h:LS w M g B1 v1 v2 v3 x1 x2 x3 wr):wr.cell? ⟨g,0,none⟩=some v1:=by rw [cell_of_row wr g 0 _ _ (0,0) h.rep];rfl
theorem LS.gf (h:LS w M g B1 v1 v2 v3 x1 x2 x3 wr) (i:Nat):wr.frozen? ⟨g,i,none⟩=false:=by simp [World.frozen?,h.rep]
theorem LS.grown {w1:World} {v:Value} {x:List Nat} {row:Option Nat} (h:LS w M g B1 v1 v2 v3 x1 x2 x3 wr) (hg:wr.grownBy w1 row) (hr:∀ k,row=some k→B1≤k) (hd:Ch w1 B1 v x) :
  LS w M g B1 v v2 v3 x x2 x3 (w1.setCell ⟨g,0,none⟩ v):=by
 have hb:Below B1 wr w1:=(Below.refl _ wr).grown hg h.bB hr;have ja:w1.heap[g]? = some (.cells #[v1,v2,v3] 108 (0,0)):=(hb.block g h.gB).trans h.rep;refine ⟨?_,E7 hd ja,E7 (h.d2.below hb h.l2) ja,E7 (h.d3.below hb h.l3) ja,h.l2,h.l3,h.gB,h.gm,by have:=h.bB;have:=hb.size;rw [World.size_setCell];omega,(h.bl.trans (hb.mono (by have:=h.gB;have:=h.gm;omega))).setCell h.gm _⟩;simp only [World.setCell];rw [Array.getElem?_modify,if_pos rfl,ja];rfl
theorem LS.cells {w1:World} {row:Option Nat} (h:LS w M g B1 v1 v2 v3 x1 x2 x3 wr) (hg:wr.grownBy w1 row) (hr:∀ k,row=some k→B1≤k):w1.cell? ⟨g,0,none⟩=some v1∧w1.frozen? ⟨g,0,none⟩=false:=by
 have hb:Below B1 wr w1:=(Below.refl _ wr).grown hg h.bB hr;exact ⟨(hb.cell (p:=⟨g,0,none⟩) h.gB).trans h.g0,(hb.frozen (p:=⟨g,0,none⟩) h.gB).trans (h.gf 0)⟩
end
theorem cells3 {w:World} {g:Nat} {a b c:Value} {t:TypeId} {f:Nat × Nat} (h:w.heap[g]? = some (.cells #[a,b,c] t f)) :
  w.cell? ⟨g,0,none⟩=some a∧w.cell? ⟨g,1,none⟩=some b∧w.cell? ⟨g,2,none⟩=some c:=by
 refine ⟨?_,?_,?_⟩
 · rw [cell_of_row w g 0 _ _ f h];rfl
 · rw [cell_of_row w g 1 _ _ f h];rfl
 · rw [cell_of_row w g 2 _ _ f h];rfl
theorem O5 (S:Sch) (k:Nat) (h:k<S.rules.length):EA S (k+1)=if Ja (Cr S) (BX S) S.rules[k] then EA S k ++ [k] else EA S k:=by
 unfold EA;rw [List.range_succ,List.filter_append];simp only [List.filter_cons,List.filter_nil,dif_pos h];split <;> simp
theorem Pm (S:Sch) (k:Nat):(EA S k).length≤k:=by
 have:=List.length_filter_le (fun i=>if h:i<S.rules.length then Ja (Cr S) (BX S) S.rules[i] else false) (List.range k);simpa [EA] using this
def Bv (n L:Nat):List Bool:=(List.range n).map L.testBit
theorem IN (n L:Nat):(Bv n L).length=n:=by simp [Bv]
theorem IO9 {n L i:Nat} (h:i<n):(Bv n L)[i]? = some (L.testBit i):=by
 rw [Bv,List.getElem?_map,List.getElem?_range h];rfl
theorem L7 {n L t:Nat} (h:t<n):(Bv n L).set t true=Bv n (L ||| 2 ^ t):=by
 apply List.ext_getElem?;intro i;rw [List.getElem?_set];by_cases hi:i<n
 ·rw [IO9 hi,IO9 hi,IN,Nat.testBit_or,Nat.testBit_two_pow];by_cases e:t=i
  · subst e;simp [h]
  · simp [e]
 ·have h1:(Bv n L)[i]? = none:=by rw [Ac];rw [IN];omega
  have h2:(Bv n (L ||| 2 ^ t))[i]? = none:=by rw [Ac];rw [IN];omega
  rw [h1,h2,if_neg (by omega)]
theorem Bq (L t i:Nat):(L ||| 2 ^ t).testBit i=(L.testBit i || decide (t=i)):=by rw [Nat.testBit_or,Nat.testBit_two_pow]
theorem Jf {L:Nat} {x:Ed} {i:Nat} (h:L.testBit i=true):(Bc L x).testBit i=true:=by
 unfold Bc;split
 · rw [Bq,h];rfl
 · exact h
theorem Jg {L:Nat} {x:Ed} {i:Nat} (h:L.testBit i=true):(CS L x).testBit i=true:=by
 unfold CS;split
 · rw [Bq,h];rfl
 · exact h
theorem FI:∀ (E:List Ed) {L i:Nat},L.testBit i=true→(E.foldl Bc L).testBit i=true
 | [],_,_,h=>h
 | x :: E,_,_,h=>FI E (Jf h)
theorem FJ:∀ (E:List Ed) {L i:Nat},L.testBit i=true→(E.foldl CS L).testBit i=true
 | [],_,_,h=>h
 | x :: E,_,_,h=>FJ E (Jg h)
theorem Jh:∀ {E:List Ed} {x:Ed} {L:Nat},x∈E→L.testBit x.f=true→(E.foldl Bc L).testBit x.t=true
 | y
   :: E,x,L,h,hb=>by
  rcases Aj.1 h with rfl | h
  ·refine FI E ?_;unfold Bc;rw [if_pos hb,Bq];simp
  · exact Jh (E:=E) h (Jf hb)
theorem Jj:∀ {E:List Ed} {x:Ed} {L:Nat},x∈E→L.testBit x.t=true→(E.foldl CS L).testBit x.f=true
 | y
   :: E,x,L,h,hb=>by
  rcases Aj.1 h with rfl | h
  ·refine FJ E ?_;unfold CS;rw [if_pos hb,Bq];simp
  · exact Jj (E:=E) h (Jg hb)
theorem cnt_mono {f g:Nat→Bool} (h:∀ i,f i=true→g i=true):∀ n,cntF n g≤cntF n f
 | 0=>A7 _
 | n+1=>by
  have:=cnt_mono h n;simp only [cntF];cases hf:f n with
  | false=>split <;> simp <;> omega
  | true=>rw [h n hf];simp;exact this
theorem cnt_lt {f g:Nat→Bool} (h:∀ i,f i=true→g i=true) {j:Nat} (hj:g j=true) (hf:f j=false):∀ n,j<n→cntF n g<cntF n f
 | n
   + 1,hn=>by
  simp only [cntF];by_cases e:j=n
  ·subst e;have:=cnt_mono h j;rw [hj,hf];simp;omega
  ·have:=cnt_lt h hj hf n (by omega);cases ja:f n with
   | false=>split <;> simp <;> omega
   | true=>rw [h n ja];simp;exact this
theorem Mp {f:Nat→Bool}:∀ {n:Nat},cntF n f=0→∀ i,i<n→f i=true
 | n
   + 1,h,i,hi=>by
  simp only [cntF] at h;by_cases e:i=n
  ·subst e;cases hf:f i with
   | true=>rfl
   | false=>rw [hf] at h;simp at h
  · exact Mp (n:=n) (by omega) i (by omega)
theorem iter_closed {F:Nat→Nat} {n:Nat} (hm:∀ L i,L.testBit i=true→(F L).testBit i=true) (hF:∀ L i,n≤i→(F L).testBit i=L.testBit i) (x:Nat) :
  ∀ i,i<n→(F (Bu F n x)).testBit i=true→(Bu F n x).testBit i=true:=by
 have grow
      :
       ∀ k,(∃ j,j≤k∧∀ i,i<n→(F (Bu F j x)).testBit i=true→(Bu F j x).testBit i=true)∨cntF n (Bu F k x).testBit+k≤n:=by
  intro k
  induction k with
  | zero=>exact .inr (Oy _ n)
  | succ k ih =>
   rcases ih with ⟨j,hj,h⟩ | h
   · exact .inl ⟨j,by omega,h⟩
   ·by_cases hc:∀ i,i<n→(F (Bu F k x)).testBit i=true→(Bu F k x).testBit i=true
    · exact .inl ⟨k,by omega,hc⟩
    ·obtain ⟨i,hi⟩:=Classical.not_forall.1 hc;have ja:i<n∧(F (Bu F k x)).testBit i=true∧(Bu F k x).testBit i=false:=by
      refine ⟨?_,?_,?_⟩
      · exact Classical.byContradiction fun h2=>hi fun h3=>absurd h3 h2
      · exact Classical.byContradiction fun h2=>hi fun _ h4=>absurd h4 h2
      ·cases hb:(Bu F k x).testBit i with
       | false=>rfl
       | true=>exact absurd (fun _ _=>hb) hi
     have:=cnt_lt (f:=(Bu F k x).testBit) (g:=(Bu F (k+1) x).testBit) (fun j hj=>hm _ _ hj) ja.2.1 ja.2.2 n ja.1;exact .inr (by omega)
 rcases grow n with ⟨j,hj,h⟩ | h
 ·have hfix:F (Bu F j x)=Bu F j x:=by
   apply Nat.eq_of_testBit_eq;intro i;by_cases hi:i<n
   ·cases hb:(Bu F j x).testBit i with
    | true=>exact hm _ _ hb
    | false =>
     cases jb:(F (Bu F j x)).testBit i with
     | false=>rfl
     | true=>rw [h i hi jb] at hb;cases hb
   · exact hF _ i (by omega)
  have hk:∀ k,Bu F (j+k) x=Bu F j x:=by
   intro k
   induction k with
   | zero=>rfl
   | succ k ih=>show F (Bu F (j+k) x)=_;rw [ih,hfix]
  obtain ⟨k,rfl⟩:∃ k,n=j+k:=⟨n - j,by omega⟩
  rw [hk,hfix];exact fun _ _ h=>h
 ·intro i hi _;exact Mp (by omega) i hi
theorem O6 {n L:Nat} {x:Ed} (hx:x.t<n) {i:Nat} (hi:n≤i):(Bc L x).testBit i=L.testBit i:=by
 unfold Bc;split
 · rw [Bq,decide_eq_false (by omega),Bool.or_false]
 · rfl
theorem O7 {n L:Nat} {x:Ed} (hx:x.f<n) {i:Nat} (hi:n≤i):(CS L x).testBit i=L.testBit i:=by
 unfold CS;split
 · rw [Bq,decide_eq_false (by omega),Bool.or_false]
 · rfl
theorem Jk {n:Nat}:∀ {E:List Ed} {L i:Nat},Fb n E→n≤i→(E.foldl Bc L).testBit i=L.testBit i
 | [],_,_,_,_=>rfl
 | x :: E,_,_,h,hi=>(Jk (E:=E) (fun y hy=>h y (by simp [hy])) hi).trans (O6 (h x (by simp)).2 hi)
theorem Jl {n:Nat}:∀ {E:List Ed} {L i:Nat},Fb n E→n≤i→(E.foldl CS L).testBit i=L.testBit i
 | [],_,_,_,_=>rfl
 | x :: E,_,_,h,hi=>(Jl (E:=E) (fun y hy=>h y (by simp [hy])) hi).trans (O7 (h x (by simp)).1 hi)
theorem IP {F:Nat→Nat} (hm:∀ L i,L.testBit i=true→(F L).testBit i=true) {x i:Nat} (h:x.testBit i=true):∀ n,(Bu F n x).testBit i=true
 | 0=>h
 | n+1=>hm _ _ (IP hm h n)
def J6:Rl→Bool:=fun _=>true
def Bw (S:Sch) (m:Nat):Nat:=Bu (fun L=>S.eds.foldl Bc L) S.modes.toNat (2 ^ m)
theorem L8 (S:Sch):Cr S=Bw S 0:=rfl
theorem RO {S:Sch} {x:Ed}:x∈S.eds↔∃ i u t,Stp J6 S.rules u i t∧x.f=u∧x.t=t∧∃ h:i<S.rules.length,x=S.rules[i].ed:=by
 constructor
 ·intro h;obtain ⟨r,hr,rfl⟩:=AP.1 h;obtain ⟨i,hi,rfl⟩:=List.mem_iff_getElem.1 hr;exact ⟨i,_,_,⟨hi,rfl,rfl,rfl⟩,rfl,rfl,hi,rfl⟩
 ·rintro ⟨i,u,t,_,_,_,hi,rfl⟩;exact AP.2 ⟨_,AO hi,rfl⟩
theorem RP {S:Sch} {u i t:Nat} (h:Stp J6 S.rules u i t):∃ x∈S.eds,x.f=u∧x.t=t:=by
 obtain ⟨hi,h1,_,h2⟩:=h;exact ⟨S.rules[i].ed,AP.2 ⟨_,AO hi,rfl⟩,h1,h2⟩
theorem Fit.withinN {S:Sch} (h:Fit S):Fb S.modes.toNat S.eds:=by
 intro x hx;obtain ⟨r,hr,rfl⟩:=AP.1 hx;exact h.small r hr
theorem foldR_sound {S:Sch} {P:Nat→Prop} (hP:∀ u i t,P u→Stp J6 S.rules u i t→P t):∀ (E:List Ed),(∀ x∈E,x∈S.eds)→∀ L,(∀ i,L.testBit i=true→P i)→∀ i,(E.foldl Bc L).testBit i=true→P i
 | [],_,_,h,i,hi=>h i hi
 | x
   :: E,hE,L,h,i,hi=>by
  refine foldR_sound hP E (fun y hy=>hE y (by simp [hy])) (Bc L x) (fun j hj=>?_) i hi;unfold Bc at hj;split at hj
  ·rename_i hx;rw [Bq] at hj;simp only [Bool.or_eq_true,decide_eq_true_eq] at hj;rcases hj with hj | rfl
   · exact h j hj
   ·obtain ⟨k,u,t,hs,h1,h2,_⟩:=RO.1 (hE x (by simp));exact hP u k _ (h u (by rw [← h1];exact hx)) (h2 ▸ hs)
  · exact h j hj
theorem foldL_sound {S:Sch} {P:Nat→Prop} (hP:∀ u i t,P t→Stp J6 S.rules u i t→P u):∀ (E:List Ed),(∀ x∈E,x∈S.eds)→∀ L,(∀ i,L.testBit i=true→P i)→∀ i,(E.foldl CS L).testBit i=true→P i
 | [],_,_,h,i,hi=>h i hi
 | x
   :: E,hE,L,h,i,hi=>by
  refine foldL_sound hP E (fun y hy=>hE y (by simp [hy])) (CS L x) (fun j hj=>?_) i hi;unfold CS at hj;split at hj
  ·rename_i hx;rw [Bq] at hj;simp only [Bool.or_eq_true,decide_eq_true_eq] at hj;rcases hj with hj | rfl
   · exact h j hj
   ·obtain ⟨k,u,t,hs,h1,h2,_⟩:=RO.1 (hE x (by simp));exact hP _ k t (h t (by rw [← h2];exact hx)) (h1 ▸ hs)
  · exact h j hj
theorem DI {S:Sch} (hS:Fit S) {use:Rl→Bool}:∀ {c:List Nat} {m t:Nat},m<S.modes.toNat→leads use S.rules m c=some t→t<S.modes.toNat
 | [],m,t,hm,h=>by cases h;exact hm
 | i :: c,m,t,hm,h=>by
  obtain ⟨u,⟨hi,_,_,rfl⟩,h2⟩:=D4.1 h;exact DI hS (hS.small _ (AO hi)).2 h2
theorem reach_spec {S:Sch} (hS:Fit S) {m t:Nat} (hm:m<S.modes.toNat):(Bw S m).testBit t=true↔∃ c,leads J6 S.rules m c=some t:=by
 constructor
 ·have key:∀ k t,(Bu (fun L=>S.eds.foldl Bc L) k (2 ^ m)).testBit t=true→∃ c,leads J6 S.rules m c=some t:=by
   intro k
   induction k with
   | zero =>
    intro t h;rw [Bu,Nat.testBit_two_pow] at h;obtain rfl:m=t:=by simpa using h
    exact ⟨[],rfl⟩
   | succ k ih =>
    intro t h;exact foldR_sound (P:=fun t=>∃ c,leads J6 S.rules m c=some t) (fun u i t ⟨c,hc⟩ hs=>⟨c ++ [i],CJ.2 ⟨u,hc,hs⟩⟩) S.eds (fun _ h=>h) _ ih t h
  exact key _ t
 ·have ja:=iter_closed (F:=fun L=>S.eds.foldl Bc L) (n:=S.modes.toNat) (fun L i h=>FI _ h) (fun L i hi=>Jk hS.withinN hi) (2 ^ m);rintro ⟨c,hc⟩;have key:∀ (N:Nat) (c:List Nat) (t:Nat),c.length=N→leads J6 S.rules m c=some t→(Bw S m).testBit t=true:=by
   intro N
   induction N with
   | zero =>
    intro c t hc h;obtain rfl:=List.eq_nil_of_length_eq_zero hc;cases h;exact IP (F:=fun L=>S.eds.foldl Bc L) (fun L i h=>FI _ h) (by rw [Nat.testBit_two_pow];simp) _
   | succ N ih =>
    intro c t hc h;rcases FH c with rfl | ⟨c,i,rfl⟩
    · simp at hc
    obtain ⟨u,h1,h2⟩:=CJ.1 h;have hu:=ih c u (by simpa using hc) h1;obtain ⟨x,hx,rfl,rfl⟩:=RP h2;exact ja _ (hS.withinN x hx).2 (Jh hx hu)
  exact key _ c t rfl hc
theorem live_spec {S:Sch} (hS:Fit S) {m:Nat} (hm:m<S.modes.toNat):(BX S).testBit m=true↔∃ c t,leads J6 S.rules m c=some t∧S.acc.toNat.testBit t=true:=by
 constructor
 ·have key:∀ k m,(Bu (fun L=>S.eds.foldl CS L) k S.acc.toNat).testBit m=true→∃ c t,leads J6 S.rules m c=some t∧S.acc.toNat.testBit t=true:=by
   intro k
   induction k with
   | zero=>exact fun t h=>⟨[],t,rfl,h⟩
   | succ k ih =>
    intro t h;exact foldL_sound (P:=fun m=>∃ c t,leads J6 S.rules m c=some t∧S.acc.toNat.testBit t=true) (fun u i t ⟨c,v,hc,hv⟩ hs=>⟨i :: c,v,D4.2 ⟨t,hs,hc⟩,hv⟩) S.eds (fun _ h=>h) _ ih t h
  exact key _ m
 ·have ja:=iter_closed (F:=fun L=>S.eds.foldl CS L) (n:=S.modes.toNat) (fun L i h=>FJ _ h) (fun L i hi=>Jl hS.withinN hi) S.acc.toNat;rintro ⟨c,t,hc,ht⟩;have key:∀ (c:List Nat) (m:Nat),leads J6 S.rules m c=some t→(BX S).testBit m=true:=by
   intro c
   induction c with
   | nil=>intro m h;cases h;exact IP (F:=fun L=>S.eds.foldl CS L) (fun L i h=>FJ _ h) ht _
   | cons i c ih =>
    intro m h;obtain ⟨u,h1,h2⟩:=D4.1 h;have hu:=ih u h2;obtain ⟨x,hx,rfl,rfl⟩:=RP h1;exact ja _ (hS.withinN x hx).1 (Jj hx hu)
  exact key c m hc
theorem RQ {S:Sch} (hS:Fit S) {m:Nat} (hm:m<S.modes.toNat):(BX S).testBit m=(List.range S.modes.toNat).any (fun k=>(Bw S m).testBit k && S.acc.toNat.testBit k):=by
 rw [Bool.eq_iff_iff,live_spec hS hm,List.any_eq_true];constructor
 ·rintro ⟨c,t,hc,ht⟩;exact ⟨t,by simp [DI hS hm hc],by rw [(reach_spec hS hm).2 ⟨c,hc⟩,ht];rfl⟩
 ·rintro ⟨t,_,h⟩;simp only [Bool.and_eq_true] at h;obtain ⟨c,hc⟩:=(reach_spec hS hm).1 h.1;exact ⟨c,t,hc,h.2⟩
theorem T0 (A:Int) (m:Nat) (h0:0≤A) (hA:A≤255):(bits .and .u8 (A / 2 ^ m) 1 == 1)=A.toNat.testBit m:=by
 obtain ⟨n,rfl⟩:=Int.eq_ofNat_of_zero_le h0;have hd:((n:Int) / 2 ^ m)=((n / 2 ^ m:Nat):Int):=by simp
 have ja:n / 2 ^ m<256:=Nat.lt_of_le_of_lt (Nat.div_le_self _ _) (by omega);have h1:bits .and .u8 (((n / 2 ^ m:Nat):Int)) ((1:Nat):Int)=((n / 2 ^ m &&& 1:Nat):Int):=u8_and_nat _ _ ja (by omega);rw [hd,show (1:Int)=((1:Nat):Int) from rfl,h1,Nat.and_one_is_mod,Int.toNat_natCast,Nat.testBit_eq_decide_div_mod_eq,Bool.eq_iff_iff,beq_iff_eq,decide_eq_true_iff];omega
theorem Mq (S:Sch) (a:Option Addr) (cap:Nat) (m:Int) (w:World) (h0:0≤S.acc) (h1:S.acc≤255) (hm0:0≤m) (hm1:m<8) :
  Calls Tryz.prog 88 #[.agg #[.int .i64 S.modes,.int .u8 S.acc,.slice a S.rules.length cap],.int .i64 m] w fun e w'=>e=.returned (.bool (S.acc.toNat.testBit m.toNat))∧Below w.heap.size w w':=by
 go_enter Tryz.func88,Tryz.ntmps88
 go_wp2;go_ret;refine ⟨Au ?_,by go_grown⟩;exact T0 S.acc m.toNat h0 h1
def Gp (w:World) (B:Nat) (v:Value) (n L:Nat):Prop:=∃ g,v=.slice (some ⟨g,0,none⟩) n n∧B≤g∧w.heap[g]? = some (.cells ((Bv n L).map Value.bool).toArray 4 (0,0))
theorem L9:(Tryz.prog.info? 4).map (fun i=>(i.zero,i.size,i.bytes))=some (some (.bool false),1,1):=by kernel_rfl
theorem Ms (n:Nat):madeCells #[Value.bool false] n=((Bv n 0).map Value.bool).toArray:=by
 apply Array.ext
 · simp [madeCells,Bv]
 ·intro i h1 h2;simp [madeCells,Bv,Nat.mod_one]
theorem Bg {w:World} {g n L i:Nat} (h:w.heap[g]? = some (.cells ((Bv n L).map Value.bool).toArray 4 (0,0))) (hi:i<n):w.cell? ⟨g,i,none⟩=some (.bool (L.testBit i)):=by
 rw [cell_of_row w g i _ _ (0,0) h];rw [List.getElem?_toArray,List.getElem?_map,IO9 hi];rfl
theorem LA {w:World} {g n L i:Nat} (h:w.heap[g]? = some (.cells ((Bv n L).map Value.bool).toArray 4 (0,0))):w.frozen? ⟨g,i,none⟩=false:=by simp [World.frozen?,h]
theorem Mu {w:World} {g n L i:Nat} (h:w.heap[g]? = some (.cells ((Bv n L).map Value.bool).toArray 4 (0,0))) (hi:i<n) :
  (w.setCell ⟨g,i,none⟩ (.bool true)).heap[g]? = some (.cells ((Bv n (L ||| 2 ^ i)).map Value.bool).toArray 4 (0,0)):=by
 simp only [World.setCell];rw [Array.getElem?_modify,if_pos rfl,h,← L7 hi];simp [List.map_set]
theorem O8 (w:World) (o:Obj) {mm m:Nat} (hm:m<mm):((w.alloc o).alloc (.cells (((Bv mm 0).map Value.bool).set m (.bool true)).toArray 4)).heap[w.heap.size+1]? = some (.cells ((Bv mm (2 ^ m)).map Value.bool).toArray 4 (0,0)):=by
 have h:=heap_alloc_new (w.alloc o) (.cells (((Bv mm 0).map Value.bool).set m (.bool true)).toArray 4);have e:((Bv mm 0).map Value.bool).set m (.bool true)=(Bv mm (2 ^ m)).map Value.bool:=by
  have:=L7 (n:=mm) (L:=0) hm;rw [Nat.zero_or] at this;rw [← this,List.map_set]
 rw [e] at h ⊢;simpa using h
theorem rreached_any (S:Sch) (a:Option Addr) (cap:Nat) (m:Nat) (w:World) (hR:BL w a S.rules) (hS:Fit S) (hm:m<S.modes.toNat) :
  Calls Tryz.prog 87 #[.agg #[.int .i64 S.modes,.int .u8 S.acc,.slice a S.rules.length cap],.int .i64 (m:Int)] w fun e w'=>∃ v,e=.returned v∧Gp w' w.heap.size v S.modes.toNat (Bw S m)∧Below w.heap.size w w':=by
 have jn:=fun n (h1:n≤8)=>run_make_row' (P:=Tryz.prog) 110 4 (.bool false) 1 Tryz.underlying110 L9 rfl .i64 .i64 n (by omega) (by omega);have HR:=A6 hR;have HS:=A6 hS;obtain ⟨m0,m1, -, -,hlen, -⟩:=hS;clear hR;obtain ⟨mm,jl⟩:=Int.eq_ofNat_of_zero_le (show 0≤S.modes by omega);have HM:Hid (S.modes.toNat=mm):=by show _=_;omega
 have jd:=A6 jl;rw [HM.out] at hm;have jp:mm≤8:=by omega
 have jq:∀ W,(Instr.makeSlice 110 (.int .i64 S.modes) (.int .i64 S.modes)).run Tryz.prog W=.ok (.slice (some ⟨W.heap.size,0,none⟩) mm mm) (W.alloc (.cells ((Bv mm 0).map Value.bool).toArray 4)):=fun W=>by
  have:=jn mm jp W;rw [jl,← Ms];exact this
 have hmI:(m:Int)<(mm:Int):=by omega
 clear jn jl
 go_enter Tryz.func87,Tryz.ntmps87
 go_upto_region 2 with fail
 have jg:(((w.alloc (.cells #[.int .i64 S.modes,.int .u8 S.acc,.slice a S.rules.length cap] 32)).alloc (.cells ((Bv mm 0).map Value.bool).toArray 4))).heap[w.heap.size+1]? = some (.cells ((Bv mm 0).map Value.bool).toArray 4 (0,0)):=by
  have:=heap_alloc_new (w.alloc (.cells #[.int .i64 S.modes,.int .u8 S.acc,.slice a S.rules.length cap] 32)) (.cells ((Bv mm 0).map Value.bool).toArray 4);simpa using this
 have hq:=Bg jg hm;have jh:=LA (i:=m) jg;have HG1:=A6 (Mu jg hm);clear jg jq;go_wp2;clear hq jh
 go_loopw [6] (fun j wr=>∃ k:Nat,k≤mm∧j=.int .i64 k∧wr.heap[w.heap.size+1]? = some (.cells ((Bv mm (Bu (fun L=>S.eds.foldl Bc L) k (2 ^ m))).map Value.bool).toArray 4 (0,0))∧Below (w.heap.size+1) (w.alloc (.cells #[.int .i64 S.modes,.int .u8 S.acc,.slice a S.rules.length cap] 32)) wr) (fun j _=>mm - (intOf j).toNat)
 case atStart=>exact ⟨0,by omega,rfl,O8 w _ hm,by go_grown⟩
 case round =>
  obtain ⟨k,hk,rfl,jj,ja⟩:=hrel;obtain ⟨wo,rfl⟩:∃ wo:World,wo=wr:=⟨_,rfl⟩
  obtain ⟨L,hL⟩:∃ L,Bu (fun L=>S.eds.foldl Bc L) k (2 ^ m)=L:=⟨_,rfl⟩
  rw [hL] at jj;have HL:=A6 hL;have jm:=A6 jj;clear hL jj;have hB:Below w.heap.size w wo:=((Below.refl _ _).alloc (A7 _) _).trans (ja.mono (by omega));obtain ⟨hz,hc,hf⟩:=BE ja rfl;simp only [AA] at hz;have hkm:Hid ((mm:Int)=S.modes):=by show _=_;have:=jd.out;omega
  by_cases hlt:k<mm
  ·have jk:(k:Int)<S.modes:=by have:=jd.out;omega
   go_wp2
   go_loopw [7] (fun j wr=>∃ i:Nat,i≤S.rules.length∧j=.int .i64 i∧wr.heap[w.heap.size+1]? = some (.cells ((Bv mm ((S.eds.take i).foldl Bc L)).map Value.bool).toArray 4 (0,0))∧Below (w.heap.size+1) (w.alloc (.cells #[.int .i64 S.modes,.int .u8 S.acc,.slice a S.rules.length cap] 32)) wr) (fun j _=>S.rules.length - (intOf j).toNat)
   case atStart=>exact ⟨0,by omega,rfl,jm.out,ja⟩
   case round =>
    clear hc hf hz hB ja;obtain ⟨i,hi,rfl,jb,ja⟩:=hrel;obtain ⟨Q,hQ⟩:∃ Q,(S.eds.take i).foldl Bc L=Q:=⟨_,rfl⟩
    rw [hQ] at jb;have HQ:=A6 hQ;clear hQ;have hB:Below w.heap.size w wr:=((Below.refl _ _).alloc (A7 _) _).trans (ja.mono (by omega));obtain ⟨hz,hc,hf⟩:=BE ja rfl;simp only [AA] at hz;by_cases je:i<S.rules.length
    ·obtain ⟨b,o,ha,hb,q0,q1,q2,q3,q4⟩:=(HR.out.later hB (A7 _)).at je;have hidx:=Bp a b o S.rules.length cap i ha je;have HAd:=A6 ha;clear ha;obtain ⟨f0,f1,t0,t1⟩:=HS.out.at0 i je;have f2:S.rules[i].frm<(mm:Int):=by have:=jd.out;omega
     have t2:S.rules[i].dst<(mm:Int):=by have:=jd.out;omega
     have HE:Hid ((S.eds.take (i+1)).foldl Bc L=Bc Q S.rules[i].ed):=by
      show _=_;rw [II (by rw [EF];exact je),Nt S i je,HQ.out]
     have jh:=Bg jb (i:=S.rules[i].frm.toNat) (by omega);have hqt:=Bg jb (i:=S.rules[i].dst.toNat) (by omega);have hqz:=LA (i:=S.rules[i].dst.toNat) jb;have jo:=A6 (Mu jb (i:=S.rules[i].dst.toNat) (by omega));have HG:=A6 jb;clear jb;by_cases jc:Q.testBit S.rules[i].frm.toNat=true
     ·have ji:Hid (Bc Q S.rules[i].ed=Q ||| 2 ^ S.rules[i].dst.toNat):=by show _=_;unfold Bc;rw [if_pos (by exact jc)];rfl
      rw [jc] at jh;clear jc;go_wp2
      go_roundw
      case rel=>exact ⟨i+1,by omega,by go_num,by rw [HE.out,ji.out];exact jo.out,ja.setCell (by simp) _⟩
      case measure=>simp [intOf];omega
     ·have jf:Q.testBit S.rules[i].frm.toNat=false:=by simpa using jc
      have ji:Hid (Bc Q S.rules[i].ed=Q):=by show _=_;unfold Bc;rw [if_neg (by exact jc)]
      rw [jf] at jh;clear jc jf;go_wp2
      go_roundw
      case rel=>exact ⟨i+1,by omega,by go_num,by rw [HE.out,ji.out];exact HG.out,ja⟩
      case measure=>simp [intOf];omega
    ·obtain rfl:i=S.rules.length:=by omega
     have HF:Hid (S.eds.take S.rules.length=S.eds):=AM (by rw [EF];exact A7 _);have HG:=A6 jb;clear jb;go_wp2
     go_roundw
     case rel=>exact ⟨k+1,by omega,by go_num,by have:=HQ.out;rw [HF.out] at this;show _=some (Obj.cells ((Bv mm (S.eds.foldl Bc (Bu (fun L=>S.eds.foldl Bc L) k (2 ^ m)))).map Value.bool).toArray _ _);rw [HL.out,this];exact HG.out,ja⟩
     case measure=>simp [intOf];omega
  ·obtain rfl:k=mm:=by omega
   have jk:¬ (k:Int)<S.modes:=by have:=jd.out;omega
   go_wp2;go_ret;exact ⟨.slice (some ⟨w.heap.size+1,0,none⟩) k k,rfl,⟨w.heap.size+1,by rw [HM.out],by omega,by rw [Bw,HM.out,HL.out];exact jm.out⟩,hB⟩
def Dv (n:Nat) (f:Nat→Bool):List Bool:=(List.range n).map f
theorem GI (n:Nat) (f:Nat→Bool):(Dv n f).length=n:=by simp [Dv]
theorem IQ {n i:Nat} {f:Nat→Bool} (h:i<n):(Dv n f)[i]? = some (f i):=by
 rw [Dv,List.getElem?_map,List.getElem?_range h];rfl
theorem Pn {n t:Nat} {f:Nat→Bool} {b:Bool}:(Dv n f).set t b=Dv n (fun j=>if j=t then b else f j):=by
 apply List.ext_getElem?;intro i;rw [List.getElem?_set];by_cases hi:i<n
 ·rw [IQ hi,IQ hi,GI];by_cases e:t=i
  · subst e;simp [hi]
  · rw [if_neg e,if_neg (fun h=>e h.symm)]
 ·have h1:(Dv n f)[i]? = none:=by rw [Ac];rw [GI];omega
  have h2:(Dv n (fun j=>if j=t then b else f j))[i]? = none:=by rw [Ac];rw [GI];omega
  rw [h1,h2,GI];split
  · rw [if_neg (by omega)]
  · rfl
theorem Is {n:Nat} {f g:Nat→Bool} (h:∀ i,i<n→f i=g i):Dv n f=Dv n g:=by
 unfold Dv;exact List.map_congr_left fun i hi=>h i (by simpa using hi)
def BK (w:World) (g n:Nat) (f:Nat→Bool):Prop:=w.heap[g]? = some (.cells ((Dv n f).map Value.bool).toArray 4 (0,0))
theorem BK.cell {w:World} {g n i:Nat} {f:Nat→Bool} (h:BK w g n f) (hi:i<n):w.cell? ⟨g,i,none⟩=some (.bool (f i)):=by
 rw [cell_of_row w g i _ _ (0,0) h];rw [List.getElem?_toArray,List.getElem?_map,IQ hi];rfl
theorem BK.free {w:World} {g n i:Nat} {f:Nat→Bool} (h:BK w g n f):w.frozen? ⟨g,i,none⟩=false:=by unfold BK at h;simp [World.frozen?,h]
theorem BK.set {w:World} {g n i:Nat} {f:Nat→Bool} {b:Bool} (h:BK w g n f):BK (w.setCell ⟨g,i,none⟩ (.bool b)) g n (fun j=>if j=i then b else f j):=by
 unfold BK at h ⊢;simp only [World.setCell];rw [Array.getElem?_modify,if_pos rfl,h,← Pn];simp [List.map_set]
theorem BK.below {w w1:World} {g n B:Nat} {f:Nat→Bool} (h:BK w g n f) (hb:Below B w w1) (hg:g<B):BK w1 g n f:=(hb.block g hg).trans h
theorem BK.lt {w:World} {g n:Nat} {f:Nat→Bool} (h:BK w g n f):g<w.heap.size:=(A9.1 h).1
def It (S:Sch) (m k:Nat):Bool:=(List.range k).any (fun k=>(Bw S m).testBit k && S.acc.toNat.testBit k)
theorem OB (S:Sch) (m k:Nat):It S m (k+1)=(It S m k || ((Bw S m).testBit k && S.acc.toNat.testBit k)):=by
 unfold It;rw [List.range_succ,List.any_append];simp
def CU (S:Sch) (m k:Nat) (j:Nat):Bool:=if j=m then It S m k else (decide (j<m) && (BX S).testBit j)
theorem FK (S:Sch) (m:Nat):CU S m 0=fun j=>decide (j<m) && (BX S).testBit j:=by
 funext j;unfold CU;split
 · rename_i h;subst h;simp [It]
 · rfl
theorem Mv (S:Sch) (m k:Nat):(fun j=>if j=m then It S m (k+1) else CU S m k j)=CU S m (k+1):=by
 funext j;unfold CU;split <;> rfl
theorem Lp {S:Sch} (hS:Fit S) {m:Nat} (hm:m<S.modes.toNat):Dv S.modes.toNat (CU S m S.modes.toNat)=Dv S.modes.toNat (CU S (m+1) 0):=by
 refine Is fun i hi=>?_;rw [FK];show _=(decide (i<m+1) && (BX S).testBit i);unfold CU;split
 ·rename_i h;subst h;rw [decide_eq_true (by omega),Bool.true_and,RQ hS hm];rfl
 ·rename_i h;by_cases h2:i<m
  · rw [decide_eq_true h2,decide_eq_true (by omega)]
  · rw [decide_eq_false h2,decide_eq_false (by omega)]
theorem My (w:World) (o:Obj) (n:Nat):BK ((w.alloc o).alloc (.cells ((Bv n 0).map Value.bool).toArray 4)) (w.heap.size+1) n (fun _=>false):=by
 unfold BK;have h:=heap_alloc_new (w.alloc o) (.cells ((Bv n 0).map Value.bool).toArray 4);have e:Bv n 0=Dv n (fun _=>false):=by unfold Bv Dv;exact List.map_congr_left fun i _=>by simp
 rw [e] at h ⊢;simpa using h
theorem rlive_any (S:Sch) (a:Option Addr) (cap:Nat) (w:World) (hR:BL w a S.rules) (hS:Fit S) :
  Calls Tryz.prog 56 #[.agg #[.int .i64 S.modes,.int .u8 S.acc,.slice a S.rules.length cap]] w fun e w'=>∃ v,e=.returned v∧Gp w' w.heap.size v S.modes.toNat (BX S)∧Below w.heap.size w w':=by
 have jv:=fun n (h1:n≤8)=>run_make_row' (P:=Tryz.prog) 110 4 (.bool false) 1 Tryz.underlying110 L9 rfl .i64 .i64 n (by omega) (by omega);have HR:=A6 hR;have HS:=A6 hS;obtain ⟨m0,m1,h0,h1,hlen, -⟩:=hS;clear hR;obtain ⟨mm,jq⟩:=Int.eq_ofNat_of_zero_le (show 0≤S.modes by omega);have HM:Hid (S.modes.toNat=mm):=by show _=_;omega
 have jm:=A6 jq;have jA:mm≤8:=by omega
 have jj:∀ W,(Instr.makeSlice 110 (.int .i64 S.modes) (.int .i64 S.modes)).run Tryz.prog W=.ok (.slice (some ⟨W.heap.size,0,none⟩) mm mm) (W.alloc (.cells ((Bv mm 0).map Value.bool).toArray 4)):=fun W=>by
  have:=jv mm jA W;rw [jq,← Ms];exact this
 clear jv jq
 go_enter Tryz.func56,Tryz.ntmps56
 go_wp2;have jw:=A6 (My w (.cells #[.int .i64 S.modes,.int .u8 S.acc,.slice a S.rules.length cap] 32) mm);clear jj
 go_loopw [4] (fun j wr=>∃ m:Nat,m≤mm∧j=.int .i64 m∧BK wr (w.heap.size+1) mm (CU S m 0)∧Below (w.heap.size+1) (w.alloc (.cells #[.int .i64 S.modes,.int .u8 S.acc,.slice a S.rules.length cap] 32)) wr) (fun j _=>mm - (intOf j).toNat)
 case atStart=>exact ⟨0,by omega,rfl,by rw [FK];have:=jw.out;unfold BK at this ⊢;rw [this];simp,by go_grown⟩
 case round =>
  obtain ⟨m,hk,rfl,je,jb⟩:=hrel;have jc:=A6 je;clear je;have hB:Below w.heap.size w wr:=((Below.refl _ _).alloc (A7 _) _).trans (jb.mono (by omega));obtain ⟨hz,hc,hf⟩:=BE jb rfl;simp only [AA] at hz;by_cases ju:m<mm
  ·have jp:(m:Int)<S.modes:=by have:=jm.out;omega
   go_wp2_with (first | (go_at_call 87;refine (rreached_any S a cap m _ (HR.out.later (by first | exact hB | go_grown) (A7 _)) HS.out (by have:=HM.out;omega)).mono ?_;rintro e w1 ⟨v,rfl,⟨g2,hv,hg2,jf⟩,hb⟩;rw [HM.out] at hv;subst hv;have jg:Hid (BK w1 g2 mm (Bw S m).testBit):=(by (have h:=jf;rw [HM.out] at h;exact h));have ja:=A6 (jc.out.below hb jc.out.lt);have hg2':w.heap.size+1<g2:=(by have:=jc.out.lt;omega);have jd:=jb.trans (hb.mono (by have:=jb.size;simp only [AA] at this;omega));clear jf jb;obtain ⟨hz,hc,hf⟩:=BB hb (by first | (simp only [AA,World.size_setCell,World.size_drew];rfl) | rfl);have hB:=Ap (B:=w.heap.size) (w:=w) (by go_grown) hb (A7 _);clear hb) | fail)
   clear hz hc hf hB
   go_loopw [6] (fun j wr=>∃ k:Nat,k≤mm∧j=.int .i64 k∧BK wr (w.heap.size+1) mm (CU S m k)∧BK wr g2 mm (Bw S m).testBit∧Below (w.heap.size+1) (w.alloc (.cells #[.int .i64 S.modes,.int .u8 S.acc,.slice a S.rules.length cap] 32)) wr) (fun j _=>mm - (intOf j).toNat)
   case atStart=>exact ⟨0,by omega,rfl,ja.out,jg.out,jd⟩
   case round =>
    clear jd;clear jc ja jg;obtain ⟨k,hk,rfl,je,jj,jb⟩:=hrel;have hB:Below w.heap.size w wr:=((Below.refl _ _).alloc (A7 _) _).trans (jb.mono (by omega));obtain ⟨hz,hc,hf⟩:=BE jb rfl;simp only [AA] at hz;by_cases jz:k<mm
    ·have jo:(k:Int)<S.modes:=by have:=jm.out;omega
     have q1:=je.cell ju;have q2:=jj.cell jz;have q3:=je.free (i:=m);have HX:Hid (It S m (k+1)=(CU S m k m || ((Bw S m).testBit k && S.acc.toNat.testBit k))):=by show _=_;rw [OB,CU,if_pos rfl]
     obtain ⟨o1,jr⟩:∃ o,CU S m k m=o:=⟨_,rfl⟩
     obtain ⟨o2,js⟩:∃ o,(Bw S m).testBit k=o:=⟨_,rfl⟩
     obtain ⟨o3,jt⟩:∃ o,S.acc.toNat.testBit k=o:=⟨_,rfl⟩
     rw [jr] at q1;rw [js] at q2;have jy:Hid (It S m (k+1)=(o1 || (o2 && o3))):=by show _=_;rw [HX.out,jr,js,jt]
     have jx:=A6 jt;have jc:=A6 je;have jg:=A6 jj;have jl:∀ W,BK W (w.heap.size+1) mm (CU S m k)→BK (W.setCell ⟨w.heap.size+1,m,none⟩ (.bool (o1 || (o2 && o3)))) (w.heap.size+1) mm (CU S m (k+1)):=fun W h=>by
      have:=h.set (i:=m) (b:=o1 || (o2 && o3));rw [← Mv,jy.out];exact this
     have jk:∀ W b,BK W g2 mm (Bw S m).testBit→BK (W.setCell ⟨w.heap.size+1,m,none⟩ (.bool b)) g2 mm (Bw S m).testBit:=fun W b h=>by
      unfold BK at h ⊢;rw [Below.heap_setCell _ _ _ _ (by show g2≠w.heap.size+1;omega)];exact h
     have ji:=A6 jl;have jh:=A6 jk;have hmI:(m:Int)<(mm:Int):=by omega
     have hkI:(k:Int)<(mm:Int):=by omega
     clear jr js jt je jj HX jl jk;cases o1 with
     | true =>
      go_wp2
      go_roundw
      case rel=>exact ⟨k+1,by omega,by go_num,ji.out _ jc.out,jh.out _ _ jg.out,jb.setCell (by simp) _⟩
      case measure=>simp [intOf];omega
     | false =>
      cases o2 with
      | false =>
       go_wp2
       go_roundw
       case rel=>exact ⟨k+1,by omega,by go_num,ji.out _ jc.out,jh.out _ _ jg.out,jb.setCell (by simp) _⟩
       case measure=>simp [intOf];omega
      | true =>
       go_wp2_with (first | (go_at_call 88;refine (Mq S a cap (k:Int) _ h0 h1 (by omega) (by omega)).mono ?_;rintro e w1 ⟨he,hb⟩;rw [Int.toNat_natCast,jx.out] at he;subst he;have ja:=A6 (jc.out.below hb jc.out.lt);have jn:=A6 (jg.out.below hb jg.out.lt);have q4:=ja.out.cell ju;have q5:=ja.out.free (i:=m);have jd:=jb.trans (hb.mono (by have:=jb.size;simp only [AA] at this;omega));obtain ⟨hz,hc,hf⟩:=BB hb (by first | (simp only [AA,World.size_setCell,World.size_drew];rfl) | rfl);have hB:=Ap (B:=w.heap.size) (w:=w) (by go_grown) hb (A7 _);clear hb) | fail)
       go_roundw
       case rel=>exact ⟨k+1,by omega,by go_num,ji.out _ ja.out,jh.out _ _ jn.out,jd.setCell (by simp) _⟩
       case measure=>simp [intOf];omega
    ·obtain rfl:k=mm:=by omega
     have jo:¬ (k:Int)<S.modes:=by have:=jm.out;omega
     have HN:Hid (BK wr (w.heap.size+1) k (CU S (m+1) 0)):=by
      have h:=je;unfold BK at h;show BK _ _ _ _;unfold BK;have e:=Lp HS.out (m:=m) (by have:=HM.out;omega);rw [HM.out] at e;rw [h,e]
     clear je jj;go_wp2
     go_roundw
     case rel=>exact ⟨m+1,by omega,by go_num,HN.out,jb⟩
     case measure=>simp [intOf];omega
  ·obtain rfl:m=mm:=by omega
   have jp:¬ (m:Int)<S.modes:=by have:=jm.out;omega
   go_wp2;go_ret;refine ⟨.slice (some ⟨w.heap.size+1,0,none⟩) m m,rfl,⟨w.heap.size+1,by rw [HM.out],by omega,?_⟩,hB⟩;have h:=jc.out;unfold BK at h;rw [h,HM.out,FK];have:Dv m (fun j=>decide (j<m) && (BX S).testBit j)=Bv m (BX S):=Is fun i hi=>by rw [decide_eq_true hi,Bool.true_and]
   rw [this]
def BJ:List Int→List Int→Bool
 | a :: xs,b :: ys=>if a=b then BJ xs ys else decide (a<b)
 | _,_=>false
theorem OC {xs ys:List Int} {k:Nat} (hx:k<xs.length) (hy:k<ys.length) (h:xs[k]≠ys[k]):BJ (xs.drop k) (ys.drop k)=decide (xs[k]<ys[k]):=by
 rw [AK hx,AK hy,BJ,if_neg h]
theorem OD {xs ys:List Int} {k:Nat} (hx:k<xs.length) (hy:k<ys.length) (h:xs[k]=ys[k]):BJ (xs.drop k) (ys.drop k)=BJ (xs.drop (k+1)) (ys.drop (k+1)):=by
 rw [AK hx,AK hy,BJ,if_pos h]
theorem Iu {xs ys:List Int} {k:Nat} (h:xs.length≤k∨ys.length≤k):BJ (xs.drop k) (ys.drop k)=false:=by
 rcases h with h | h
 · rw [List.drop_eq_nil_of_le h];cases ys.drop k <;> rfl
 · rw [List.drop_eq_nil_of_le h];cases xs.drop k <;> rfl
theorem before_any (a a':Option Addr) (n n' c c':Nat) (xs ys:List Int) (w:World) (hn:n=xs.length) (jc:n'=ys.length) (h1:SlS w a xs) (h2:SlS w a' ys) (l1:xs.length≤100000) (l2:ys.length≤100000) :
  Calls Tryz.prog 110 #[.slice a n c,.slice a' n' c'] w fun e w'=>e=.returned (.bool (BJ xs ys))∧Below w.heap.size w w':=by
 subst hn jc;have H1:=A6 h1;have H2:=A6 h2;clear h1 h2
 go_enter Tryz.func110,Tryz.ntmps110
 go_wp2
 go_loopw [5] (fun i wr=>∃ k:Nat,k≤xs.length∧k≤ys.length∧i=.int .i64 k∧BJ (xs.drop k) (ys.drop k)=BJ xs ys∧Below w.heap.size w wr) (fun i _=>xs.length - (intOf i).toNat)
 case atStart=>exact ⟨0,Nat.zero_le _,Nat.zero_le _,rfl,rfl,Below.refl _ _⟩
 case round =>
  obtain ⟨k,hk,hk2,rfl,ja,hB⟩:=hrel;have HL:=A6 ja;clear ja;by_cases hx:k<xs.length
  ·by_cases hy:k<ys.length
   ·obtain ⟨b,o,ha,hb,q⟩:=(H1.out.later hB (A7 _)).at hx;have hidx:=F4 a b o xs.length c k ha hx;obtain ⟨b',o',jb,hb',q'⟩:=(H2.out.later hB (A7 _)).at hy;have hidx':=F4 a' b' o' ys.length c' k jb hy;have HA:=A6 ha;have HA':=A6 jb;clear ha jb;by_cases he:xs[k]=ys[k]
    ·have HN:Hid (BJ (xs.drop (k+1)) (ys.drop (k+1))=BJ xs ys):=(OD hx hy he).symm.trans HL.out;have jd:(xs[k] != ys[k])=false:=by simp [he]
     clear he;go_wp2
     go_quiet (fail)
     go_wp2
     go_roundw
     case rel=>exact ⟨k+1,by omega,by omega,by go_num,HN.out,hB.trans (below_drewN _ _)⟩
     case measure=>simp [intOf];omega
    ·have HN:Hid (decide (xs[k]<ys[k])=BJ xs ys):=(OC hx hy he).symm.trans HL.out;have jd:(xs[k] != ys[k])=true:=by simp [he]
     clear he;go_wp2
     go_quiet (fail)
     go_wp2
     go_quiet (fail)
     go_wp2;go_ret;exact ⟨Au HN.out,(hB.trans (below_drewN _ _)).trans ((below_drewN _ _))⟩
   ·have HN:Hid (BJ xs ys=false):=HL.out.symm.trans (Iu (.inr (by omega)));go_wp2;go_ret;exact ⟨Au HN.out.symm,hB⟩
  ·have HN:Hid (BJ xs ys=false):=HL.out.symm.trans (Iu (.inl (by omega)));go_wp2;go_ret;exact ⟨Au HN.out.symm,hB⟩
end Go.Proofs.YthjmdgejnakcmaaGreatDoor.Fl
